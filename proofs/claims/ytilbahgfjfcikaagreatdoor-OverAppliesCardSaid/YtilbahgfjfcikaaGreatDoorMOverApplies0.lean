/- Several texts of this proof in one file: Core, Shelf, RowT, R09, Api, U09, U09b, R04, Q04, U04, U04b, U04c, V04, RS, U09c, U09e, R7. -/
import Derived.Test.YtilbahgfjfcikaaGreatDoorMEOverApplies2
import Derived.Test.YtilbahgfjfcikaaGreatDoorProg
import Derived.Lib.DecodeN
import Derived.Lib.ItoaNum
import Derived.Shelf.Strings.Builder1
import Derived.Shelf.Strings.Builder2
import Derived.Shelf.Small.Utf8
import Derived.Shelf.Small.Strs
import Derived.Shelf.Small.Wraps
import Derived.Shelf.Strings.BuilderF
import Derived.Shelf.Strings.BuilderK
import Derived.Shelf.Strings.Builder2Cap
import Derived.Shelf.Strconv.Itoa0
import Derived.Shelf.Strconv.Itoa1
import Derived.Shelf.LaysM
import Derived.Shelf.Strconv.Itoa2
import Derived.Shelf.Strconv.Itoa3
import Derived.Shelf.Bytes.Len
import Derived.Shelf.Bytes.TryGrow
import Derived.Shelf.Bytes.GrowSliceCatch
import Derived.Shelf.Bytes.GrowSlice
import Derived.Shelf.Bytes.GrowRow0
import Derived.Shelf.Bytes.GrowRow
import Derived.Shelf.Bytes.GrowNil
import Derived.Shelf.Bytes.Grow
import Derived.Shelf.Bytes.WriteString
import Derived.Shelf.Bytes.Reset
import Derived.Shelf.Bytes.Bytes
import Derived.Shelf.Strconv.ParseIntEmpty
import Derived.Shelf.Strconv.Clone
import Derived.Shelf.Strconv.SyntaxError
import Derived.Shelf.LaysC
import Derived.Shelf.Strconv.ToError
import Derived.Shelf.Strconv.Lower
import Derived.Shelf.Strconv.ParseUint10
import Derived.Shelf.Strconv.ParseUint10Empty
import Derived.Shelf.Strconv.ParseUint10Any
import Derived.Shelf.Strconv.ParseInt10
import Derived.Shelf.Strconv.RangeError
import Derived.Shelf.Strconv.ToErrorRange
import Derived.Shelf.Strconv.ParseUintEmpty
import Derived.Shelf.Strconv.ParseUint10b64
import Derived.Shelf.Strconv.ParseUint10b32
import Derived.Shelf.Strconv.ParseUint10b16
import Derived.Shelf.Strconv.ParseUint10b8
import Derived.Shelf.Strconv.ParseUint10At
import Derived.Shelf.Strconv.ParseInt10At64
import Derived.Shelf.Strconv.ParseInt10At32
import Derived.Shelf.Strconv.ParseInt10At16
import Derived.Shelf.Strconv.ParseInt10At8
import Derived.Shelf.Strconv.ParseInt10All
import Derived.Shelf.Strconv.ParseIntPublic10
import Derived.Shelf.Strconv.ErrVarParseInt
import Derived.Ground.MpProg
import Derived.Shelf.Pu.ParseUintPublic10
import Derived.Shelf.Pu.ErrVarParseUint
import Derived.Shelf.Strings.Search1
import Derived.Shelf.Bytes.GrowRow0Kept
import Derived.Shelf.Strings.Search2
import Derived.Shelf.Bytes.GrowRowKept
import Derived.Shelf.Bytes.GrowNilKept
import Derived.Shelf.Strings.Cut
import Derived.Shelf.Bytes.GrowKept
import Derived.Shelf.Strings.Shaped
import Derived.Shelf.Bytes.WriteStringKept
import Derived.Shelf.Bytes.ResetKept
import Derived.Shelf.Bytes.BufferK
import Derived.Shelf.Bytes.GrowRow0Own
import Derived.Shelf.Bytes.GrowRowOwn
import Derived.Shelf.Bytes.GrowNilOwn
import Derived.Shelf.Bytes.GrowOwn
import Derived.Shelf.Bytes.LenAt
import Derived.Shelf.Bytes.TryGrowAt
import Derived.Shelf.Bytes.GrowRow0At
import Derived.Shelf.Bytes.GrowRowAt
import Derived.Shelf.Bytes.GrowNilAt
import Derived.Shelf.Bytes.GrowAt
import Derived.Shelf.Bytes.WriteStringAt
import Derived.Shelf.Strings.Prefix
import Derived.Shelf.Unicode.Decode
import Derived.Shelf.Strings.Runes
import Derived.Shelf.Strings.IndexAny
import Derived.Shelf.Strings.AsciiSet
import Derived.Shelf.Strings.IndexAnyAll
import Derived.Shelf.Bits.Mul64
import Derived.Shelf.Strings.Repeat
import Derived.Shelf.Unicode.DecodeSlow
import Derived.Shelf.Unicode.DecodeAny
import Derived.Shelf.Strings.BuilderCap
import Derived.Test.YtilbahgfjfcikaaGreatDoorCards
import Derived.Test.YtilbahgfjfcikaaGreatDoorTie
import Derived.Lib.LaidIn
import Derived.Lib.LaidU8
import Derived.PinnedBridge
import Derived.Deep.DeepHandedRow
import Derived.ChangeSlices
import Derived.WalkKit
import Derived.ProofKit
import Derived.OpenShut
import Derived.ShutString
import Derived.ChangeOld
import Derived.ChangeSame
import Derived.Below
import Derived.Lib.ParseIntB
import Derived.Lib.Bytealg
import Derived.Lib.TrimByte
import Derived.Lib.Strings
import Derived.Lib.Repeat
import Derived.Lib.ItoaMem
import Derived.Lib.ItoaLen
/- The functions of a seat, by their names; what each loop keeps; a base open at its given functions. Printed by gen2.py. -/
set_option linter.unusedVariables false
namespace Go.Proofs.YtilbahgfjfcikaaGreatDoor.Eng.U
open Go Go.Proofs Go.Proofs.YtilbahgfjfcikaaGreatDoor.Eng
def law08_OverApplies : FuncId := 8
def pax_Print : FuncId := 19
def ref07_Right : FuncId := 20
def ref07_Same : FuncId := 25
def pax_Right : FuncId := 26
def pax_Known : FuncId := 27
def ref07_Which : FuncId := 28
def pax_Len : FuncId := 29
def law08_alive : FuncId := 36
def law08_few : FuncId := 37
def over_Apply : FuncId := 38
def ref08_Right : FuncId := 39
def ref08_SameHead : FuncId := 40
def ref08_Apply : FuncId := 41
def strconv_Itoa : FuncId := 54
def ref05_First : FuncId := 56
def ref02_Clean : FuncId := 57
def ref04_Number : FuncId := 58
def ref04_Time : FuncId := 59
def utf_Right : FuncId := 62
def strings_ContainsAny : FuncId := 63
def pax_value : FuncId := 64
def ref07_Keys : FuncId := 65
def over_Lay : FuncId := 73
def over_Right : FuncId := 74
def over_say : FuncId := 75
def ref08_Lay : FuncId := 76
def ref05_Ends : FuncId := 86
def ref02_Get : FuncId := 87
def ref04_Below : FuncId := 88
def ref04_only : FuncId := 89
def strings_Cut : FuncId := 91
def utf_First : FuncId := 92
def strings_IndexAny : FuncId := 93
def pax_clean : FuncId := 94
def dec_Number : FuncId := 95
def dec_Time : FuncId := 96
def over_lay : FuncId := 102
def ref08_Last : FuncId := 103
def strings_IndexByte : FuncId := 104
def ref05_size : FuncId := 110
def stringslite_Cut : FuncId := 111
def utf_wrong : FuncId := 112
def strings_IndexRune : FuncId := 113
def strings_shouldUseASCIISet : FuncId := 114
def dec_natural : FuncId := 117
def strings_CutPrefix : FuncId := 118
def dec_digits : FuncId := 119
def strconv_ParseInt : FuncId := 120
def strings_Repeat : FuncId := 121
def over_byKey : FuncId := 127
def slices_Delete_api_Pair : FuncId := 128
def slices_Insert_api_Pair : FuncId := 129
def stringslite_Index : FuncId := 136
def unicode_utf8_DecodeRuneInString : FuncId := 137
def unicode_utf8_ValidRune : FuncId := 138
def strconv_ParseUint : FuncId := 141
def slices_BinarySearchFunc_string : FuncId := 152
def over_byKey_1 : FuncId := 153
def strings_Compare : FuncId := 154
def dirs : FuncId → Nat → Option Dir
  | 3, 9 => some { slots := [(1, .keep), (3, .keep), (4, .keep), (5, .keep)], boxes := [1] }
  | 4, 7 => some { slots := [(0, .keep), (3, .keep), (4, .keep), (5, .keep)], boxes := [] }
  | 7, 9 => some { slots := [(0, .keep), (3, .keep), (4, .keep), (5, .own 9 false), (6, .keep), (7, .keep)], boxes := [] }
  | 7, 25 => some { slots := [(3, .keep), (5, .own 9 false), (11, .keep)], boxes := [] }
  | 10, 3 => some { slots := [(1, .keep), (3, .keep), (4, .keep)], boxes := [1] }
  | 14, 3 => some { slots := [(3, .keep), (4, .keep)], boxes := [3] }
  | 18, 3 => some { slots := [(0, .keep), (3, .keep), (4, .keep)], boxes := [] }
  | 20, 4 => some { slots := [(1, .keep), (3, .keep)], boxes := [1] }
  | 22, 3 => some { slots := [(0, .keep), (3, .own 5 false), (4, .keep)], boxes := [] }
  | 23, 2 => some { slots := [(0, .keep), (4, .own 42 false)], boxes := [] }
  | 24, 3 => some { slots := [(0, .keep), (4, .own 42 false), (5, .keep)], boxes := [] }
  | 24, 5 => some { slots := [(0, .keep), (4, .own 42 false), (5, .keep), (6, .keep)], boxes := [] }
  | 24, 14 => some { slots := [(0, .keep), (4, .own 42 false), (6, .keep), (9, .keep), (10, .keep)], boxes := [] }
  | 25, 4 => some { slots := [(0, .keep), (1, .keep), (5, .keep)], boxes := [] }
  | 28, 3 => some { slots := [(0, .keep), (3, .keep), (4, .keep)], boxes := [] }
  | 29, 3 => some { slots := [(3, .keep), (4, .keep)], boxes := [] }
  | 30, 3 => some { slots := [(1, .keep), (3, .keep)], boxes := [1] }
  | 32, 3 => some { slots := [(0, .keep), (3, .keep), (4, .keep)], boxes := [] }
  | 32, 8 => some { slots := [(0, .keep), (3, .keep), (4, .keep), (5, .keep), (6, .keep)], boxes := [5] }
  | 33, 3 => some { slots := [(4, .own 9 false), (7, .keep), (8, .keep), (9, .keep)], boxes := [] }
  | 37, 3 => some { slots := [(0, .keep), (3, .keep), (4, .keep)], boxes := [] }
  | 38, 5 => some { slots := [(2, .keep), (4, .keep), (13, .keep), (14, .keep), (15, .keep)], boxes := [2, 4, 66, 68], rows := [⟨2, 13, 42, 66⟩, ⟨4, 13, 42, 68⟩] }
  | 39, 2 => some { slots := [(0, .keep), (3, .keep)], boxes := [] }
  | 41, 4 => some { slots := [(1, .keep), (4, .keep), (5, .keep), (6, .keep)], boxes := [2, 4, 5, 162, 164, 165], rows := [⟨2, 13, 42, 162⟩, ⟨4, 13, 42, 164⟩, ⟨5, 13, 42, 165⟩] }
  | 52, 2 => some { slots := [(1, .keep), (2, .keep), (3, .keep)], boxes := [1, 2], gate := true }
  | 52, 3 => some { slots := [(1, .keep), (2, .keep), (3, .keep), (4, .keep)], boxes := [1, 2], gate := true }
  | 52, 5 => some { slots := [(1, .keep), (2, .keep), (3, .keep), (4, .keep), (5, .keep)], boxes := [1, 2, 5], gate := true }
  | 52, 6 => some { slots := [(1, .keep), (2, .keep), (3, .keep), (4, .keep), (5, .keep)], boxes := [1, 2, 5], gate := true }
  | 52, 7 => some { slots := [(1, .keep), (2, .keep), (4, .keep), (5, .keep)], boxes := [1, 2, 5], gate := true }
  | 52, 11 => some { slots := [(1, .keep), (2, .keep), (4, .keep), (5, .keep)], boxes := [1, 2, 5], gate := true }
  | 52, 13 => some { slots := [(1, .keep), (2, .keep), (4, .keep), (5, .keep)], boxes := [1, 2, 5], gate := true }
  | 52, 14 => some { slots := [(1, .keep), (2, .keep), (4, .keep), (5, .keep)], boxes := [1, 2, 5], gate := true }
  | 52, 15 => some { slots := [(1, .keep), (2, .keep), (4, .keep), (5, .keep)], boxes := [1, 2, 5], gate := true }
  | 52, 16 => some { slots := [(1, .keep), (2, .keep), (5, .keep)], boxes := [1, 2, 5], gate := true }
  | 52, 18 => some { slots := [(1, .keep), (2, .keep), (5, .keep), (6, .keep)], boxes := [1, 2, 5] }
  | 56, 3 => some { slots := [(3, .keep), (4, .keep)], boxes := [] }
  | 59, 6 => some { slots := [(0, .keep), (2, .keep), (4, .keep), (5, .keep), (6, .keep)], boxes := [2] }
  | 59, 17 => some { slots := [(2, .keep), (4, .keep), (7, .keep), (8, .keep), (9, .keep), (10, .keep), (11, .keep)], boxes := [2] }
  | 69, 3 => some { slots := [(1, .keep), (5, .keep), (6, .keep)], boxes := [] }
  | 69, 7 => some { slots := [(1, .keep), (5, .keep), (6, .keep), (7, .keep)], boxes := [] }
  | 70, 6 => some { slots := [(0, .keep), (3, .keep), (4, .keep), (5, .keep)], boxes := [] }
  | 72, 3 => some { slots := [(0, .keep), (3, .keep), (4, .keep)], boxes := [] }
  | 73, 3 => some { slots := [(1, .keep), (5, .own 42 false), (10, .keep), (11, .keep), (12, .keep)], boxes := [] }
  | 73, 8 => some { slots := [(5, .own 42 false), (20, .keep), (21, .keep), (22, .keep)], boxes := [] }
  | 74, 2 => some { slots := [(0, .keep), (5, .keep), (6, .keep), (7, .keep)], boxes := [] }
  | 76, 4 => some { slots := [(5, .own 42 true), (6, .own 42 false), (7, .keep), (8, .keep)], boxes := [] }
  | 76, 6 => some { slots := [(5, .own 42 true), (6, .own 42 false), (7, .keep), (8, .keep), (9, .keep), (10, .keep), (11, .keep)], boxes := [] }
  | 86, 3 => some { slots := [(0, .keep), (3, .own 3 false), (4, .keep)], boxes := [] }
  | 87, 3 => some { slots := [(0, .keep), (3, .own 5 false), (4, .keep)], boxes := [] }
  | 88, 5 => some { slots := [(0, .keep), (4, .keep), (5, .keep)], boxes := [] }
  | 89, 2 => some { slots := [(0, .keep), (3, .keep)], boxes := [] }
  | 90, 3 => some { slots := [(0, .keep), (5, .keep), (8, .keep), (9, .keep), (10, .keep)], boxes := [] }
  | 92, 2 => some { slots := [(0, .keep), (6, .keep)], boxes := [6] }
  | 93, 12 => some { slots := [(0, .keep), (6, .keep), (8, .keep)], boxes := [6] }
  | 93, 18 => some { slots := [(1, .keep), (45, .keep)], boxes := [45] }
  | 103, 2 => some { slots := [(0, .keep), (1, .keep), (6, .keep)], boxes := [] }
  | 105, 2 => some { slots := [(0, .keep), (1, .keep), (7, .keep), (8, .keep)], boxes := [] }
  | 110, 15 => some { slots := [(0, .keep), (1, .keep), (6, .keep), (7, .keep), (8, .keep)], boxes := [] }
  | 113, 5 => some { slots := [(0, .keep), (7, .keep), (8, .keep), (9, .keep)], boxes := [] }
  | 113, 12 => some { slots := [(0, .keep), (7, .keep), (8, .keep), (9, .keep), (12, .keep)], boxes := [] }
  | 113, 25 => some { slots := [(0, .keep), (7, .keep), (8, .keep), (9, .keep), (14, .keep), (15, .keep)], boxes := [] }
  | 113, 29 => some { slots := [(0, .keep), (7, .keep), (8, .keep), (9, .keep), (14, .keep), (15, .keep), (16, .keep)], boxes := [] }
  | 113, 38 => some { slots := [(175, .keep)], boxes := [175] }
  | 119, 2 => some { slots := [(0, .keep), (5, .keep), (6, .keep)], boxes := [] }
  | 152, 3 => some { slots := [(0, .keep), (1, .keep), (2, .keep), (8, .keep), (9, .keep), (10, .keep)], boxes := [0] }
  | 163, 5 => some { slots := [(0, .keep), (1, .keep), (5, .keep), (6, .keep), (7, .keep), (8, .keep), (9, .keep)], boxes := [] }
  | 163, 11 => some { slots := [(0, .keep), (1, .keep), (5, .keep), (6, .keep), (7, .keep), (8, .keep), (10, .keep)], boxes := [] }
  | 179, 3 => some { slots := [(0, .keep), (4, .keep), (5, .keep)], boxes := [] }
  | 179, 8 => some { slots := [(4, .keep), (6, .keep), (7, .keep), (8, .keep)], boxes := [] }
  | 181, 10 => some { slots := [(0, .keep), (3, .keep), (4, .keep), (5, .keep)], boxes := [] }
  | _, _ => none
def fl : FuncId → List Bool
  | 102 => [true]
  | 128 => [true]
  | 129 => [true]
  | _ => []
def ln : FuncId → List Nat
  | 75 => [1, 0]
  | 102 => [2, 0]
  | 127 => [1, 0]
  | 128 => [2, 0, 0]
  | 129 => [2, 0, 2]
  | 152 => [1, 0, 0]
  | _ => []
def hd : FuncId → List Nat
  | 75 => [13]
  | _ => []
def glob (g : Nat) : Option (List AV) :=
  if g = 3 then some ((List.range 256).map fun c => .int .u8 (Lib.firstT c : Int)) else if g = 4 then some ((List.range 32).map fun i => .int .u8 ((if i % 2 = 0 then Lib.accLo (i / 2) else Lib.accHi (i / 2) : Nat) : Int)) else if g = 1 then some (Lib.pow10Tab.map fun z => .int .u64 z) else if g = 5 then some [.ifc] else if g = 6 then some [.ifc] else none
def coreFs : List FuncId := [3, 4, 5, 6, 7, 8, 9, 10, 11, 12, 13, 14, 15, 16, 17, 18, 20, 21, 22, 23, 24, 25, 26, 27, 28, 29, 30, 31, 32, 33, 34, 35, 36, 37, 38, 39, 40, 41, 42, 43, 44, 45, 46, 47, 48, 49, 50, 51, 52, 56, 57, 58, 59, 60, 61, 62, 63, 64, 65, 66, 67, 68, 69, 70, 71, 72, 73, 74, 75, 76, 77, 78, 79, 80, 81, 82, 85, 86, 87, 88, 89, 90, 91, 92, 94, 95, 96, 98, 100, 101, 102, 103, 105, 110, 111, 112, 113, 114, 117, 119, 123, 124, 127, 130, 132, 138, 139, 142, 145, 146, 152, 153, 156, 158, 159, 160, 161, 162, 163, 166, 171, 172, 175, 176, 179, 180, 181]
noncomputable def bs (E : Ext) (k : Nat) : Base := { P := Tryz.prog, fs := E.fs, isBase := E.isBase, base := E.base, fl := fl, ln := ln, hd := hd, glob := glob, dirs := dirs, k := k }
/-- An extension that has no given functions: for what doesn't look at them. -/
def E0 : Ext := { fs := [], isBase := fun _ => false, base := fun _ _ => none }
class Core (E : Ext) : Prop where
  isB : ∀ f, coreFs.contains f = true → E.isBase f = false
  has : ∀ f, coreFs.contains f = true → E.fs.contains f = true
/-- What a function answers, calls nested n deep, k rounds of each loop. -/
noncomputable def kp (E : Ext) (k n : Nat) : FuncId → List AV → Option AV := (bs E k).kap n
theorem kp_at {E : Ext} [h : Core E] {k n : Nat} {f : FuncId} {args : List AV} (hf : coreFs.contains f = true) : kp E k (n + 1) f args = (bs E k).at (kp E k n) f args := Base.kap_at (h.isB f hf) (h.has f hf) args
theorem kp_base {E : Ext} {k n : Nat} {f : FuncId} {args : List AV} (hf : E.isBase f = true) : kp E k n f args = E.base f args := Base.kap_base (B := bs E k) hf args
end Go.Proofs.YtilbahgfjfcikaaGreatDoor.Eng.U


/-
  DERIVED: THE SHELF's CONTRACTS AT THIS DUMP, IN PLAIN WORDS (tools/lay-plain.mjs out of 'TryzShelf.lean', which tools/lay-shelf.mjs wrote): THE SAME DECLARATIONS UNDER THE SAME NAMES: 'import', 'namespace', 'open', 'def', 'theorem' AND NOTHING ELSE: no command of the shelf's: FOR A HAND-IN. Each laying: the table of numbers ('.._ren') and one theorem, a field a fact of the dump's own or the kernel's comparison; each contract: ONE APPLICATION.
-/
namespace Go.Proofs
open Go.Shelf
def Tryz.lays106_ren : Go.Shelf.Ren := ⟨fun | 106 => 154 | 213 => 175 | 265 => 185 | n => n, fun | 9 => 9 | 3 => 3 | n => n, fun | n => n⟩
theorem Tryz.lays106 : Go.Proofs.Lays.n106 Tryz.prog Tryz.lays106_ren := {
  mixed := by kernel_rfl
  f106 := Tryz.func154.trans (congrArg some (by kernel_rfl))
  f213 := Tryz.func175.trans (congrArg some (by kernel_rfl))
  f265 := Tryz.func185.trans (congrArg some (by kernel_rfl))
  t3 := Tryz.underlying3
  a3 := Tryz.isAgg3
  z3 := Tryz.sizeOf3
  v3 := Tryz.zeroValue3
  t9 := Tryz.underlying9
  a9 := Tryz.isAgg9
  z9 := Tryz.sizeOf9
  v9 := Tryz.zeroValue9 }
open Go.RowKit in
/-- strings.Compare: "Compare returns an integer comparing two strings lexicographically. The result will be 0 if a == b, -1 if a < b, and +1 if a > b.": IT RETURNS 'Lib.compareBytes a b'; the world is as it was. (LAID: no walk: one application.) -/
theorem Tryz.strings_Compare (a b : ByteArray) (w : World) :
    Calls Tryz.prog 154 #[.string a, .string b] w fun e w' => e = .returned (.int .i64 (Lib.compareBytes a.data.toList b.data.toList)) ∧ w' = w := Any.strings_Compare Tryz.lays106 a b w
def Tryz.lays137_ren : Go.Shelf.Ren := ⟨fun | 137 => 104 | 217 => 130 | 266 => 157 | n => n, fun | 9 => 9 | 5 => 5 | 3 => 3 | n => n, fun | n => n⟩
theorem Tryz.lays137 : Go.Proofs.Lays.n137 Tryz.prog Tryz.lays137_ren := {
  mixed := by kernel_rfl
  f137 := Tryz.func104.trans (congrArg some (by kernel_rfl))
  f217 := Tryz.func130.trans (congrArg some (by kernel_rfl))
  f266 := Tryz.func157.trans (congrArg some (by kernel_rfl))
  t3 := Tryz.underlying3
  a3 := Tryz.isAgg3
  z3 := Tryz.sizeOf3
  v3 := Tryz.zeroValue3
  t5 := Tryz.underlying5
  a5 := Tryz.isAgg5
  z5 := Tryz.sizeOf5
  v5 := Tryz.zeroValue5
  t9 := Tryz.underlying9
  a9 := Tryz.isAgg9
  z9 := Tryz.sizeOf9
  v9 := Tryz.zeroValue9 }
open Go.RowKit in
/-- strings.IndexByte: "IndexByte returns the index of the first instance of c in s, or -1 if c is not present in s.": IT RETURNS 'Lib.indexByte s c'; the world is as it was. (LAID: no walk: one application.) -/
theorem Tryz.strings_IndexByte (s : ByteArray) (c : Int) (w : World) :
    Calls Tryz.prog 104 #[.string s, .int .u8 c] w fun e w' => e = .returned (.int .i64 (Lib.indexByte s.data.toList c.toNat.toUInt8)) ∧ w' = w := Any.strings_IndexByte Tryz.lays137 s c w
def Tryz.lays103_ren : Go.Shelf.Ren := ⟨fun | 103 => 118 | 210 => 142 | 206 => 166 | n => n, fun | 9 => 9 | 4 => 4 | 24 => 122 | 3 => 3 | n => n, fun | n => n⟩
theorem Tryz.lays103 : Go.Proofs.Lays.n103 Tryz.prog Tryz.lays103_ren := {
  mixed := by kernel_rfl
  f103 := Tryz.func118.trans (congrArg some (by kernel_rfl))
  f206 := Tryz.func166.trans (congrArg some (by kernel_rfl))
  f210 := Tryz.func142.trans (congrArg some (by kernel_rfl))
  t3 := Tryz.underlying3
  a3 := Tryz.isAgg3
  z3 := Tryz.sizeOf3
  v3 := Tryz.zeroValue3
  t4 := Tryz.underlying4
  a4 := Tryz.isAgg4
  z4 := Tryz.sizeOf4
  v4 := Tryz.zeroValue4
  t9 := Tryz.underlying9
  a9 := Tryz.isAgg9
  z9 := Tryz.sizeOf9
  v9 := Tryz.zeroValue9
  t24 := Tryz.underlying122
  a24 := Tryz.isAgg122
  z24 := Tryz.sizeOf122
  v24 := Tryz.zeroValue122 }
open Go.RowKit in
/-- strings.CutPrefix: "CutPrefix returns s without the provided leading prefix string and reports whether it found the prefix. If s doesn't start with prefix, CutPrefix returns s, false. If prefix is the empty string, CutPrefix returns s, true.": IT RETURNS '(Lib.trimPrefix s p, Lib.hasPrefix s p)'; the world is as it was. (LAID: no walk: one application.) -/
theorem Tryz.strings_CutPrefix (s p : ByteArray) (w : World) :
    Calls Tryz.prog 118 #[.string s, .string p] w fun e w' => e = .returned (.tuple #[.string ⟨(Lib.trimPrefix s.data.toList p.data.toList).toArray⟩, .bool (Lib.hasPrefix s.data.toList p.data.toList)]) ∧ w' = w := Any.strings_CutPrefix Tryz.lays103 s p w
def Tryz.laysM171_ren : Go.Shelf.Ren := ⟨fun | 171 => 54 | 243 => 85 | 246 => 109 | 283 => 132 | 284 => 133 | 285 => 134 | 286 => 135 | 129 => 159 | 317 => 158 | 318 => 160 | 319 => 161 | 320 => 162 | 337 => 177 | 338 => 178 | n => n, fun | 3 => 3 | 9 => 9 | 2 => 2 | 4 => 4 | 171 => 155 | 0 => 0 | 53 => 118 | 37 => 27 | 5 => 5 | 173 => 158 | 212 => 175 | 51 => 93 | 20 => 20 | 213 => 176 | 46 => 139 | 232 => 200 | 233 => 201 | n => n, fun | 17 => 1 | 18 => 7 | 19 => 8 | n => n⟩
theorem Tryz.laysM171 : Go.Proofs.LaysM.n171 Tryz.prog Tryz.laysM171_ren := {
  mixed := by kernel_rfl
  f129 := Tryz.func159.trans (congrArg some (by kernel_rfl))
  f171 := Tryz.func54.trans (congrArg some (by kernel_rfl))
  f243 := Tryz.func85.trans (congrArg some (by kernel_rfl))
  f246 := Tryz.func109.trans (congrArg some (by kernel_rfl))
  f283 := Tryz.func132.trans (congrArg some (by kernel_rfl))
  f284 := Tryz.func133.trans (congrArg some (by kernel_rfl))
  f285 := Tryz.func134.trans (congrArg some (by kernel_rfl))
  f286 := Tryz.func135.trans (congrArg some (by kernel_rfl))
  f317 := Tryz.func158.trans (congrArg some (by kernel_rfl))
  f318 := Tryz.func160.trans (congrArg some (by kernel_rfl))
  f319 := Tryz.func161.trans (congrArg some (by kernel_rfl))
  f320 := Tryz.func162.trans (congrArg some (by kernel_rfl))
  f337 := Tryz.func177.trans (congrArg some (by kernel_rfl))
  f338 := Tryz.func178.trans (congrArg some (by kernel_rfl))
  t0 := Tryz.underlying0
  a0 := Tryz.isAgg0
  z0 := Tryz.sizeOf0
  v0 := Tryz.zeroValue0
  t2 := Tryz.underlying2
  a2 := Tryz.isAgg2
  z2 := Tryz.sizeOf2
  v2 := Tryz.zeroValue2
  t3 := Tryz.underlying3
  a3 := Tryz.isAgg3
  z3 := Tryz.sizeOf3
  v3 := Tryz.zeroValue3
  t4 := Tryz.underlying4
  a4 := Tryz.isAgg4
  z4 := Tryz.sizeOf4
  v4 := Tryz.zeroValue4
  t5 := Tryz.underlying5
  a5 := Tryz.isAgg5
  z5 := Tryz.sizeOf5
  v5 := Tryz.zeroValue5
  t9 := Tryz.underlying9
  a9 := Tryz.isAgg9
  z9 := Tryz.sizeOf9
  v9 := Tryz.zeroValue9
  t20 := Tryz.underlying20
  a20 := Tryz.isAgg20
  z20 := Tryz.sizeOf20
  v20 := Tryz.zeroValue20
  t37 := Tryz.underlying27
  a37 := Tryz.isAgg27
  z37 := Tryz.sizeOf27
  v37 := Tryz.zeroValue27
  t46 := Tryz.underlying139
  a46 := Tryz.isAgg139
  z46 := Tryz.sizeOf139
  v46 := Tryz.zeroValue139
  t51 := Tryz.underlying93
  a51 := Tryz.isAgg93
  z51 := Tryz.sizeOf93
  v51 := Tryz.zeroValue93
  t53 := Tryz.underlying118
  a53 := Tryz.isAgg118
  z53 := Tryz.sizeOf118
  v53 := Tryz.zeroValue118
  t171 := Tryz.underlying155
  a171 := Tryz.isAgg155
  z171 := Tryz.sizeOf155
  v171 := Tryz.zeroValue155
  t173 := Tryz.underlying158
  a173 := Tryz.isAgg158
  z173 := Tryz.sizeOf158
  v173 := Tryz.zeroValue158
  t212 := Tryz.underlying175
  a212 := Tryz.isAgg175
  z212 := Tryz.sizeOf175
  v212 := Tryz.zeroValue175
  t213 := Tryz.underlying176
  a213 := Tryz.isAgg176
  z213 := Tryz.sizeOf176
  t232 := Tryz.underlying200
  a232 := Tryz.isAgg200
  z232 := Tryz.sizeOf200
  v232 := Tryz.zeroValue200
  t233 := Tryz.underlying201
  a233 := Tryz.isAgg201
  z233 := Tryz.sizeOf201
  v233 := Tryz.zeroValue201
  g17 := by kernel_rfl
  g18 := by kernel_rfl
  g19 := by kernel_rfl
  i0 := by kernel_rfl
  i2 := by kernel_rfl
  i3 := by kernel_rfl
  i4 := by kernel_rfl
  i5 := by kernel_rfl
  i9 := by kernel_rfl
  i20 := by kernel_rfl
  i37 := by kernel_rfl
  i46 := by kernel_rfl
  i51 := by kernel_rfl
  i53 := by kernel_rfl
  i171 := by kernel_rfl
  i173 := by kernel_rfl
  i212 := by kernel_rfl
  i232 := by kernel_rfl
  i233 := by kernel_rfl
  m17 := by kernel_rfl
  m18 := by kernel_rfl
  m19 := by kernel_rfl }
open Go.RowKit Go.Sort Go.Lib in
/-- strconv.Itoa: "Itoa is equivalent to FormatInt(int64(i), 10).": i's DECIMAL NUMERAL ('Lib.itoa': a '-' where i is negative, then the digits), FOR EVERY int. The world behind the call: the world before it, new blocks behind the heap (the library's 'var a [24]byte'), draws. (LAID: no walk: one application.) -/
theorem Tryz.strconv_Itoa (n : Int) (h0 : -9223372036854775808 ≤ n) (h1 : n ≤ 9223372036854775807) (w : World) (htab : Lib.TabIs Tryz.prog w "internal/strconv.uint64pow10" .u64 Lib.pow10Tab) :
    Calls Tryz.prog 54 #[.int .i64 n] w fun e w' => e = .returned (.string ⟨(Lib.itoa n).toArray⟩) ∧ ∃ k os, w' = grow (w.drewN k) os := Any.strconv_Itoa Tryz.laysM171 n h0 h1 w htab
def Tryz.laysM178_ren : Go.Shelf.Ren := ⟨fun | 178 => 53 | 251 => 83 | 252 => 84 | 181 => 106 | 184 => 107 | 290 => 108 | 324 => 131 | n => n, fun | 130 => 102 | 9 => 9 | 3 => 3 | 75 => 79 | 0 => 0 | 93 => 77 | 91 => 75 | 131 => 103 | 4 => 4 | 37 => 27 | 20 => 20 | 80 => 151 | 5 => 5 | n => n, fun | 14 => 0 | n => n⟩
theorem Tryz.laysM178 : Go.Proofs.LaysM.n178 Tryz.prog Tryz.laysM178_ren := {
  mixed := by kernel_rfl
  f178 := Tryz.func53.trans (congrArg some (by kernel_rfl))
  f181 := Tryz.func106.trans (congrArg some (by kernel_rfl))
  f184 := Tryz.func107.trans (congrArg some (by kernel_rfl))
  f251 := Tryz.func83.trans (congrArg some (by kernel_rfl))
  f252 := Tryz.func84.trans (congrArg some (by kernel_rfl))
  f290 := Tryz.func108.trans (congrArg some (by kernel_rfl))
  f324 := Tryz.func131.trans (congrArg some (by kernel_rfl))
  t0 := Tryz.underlying0
  a0 := Tryz.isAgg0
  z0 := Tryz.sizeOf0
  v0 := Tryz.zeroValue0
  t3 := Tryz.underlying3
  a3 := Tryz.isAgg3
  z3 := Tryz.sizeOf3
  v3 := Tryz.zeroValue3
  t4 := Tryz.underlying4
  a4 := Tryz.isAgg4
  z4 := Tryz.sizeOf4
  v4 := Tryz.zeroValue4
  t9 := Tryz.underlying9
  a9 := Tryz.isAgg9
  z9 := Tryz.sizeOf9
  v9 := Tryz.zeroValue9
  t20 := Tryz.underlying20
  a20 := Tryz.isAgg20
  z20 := Tryz.sizeOf20
  v20 := Tryz.zeroValue20
  t37 := Tryz.underlying27
  a37 := Tryz.isAgg27
  z37 := Tryz.sizeOf27
  v37 := Tryz.zeroValue27
  t75 := Tryz.underlying79
  a75 := Tryz.isAgg79
  z75 := Tryz.sizeOf79
  v75 := Tryz.zeroValue79
  t91 := Tryz.underlying75
  a91 := Tryz.isAgg75
  z91 := Tryz.sizeOf75
  v91 := Tryz.zeroValue75
  t93 := Tryz.underlying77
  a93 := Tryz.isAgg77
  z93 := Tryz.sizeOf77
  v93 := Tryz.zeroValue77
  t130 := Tryz.underlying102
  a130 := Tryz.isAgg102
  z130 := Tryz.sizeOf102
  v130 := Tryz.zeroValue102
  t131 := Tryz.underlying103
  a131 := Tryz.isAgg103
  z131 := Tryz.sizeOf103
  v131 := Tryz.zeroValue103
  g14 := by kernel_rfl
  t5 := Tryz.underlying5
  a5 := Tryz.isAgg5
  z5 := Tryz.sizeOf5
  v5 := Tryz.zeroValue5
  t80 := Tryz.underlying151
  a80 := Tryz.isAgg151
  z80 := Tryz.sizeOf151
  v80 := Tryz.zeroValue151
  i0 := by kernel_rfl
  i3 := by kernel_rfl
  i4 := by kernel_rfl
  i5 := by kernel_rfl
  i9 := by kernel_rfl
  i20 := by kernel_rfl
  i37 := by kernel_rfl
  i75 := by kernel_rfl
  i80 := by kernel_rfl
  i91 := by kernel_rfl
  i93 := by kernel_rfl
  i130 := by kernel_rfl
  i131 := by kernel_rfl
  m14 := by kernel_rfl }
def Tryz.laysM183_ren : Go.Shelf.Ren := ⟨fun | 183 => 55 | n => n, fun | 130 => 102 | 37 => 27 | 0 => 0 | 93 => 77 | 3 => 3 | 5 => 5 | 91 => 75 | n => n, fun | n => n⟩
theorem Tryz.laysM183 : Go.Proofs.LaysM.n183 Tryz.prog Tryz.laysM183_ren := {
  mixed := by kernel_rfl
  f183 := Tryz.func55.trans (congrArg some (by kernel_rfl))
  t0 := Tryz.underlying0
  a0 := Tryz.isAgg0
  z0 := Tryz.sizeOf0
  v0 := Tryz.zeroValue0
  t3 := Tryz.underlying3
  a3 := Tryz.isAgg3
  z3 := Tryz.sizeOf3
  v3 := Tryz.zeroValue3
  t37 := Tryz.underlying27
  a37 := Tryz.isAgg27
  z37 := Tryz.sizeOf27
  v37 := Tryz.zeroValue27
  t93 := Tryz.underlying77
  a93 := Tryz.isAgg77
  z93 := Tryz.sizeOf77
  v93 := Tryz.zeroValue77
  t130 := Tryz.underlying102
  a130 := Tryz.isAgg102
  z130 := Tryz.sizeOf102
  v130 := Tryz.zeroValue102
  t5 := Tryz.underlying5
  a5 := Tryz.isAgg5
  z5 := Tryz.sizeOf5
  v5 := Tryz.zeroValue5
  t91 := Tryz.underlying75
  a91 := Tryz.isAgg75
  z91 := Tryz.sizeOf75
  v91 := Tryz.zeroValue75
  i0 := by kernel_rfl
  i3 := by kernel_rfl
  i5 := by kernel_rfl
  i37 := by kernel_rfl
  i91 := by kernel_rfl
  i93 := by kernel_rfl
  i130 := by kernel_rfl }
open Go.RowKit in
/-- (*bytes.Buffer).Bytes: "Bytes returns a slice of length b.Len() holding the unread portion of the buffer. .. The slice aliases the buffer content at least until the next buffer modification": A SLICE THAT OWNS THE CELLS bs ('World.ownsRow': nil where nothing was ever written). The world is as it was but for the count of draws. (LAID: no walk: one application.) -/
theorem Tryz.Buffer_Bytes (B b : Nat) (bs : List Value) (w : World) (h : Lib.IsBuffer 77 5 B b bs w) :
    Calls Tryz.prog 55 #[.pointer (some ⟨b, 0, none⟩)] w fun e w' => ∃ v, e = .returned v ∧ w'.ownsRow B 5 1 v bs.length bs ∧ ∃ n, w' = w.drewN n := Any.Buffer_Bytes Tryz.laysM183 B b bs w h
def Tryz.laysC174_ren : Go.Shelf.Ren := ⟨fun | 174 => 120 | 247 => 143 | 245 => 144 | 287 => 165 | 279 => 167 | 280 => 168 | 281 => 169 | 282 => 170 | 321 => 180 | 322 => 181 | 316 => 182 | 171 => 54 | 205 => 183 | 243 => 85 | 246 => 109 | 283 => 132 | 284 => 133 | 285 => 134 | 286 => 135 | 129 => 159 | 317 => 158 | 318 => 160 | 319 => 161 | 320 => 162 | 337 => 177 | 338 => 178 | n => n, fun | 9 => 9 | 3 => 3 | 2 => 2 | 75 => 79 | 85 => 141 | 4 => 4 | 167 => 178 | 5 => 5 | 53 => 118 | 175 => 164 | 46 => 139 | 168 => 179 | 37 => 27 | 0 => 0 | 210 => 196 | 21 => 21 | 127 => 170 | 145 => 204 | 143 => 202 | 171 => 155 | 173 => 158 | 212 => 175 | 51 => 93 | 20 => 20 | 213 => 176 | 232 => 200 | 233 => 201 | 80 => 151 | n => n, fun | 15 => 5 | 16 => 6 | 17 => 1 | 18 => 7 | 19 => 8 | n => n⟩
theorem Tryz.laysC174 : Go.Proofs.LaysC.n174 Tryz.prog Tryz.laysC174_ren := {
  mixed := by kernel_rfl
  f129 := Tryz.func159.trans (congrArg some (by kernel_rfl))
  f171 := Tryz.func54.trans (congrArg some (by kernel_rfl))
  f174 := Tryz.func120.trans (congrArg some (by kernel_rfl))
  f205 := Tryz.func183.trans (congrArg some (by kernel_rfl))
  f243 := Tryz.func85.trans (congrArg some (by kernel_rfl))
  f245 := Tryz.func144.trans (congrArg some (by kernel_rfl))
  f246 := Tryz.func109.trans (congrArg some (by kernel_rfl))
  f247 := Tryz.func143.trans (congrArg some (by kernel_rfl))
  f279 := Tryz.func167.trans (congrArg some (by kernel_rfl))
  f280 := Tryz.func168.trans (congrArg some (by kernel_rfl))
  f281 := Tryz.func169.trans (congrArg some (by kernel_rfl))
  f282 := Tryz.func170.trans (congrArg some (by kernel_rfl))
  f283 := Tryz.func132.trans (congrArg some (by kernel_rfl))
  f284 := Tryz.func133.trans (congrArg some (by kernel_rfl))
  f285 := Tryz.func134.trans (congrArg some (by kernel_rfl))
  f286 := Tryz.func135.trans (congrArg some (by kernel_rfl))
  f287 := Tryz.func165.trans (congrArg some (by kernel_rfl))
  f316 := Tryz.func182.trans (congrArg some (by kernel_rfl))
  f317 := Tryz.func158.trans (congrArg some (by kernel_rfl))
  f318 := Tryz.func160.trans (congrArg some (by kernel_rfl))
  f319 := Tryz.func161.trans (congrArg some (by kernel_rfl))
  f320 := Tryz.func162.trans (congrArg some (by kernel_rfl))
  f321 := Tryz.func180.trans (congrArg some (by kernel_rfl))
  f322 := Tryz.func181.trans (congrArg some (by kernel_rfl))
  f337 := Tryz.func177.trans (congrArg some (by kernel_rfl))
  f338 := Tryz.func178.trans (congrArg some (by kernel_rfl))
  t0 := Tryz.underlying0
  a0 := Tryz.isAgg0
  z0 := Tryz.sizeOf0
  v0 := Tryz.zeroValue0
  t2 := Tryz.underlying2
  a2 := Tryz.isAgg2
  z2 := Tryz.sizeOf2
  v2 := Tryz.zeroValue2
  t3 := Tryz.underlying3
  a3 := Tryz.isAgg3
  z3 := Tryz.sizeOf3
  v3 := Tryz.zeroValue3
  t4 := Tryz.underlying4
  a4 := Tryz.isAgg4
  z4 := Tryz.sizeOf4
  v4 := Tryz.zeroValue4
  t5 := Tryz.underlying5
  a5 := Tryz.isAgg5
  z5 := Tryz.sizeOf5
  v5 := Tryz.zeroValue5
  t9 := Tryz.underlying9
  a9 := Tryz.isAgg9
  z9 := Tryz.sizeOf9
  v9 := Tryz.zeroValue9
  t20 := Tryz.underlying20
  a20 := Tryz.isAgg20
  z20 := Tryz.sizeOf20
  v20 := Tryz.zeroValue20
  t21 := Tryz.underlying21
  a21 := Tryz.isAgg21
  z21 := Tryz.sizeOf21
  v21 := Tryz.zeroValue21
  t37 := Tryz.underlying27
  a37 := Tryz.isAgg27
  z37 := Tryz.sizeOf27
  v37 := Tryz.zeroValue27
  t46 := Tryz.underlying139
  a46 := Tryz.isAgg139
  z46 := Tryz.sizeOf139
  v46 := Tryz.zeroValue139
  t51 := Tryz.underlying93
  a51 := Tryz.isAgg93
  z51 := Tryz.sizeOf93
  v51 := Tryz.zeroValue93
  t53 := Tryz.underlying118
  a53 := Tryz.isAgg118
  z53 := Tryz.sizeOf118
  v53 := Tryz.zeroValue118
  t75 := Tryz.underlying79
  a75 := Tryz.isAgg79
  z75 := Tryz.sizeOf79
  v75 := Tryz.zeroValue79
  t85 := Tryz.underlying141
  a85 := Tryz.isAgg141
  z85 := Tryz.sizeOf141
  v85 := Tryz.zeroValue141
  t127 := Tryz.underlying170
  a127 := Tryz.isAgg170
  z127 := Tryz.sizeOf170
  v127 := Tryz.zeroValue170
  t143 := Tryz.underlying202
  a143 := Tryz.isAgg202
  z143 := Tryz.sizeOf202
  v143 := Tryz.zeroValue202
  t145 := Tryz.underlying204
  a145 := Tryz.isAgg204
  z145 := Tryz.sizeOf204
  v145 := Tryz.zeroValue204
  t167 := Tryz.underlying178
  a167 := Tryz.isAgg178
  z167 := Tryz.sizeOf178
  v167 := Tryz.zeroValue178
  t168 := Tryz.underlying179
  a168 := Tryz.isAgg179
  z168 := Tryz.sizeOf179
  v168 := Tryz.zeroValue179
  t171 := Tryz.underlying155
  a171 := Tryz.isAgg155
  z171 := Tryz.sizeOf155
  v171 := Tryz.zeroValue155
  t173 := Tryz.underlying158
  a173 := Tryz.isAgg158
  z173 := Tryz.sizeOf158
  v173 := Tryz.zeroValue158
  t175 := Tryz.underlying164
  a175 := Tryz.isAgg164
  z175 := Tryz.sizeOf164
  v175 := Tryz.zeroValue164
  t210 := Tryz.underlying196
  a210 := Tryz.isAgg196
  z210 := Tryz.sizeOf196
  v210 := Tryz.zeroValue196
  t212 := Tryz.underlying175
  a212 := Tryz.isAgg175
  z212 := Tryz.sizeOf175
  v212 := Tryz.zeroValue175
  t213 := Tryz.underlying176
  a213 := Tryz.isAgg176
  z213 := Tryz.sizeOf176
  t232 := Tryz.underlying200
  a232 := Tryz.isAgg200
  z232 := Tryz.sizeOf200
  v232 := Tryz.zeroValue200
  t233 := Tryz.underlying201
  a233 := Tryz.isAgg201
  z233 := Tryz.sizeOf201
  v233 := Tryz.zeroValue201
  g15 := by kernel_rfl
  g16 := by kernel_rfl
  g17 := by kernel_rfl
  g18 := by kernel_rfl
  g19 := by kernel_rfl
  t80 := Tryz.underlying151
  a80 := Tryz.isAgg151
  z80 := Tryz.sizeOf151
  v80 := Tryz.zeroValue151
  i0 := by kernel_rfl
  i2 := by kernel_rfl
  i3 := by kernel_rfl
  i4 := by kernel_rfl
  i5 := by kernel_rfl
  i9 := by kernel_rfl
  i20 := by kernel_rfl
  i21 := by kernel_rfl
  i37 := by kernel_rfl
  i46 := by kernel_rfl
  i51 := by kernel_rfl
  i53 := by kernel_rfl
  i75 := by kernel_rfl
  i80 := by kernel_rfl
  i85 := by kernel_rfl
  i127 := by kernel_rfl
  i143 := by kernel_rfl
  i145 := by kernel_rfl
  i167 := by kernel_rfl
  i168 := by kernel_rfl
  i171 := by kernel_rfl
  i173 := by kernel_rfl
  i175 := by kernel_rfl
  i210 := by kernel_rfl
  i212 := by kernel_rfl
  i232 := by kernel_rfl
  i233 := by kernel_rfl
  m15 := by kernel_rfl
  m16 := by kernel_rfl
  m17 := by kernel_rfl
  m18 := by kernel_rfl
  m19 := by kernel_rfl
  c0 := by kernel_rfl
  c2 := by kernel_rfl
  c3 := by kernel_rfl
  c4 := by kernel_rfl
  c5 := by kernel_rfl
  c9 := by kernel_rfl
  c20 := by kernel_rfl
  c21 := by kernel_rfl
  c37 := by kernel_rfl
  c46 := by kernel_rfl
  c51 := by kernel_rfl
  c53 := by kernel_rfl
  c75 := by kernel_rfl
  c80 := by kernel_rfl
  c85 := by kernel_rfl
  c127 := by kernel_rfl
  c143 := by kernel_rfl
  c145 := by kernel_rfl
  c167 := by kernel_rfl
  c168 := by kernel_rfl
  c171 := by kernel_rfl
  c173 := by kernel_rfl
  c175 := by kernel_rfl
  c210 := by kernel_rfl
  c212 := by kernel_rfl
  c213 := by kernel_rfl
  c232 := by kernel_rfl
  c233 := by kernel_rfl }
open Go.RowKit in
/-- strconv.ParseInt(s, 10, 64), AT EVERY STRING THAT SPELLS AN int64 ('Lib.parseIntB 64 s.data.toList = .ok v'): v, AND NO ERROR. (LAID: no walk: one application.) -/
theorem Tryz.strconv_ParseInt_10_at64_ok (s : ByteArray) (hmax : s.size ≤ 9223372036854775806) (v : Int) (h : Lib.parseIntB 64 s.data.toList = .ok v) (w : World) :
    Calls Tryz.prog 120 #[.string s, .int .i64 10, .int .i64 64] w fun e w' => e = .returned (.tuple #[.int .i64 v, .nilIface]) ∧ (w' = w ∨ ∃ t, w' = Lib.bytesWorld w 5 t) := Any.strconv_ParseInt_10_at64_ok Tryz.laysC174 s hmax v h w
open Go.RowKit in
/-- strconv.ParseInt(s, 10, 64), AT EVERY STRING THAT IS NO DECIMAL NUMERAL: 0, AND AN ERROR THAT IS NOT nil: a *NumError in a new block N: {Func: "ParseInt", Num: s's bytes, Err: what the variable ErrSyntax holds}. Of what was there nothing has turned. (LAID: no walk: one application.) -/
theorem Tryz.strconv_ParseInt_10_at64_syntax (s : ByteArray) (hlim : s.size ≤ 281474976710656) (h : Lib.parseIntB 64 s.data.toList = Lib.parseIntB 64 []) (ev : Value) (w : World) (hv : w.cell? ⟨5, 0, none⟩ = some ev) (hev : ev = .nilIface ∨ ∃ te pe, ev = .iface te pe) :
    Calls Tryz.prog 120 #[.string s, .int .i64 10, .int .i64 64] w fun e w' => ∃ N, e = .returned (.tuple #[.int .i64 (0), .iface 179 (.pointer (some ⟨N, 0, none⟩))]) ∧ w.heap.size ≤ N ∧ w'.heap[N]? = some (.cells #[.string ⟨#[80, 97, 114, 115, 101, 73, 110, 116]⟩, .string s, ev] 196 (0, 0)) ∧ Below w.heap.size w w' := Any.strconv_ParseInt_10_at64_syntax Tryz.laysC174 s hlim h ev w hv hev
open Go.RowKit in
/-- strconv.ParseInt(s, 10, 64), AT EVERY NUMERAL THAT NO int64 HOLDS: THE GREATEST OR THE LEAST int64, BY THE SIGN ('Lib.intSat 64'), AND AN ERROR THAT IS NOT nil: a *NumError in a new block N: {Func: "ParseInt", Num: s's bytes, Err: what the variable ErrRange holds}. Of what was there nothing has turned. (LAID: no walk: one application.) -/
theorem Tryz.strconv_ParseInt_10_at64_range (s : ByteArray) (hlim : s.size ≤ 281474976710656) (h : Lib.parseIntB 64 s.data.toList = .range) (ev : Value) (w : World) (hv : w.cell? ⟨6, 0, none⟩ = some ev) (hev : ev = .nilIface ∨ ∃ te pe, ev = .iface te pe) :
    Calls Tryz.prog 120 #[.string s, .int .i64 10, .int .i64 64] w fun e w' => ∃ N, e = .returned (.tuple #[.int .i64 (Lib.intSat 64 s.data.toList), .iface 179 (.pointer (some ⟨N, 0, none⟩))]) ∧ w.heap.size ≤ N ∧ w'.heap[N]? = some (.cells #[.string ⟨#[80, 97, 114, 115, 101, 73, 110, 116]⟩, .string s, ev] 196 (0, 0)) ∧ Below w.heap.size w w' := Any.strconv_ParseInt_10_at64_range Tryz.laysC174 s hlim h ev w hv hev
def Tryz.laysPu14_ren : Go.Shelf.Ren := ⟨fun | 14 => 141 | 16 => 165 | 17 => 144 | 19 => 180 | 20 => 181 | 21 => 167 | 22 => 168 | 23 => 169 | 24 => 170 | 25 => 182 | 27 => 54 | 26 => 183 | 28 => 85 | 29 => 109 | 30 => 132 | 31 => 133 | 32 => 134 | 33 => 135 | 35 => 159 | 34 => 158 | 36 => 160 | 37 => 161 | 38 => 162 | 39 => 177 | 40 => 178 | n => n, fun | 9 => 9 | 3 => 3 | 22 => 118 | 24 => 79 | 25 => 164 | 4 => 4 | 34 => 178 | 5 => 5 | 36 => 139 | 37 => 27 | 0 => 0 | 39 => 179 | 21 => 21 | 44 => 196 | 47 => 170 | 50 => 204 | 48 => 202 | 2 => 2 | 52 => 155 | 55 => 158 | 59 => 175 | 60 => 93 | 20 => 20 | 61 => 176 | 65 => 200 | 66 => 201 | 67 => 151 | n => n, fun | 0 => 5 | 1 => 6 | 2 => 1 | 3 => 7 | 4 => 8 | n => n⟩
theorem Tryz.laysPu14 : Go.Proofs.LaysPu.n14 Tryz.prog Tryz.laysPu14_ren := {
  mixed := by kernel_rfl
  f14 := Tryz.func141.trans (congrArg some (by kernel_rfl))
  f16 := Tryz.func165.trans (congrArg some (by kernel_rfl))
  f17 := Tryz.func144.trans (congrArg some (by kernel_rfl))
  f19 := Tryz.func180.trans (congrArg some (by kernel_rfl))
  f20 := Tryz.func181.trans (congrArg some (by kernel_rfl))
  f21 := Tryz.func167.trans (congrArg some (by kernel_rfl))
  f22 := Tryz.func168.trans (congrArg some (by kernel_rfl))
  f23 := Tryz.func169.trans (congrArg some (by kernel_rfl))
  f24 := Tryz.func170.trans (congrArg some (by kernel_rfl))
  f25 := Tryz.func182.trans (congrArg some (by kernel_rfl))
  f26 := Tryz.func183.trans (congrArg some (by kernel_rfl))
  f27 := Tryz.func54.trans (congrArg some (by kernel_rfl))
  f28 := Tryz.func85.trans (congrArg some (by kernel_rfl))
  f29 := Tryz.func109.trans (congrArg some (by kernel_rfl))
  f30 := Tryz.func132.trans (congrArg some (by kernel_rfl))
  f31 := Tryz.func133.trans (congrArg some (by kernel_rfl))
  f32 := Tryz.func134.trans (congrArg some (by kernel_rfl))
  f33 := Tryz.func135.trans (congrArg some (by kernel_rfl))
  f34 := Tryz.func158.trans (congrArg some (by kernel_rfl))
  f35 := Tryz.func159.trans (congrArg some (by kernel_rfl))
  f36 := Tryz.func160.trans (congrArg some (by kernel_rfl))
  f37 := Tryz.func161.trans (congrArg some (by kernel_rfl))
  f38 := Tryz.func162.trans (congrArg some (by kernel_rfl))
  f39 := Tryz.func177.trans (congrArg some (by kernel_rfl))
  f40 := Tryz.func178.trans (congrArg some (by kernel_rfl))
  t0 := Tryz.underlying0
  a0 := Tryz.isAgg0
  z0 := Tryz.sizeOf0
  v0 := Tryz.zeroValue0
  i0 := by kernel_rfl
  t2 := Tryz.underlying2
  a2 := Tryz.isAgg2
  z2 := Tryz.sizeOf2
  v2 := Tryz.zeroValue2
  i2 := by kernel_rfl
  t3 := Tryz.underlying3
  a3 := Tryz.isAgg3
  z3 := Tryz.sizeOf3
  v3 := Tryz.zeroValue3
  i3 := by kernel_rfl
  t4 := Tryz.underlying4
  a4 := Tryz.isAgg4
  z4 := Tryz.sizeOf4
  v4 := Tryz.zeroValue4
  i4 := by kernel_rfl
  t5 := Tryz.underlying5
  a5 := Tryz.isAgg5
  z5 := Tryz.sizeOf5
  v5 := Tryz.zeroValue5
  i5 := by kernel_rfl
  t9 := Tryz.underlying9
  a9 := Tryz.isAgg9
  z9 := Tryz.sizeOf9
  v9 := Tryz.zeroValue9
  i9 := by kernel_rfl
  t20 := Tryz.underlying20
  a20 := Tryz.isAgg20
  z20 := Tryz.sizeOf20
  v20 := Tryz.zeroValue20
  i20 := by kernel_rfl
  t21 := Tryz.underlying21
  a21 := Tryz.isAgg21
  z21 := Tryz.sizeOf21
  v21 := Tryz.zeroValue21
  i21 := by kernel_rfl
  t22 := Tryz.underlying118
  a22 := Tryz.isAgg118
  z22 := Tryz.sizeOf118
  v22 := Tryz.zeroValue118
  i22 := by kernel_rfl
  t24 := Tryz.underlying79
  a24 := Tryz.isAgg79
  z24 := Tryz.sizeOf79
  v24 := Tryz.zeroValue79
  i24 := by kernel_rfl
  t25 := Tryz.underlying164
  a25 := Tryz.isAgg164
  z25 := Tryz.sizeOf164
  v25 := Tryz.zeroValue164
  i25 := by kernel_rfl
  t34 := Tryz.underlying178
  a34 := Tryz.isAgg178
  z34 := Tryz.sizeOf178
  v34 := Tryz.zeroValue178
  i34 := by kernel_rfl
  c34 := by kernel_rfl
  t36 := Tryz.underlying139
  a36 := Tryz.isAgg139
  z36 := Tryz.sizeOf139
  v36 := Tryz.zeroValue139
  i36 := by kernel_rfl
  t37 := Tryz.underlying27
  a37 := Tryz.isAgg27
  z37 := Tryz.sizeOf27
  v37 := Tryz.zeroValue27
  i37 := by kernel_rfl
  t39 := Tryz.underlying179
  a39 := Tryz.isAgg179
  z39 := Tryz.sizeOf179
  v39 := Tryz.zeroValue179
  i39 := by kernel_rfl
  t44 := Tryz.underlying196
  a44 := Tryz.isAgg196
  z44 := Tryz.sizeOf196
  v44 := Tryz.zeroValue196
  i44 := by kernel_rfl
  t47 := Tryz.underlying170
  a47 := Tryz.isAgg170
  z47 := Tryz.sizeOf170
  v47 := Tryz.zeroValue170
  i47 := by kernel_rfl
  t48 := Tryz.underlying202
  a48 := Tryz.isAgg202
  z48 := Tryz.sizeOf202
  v48 := Tryz.zeroValue202
  i48 := by kernel_rfl
  t50 := Tryz.underlying204
  a50 := Tryz.isAgg204
  z50 := Tryz.sizeOf204
  v50 := Tryz.zeroValue204
  i50 := by kernel_rfl
  t52 := Tryz.underlying155
  a52 := Tryz.isAgg155
  z52 := Tryz.sizeOf155
  v52 := Tryz.zeroValue155
  i52 := by kernel_rfl
  t55 := Tryz.underlying158
  a55 := Tryz.isAgg158
  z55 := Tryz.sizeOf158
  v55 := Tryz.zeroValue158
  i55 := by kernel_rfl
  t59 := Tryz.underlying175
  a59 := Tryz.isAgg175
  z59 := Tryz.sizeOf175
  v59 := Tryz.zeroValue175
  i59 := by kernel_rfl
  t60 := Tryz.underlying93
  a60 := Tryz.isAgg93
  z60 := Tryz.sizeOf93
  v60 := Tryz.zeroValue93
  i60 := by kernel_rfl
  t61 := Tryz.underlying176
  a61 := Tryz.isAgg176
  z61 := Tryz.sizeOf176
  t65 := Tryz.underlying200
  a65 := Tryz.isAgg200
  z65 := Tryz.sizeOf200
  v65 := Tryz.zeroValue200
  i65 := by kernel_rfl
  t66 := Tryz.underlying201
  a66 := Tryz.isAgg201
  z66 := Tryz.sizeOf201
  v66 := Tryz.zeroValue201
  i66 := by kernel_rfl
  t67 := Tryz.underlying151
  a67 := Tryz.isAgg151
  z67 := Tryz.sizeOf151
  v67 := Tryz.zeroValue151
  i67 := by kernel_rfl
  g0 := by kernel_rfl
  m0 := by kernel_rfl
  g1 := by kernel_rfl
  m1 := by kernel_rfl
  g2 := by kernel_rfl
  m2 := by kernel_rfl
  g3 := by kernel_rfl
  m3 := by kernel_rfl
  g4 := by kernel_rfl
  m4 := by kernel_rfl }
open Go.RowKit in
/-- strconv.ParseUint(s, 10, 64), AT EVERY STRING THAT SPELLS A uint64 ('Lib.parseUintB 64 s.data.toList = .ok u'): u, AND NO ERROR. (LAID: no walk: one application.) -/
theorem Tryz.strconv_ParseUint_10_at64_ok (s : ByteArray) (hmax : s.size ≤ 9223372036854775806) (u : Nat) (h : Lib.parseUintB 64 s.data.toList = .ok u) (w : World) :
    Calls Tryz.prog 141 #[.string s, .int .i64 10, .int .i64 64] w fun e w' => e = .returned (.tuple #[.int .u64 u, .nilIface]) ∧ (w' = w ∨ w' = Lib.bytesWorld w 5 s) := Any.strconv_ParseUint_10_at64_ok Tryz.laysPu14 s hmax u h w
open Go.RowKit in
/-- strconv.ParseUint(s, 10, 64), AT EVERY STRING THAT IS NO ROW OF DECIMAL DIGITS (a sign is a fault): 0, AND AN ERROR THAT IS NOT nil: a *NumError in a new block N: {Func: "ParseUint", Num: s's bytes, Err: what the variable ErrSyntax holds}. Of what was there nothing has turned. (LAID: no walk: one application.) -/
theorem Tryz.strconv_ParseUint_10_at64_syntax (s : ByteArray) (hlim : s.size ≤ 281474976710656) (h : Lib.parseUintB 64 s.data.toList = Lib.parseUintB 64 []) (ev : Value) (w : World) (hv : w.cell? ⟨5, 0, none⟩ = some ev) (hev : ev = .nilIface ∨ ∃ te pe, ev = .iface te pe) :
    Calls Tryz.prog 141 #[.string s, .int .i64 10, .int .i64 64] w fun e w' => ∃ N, e = .returned (.tuple #[.int .u64 0, .iface 179 (.pointer (some ⟨N, 0, none⟩))]) ∧ w.heap.size ≤ N ∧ w'.heap[N]? = some (.cells #[.string ⟨#[80, 97, 114, 115, 101, 85, 105, 110, 116]⟩, .string s, ev] 196 (0, 0)) ∧ Below w.heap.size w w' := Any.strconv_ParseUint_10_at64_syntax Tryz.laysPu14 s hlim h ev w hv hev
open Go.RowKit in
/-- strconv.ParseUint(s, 10, 64), AT EVERY NUMERAL THAT NO uint64 HOLDS: THE GREATEST uint64, AND AN ERROR THAT IS NOT nil: a *NumError in a new block N: {Func: "ParseUint", Num: s's bytes, Err: what the variable ErrRange holds}. Of what was there nothing has turned. (LAID: no walk: one application.) -/
theorem Tryz.strconv_ParseUint_10_at64_range (s : ByteArray) (hlim : s.size ≤ 281474976710656) (h : Lib.parseUintB 64 s.data.toList = .range) (ev : Value) (w : World) (hv : w.cell? ⟨6, 0, none⟩ = some ev) (hev : ev = .nilIface ∨ ∃ te pe, ev = .iface te pe) :
    Calls Tryz.prog 141 #[.string s, .int .i64 10, .int .i64 64] w fun e w' => ∃ N, e = .returned (.tuple #[.int .u64 18446744073709551615, .iface 179 (.pointer (some ⟨N, 0, none⟩))]) ∧ w.heap.size ≤ N ∧ w'.heap[N]? = some (.cells #[.string ⟨#[80, 97, 114, 115, 101, 85, 105, 110, 116]⟩, .string s, ev] 196 (0, 0)) ∧ Below w.heap.size w w' := Any.strconv_ParseUint_10_at64_range Tryz.laysPu14 s hlim h ev w hv hev
def Tryz.lays219_ren : Go.Shelf.Ren := ⟨fun | 219 => 136 | 217 => 130 | 225 => 140 | 224 => 139 | 267 => 163 | 266 => 157 | 314 => 179 | n => n, fun | 9 => 9 | 3 => 3 | 4 => 4 | 5 => 5 | 46 => 139 | 146 => 182 | 51 => 93 | n => n, fun | 1 => 2 | n => n⟩
theorem Tryz.lays219 : Go.Proofs.Lays.n219 Tryz.prog Tryz.lays219_ren := {
  mixed := by kernel_rfl
  f217 := Tryz.func130.trans (congrArg some (by kernel_rfl))
  f219 := Tryz.func136.trans (congrArg some (by kernel_rfl))
  f224 := Tryz.func139.trans (congrArg some (by kernel_rfl))
  f225 := Tryz.func140.trans (congrArg some (by kernel_rfl))
  f266 := Tryz.func157.trans (congrArg some (by kernel_rfl))
  f267 := Tryz.func163.trans (congrArg some (by kernel_rfl))
  f314 := Tryz.func179.trans (congrArg some (by kernel_rfl))
  t3 := Tryz.underlying3
  a3 := Tryz.isAgg3
  z3 := Tryz.sizeOf3
  v3 := Tryz.zeroValue3
  t4 := Tryz.underlying4
  a4 := Tryz.isAgg4
  z4 := Tryz.sizeOf4
  v4 := Tryz.zeroValue4
  t5 := Tryz.underlying5
  a5 := Tryz.isAgg5
  z5 := Tryz.sizeOf5
  v5 := Tryz.zeroValue5
  t9 := Tryz.underlying9
  a9 := Tryz.isAgg9
  z9 := Tryz.sizeOf9
  v9 := Tryz.zeroValue9
  t46 := Tryz.underlying139
  a46 := Tryz.isAgg139
  z46 := Tryz.sizeOf139
  v46 := Tryz.zeroValue139
  t51 := Tryz.underlying93
  a51 := Tryz.isAgg93
  z51 := Tryz.sizeOf93
  v51 := Tryz.zeroValue93
  t146 := Tryz.underlying182
  a146 := Tryz.isAgg182
  z146 := Tryz.sizeOf182
  v146 := Tryz.zeroValue182
  g1 := by kernel_rfl }
open Go.RowKit Go.Lib in
/-- internal/stringslite.Index (what strings.Index calls) AT A substr OF ONE BYTE c: IT RETURNS 'Lib.indexByte s c'; the world is as it was. (LAID: no walk: one application.) -/
theorem Tryz.stringslite_Index_one (s : ByteArray) (c : UInt8) (w : World) :
    Calls Tryz.prog 136 #[.string s, .string ⟨#[c]⟩] w fun e w' => e = .returned (.int .i64 (Lib.indexByte s.data.toList c)) ∧ w' = w := Any.stringslite_Index_one Tryz.lays219 s c w
open Go.RowKit Go.Lib in
/-- internal/stringslite.Index (what strings.Index calls) AT A substr OF WHATEVER LENGTH: IT RETURNS 'Lib.index s substr'; the world is as it was. 'm': what internal/bytealg.MaxLen holds: whatever. (LAID: no walk: one application.) -/
theorem Tryz.stringslite_Index (s sub : ByteArray) (m : Int) (w : World) (hs : s.size < 4294967281) (hm : w.cell? ⟨2, 0, none⟩ = some (.int .i64 m)) :
    Calls Tryz.prog 136 #[.string s, .string sub] w fun e w' => e = .returned (.int .i64 (Lib.index s.data.toList sub.data.toList)) ∧ w' = w := Any.stringslite_Index Tryz.lays219 s sub m w hs hm
def Tryz.lays220_ren : Go.Shelf.Ren := ⟨fun | 220 => 111 | 219 => 136 | 217 => 130 | 225 => 140 | 224 => 139 | 267 => 163 | 266 => 157 | 314 => 179 | n => n, fun | 9 => 9 | 4 => 4 | 3 => 3 | 5 => 5 | 46 => 139 | 146 => 182 | 51 => 93 | n => n, fun | 1 => 2 | n => n⟩
theorem Tryz.lays220 : Go.Proofs.Lays.n220 Tryz.prog Tryz.lays220_ren := {
  mixed := by kernel_rfl
  f217 := Tryz.func130.trans (congrArg some (by kernel_rfl))
  f219 := Tryz.func136.trans (congrArg some (by kernel_rfl))
  f220 := Tryz.func111.trans (congrArg some (by kernel_rfl))
  f224 := Tryz.func139.trans (congrArg some (by kernel_rfl))
  f225 := Tryz.func140.trans (congrArg some (by kernel_rfl))
  f266 := Tryz.func157.trans (congrArg some (by kernel_rfl))
  f267 := Tryz.func163.trans (congrArg some (by kernel_rfl))
  f314 := Tryz.func179.trans (congrArg some (by kernel_rfl))
  t3 := Tryz.underlying3
  a3 := Tryz.isAgg3
  z3 := Tryz.sizeOf3
  v3 := Tryz.zeroValue3
  t4 := Tryz.underlying4
  a4 := Tryz.isAgg4
  z4 := Tryz.sizeOf4
  v4 := Tryz.zeroValue4
  t5 := Tryz.underlying5
  a5 := Tryz.isAgg5
  z5 := Tryz.sizeOf5
  v5 := Tryz.zeroValue5
  t9 := Tryz.underlying9
  a9 := Tryz.isAgg9
  z9 := Tryz.sizeOf9
  v9 := Tryz.zeroValue9
  t46 := Tryz.underlying139
  a46 := Tryz.isAgg139
  z46 := Tryz.sizeOf139
  v46 := Tryz.zeroValue139
  t51 := Tryz.underlying93
  a51 := Tryz.isAgg93
  z51 := Tryz.sizeOf93
  v51 := Tryz.zeroValue93
  t146 := Tryz.underlying182
  a146 := Tryz.isAgg182
  z146 := Tryz.sizeOf182
  v146 := Tryz.zeroValue182
  g1 := by kernel_rfl }
open Go.RowKit Go.Lib in
/-- internal/stringslite.Cut (what strings.Cut calls): IT RETURNS 'Lib.cut s sep'; the world is as it was but for the count of draws. (LAID: no walk: one application.) -/
theorem Tryz.stringslite_Cut (s sep : ByteArray) (m : Int) (w : World) (hs : s.size < 4294967281) (hm : w.cell? ⟨2, 0, none⟩ = some (.int .i64 m)) :
    Calls Tryz.prog 111 #[.string s, .string sep] w fun e w' => e = .returned (.tuple #[.string ⟨(Lib.cut s.data.toList sep.data.toList).1.toArray⟩, .string ⟨(Lib.cut s.data.toList sep.data.toList).2.1.toArray⟩, .bool (Lib.cut s.data.toList sep.data.toList).2.2]) ∧ ∃ n, w' = w.drewN n := Any.stringslite_Cut Tryz.lays220 s sep m w hs hm
def Tryz.lays145_ren : Go.Shelf.Ren := ⟨fun | 145 => 91 | 220 => 111 | 219 => 136 | 217 => 130 | 225 => 140 | 224 => 139 | 267 => 163 | 266 => 157 | 314 => 179 | n => n, fun | 9 => 9 | 4 => 4 | 59 => 110 | 3 => 3 | 5 => 5 | 46 => 139 | 146 => 182 | 51 => 93 | n => n, fun | 1 => 2 | n => n⟩
theorem Tryz.lays145 : Go.Proofs.Lays.n145 Tryz.prog Tryz.lays145_ren := {
  mixed := by kernel_rfl
  f145 := Tryz.func91.trans (congrArg some (by kernel_rfl))
  f217 := Tryz.func130.trans (congrArg some (by kernel_rfl))
  f219 := Tryz.func136.trans (congrArg some (by kernel_rfl))
  f220 := Tryz.func111.trans (congrArg some (by kernel_rfl))
  f224 := Tryz.func139.trans (congrArg some (by kernel_rfl))
  f225 := Tryz.func140.trans (congrArg some (by kernel_rfl))
  f266 := Tryz.func157.trans (congrArg some (by kernel_rfl))
  f267 := Tryz.func163.trans (congrArg some (by kernel_rfl))
  f314 := Tryz.func179.trans (congrArg some (by kernel_rfl))
  t3 := Tryz.underlying3
  a3 := Tryz.isAgg3
  z3 := Tryz.sizeOf3
  v3 := Tryz.zeroValue3
  t4 := Tryz.underlying4
  a4 := Tryz.isAgg4
  z4 := Tryz.sizeOf4
  v4 := Tryz.zeroValue4
  t5 := Tryz.underlying5
  a5 := Tryz.isAgg5
  z5 := Tryz.sizeOf5
  v5 := Tryz.zeroValue5
  t9 := Tryz.underlying9
  a9 := Tryz.isAgg9
  z9 := Tryz.sizeOf9
  v9 := Tryz.zeroValue9
  t46 := Tryz.underlying139
  a46 := Tryz.isAgg139
  z46 := Tryz.sizeOf139
  v46 := Tryz.zeroValue139
  t51 := Tryz.underlying93
  a51 := Tryz.isAgg93
  z51 := Tryz.sizeOf93
  v51 := Tryz.zeroValue93
  t59 := Tryz.underlying110
  a59 := Tryz.isAgg110
  z59 := Tryz.sizeOf110
  v59 := Tryz.zeroValue110
  t146 := Tryz.underlying182
  a146 := Tryz.isAgg182
  z146 := Tryz.sizeOf182
  v146 := Tryz.zeroValue182
  g1 := by kernel_rfl }
open Go.RowKit Go.Lib in
/-- strings.Cut: "Cut slices s around the first instance of sep, returning the text before and after sep. The found result reports whether sep appears in s. If sep does not appear in s, cut returns s, "", false.": IT RETURNS 'Lib.cut s sep'; the world is as it was but for the count of draws. (LAID: no walk: one application.) -/
theorem Tryz.strings_Cut (s sep : ByteArray) (m : Int) (w : World) (hs : s.size < 4294967281) (hm : w.cell? ⟨2, 0, none⟩ = some (.int .i64 m)) :
    Calls Tryz.prog 91 #[.string s, .string sep] w fun e w' => e = .returned (.tuple #[.string ⟨(Lib.cut s.data.toList sep.data.toList).1.toArray⟩, .string ⟨(Lib.cut s.data.toList sep.data.toList).2.1.toArray⟩, .bool (Lib.cut s.data.toList sep.data.toList).2.2]) ∧ ∃ n, w' = w.drewN n := Any.strings_Cut Tryz.lays145 s sep m w hs hm
open Go.RowKit in
theorem Tryz.Buffer_WriteString_k (B b : Nat) (bs : List Value) (s : ByteArray) (w : World) (h : Lib.IsBuffer 77 5 B b bs w) (hBw : B ≤ w.heap.size) (h1 : ∀ v ∈ bs, v.oneCell' = true) (hlim : bs.length + s.size ≤ 140737488355328) :
    Calls Tryz.prog 53 #[.pointer (some ⟨b, 0, none⟩), .string s] w fun e w' => e = .returned (.tuple #[.int .i64 s.size, .nilIface]) ∧ Lib.IsBuffer 77 5 B b (bs ++ Lib.byteCells s.data.toList) w' ∧ Below B w w' ∧ Lib.OthersKept 5 (some b) w w' := Any.Buffer_WriteString_k Tryz.laysM178 B b bs s w h hBw h1 hlim
def Tryz.lays197_ren : Go.Shelf.Ren := ⟨fun | 197 => 137 | 260 => 164 | n => n, fun | 9 => 9 | 21 => 21 | 3 => 3 | 4 => 4 | 5 => 5 | 105 => 160 | 119 => 190 | 0 => 0 | 46 => 139 | 139 => 193 | 138 => 192 | n => n, fun | 3 => 3 | 4 => 4 | n => n⟩
theorem Tryz.lays197 : Go.Proofs.Lays.n197 Tryz.prog Tryz.lays197_ren := {
  mixed := by kernel_rfl
  f197 := Tryz.func137.trans (congrArg some (by kernel_rfl))
  f260 := Tryz.func164.trans (congrArg some (by kernel_rfl))
  t0 := Tryz.underlying0
  a0 := Tryz.isAgg0
  z0 := Tryz.sizeOf0
  v0 := Tryz.zeroValue0
  t3 := Tryz.underlying3
  a3 := Tryz.isAgg3
  z3 := Tryz.sizeOf3
  v3 := Tryz.zeroValue3
  t4 := Tryz.underlying4
  a4 := Tryz.isAgg4
  z4 := Tryz.sizeOf4
  v4 := Tryz.zeroValue4
  t5 := Tryz.underlying5
  a5 := Tryz.isAgg5
  z5 := Tryz.sizeOf5
  v5 := Tryz.zeroValue5
  t9 := Tryz.underlying9
  a9 := Tryz.isAgg9
  z9 := Tryz.sizeOf9
  v9 := Tryz.zeroValue9
  t21 := Tryz.underlying21
  a21 := Tryz.isAgg21
  z21 := Tryz.sizeOf21
  v21 := Tryz.zeroValue21
  t46 := Tryz.underlying139
  a46 := Tryz.isAgg139
  z46 := Tryz.sizeOf139
  v46 := Tryz.zeroValue139
  t105 := Tryz.underlying160
  a105 := Tryz.isAgg160
  z105 := Tryz.sizeOf160
  v105 := Tryz.zeroValue160
  t119 := Tryz.underlying190
  a119 := Tryz.isAgg190
  z119 := Tryz.sizeOf190
  t138 := Tryz.underlying192
  a138 := Tryz.isAgg192
  z138 := Tryz.sizeOf192
  v138 := Tryz.zeroValue192
  t139 := Tryz.underlying193
  a139 := Tryz.isAgg193
  z139 := Tryz.sizeOf193
  v139 := Tryz.zeroValue193
  g3 := by kernel_rfl
  g4 := by kernel_rfl }
def Tryz.lays226_ren : Go.Shelf.Ren := ⟨fun | 226 => 114 | n => n, fun | 3 => 3 | 4 => 4 | n => n, fun | n => n⟩
theorem Tryz.lays226 : Go.Proofs.Lays.n226 Tryz.prog Tryz.lays226_ren := {
  mixed := by kernel_rfl
  f226 := Tryz.func114.trans (congrArg some (by kernel_rfl))
  t3 := Tryz.underlying3
  a3 := Tryz.isAgg3
  z3 := Tryz.sizeOf3
  v3 := Tryz.zeroValue3
  t4 := Tryz.underlying4
  a4 := Tryz.isAgg4
  z4 := Tryz.sizeOf4
  v4 := Tryz.zeroValue4 }
open Go.RowKit Go.Lib in
theorem Tryz.strings_shouldUseASCIISet (n : Int) (w : World) :
    Calls Tryz.prog 114 #[.int .i64 n] w fun e w' => e = .returned (.bool (decide (8 < n))) ∧ w' = w := Any.strings_shouldUseASCIISet Tryz.lays226 n w
def Tryz.lays153_ren : Go.Shelf.Ren := ⟨fun | 153 => 93 | 152 => 113 | 226 => 114 | 227 => 115 | 228 => 116 | 137 => 104 | 119 => 138 | 224 => 139 | 225 => 140 | 217 => 130 | 266 => 157 | n => n, fun | 9 => 9 | 3 => 3 | 4 => 4 | 5 => 5 | 21 => 21 | 117 => 135 | 116 => 134 | 0 => 0 | 46 => 139 | 124 => 163 | n => n, fun | n => n⟩
theorem Tryz.lays153 : Go.Proofs.Lays.n153 Tryz.prog Tryz.lays153_ren := {
  mixed := by kernel_rfl
  f119 := Tryz.func138.trans (congrArg some (by kernel_rfl))
  f137 := Tryz.func104.trans (congrArg some (by kernel_rfl))
  f152 := Tryz.func113.trans (congrArg some (by kernel_rfl))
  f153 := Tryz.func93.trans (congrArg some (by kernel_rfl))
  f217 := Tryz.func130.trans (congrArg some (by kernel_rfl))
  f224 := Tryz.func139.trans (congrArg some (by kernel_rfl))
  f225 := Tryz.func140.trans (congrArg some (by kernel_rfl))
  f226 := Tryz.func114.trans (congrArg some (by kernel_rfl))
  f227 := Tryz.func115.trans (congrArg some (by kernel_rfl))
  f228 := Tryz.func116.trans (congrArg some (by kernel_rfl))
  f266 := Tryz.func157.trans (congrArg some (by kernel_rfl))
  t0 := Tryz.underlying0
  a0 := Tryz.isAgg0
  z0 := Tryz.sizeOf0
  v0 := Tryz.zeroValue0
  t3 := Tryz.underlying3
  a3 := Tryz.isAgg3
  z3 := Tryz.sizeOf3
  v3 := Tryz.zeroValue3
  t4 := Tryz.underlying4
  a4 := Tryz.isAgg4
  z4 := Tryz.sizeOf4
  v4 := Tryz.zeroValue4
  t5 := Tryz.underlying5
  a5 := Tryz.isAgg5
  z5 := Tryz.sizeOf5
  v5 := Tryz.zeroValue5
  t9 := Tryz.underlying9
  a9 := Tryz.isAgg9
  z9 := Tryz.sizeOf9
  v9 := Tryz.zeroValue9
  t21 := Tryz.underlying21
  a21 := Tryz.isAgg21
  z21 := Tryz.sizeOf21
  v21 := Tryz.zeroValue21
  t46 := Tryz.underlying139
  a46 := Tryz.isAgg139
  z46 := Tryz.sizeOf139
  v46 := Tryz.zeroValue139
  t116 := Tryz.underlying134
  a116 := Tryz.isAgg134
  z116 := Tryz.sizeOf134
  t117 := Tryz.underlying135
  a117 := Tryz.isAgg135
  z117 := Tryz.sizeOf135
  v117 := Tryz.zeroValue135
  t124 := Tryz.underlying163
  a124 := Tryz.isAgg163
  z124 := Tryz.sizeOf163
  v124 := Tryz.zeroValue163 }
open Go.RowKit Go.Lib in
theorem Tryz.strings_IndexAny_long (hv116 : ∀ w, (zeroValue 134).run Tryz.prog w = .ok (.agg (Array.replicate 256 (.bool false))) w) (s chars : ByteArray) (w : World) (h2 : 2 ≤ chars.size) (h8 : 8 < s.size) (hs : s.size < 4294967281) (hcs : chars.size < 4294967281) (hascii : ∀ (j : Nat) b, chars.data.toList[j]? = some b → b.toNat < 128) :
    Calls Tryz.prog 93 #[.string s, .string chars] w fun e w' => e = .returned (.int .i64 (Lib.indexAny s.data.toList chars.data.toList)) ∧ w' = ((w.alloc (.cells (Lib.setCells chars.data.toList) 134)).alloc (.cells (Lib.setCells chars.data.toList) 134)) := Any.strings_IndexAny_long Tryz.lays153 hv116 (by kernel_rfl) s chars w h2 h8 hs hcs hascii
open Go.RowKit Go.Lib in
/-- strings.IndexAny ON ASCII BYTES: the four roads under one statement. (LAID: no walk: one application.) -/
theorem Tryz.strings_IndexAny (hv116 : ∀ w, (zeroValue 134).run Tryz.prog w = .ok (.agg (Array.replicate 256 (.bool false))) w) (s chars : ByteArray) (w : World) (hs : s.size < 4294967281) (hcs : chars.size < 4294967281) (has : ∀ (j : Nat) b, s.data.toList[j]? = some b → b.toNat < 128) (hac : ∀ (j : Nat) b, chars.data.toList[j]? = some b → b.toNat < 128) :
    Calls Tryz.prog 93 #[.string s, .string chars] w fun e w' => e = .returned (.int .i64 (Lib.indexAny s.data.toList chars.data.toList)) ∧ Below w.heap.size w w' := Any.strings_IndexAny Tryz.lays153 hv116 (by kernel_rfl) s chars w hs hcs has hac
def Tryz.lays150_ren : Go.Shelf.Ren := ⟨fun | 150 => 63 | 153 => 93 | 152 => 113 | 226 => 114 | 227 => 115 | 228 => 116 | 137 => 104 | 119 => 138 | 224 => 139 | 225 => 140 | 217 => 130 | 266 => 157 | n => n, fun | 9 => 9 | 4 => 4 | 3 => 3 | 5 => 5 | 21 => 21 | 117 => 135 | 116 => 134 | 0 => 0 | 46 => 139 | 124 => 163 | n => n, fun | n => n⟩
theorem Tryz.lays150 : Go.Proofs.Lays.n150 Tryz.prog Tryz.lays150_ren := {
  mixed := by kernel_rfl
  f119 := Tryz.func138.trans (congrArg some (by kernel_rfl))
  f137 := Tryz.func104.trans (congrArg some (by kernel_rfl))
  f150 := Tryz.func63.trans (congrArg some (by kernel_rfl))
  f152 := Tryz.func113.trans (congrArg some (by kernel_rfl))
  f153 := Tryz.func93.trans (congrArg some (by kernel_rfl))
  f217 := Tryz.func130.trans (congrArg some (by kernel_rfl))
  f224 := Tryz.func139.trans (congrArg some (by kernel_rfl))
  f225 := Tryz.func140.trans (congrArg some (by kernel_rfl))
  f226 := Tryz.func114.trans (congrArg some (by kernel_rfl))
  f227 := Tryz.func115.trans (congrArg some (by kernel_rfl))
  f228 := Tryz.func116.trans (congrArg some (by kernel_rfl))
  f266 := Tryz.func157.trans (congrArg some (by kernel_rfl))
  t0 := Tryz.underlying0
  a0 := Tryz.isAgg0
  z0 := Tryz.sizeOf0
  v0 := Tryz.zeroValue0
  t3 := Tryz.underlying3
  a3 := Tryz.isAgg3
  z3 := Tryz.sizeOf3
  v3 := Tryz.zeroValue3
  t4 := Tryz.underlying4
  a4 := Tryz.isAgg4
  z4 := Tryz.sizeOf4
  v4 := Tryz.zeroValue4
  t5 := Tryz.underlying5
  a5 := Tryz.isAgg5
  z5 := Tryz.sizeOf5
  v5 := Tryz.zeroValue5
  t9 := Tryz.underlying9
  a9 := Tryz.isAgg9
  z9 := Tryz.sizeOf9
  v9 := Tryz.zeroValue9
  t21 := Tryz.underlying21
  a21 := Tryz.isAgg21
  z21 := Tryz.sizeOf21
  v21 := Tryz.zeroValue21
  t46 := Tryz.underlying139
  a46 := Tryz.isAgg139
  z46 := Tryz.sizeOf139
  v46 := Tryz.zeroValue139
  t116 := Tryz.underlying134
  a116 := Tryz.isAgg134
  z116 := Tryz.sizeOf134
  t117 := Tryz.underlying135
  a117 := Tryz.isAgg135
  z117 := Tryz.sizeOf135
  v117 := Tryz.zeroValue135
  t124 := Tryz.underlying163
  a124 := Tryz.isAgg163
  z124 := Tryz.sizeOf163
  v124 := Tryz.zeroValue163 }
open Go.RowKit Go.Lib in
/-- strings.ContainsAny ON ASCII BYTES. (LAID: no walk: one application.) -/
theorem Tryz.strings_ContainsAny (hv116 : ∀ w, (zeroValue 134).run Tryz.prog w = .ok (.agg (Array.replicate 256 (.bool false))) w) (s chars : ByteArray) (w : World) (hs : s.size < 4294967281) (hcs : chars.size < 4294967281) (has : ∀ (j : Nat) b, s.data.toList[j]? = some b → b.toNat < 128) (hac : ∀ (j : Nat) b, chars.data.toList[j]? = some b → b.toNat < 128) :
    Calls Tryz.prog 63 #[.string s, .string chars] w fun e w' => e = .returned (.bool (Lib.containsAny s.data.toList chars.data.toList)) ∧ Below w.heap.size w w' := Any.strings_ContainsAny Tryz.lays150 hv116 (by kernel_rfl) s chars w hs hcs has hac
def Tryz.lays105_ren : Go.Shelf.Ren := ⟨fun | 105 => 121 | 212 => 145 | 99 => 146 | 165 => 147 | 166 => 148 | 170 => 149 | 169 => 126 | 263 => 171 | 264 => 172 | 206 => 166 | 240 => 151 | 241 => 173 | 276 => 174 | 277 => 184 | n => n, fun | 9 => 9 | 3 => 3 | 4 => 4 | 20 => 20 | 0 => 0 | 46 => 139 | 109 => 167 | 5 => 5 | 72 => 149 | 76 => 80 | 51 => 93 | 146 => 182 | 53 => 118 | 148 => 184 | 70 => 147 | 37 => 27 | 75 => 79 | 127 => 170 | 164 => 186 | 80 => 151 | n => n, fun | n => n⟩
theorem Tryz.lays105 : Go.Proofs.Lays.n105 Tryz.prog Tryz.lays105_ren := {
  mixed := by kernel_rfl
  f99 := Tryz.func146.trans (congrArg some (by kernel_rfl))
  f105 := Tryz.func121.trans (congrArg some (by kernel_rfl))
  f165 := Tryz.func147.trans (congrArg some (by kernel_rfl))
  f166 := Tryz.func148.trans (congrArg some (by kernel_rfl))
  f169 := Tryz.func126.trans (congrArg some (by kernel_rfl))
  f170 := Tryz.func149.trans (congrArg some (by kernel_rfl))
  f206 := Tryz.func166.trans (congrArg some (by kernel_rfl))
  f212 := Tryz.func145.trans (congrArg some (by kernel_rfl))
  f240 := Tryz.func151.trans (congrArg some (by kernel_rfl))
  f241 := Tryz.func173.trans (congrArg some (by kernel_rfl))
  f263 := Tryz.func171.trans (congrArg some (by kernel_rfl))
  f264 := Tryz.func172.trans (congrArg some (by kernel_rfl))
  f276 := Tryz.func174.trans (congrArg some (by kernel_rfl))
  f277 := Tryz.func184.trans (congrArg some (by kernel_rfl))
  t0 := Tryz.underlying0
  a0 := Tryz.isAgg0
  z0 := Tryz.sizeOf0
  v0 := Tryz.zeroValue0
  t3 := Tryz.underlying3
  a3 := Tryz.isAgg3
  z3 := Tryz.sizeOf3
  v3 := Tryz.zeroValue3
  t4 := Tryz.underlying4
  a4 := Tryz.isAgg4
  z4 := Tryz.sizeOf4
  v4 := Tryz.zeroValue4
  t5 := Tryz.underlying5
  a5 := Tryz.isAgg5
  z5 := Tryz.sizeOf5
  v5 := Tryz.zeroValue5
  t9 := Tryz.underlying9
  a9 := Tryz.isAgg9
  z9 := Tryz.sizeOf9
  v9 := Tryz.zeroValue9
  t20 := Tryz.underlying20
  a20 := Tryz.isAgg20
  z20 := Tryz.sizeOf20
  v20 := Tryz.zeroValue20
  t37 := Tryz.underlying27
  a37 := Tryz.isAgg27
  z37 := Tryz.sizeOf27
  v37 := Tryz.zeroValue27
  t46 := Tryz.underlying139
  a46 := Tryz.isAgg139
  z46 := Tryz.sizeOf139
  v46 := Tryz.zeroValue139
  t51 := Tryz.underlying93
  a51 := Tryz.isAgg93
  z51 := Tryz.sizeOf93
  v51 := Tryz.zeroValue93
  t53 := Tryz.underlying118
  a53 := Tryz.isAgg118
  z53 := Tryz.sizeOf118
  v53 := Tryz.zeroValue118
  t70 := Tryz.underlying147
  a70 := Tryz.isAgg147
  z70 := Tryz.sizeOf147
  v70 := Tryz.zeroValue147
  t72 := Tryz.underlying149
  a72 := Tryz.isAgg149
  z72 := Tryz.sizeOf149
  v72 := Tryz.zeroValue149
  t75 := Tryz.underlying79
  a75 := Tryz.isAgg79
  z75 := Tryz.sizeOf79
  v75 := Tryz.zeroValue79
  t76 := Tryz.underlying80
  a76 := Tryz.isAgg80
  z76 := Tryz.sizeOf80
  v76 := Tryz.zeroValue80
  t109 := Tryz.underlying167
  a109 := Tryz.isAgg167
  z109 := Tryz.sizeOf167
  v109 := Tryz.zeroValue167
  t127 := Tryz.underlying170
  a127 := Tryz.isAgg170
  z127 := Tryz.sizeOf170
  v127 := Tryz.zeroValue170
  t146 := Tryz.underlying182
  a146 := Tryz.isAgg182
  z146 := Tryz.sizeOf182
  v146 := Tryz.zeroValue182
  t148 := Tryz.underlying184
  a148 := Tryz.isAgg184
  z148 := Tryz.sizeOf184
  v148 := Tryz.zeroValue184
  t164 := Tryz.underlying186
  a164 := Tryz.isAgg186
  z164 := Tryz.sizeOf186
  v164 := Tryz.zeroValue186 }
theorem Tryz.Builder_Extra_105 : Builder.Extra Tryz.prog Tryz.lays105_ren := {
  sizeBuilder := by kernel_rfl
  liesBuilder := by kernel_rfl
  t5 := Tryz.underlying5
  a5 := Tryz.isAgg5
  z5 := Tryz.sizeOf5
  v5 := Tryz.zeroValue5
  infoByte := by kernel_rfl
  cellsByte := by kernel_rfl
  sizeByte := by kernel_rfl
  neB5 := by decide }
open Go.RowKit Go.Lib in
/-- **strings.Repeat: count ≥ 0, the result within one allocation: count copies of s.** (LAID: no walk: one application.) -/
theorem Tryz.strings_Repeat (s : ByteArray) (c : Nat) (w : World) (hc : c ≤ 9223372036854775807) (hlen : s.size * c ≤ 140737488355328) :
    Calls Tryz.prog 121 #[.string s, .int .i64 c] w fun e w' => e = .returned (.string ⟨(Lib.repeatL s.data.toList c).toArray⟩) ∧ Below w.heap.size w w' := Any.strings_Repeat Tryz.lays105 Tryz.Builder_Extra_105 s c w hc hlen
def Tryz.lays260_ren : Go.Shelf.Ren := ⟨fun | 260 => 164 | n => n, fun | 9 => 9 | 21 => 21 | 3 => 3 | 4 => 4 | 5 => 5 | 119 => 190 | 0 => 0 | 46 => 139 | 139 => 193 | 138 => 192 | n => n, fun | 3 => 3 | 4 => 4 | n => n⟩
theorem Tryz.lays260 : Go.Proofs.Lays.n260 Tryz.prog Tryz.lays260_ren := {
  mixed := by kernel_rfl
  f260 := Tryz.func164.trans (congrArg some (by kernel_rfl))
  t0 := Tryz.underlying0
  a0 := Tryz.isAgg0
  z0 := Tryz.sizeOf0
  v0 := Tryz.zeroValue0
  t3 := Tryz.underlying3
  a3 := Tryz.isAgg3
  z3 := Tryz.sizeOf3
  v3 := Tryz.zeroValue3
  t4 := Tryz.underlying4
  a4 := Tryz.isAgg4
  z4 := Tryz.sizeOf4
  v4 := Tryz.zeroValue4
  t5 := Tryz.underlying5
  a5 := Tryz.isAgg5
  z5 := Tryz.sizeOf5
  v5 := Tryz.zeroValue5
  t9 := Tryz.underlying9
  a9 := Tryz.isAgg9
  z9 := Tryz.sizeOf9
  v9 := Tryz.zeroValue9
  t21 := Tryz.underlying21
  a21 := Tryz.isAgg21
  z21 := Tryz.sizeOf21
  v21 := Tryz.zeroValue21
  t46 := Tryz.underlying139
  a46 := Tryz.isAgg139
  z46 := Tryz.sizeOf139
  v46 := Tryz.zeroValue139
  t119 := Tryz.underlying190
  a119 := Tryz.isAgg190
  z119 := Tryz.sizeOf190
  t138 := Tryz.underlying192
  a138 := Tryz.isAgg192
  z138 := Tryz.sizeOf192
  v138 := Tryz.zeroValue192
  t139 := Tryz.underlying193
  a139 := Tryz.isAgg193
  z139 := Tryz.sizeOf193
  v139 := Tryz.zeroValue193
  g3 := by kernel_rfl
  g4 := by kernel_rfl }
open Go.RowKit Go.Lib in
/-- **unicode/utf8.DecodeRuneInString AT EVERY STRING.** (LAID: no walk: one application.) -/
theorem Tryz.utf8_DecodeRuneInString (s : ByteArray) (w : World) (hT : Lib.Utf8Tabs 3 4 w) :
    Calls Tryz.prog 137 #[.string s] w fun e w' => e = .returned (.tuple #[.int .i32 (Lib.decodeGo s).1, .int .i64 (Lib.decodeGo s).2]) ∧ Below w.heap.size w w' := Any.utf8_DecodeRuneInString Tryz.lays197 s w hT
end Go.Proofs


/- What the rows of a seat with laid tables and sentinels share: the tables, the witness. -/
set_option linter.unusedVariables false
set_option linter.unusedSimpArgs false
namespace Go.Proofs.YtilbahgfjfcikaaGreatDoor.row
open Go Go.ChangeShapes Go.WideShapes Go.ChangeAt Go.RowKit Go.Proofs Go.Shelf Go.Proofs.YtilbahgfjfcikaaGreatDoor.Eng Go.Proofs.YtilbahgfjfcikaaGreatDoor.Eng.Rdv

theorem own : ownKnob Tryz.prog.godebug = none := by kernel_rfl
theorem laidOut : laidOutB Tryz.prog = true := by kernel_rfl
section
variable {H : Type} {enc : TypeId × Value → H} {P : Program} {w : World} {base : Nat} {sp : Nat → Bool} {held : Bool}
theorem arr_len {fuel : Nat} {t e : TypeId} {n : Nat} {cs : List Value} {d : DataW H} {p : List MemPlace} (ht : P.underlying t = some (.array n e)) (h : DataW.trod enc P w base sp held fuel t cs = some (d, p)) : cs.length = P.cellsOf t := by
  cases fuel with
  | zero => simp [DataW.trod] at h
  | succ fuel =>
    simp only [DataW.trod, ht] at h
    split at h
    · assumption
    · cases h
theorem iface_only {fuel : Nat} {t : TypeId} {ms : Array (String × TypeId)} {cs : List Value} {nm : String} {d : DataW H} {p : List MemPlace} (ht : P.underlying t = some (.interface ms)) (h : DataW.trod enc P w base sp held fuel t cs = some (.iface nm d, p)) : ∃ u v, cs = [.iface u v] := by
  cases fuel with
  | zero => simp [DataW.trod] at h
  | succ fuel =>
    simp only [DataW.trod, ht] at h
    split at h <;> first | exact ⟨_, _, rfl⟩ | (cases h; done) | simp_all
end
theorem add0 (g j : Nat) : (⟨g, 0, none⟩ : Addr).add j = ⟨g, j, none⟩ := by rw [add_lit', Nat.zero_add]
/-- A variable of so many leaves, cell by cell. -/
theorem glob_one {W : World} {g : Nat} {arr : Array Value} {name : String} (hn : Tryz.prog.globalNamed name = some g) (hv : W.var? Tryz.prog name = some arr) (cs : List AV) (f : Nat → Value) (hl : arr.size = cs.length) (hleaf : ∀ (j : Nat) (c : AV), cs[j]? = some c → c.leaf = true ∧ arr[j]? = some (f j) ∧ V (stab W) c (f j)) :
    V (stab W) (.eptr cs 0) (.pointer (some ⟨g, 0, none⟩)) ∧ ∃ arr t f, W.heap[g]? = some (.cells arr t f) ∧ arr.size = cs.length := by
  refine ⟨?_, ?_⟩
  · have := V.eptr (S := stab W) cs 0 ⟨g, 0, none⟩ f (fun j c h => (hleaf j c h).1) (fun j c h => by
      rw [add0]
      show W.cell? ⟨g, j, none⟩ = _
      rw [World.var?_cell hn hv j]
      exact (hleaf j c h).2.1) (fun j c h => (hleaf j c h).2.2)
    rwa [add0] at this
  · unfold World.var? at hv
    rw [hn, Option.bind_some] at hv
    split at hv
    · rename_i cs' t f' he
      obtain rfl := Option.some.inj hv
      exact ⟨_, _, _, he, hl⟩
    · cases hv
theorem ints_one {W : World} {g : Nat} {name : String} {k : IntKind} {zs : List Int} (hn : Tryz.prog.globalNamed name = some g) (hv : W.var? Tryz.prog name = some (zs.map fun z => Value.int k z).toArray) :
    V (stab W) (.eptr (zs.map fun z => .int k z) 0) (.pointer (some ⟨g, 0, none⟩)) ∧ ∃ arr t f, W.heap[g]? = some (.cells arr t f) ∧ arr.size = (zs.map fun z => AV.int k z).length := by
  refine glob_one hn hv _ (fun j => .int k (zs.getD j 0)) (by simp) fun j c hc => ?_
  rw [List.getElem?_map] at hc
  obtain ⟨z, hz, rfl⟩ := Option.map_eq_some_iff.1 hc
  refine ⟨rfl, ?_, ?_⟩
  · simp [List.getD_eq_getElem?_getD, hz]
  · rw [List.getD_eq_getElem?_getD, hz]; exact V.int _ _
theorem iface_one {W : World} {g : Nat} {name : String} {nm : String} {d : DataW Unit} {t : TypeId} {ms : Array (String × TypeId)} (hn : Tryz.prog.globalNamed name = some g) (hy : (Tryz.prog.globals[g]?).map (·.type) = some t) (hi : Tryz.prog.underlying t = some (.interface ms)) (h : Lib.VarReads Tryz.prog W name (.iface nm d)) :
    V (stab W) (.eptr [.ifc] 0) (.pointer (some ⟨g, 0, none⟩)) ∧ ∃ arr t f, W.heap[g]? = some (.cells arr t f) ∧ arr.size = [AV.ifc].length := by
  obtain ⟨g', t', cs, fuel, p, hg, hty, hvar, hd⟩ := h
  obtain rfl := Option.some.inj (hn.symm.trans hg)
  obtain rfl := Option.some.inj (hy.symm.trans hty)
  obtain ⟨u, v, e⟩ := iface_only hi hd
  obtain ⟨cs⟩ := cs
  obtain rfl : cs = [.iface u v] := e
  refine glob_one hn hvar _ (fun _ => .iface u v) rfl fun j c hc => ?_
  match j with
  | 0 => cases hc; exact ⟨rfl, rfl, V.ifc _ _⟩
  | j + 1 => simp at hc
theorem tab_var {W : World} {g : Nat} {name : String} {k : IntKind} {zs : List Int} {t e : TypeId} {n : Nat} (hn : Tryz.prog.globalNamed name = some g) (hy : (Tryz.prog.globals[g]?).map (·.type) = some t) (ht : Tryz.prog.underlying t = some (.array n e)) (he : Tryz.prog.underlying e = some (.int k)) (hce : Tryz.prog.cellsOf e = 1) (hct : Tryz.prog.cellsOf t = n) (h : Lib.VarReads Tryz.prog W name (Lib.tabData k zs)) : W.var? Tryz.prog name = some (zs.map fun z => Value.int k z).toArray := by
  obtain ⟨g', t', cs, fuel, p, hg, hty, hvar, hd⟩ := h
  obtain rfl := Option.some.inj (hn.symm.trans hg)
  obtain rfl := Option.some.inj (hy.symm.trans hty)
  rw [hvar, ← Lib.cells_of_tab ht he hce hct hd]
/-- What the row's laid variables give. -/
theorem tables {W : World} {l : List (String × DataW Unit)} (hl : l = [("math/bits.deBruijn32tab", Rows.laid_math_bits_deBruijn32tab), ("math/bits.deBruijn64tab", Rows.laid_math_bits_deBruijn64tab), ("internal/strconv.uint64pow10", Rows.laid_internal_strconv_uint64pow10), ("unicode/utf8.acceptRanges", Rows.laid_unicode_utf8_acceptRanges), ("strconv.ErrRange", Rows.laid_strconv_ErrRange), ("strconv.ErrSyntax", Rows.laid_strconv_ErrSyntax), ("unicode/utf8.first", Rows.laid_unicode_utf8_first)]) (h : laidMetH Tryz.prog l W) : GlobOk U.glob (stab W) W := by
  subst hl
  have h' : laidMet Tryz.prog [("math/bits.deBruijn32tab", Rows.laid_math_bits_deBruijn32tab), ("math/bits.deBruijn64tab", Rows.laid_math_bits_deBruijn64tab), ("internal/strconv.uint64pow10", Lib.tabData .u64 Lib.pow10Tab), ("unicode/utf8.acceptRanges", Lib.acceptData), ("strconv.ErrRange", Rows.laid_strconv_ErrRange), ("strconv.ErrSyntax", Rows.laid_strconv_ErrSyntax), ("unicode/utf8.first", Lib.firstData)] W := by
    have e1 : (Rows.laid_unicode_utf8_acceptRanges : DataW Unit) = Lib.acceptData := by kernel_rfl
    have e2 : Rows.laid_unicode_utf8_first = Lib.firstData := by kernel_rfl
    have e3 : (Rows.laid_internal_strconv_uint64pow10 : DataW Unit) = Lib.tabData .u64 Lib.pow10Tab := by kernel_rfl
    rw [← e1, ← e2, ← e3]
    exact h
  have r1 : Lib.VarReads Tryz.prog W "internal/strconv.uint64pow10" (Lib.tabData .u64 Lib.pow10Tab) := Lib.laidMet.reads h' (.tail _ (.tail _ (.head _)))
  have r3 : Lib.VarReads Tryz.prog W "strconv.ErrSyntax" Rows.laid_strconv_ErrSyntax := Lib.laidMet.reads h' (.tail _ (.tail _ (.tail _ (.tail _ (.tail _ (.head _))))))
  have r4 : Lib.VarReads Tryz.prog W "strconv.ErrRange" Rows.laid_strconv_ErrRange := Lib.laidMet.reads h' (.tail _ (.tail _ (.tail _ (.tail _ (.head _)))))
  have r7 : Lib.VarReads Tryz.prog W "unicode/utf8.first" Lib.firstData := Lib.laidMet.reads h' (.tail _ (.tail _ (.tail _ (.tail _ (.tail _ (.tail _ (.head _)))))))
  have r8 : Lib.VarReads Tryz.prog W "unicode/utf8.acceptRanges" Lib.acceptData := Lib.laidMet.reads h' (.tail _ (.tail _ (.tail _ (.head _))))
  have hU : Lib.Utf8Tabs 3 4 W := Go.Proofs.utf8Tabs_of_reads (P := Tryz.prog) (ρ := Tryz.lays260_ren) { Tryz.lays260 with } ⟨by kernel_rfl, by kernel_rfl, by kernel_rfl, by kernel_rfl, by kernel_rfl, by kernel_rfl, by kernel_rfl⟩ r7 r8
  intro g cs hg
  unfold U.glob at hg
  split at hg
  · rename_i h0
    subst h0
    obtain rfl := Option.some.inj hg
    have := ints_one (g := 3) (name := "unicode/utf8.first") (by kernel_rfl) (tab_var (g := 3) (t := 190) (e := 5) (n := 256) (by kernel_rfl) (by kernel_rfl) Tryz.underlying190 Tryz.underlying5 (by kernel_rfl) (by kernel_rfl) r7)
    rw [Lib.firstTab, List.map_map] at this
    exact this
  · split at hg
    · rename_i h0 h1
      subst h1
      obtain rfl := Option.some.inj hg
      obtain ⟨g', t', cs, fuel, p, hgn, hty, hvar, hd⟩ := r8
      obtain rfl := Option.some.inj ((show Tryz.prog.globalNamed "unicode/utf8.acceptRanges" = some 4 by kernel_rfl).symm.trans hgn)
      obtain rfl := Option.some.inj ((show (Tryz.prog.globals[4]?).map (·.type) = some 193 by kernel_rfl).symm.trans hty)
      have hlen := arr_len Tryz.underlying193 hd
      have hsz : Tryz.prog.cellsOf 193 = 32 := by kernel_rfl
      rw [hsz, Array.length_toList] at hlen
      refine glob_one hgn hvar _ (fun i => .int .u8 (((if i % 2 = 0 then Lib.accLo (i / 2) else Lib.accHi (i / 2) : Nat) : Int))) (by simp [hlen]) fun j c hc => ?_
      rw [List.getElem?_map] at hc
      obtain ⟨x, hx, rfl⟩ := Option.map_eq_some_iff.1 hc
      obtain ⟨hj, rfl⟩ := List.getElem?_eq_some_iff.1 hx
      rw [List.length_range] at hj
      rw [List.getElem_range]
      refine ⟨rfl, ?_, V.int _ _⟩
      rw [← World.var?_cell hgn hvar j]
      obtain ⟨h2, h3⟩ := hU.2 (j / 2) (by omega)
      by_cases hm : j % 2 = 0
      · rw [if_pos hm]
        rwa [show 2 * (j / 2) = j from by omega] at h2
      · rw [if_neg hm]
        rwa [show 2 * (j / 2) + 1 = j from by omega] at h3
    · split at hg
      · rename_i h0 h1 h2
        subst h2
        obtain rfl := Option.some.inj hg
        exact ints_one (g := 1) (name := "internal/strconv.uint64pow10") (by kernel_rfl) (tab_var (g := 1) (t := 175) (e := 118) (n := 20) (by kernel_rfl) (by kernel_rfl) Tryz.underlying175 Tryz.underlying118 (by kernel_rfl) (by kernel_rfl) r1)
      · split at hg
        · rename_i h0 h1 h2 h3
          subst h3
          obtain rfl := Option.some.inj hg
          exact iface_one (name := "strconv.ErrSyntax") (by kernel_rfl) (t := 79) (by kernel_rfl) Tryz.underlying79 r3
        · split at hg
          · rename_i h0 h1 h2 h3 h4
            subst h4
            obtain rfl := Option.some.inj hg
            exact iface_one (name := "strconv.ErrRange") (by kernel_rfl) (t := 79) (by kernel_rfl) Tryz.underlying79 r4
          · cases hg
/-- The cells that a datum of numbers is. -/
def litV : DataW Unit → Value
  | .lit (.int k n) => .int k n
  | _ => .nilIface
def rowV : DataW Unit → Array Value
  | .agg l => (l.map litV).toArray
  | _ => #[]
/-- So many blocks has the settled world. -/
noncomputable def low : Nat := (World.holding Tryz.prog default ⟨#[], #[], []⟩).heap.size
/-- The witness: the settled memory with the two errors' texts behind it, the variables holding what their initialisers lay. -/
noncomputable def laidWorld (os : Os) : World :=
  let w0 := World.holding Tryz.prog os ⟨#[.cells #[.string ⟨#[118, 97, 108, 117, 101, 32, 111, 117, 116, 32, 111, 102, 32, 114, 97, 110, 103, 101]⟩] 204, .cells #[.string ⟨#[105, 110, 118, 97, 108, 105, 100, 32, 115, 121, 110, 116, 97, 120]⟩] 204], #[], []⟩
  let put (h : Array Obj) (g : Nat) (cs : Array Value) : Array Obj := h.modify g fun
    | .cells _ t frozen => .cells cs t frozen
    | o => o
  let h1 := put w0.heap 3 (Lib.firstTab.map fun z => Value.int .u8 z).toArray
  let h2 := put h1 4 ((List.range 16).flatMap fun i => [Value.int .u8 (Lib.accLo i), Value.int .u8 (Lib.accHi i)]).toArray
  let h3 := put h2 7 (rowV Rows.laid_math_bits_deBruijn32tab)
  let h4 := put h3 8 (rowV Rows.laid_math_bits_deBruijn64tab)
  let h5 := put h4 1 (rowV Rows.laid_internal_strconv_uint64pow10)
  let h6 := put h5 6 #[.iface 202 (.pointer (some ⟨low, 0, none⟩))]
  let h7 := put h6 5 #[.iface 202 (.pointer (some ⟨low + 1, 0, none⟩))]
  { w0 with heap := h7 }
noncomputable abbrev laidBlocks : List Nat := [7, 8, 1, 4, 6, 5, 3, low, low + 1]
theorem cells_slice (a : Option Addr) (l c : Nat) : (Value.slice a l c).cells.toList = [Value.slice a l c] := rfl
end Go.Proofs.YtilbahgfjfcikaaGreatDoor.row


/- What functions answer, as the engine evaluates their code. Printed by gen2.py. -/
set_option linter.unusedVariables false
namespace Go.Proofs.YtilbahgfjfcikaaGreatDoor.Eng.U
open Go Go.Proofs Go.Proofs.YtilbahgfjfcikaaGreatDoor.Eng
/- oakum/oakumlaw09.ItemWrong -/
/- oakum/oakumlaw09.alive -/
/- oakum/oakumlaw09.many -/
/- oakum/item.Fulls -/
/- oakum/item.Wrong -/
/- oakum/item.Right -/
/- oakum/pax.Right -/
theorem pax_Right_eq {E : Ext} [Core E] (k n : Nat) (a0_0 : ByteArray) (a0_1 : ByteArray) : kp E k (n + 1) pax_Right [(.agg [(.str a0_0), (.str a0_1)])] =
  (bif (!(decide (a0_0 = (str [])))) then (callB (kp E k n utf_Right [(.str a0_0)]) fun vq2 => (bif vq2 then (callB (kp E k n strings_ContainsAny [(.str a0_0), (.str (str [61, 0]))]) fun vq4 => (bif (!vq4) then (callB (kp E k n pax_value [(.str a0_0), (.str a0_1)]) fun vq6 => (some (.bool vq6))) else (some (.bool false)))) else (some (.bool false)))) else (some (.bool false))) := (kp_at (by kernel_rfl)).trans (by kernel_rfl)
/- oakum/pax.Known -/
theorem pax_Known_eq {E : Ext} [Core E] (k n : Nat) (a0 : ByteArray) : kp E k (n + 1) pax_Known [(.str a0)] =
  (bif (decide (a0 = (str [112, 97, 116, 104]))) then (bif (decide (a0 = (str [112, 97, 116, 104]))) then (some (.bool true)) else (some (.bool false))) else (bif (decide (a0 = (str [108, 105, 110, 107, 112, 97, 116, 104]))) then (bif (decide (a0 = (str [108, 105, 110, 107, 112, 97, 116, 104]))) then (some (.bool true)) else (some (.bool false))) else (bif (decide (a0 = (str [117, 110, 97, 109, 101]))) then (bif (decide (a0 = (str [117, 110, 97, 109, 101]))) then (some (.bool true)) else (some (.bool false))) else (bif (decide (a0 = (str [103, 110, 97, 109, 101]))) then (bif (decide (a0 = (str [103, 110, 97, 109, 101]))) then (some (.bool true)) else (some (.bool false))) else (bif (decide (a0 = (str [117, 105, 100]))) then (bif (decide (a0 = (str [117, 105, 100]))) then (some (.bool true)) else (some (.bool false))) else (bif (decide (a0 = (str [103, 105, 100]))) then (bif (decide (a0 = (str [103, 105, 100]))) then (some (.bool true)) else (some (.bool false))) else (bif (decide (a0 = (str [115, 105, 122, 101]))) then (bif (decide (a0 = (str [115, 105, 122, 101]))) then (some (.bool true)) else (some (.bool false))) else (bif (decide (a0 = (str [109, 116, 105, 109, 101]))) then (some (.bool true)) else (some (.bool false)))))))))) := (kp_at (by kernel_rfl)).trans (by kernel_rfl)
/- oakum/over.Apply -/
noncomputable def over_Apply_bd : Code := Tryz.f38.body.getD .skip
noncomputable def over_Apply_L0 (kap : FuncId → List AV → Option AV) (k : Nat) (k0 : Nat) (s13 : List AV) (s14 : Int) (s15 : Int) (b2_0 : Int) (b2_1 : ByteArray) (b2_2 : ByteArray) (b2_3 : Int) (b2_4 : Int) (b2_5 : Int) (b2_6 : Int) (b2_7 : Int) (b2_8 : Int) (b2_9 : ByteArray) (b2_10 : ByteArray) (b2_11 : Int) (b2_12 : Int) (b4_0 : Int) (b4_1 : ByteArray) (b4_2 : ByteArray) (b4_3 : Int) (b4_4 : Int) (b4_5 : Int) (b4_6 : Int) (b4_7 : Int) (b4_8 : Int) (b4_9 : ByteArray) (b4_10 : ByteArray) (b4_11 : Int) (b4_12 : Int) (x66 : List AV) (x68 : List AV) : Option AV :=
  loop (fun fr K => code ((bs E0 k).cfg kap over_Apply) (sel over_Apply_bd [1, 1, 1, 0, 1, 0, 0]) fr K) (canon ((bs E0 k).cfg kap over_Apply) (firstReg (sel over_Apply_bd [1, 1, 1, 0, 1, 0, 0]))) k0 (mkFr 32 [(2, (.loc 2 0)), (4, (.loc 4 0)), (13, (.list 2 s13)), (14, (.int .i64 s14)), (15, (.int .i64 s15))] [(2, (.box [(.int .i64 b2_0), (.str b2_1), (.str b2_2), (.int .i64 b2_3), (.int .i64 b2_4), (.int .i64 b2_5), (.int .i64 b2_6), (.int .i64 b2_7), (.int .i64 b2_8), (.str b2_9), (.str b2_10), (.int .i64 b2_11), (.int .i64 b2_12), (.own 66)])), (4, (.box [(.int .i64 b4_0), (.str b4_1), (.str b4_2), (.int .i64 b4_3), (.int .i64 b4_4), (.int .i64 b4_5), (.int .i64 b4_6), (.int .i64 b4_7), (.int .i64 b4_8), (.str b4_9), (.str b4_10), (.int .i64 b4_11), (.int .i64 b4_12), (.own 68)])), (66, (.row 42 x66 false)), (68, (.row 42 x68 false))]) (plug ((bs E0 k).cfg kap over_Apply) (retK ((bs E0 k).cfg kap over_Apply) [] Tryz.f38 [] some) [.blk 0, .seqR (sel over_Apply_bd [1, 1, 1, 1])])
theorem over_Apply_L0_s (kap : FuncId → List AV → Option AV) (k : Nat) (k0 : Nat) (s13 : List AV) (s14 : Int) (s15 : Int) (b2_0 : Int) (b2_1 : ByteArray) (b2_2 : ByteArray) (b2_3 : Int) (b2_4 : Int) (b2_5 : Int) (b2_6 : Int) (b2_7 : Int) (b2_8 : Int) (b2_9 : ByteArray) (b2_10 : ByteArray) (b2_11 : Int) (b2_12 : Int) (b4_0 : Int) (b4_1 : ByteArray) (b4_2 : ByteArray) (b4_3 : Int) (b4_4 : Int) (b4_5 : Int) (b4_6 : Int) (b4_7 : Int) (b4_8 : Int) (b4_9 : ByteArray) (b4_10 : ByteArray) (b4_11 : Int) (b4_12 : Int) (x66 : List AV) (x68 : List AV) : over_Apply_L0 kap k (k0 + 1) s13 s14 s15 b2_0 b2_1 b2_2 b2_3 b2_4 b2_5 b2_6 b2_7 b2_8 b2_9 b2_10 b2_11 b2_12 b4_0 b4_1 b4_2 b4_3 b4_4 b4_5 b4_6 b4_7 b4_8 b4_9 b4_10 b4_11 b4_12 x66 x68 =
  (bif (decide (s15 < s14)) then (bif ((decide ((0 : Int) ≤ s15)) && (decide (s15 < (((List.length s13) : Nat) : Int)))) then ((s13[(Int.toNat s15)]?).bind fun vy3 => (cellS (AV.cells vy3) 0 fun vs4 => (cellS (AV.cells vy3) 1 fun vs5 => (callB (kap pax_Known [(.str vs4)]) fun vq7 => (bif vq7 then (callX (kap over_say [(.lent [(.int .i64 b2_0), (.str b2_1), (.str b2_2), (.int .i64 b2_3), (.int .i64 b2_4), (.int .i64 b2_5), (.int .i64 b2_6), (.int .i64 b2_7), (.int .i64 b2_8), (.str b2_9), (.str b2_10), (.int .i64 b2_11), (.int .i64 b2_12), .hold]), (.agg [(.str vs4), (.str vs5)])]) fun vb8 vz9 => (nxX vz9 fun vx11 vz10 => (nxI .i64 vx11 fun vn13 vx12 => (nxS vx12 fun vs15 vx14 => (nxS vx14 fun vs17 vx16 => (nxI .i64 vx16 fun vn19 vx18 => (nxI .i64 vx18 fun vn21 vx20 => (nxI .i64 vx20 fun vn23 vx22 => (nxI .i64 vx22 fun vn25 vx24 => (nxI .i64 vx24 fun vn27 vx26 => (nxI .i64 vx26 fun vn29 vx28 => (nxS vx28 fun vs31 vx30 => (nxS vx30 fun vs33 vx32 => (nxI .i64 vx32 fun vn35 vx34 => (nxI .i64 vx34 fun vn37 vx36 => (nxH vx36 fun vx38 => (atNil vx38 (atNil vz10 (callT (some vb8) fun vt39 => (atNil vt39 (over_Apply_L0 kap k k0 s13 s14 (IntKind.wrap .i64 (s15 + (1 : Int))) vn13 vs15 vs17 vn19 vn21 vn23 vn25 vn27 vn29 vs31 vs33 vn35 vn37 b4_0 b4_1 b4_2 b4_3 b4_4 b4_5 b4_6 b4_7 b4_8 b4_9 b4_10 b4_11 b4_12 x66 x68))))))))))))))))))))) else (bif (decide (((List.length x66) + 1) * 32 ≤ 140737488355328) && decide (((List.length x66) + 1) ≤ 9223372036854775807)) then (over_Apply_L0 kap k k0 s13 s14 (IntKind.wrap .i64 (s15 + (1 : Int))) b2_0 b2_1 b2_2 b2_3 b2_4 b2_5 b2_6 b2_7 b2_8 b2_9 b2_10 b2_11 b2_12 b4_0 b4_1 b4_2 b4_3 b4_4 b4_5 b4_6 b4_7 b4_8 b4_9 b4_10 b4_11 b4_12 (x66 ++ [(.agg [(.str vs4), (.str vs5)])]) x68) else none)))))) else none) else (some (.tup [(.agg [(.int .i64 b2_0), (.str b2_1), (.str b2_2), (.int .i64 b2_3), (.int .i64 b2_4), (.int .i64 b2_5), (.int .i64 b2_6), (.int .i64 b2_7), (.int .i64 b2_8), (.str b2_9), (.str b2_10), (.int .i64 b2_11), (.int .i64 b2_12), (.list 2 x66)]), (.int .u8 (0 : Int))]))) := by kernel_rfl
theorem over_Apply_eq {E : Ext} [Core E] (k n : Nat) (a0_0 : Int) (a0_1 : ByteArray) (a0_2 : ByteArray) (a0_3 : Int) (a0_4 : Int) (a0_5 : Int) (a0_6 : Int) (a0_7 : Int) (a0_8 : Int) (a0_9 : ByteArray) (a0_10 : ByteArray) (a0_11 : Int) (a0_12 : Int) (a0_13 : List AV) (a1 : List AV) : kp E k (n + 1) over_Apply [(.agg [(.int .i64 a0_0), (.str a0_1), (.str a0_2), (.int .i64 a0_3), (.int .i64 a0_4), (.int .i64 a0_5), (.int .i64 a0_6), (.int .i64 a0_7), (.int .i64 a0_8), (.str a0_9), (.str a0_10), (.int .i64 a0_11), (.int .i64 a0_12), (.list 2 a0_13)]), (.list 2 a1)] =
  (callB (kp E k n over_Right [(.list 2 a1)]) fun vq2 => (bif (!vq2) then (some (.tup [(.agg [(.int .i64 (0 : Int)), (.str (str [])), (.str (str [])), (.int .i64 (0 : Int)), (.int .i64 (0 : Int)), (.int .i64 (0 : Int)), (.int .i64 (0 : Int)), (.int .i64 (0 : Int)), (.int .i64 (0 : Int)), (.str (str [])), (.str (str [])), (.int .i64 (0 : Int)), (.int .i64 (0 : Int)), (.list 2 [])]), (.int .u8 (15 : Int))])) else (over_Apply_L0 (kp E k n) k k a1 (((List.length a1) : Nat) : Int) (0 : Int) a0_0 a0_1 a0_2 a0_3 a0_4 a0_5 a0_6 a0_7 a0_8 a0_9 a0_10 a0_11 a0_12 (0 : Int) (str []) (str []) (0 : Int) (0 : Int) (0 : Int) (0 : Int) (0 : Int) (0 : Int) (str []) (str []) (0 : Int) (0 : Int) [] []))) := (kp_at (by kernel_rfl)).trans (by kernel_rfl)
/- oakum/item.Told -/
/- strings.HasSuffix -/
/- oakum/item.Flag -/
/- oakum/item.named -/
/- oakum/item.link -/
/- oakum/item.plain -/
/- oakum/item.device -/
/- oakum/item.extra -/
/- oakum/utf.Right -/
theorem utf_Right_eq {E : Ext} [Core E] (k n : Nat) (a0 : ByteArray) : kp E k (n + 1) utf_Right [(.str a0)] =
  (callI .i64 (kp E k n utf_First [(.str a0)]) fun vn2 => (some (.bool (decide (vn2 < (0 : Int)))))) := (kp_at (by kernel_rfl)).trans (by kernel_rfl)
/- oakum/pax.value -/
theorem pax_value_eq {E : Ext} [Core E] (k n : Nat) (a0 : ByteArray) (a1 : ByteArray) : kp E k (n + 1) pax_value [(.str a0), (.str a1)] =
  (callB (kp E k n utf_Right [(.str a1)]) fun vq2 => (bif (!vq2) then (some (.bool false)) else (bif (decide (a1 = (str []))) then (some (.bool true)) else (bif (decide (a0 = (str [112, 97, 116, 104]))) then (bif (decide (a0 = (str [112, 97, 116, 104]))) then (callB (kp E k n pax_clean [(.str a1)]) fun vq4 => (some (.bool vq4))) else (bif (decide (a0 = (str [117, 105, 100]))) then (bif (decide (a0 = (str [117, 105, 100]))) then (callT (kp E k n dec_Number [(.str a1)]) fun vt6 => (tupI .i64 vt6 fun vn7 vt8 => (tupI .u8 vt8 fun vn9 vt10 => (atNil vt10 (some (.bool (decide (vn9 = (0 : Int))))))))) else (bif (decide (a0 = (str [109, 116, 105, 109, 101]))) then (callT (kp E k n dec_Time [(.str a1)]) fun vt12 => (tupG 2 vt12 fun vg13 vt14 => (cellI .i64 vg13 0 fun vn15 => (cellI .i64 vg13 1 fun vn16 => (tupI .u8 vt14 fun vn17 vt18 => (atNil vt18 (some (.bool (decide (vn17 = (0 : Int))))))))))) else (some (.bool true)))) else (bif (decide (a0 = (str [103, 105, 100]))) then (bif (decide (a0 = (str [103, 105, 100]))) then (callT (kp E k n dec_Number [(.str a1)]) fun vt20 => (tupI .i64 vt20 fun vn21 vt22 => (tupI .u8 vt22 fun vn23 vt24 => (atNil vt24 (some (.bool (decide (vn23 = (0 : Int))))))))) else (bif (decide (a0 = (str [109, 116, 105, 109, 101]))) then (callT (kp E k n dec_Time [(.str a1)]) fun vt26 => (tupG 2 vt26 fun vg27 vt28 => (cellI .i64 vg27 0 fun vn29 => (cellI .i64 vg27 1 fun vn30 => (tupI .u8 vt28 fun vn31 vt32 => (atNil vt32 (some (.bool (decide (vn31 = (0 : Int))))))))))) else (some (.bool true)))) else (bif (decide (a0 = (str [115, 105, 122, 101]))) then (callT (kp E k n dec_Number [(.str a1)]) fun vt34 => (tupI .i64 vt34 fun vn35 vt36 => (tupI .u8 vt36 fun vn37 vt38 => (atNil vt38 (some (.bool (decide (vn37 = (0 : Int))))))))) else (bif (decide (a0 = (str [109, 116, 105, 109, 101]))) then (callT (kp E k n dec_Time [(.str a1)]) fun vt40 => (tupG 2 vt40 fun vg41 vt42 => (cellI .i64 vg41 0 fun vn43 => (cellI .i64 vg41 1 fun vn44 => (tupI .u8 vt42 fun vn45 vt46 => (atNil vt46 (some (.bool (decide (vn45 = (0 : Int))))))))))) else (some (.bool true))))))) else (bif (decide (a0 = (str [108, 105, 110, 107, 112, 97, 116, 104]))) then (bif (decide (a0 = (str [108, 105, 110, 107, 112, 97, 116, 104]))) then (callB (kp E k n pax_clean [(.str a1)]) fun vq48 => (some (.bool vq48))) else (bif (decide (a0 = (str [117, 105, 100]))) then (bif (decide (a0 = (str [117, 105, 100]))) then (callT (kp E k n dec_Number [(.str a1)]) fun vt50 => (tupI .i64 vt50 fun vn51 vt52 => (tupI .u8 vt52 fun vn53 vt54 => (atNil vt54 (some (.bool (decide (vn53 = (0 : Int))))))))) else (bif (decide (a0 = (str [109, 116, 105, 109, 101]))) then (callT (kp E k n dec_Time [(.str a1)]) fun vt56 => (tupG 2 vt56 fun vg57 vt58 => (cellI .i64 vg57 0 fun vn59 => (cellI .i64 vg57 1 fun vn60 => (tupI .u8 vt58 fun vn61 vt62 => (atNil vt62 (some (.bool (decide (vn61 = (0 : Int))))))))))) else (some (.bool true)))) else (bif (decide (a0 = (str [103, 105, 100]))) then (bif (decide (a0 = (str [103, 105, 100]))) then (callT (kp E k n dec_Number [(.str a1)]) fun vt64 => (tupI .i64 vt64 fun vn65 vt66 => (tupI .u8 vt66 fun vn67 vt68 => (atNil vt68 (some (.bool (decide (vn67 = (0 : Int))))))))) else (bif (decide (a0 = (str [109, 116, 105, 109, 101]))) then (callT (kp E k n dec_Time [(.str a1)]) fun vt70 => (tupG 2 vt70 fun vg71 vt72 => (cellI .i64 vg71 0 fun vn73 => (cellI .i64 vg71 1 fun vn74 => (tupI .u8 vt72 fun vn75 vt76 => (atNil vt76 (some (.bool (decide (vn75 = (0 : Int))))))))))) else (some (.bool true)))) else (bif (decide (a0 = (str [115, 105, 122, 101]))) then (callT (kp E k n dec_Number [(.str a1)]) fun vt78 => (tupI .i64 vt78 fun vn79 vt80 => (tupI .u8 vt80 fun vn81 vt82 => (atNil vt82 (some (.bool (decide (vn81 = (0 : Int))))))))) else (bif (decide (a0 = (str [109, 116, 105, 109, 101]))) then (callT (kp E k n dec_Time [(.str a1)]) fun vt84 => (tupG 2 vt84 fun vg85 vt86 => (cellI .i64 vg85 0 fun vn87 => (cellI .i64 vg85 1 fun vn88 => (tupI .u8 vt86 fun vn89 vt90 => (atNil vt90 (some (.bool (decide (vn89 = (0 : Int))))))))))) else (some (.bool true))))))) else (bif (decide (a0 = (str [117, 110, 97, 109, 101]))) then (bif (decide (a0 = (str [117, 110, 97, 109, 101]))) then (callB (kp E k n pax_clean [(.str a1)]) fun vq92 => (some (.bool vq92))) else (bif (decide (a0 = (str [117, 105, 100]))) then (bif (decide (a0 = (str [117, 105, 100]))) then (callT (kp E k n dec_Number [(.str a1)]) fun vt94 => (tupI .i64 vt94 fun vn95 vt96 => (tupI .u8 vt96 fun vn97 vt98 => (atNil vt98 (some (.bool (decide (vn97 = (0 : Int))))))))) else (bif (decide (a0 = (str [109, 116, 105, 109, 101]))) then (callT (kp E k n dec_Time [(.str a1)]) fun vt100 => (tupG 2 vt100 fun vg101 vt102 => (cellI .i64 vg101 0 fun vn103 => (cellI .i64 vg101 1 fun vn104 => (tupI .u8 vt102 fun vn105 vt106 => (atNil vt106 (some (.bool (decide (vn105 = (0 : Int))))))))))) else (some (.bool true)))) else (bif (decide (a0 = (str [103, 105, 100]))) then (bif (decide (a0 = (str [103, 105, 100]))) then (callT (kp E k n dec_Number [(.str a1)]) fun vt108 => (tupI .i64 vt108 fun vn109 vt110 => (tupI .u8 vt110 fun vn111 vt112 => (atNil vt112 (some (.bool (decide (vn111 = (0 : Int))))))))) else (bif (decide (a0 = (str [109, 116, 105, 109, 101]))) then (callT (kp E k n dec_Time [(.str a1)]) fun vt114 => (tupG 2 vt114 fun vg115 vt116 => (cellI .i64 vg115 0 fun vn117 => (cellI .i64 vg115 1 fun vn118 => (tupI .u8 vt116 fun vn119 vt120 => (atNil vt120 (some (.bool (decide (vn119 = (0 : Int))))))))))) else (some (.bool true)))) else (bif (decide (a0 = (str [115, 105, 122, 101]))) then (callT (kp E k n dec_Number [(.str a1)]) fun vt122 => (tupI .i64 vt122 fun vn123 vt124 => (tupI .u8 vt124 fun vn125 vt126 => (atNil vt126 (some (.bool (decide (vn125 = (0 : Int))))))))) else (bif (decide (a0 = (str [109, 116, 105, 109, 101]))) then (callT (kp E k n dec_Time [(.str a1)]) fun vt128 => (tupG 2 vt128 fun vg129 vt130 => (cellI .i64 vg129 0 fun vn131 => (cellI .i64 vg129 1 fun vn132 => (tupI .u8 vt130 fun vn133 vt134 => (atNil vt134 (some (.bool (decide (vn133 = (0 : Int))))))))))) else (some (.bool true))))))) else (bif (decide (a0 = (str [103, 110, 97, 109, 101]))) then (callB (kp E k n pax_clean [(.str a1)]) fun vq136 => (some (.bool vq136))) else (bif (decide (a0 = (str [117, 105, 100]))) then (bif (decide (a0 = (str [117, 105, 100]))) then (callT (kp E k n dec_Number [(.str a1)]) fun vt138 => (tupI .i64 vt138 fun vn139 vt140 => (tupI .u8 vt140 fun vn141 vt142 => (atNil vt142 (some (.bool (decide (vn141 = (0 : Int))))))))) else (bif (decide (a0 = (str [109, 116, 105, 109, 101]))) then (callT (kp E k n dec_Time [(.str a1)]) fun vt144 => (tupG 2 vt144 fun vg145 vt146 => (cellI .i64 vg145 0 fun vn147 => (cellI .i64 vg145 1 fun vn148 => (tupI .u8 vt146 fun vn149 vt150 => (atNil vt150 (some (.bool (decide (vn149 = (0 : Int))))))))))) else (some (.bool true)))) else (bif (decide (a0 = (str [103, 105, 100]))) then (bif (decide (a0 = (str [103, 105, 100]))) then (callT (kp E k n dec_Number [(.str a1)]) fun vt152 => (tupI .i64 vt152 fun vn153 vt154 => (tupI .u8 vt154 fun vn155 vt156 => (atNil vt156 (some (.bool (decide (vn155 = (0 : Int))))))))) else (bif (decide (a0 = (str [109, 116, 105, 109, 101]))) then (callT (kp E k n dec_Time [(.str a1)]) fun vt158 => (tupG 2 vt158 fun vg159 vt160 => (cellI .i64 vg159 0 fun vn161 => (cellI .i64 vg159 1 fun vn162 => (tupI .u8 vt160 fun vn163 vt164 => (atNil vt164 (some (.bool (decide (vn163 = (0 : Int))))))))))) else (some (.bool true)))) else (bif (decide (a0 = (str [115, 105, 122, 101]))) then (callT (kp E k n dec_Number [(.str a1)]) fun vt166 => (tupI .i64 vt166 fun vn167 vt168 => (tupI .u8 vt168 fun vn169 vt170 => (atNil vt170 (some (.bool (decide (vn169 = (0 : Int))))))))) else (bif (decide (a0 = (str [109, 116, 105, 109, 101]))) then (callT (kp E k n dec_Time [(.str a1)]) fun vt172 => (tupG 2 vt172 fun vg173 vt174 => (cellI .i64 vg173 0 fun vn175 => (cellI .i64 vg173 1 fun vn176 => (tupI .u8 vt174 fun vn177 vt178 => (atNil vt178 (some (.bool (decide (vn177 = (0 : Int))))))))))) else (some (.bool true))))))))))))) := (kp_at (by kernel_rfl)).trans (by kernel_rfl)
/- oakum/over.Lay -/
noncomputable def over_Lay_bd : Code := Tryz.f73.body.getD .skip
noncomputable def over_Lay_L0 (kap : FuncId → List AV → Option AV) (k : Nat) (k0 : Nat) (s1 : List AV) (s10 : List AV) (s11 : Int) (s12 : Int) (x5 : List AV) : Option AV :=
  loop (fun fr K => code ((bs E0 k).cfg kap over_Lay) (sel over_Lay_bd [1, 1, 0, 1, 0, 0]) fr K) (canon ((bs E0 k).cfg kap over_Lay) (firstReg (sel over_Lay_bd [1, 1, 0, 1, 0, 0]))) k0 (mkFr 31 [(1, (.list 2 s1)), (5, (.own 5)), (10, (.list 2 s10)), (11, (.int .i64 s11)), (12, (.int .i64 s12))] [(5, (.row 42 x5 false))]) (plug ((bs E0 k).cfg kap over_Lay) (retK ((bs E0 k).cfg kap over_Lay) [] Tryz.f73 [] some) [.blk 0, .seqR (sel over_Lay_bd [1, 1, 1])])
noncomputable def over_Lay_L1 (kap : FuncId → List AV → Option AV) (k : Nat) (k1 : Nat) (s20 : List AV) (s21 : Int) (s22 : Int) (x5 : List AV) : Option AV :=
  loop (fun fr K => code ((bs E0 k).cfg kap over_Lay) (sel over_Lay_bd [1, 1, 1, 0, 1, 0, 0]) fr K) (canon ((bs E0 k).cfg kap over_Lay) (firstReg (sel over_Lay_bd [1, 1, 1, 0, 1, 0, 0]))) k1 (mkFr 31 [(5, (.own 5)), (20, (.list 2 s20)), (21, (.int .i64 s21)), (22, (.int .i64 s22))] [(5, (.row 42 x5 false))]) (plug ((bs E0 k).cfg kap over_Lay) (retK ((bs E0 k).cfg kap over_Lay) [] Tryz.f73 [] some) [.blk 2, .seqR (sel over_Lay_bd [1, 1, 1, 1])])
theorem over_Lay_L0_s (kap : FuncId → List AV → Option AV) (k : Nat) (k0 : Nat) (s1 : List AV) (s10 : List AV) (s11 : Int) (s12 : Int) (x5 : List AV) : over_Lay_L0 kap k (k0 + 1) s1 s10 s11 s12 x5 =
  (bif (decide (s12 < s11)) then (bif ((decide ((0 : Int) ≤ s12)) && (decide (s12 < (((List.length s10) : Nat) : Int)))) then ((s10[(Int.toNat s12)]?).bind fun vy1 => (cellS (AV.cells vy1) 0 fun vs2 => (cellS (AV.cells vy1) 1 fun vs3 => (callX (kap over_lay [(.fresh 42 x5), (.agg [(.str vs2), (.str vs3)])]) fun vb4 vz5 => (atNil vz5 (callF 42 (some vb4) fun vw6 => (over_Lay_L0 kap k k0 s1 s10 s11 (IntKind.wrap .i64 (s12 + (1 : Int))) vw6))))))) else none) else (over_Lay_L1 kap k k s1 (((List.length s1) : Nat) : Int) (0 : Int) x5)) := by kernel_rfl
theorem over_Lay_L1_s (kap : FuncId → List AV → Option AV) (k : Nat) (k1 : Nat) (s20 : List AV) (s21 : Int) (s22 : Int) (x5 : List AV) : over_Lay_L1 kap k (k1 + 1) s20 s21 s22 x5 =
  (bif (decide (s22 < s21)) then (bif ((decide ((0 : Int) ≤ s22)) && (decide (s22 < (((List.length s20) : Nat) : Int)))) then ((s20[(Int.toNat s22)]?).bind fun vy7 => (cellS (AV.cells vy7) 0 fun vs8 => (cellS (AV.cells vy7) 1 fun vs9 => (callX (kap over_lay [(.fresh 42 x5), (.agg [(.str vs8), (.str vs9)])]) fun vb10 vz11 => (atNil vz11 (callF 42 (some vb10) fun vw12 => (over_Lay_L1 kap k k1 s20 s21 (IntKind.wrap .i64 (s22 + (1 : Int))) vw12))))))) else none) else (some (.list 2 x5))) := by kernel_rfl
theorem over_Lay_eq {E : Ext} [Core E] (k n : Nat) (a0 : List AV) (a1 : List AV) : kp E k (n + 1) over_Lay [(.list 2 a0), (.list 2 a1)] =
  (over_Lay_L0 (kp E k n) k k a1 a0 (((List.length a0) : Nat) : Int) (0 : Int) []) := (kp_at (by kernel_rfl)).trans (by kernel_rfl)
/- oakum/over.Right -/
noncomputable def over_Right_bd : Code := Tryz.f74.body.getD .skip
noncomputable def over_Right_L0 (kap : FuncId → List AV → Option AV) (k : Nat) (k0 : Nat) (s0 : List AV) (s5 : List AV) (s6 : Int) (s7 : Int) : Option AV :=
  loop (fun fr K => code ((bs E0 k).cfg kap over_Right) (sel over_Right_bd [1, 0, 1, 0, 0]) fr K) (canon ((bs E0 k).cfg kap over_Right) (firstReg (sel over_Right_bd [1, 0, 1, 0, 0]))) k0 (mkFr 36 [(0, (.list 2 s0)), (5, (.list 2 s5)), (6, (.int .i64 s6)), (7, (.int .i64 s7))] []) (plug ((bs E0 k).cfg kap over_Right) (retK ((bs E0 k).cfg kap over_Right) [] Tryz.f74 [] some) [.blk 0, .seqR (sel over_Right_bd [1, 1])])
theorem over_Right_L0_s (kap : FuncId → List AV → Option AV) (k : Nat) (k0 : Nat) (s0 : List AV) (s5 : List AV) (s6 : Int) (s7 : Int) : over_Right_L0 kap k (k0 + 1) s0 s5 s6 s7 =
  (bif (decide (s7 < s6)) then (bif ((decide ((0 : Int) ≤ s7)) && (decide (s7 < (((List.length s5) : Nat) : Int)))) then ((s5[(Int.toNat s7)]?).bind fun vy1 => (cellS (AV.cells vy1) 0 fun vs2 => (cellS (AV.cells vy1) 1 fun vs3 => (bif (decide (vs3 = (str []))) then (some (.bool false)) else (callB (kap pax_Right [(.agg [(.str vs2), (.str vs3)])]) fun vq5 => (bif (!vq5) then (some (.bool false)) else (bif (decide (s7 > (0 : Int))) then (bif ((decide ((0 : Int) ≤ (IntKind.wrap .i64 (s7 - (1 : Int))))) && (decide ((IntKind.wrap .i64 (s7 - (1 : Int))) < (((List.length s0) : Nat) : Int)))) then ((s0[(Int.toNat (IntKind.wrap .i64 (s7 - (1 : Int))))]?).bind fun vy6 => (cellS (AV.cells vy6) 0 fun vs7 => (bif (!(Op.bytesLess (ByteArray.toList vs7) (ByteArray.toList vs2))) then (some (.bool false)) else (over_Right_L0 kap k k0 s0 s5 s6 (IntKind.wrap .i64 (s7 + (1 : Int))))))) else none) else (over_Right_L0 kap k k0 s0 s5 s6 (IntKind.wrap .i64 (s7 + (1 : Int))))))))))) else none) else (some (.bool true))) := by kernel_rfl
theorem over_Right_eq {E : Ext} [Core E] (k n : Nat) (a0 : List AV) : kp E k (n + 1) over_Right [(.list 2 a0)] =
  (over_Right_L0 (kp E k n) k k a0 a0 (((List.length a0) : Nat) : Int) (0 : Int)) := (kp_at (by kernel_rfl)).trans (by kernel_rfl)
/- oakum/over.say -/
theorem over_say_eq {E : Ext} [Core E] (k n : Nat) (a0_0 : Int) (a0_1 : ByteArray) (a0_2 : ByteArray) (a0_3 : Int) (a0_4 : Int) (a0_5 : Int) (a0_6 : Int) (a0_7 : Int) (a0_8 : Int) (a0_9 : ByteArray) (a0_10 : ByteArray) (a0_11 : Int) (a0_12 : Int) (a1_0 : ByteArray) (a1_1 : ByteArray) : kp E k (n + 1) over_say [(.lent [(.int .i64 a0_0), (.str a0_1), (.str a0_2), (.int .i64 a0_3), (.int .i64 a0_4), (.int .i64 a0_5), (.int .i64 a0_6), (.int .i64 a0_7), (.int .i64 a0_8), (.str a0_9), (.str a0_10), (.int .i64 a0_11), (.int .i64 a0_12), .hold]), (.agg [(.str a1_0), (.str a1_1)])] =
  (bif (decide (a1_0 = (str [112, 97, 116, 104]))) then (some (.lback (.tup []) [(.lent [(.int .i64 a0_0), (.str a1_1), (.str a0_2), (.int .i64 a0_3), (.int .i64 a0_4), (.int .i64 a0_5), (.int .i64 a0_6), (.int .i64 a0_7), (.int .i64 a0_8), (.str a0_9), (.str a0_10), (.int .i64 a0_11), (.int .i64 a0_12), .hold])])) else (bif (decide (a1_0 = (str [108, 105, 110, 107, 112, 97, 116, 104]))) then (some (.lback (.tup []) [(.lent [(.int .i64 a0_0), (.str a0_1), (.str a1_1), (.int .i64 a0_3), (.int .i64 a0_4), (.int .i64 a0_5), (.int .i64 a0_6), (.int .i64 a0_7), (.int .i64 a0_8), (.str a0_9), (.str a0_10), (.int .i64 a0_11), (.int .i64 a0_12), .hold])])) else (bif (decide (a1_0 = (str [117, 110, 97, 109, 101]))) then (some (.lback (.tup []) [(.lent [(.int .i64 a0_0), (.str a0_1), (.str a0_2), (.int .i64 a0_3), (.int .i64 a0_4), (.int .i64 a0_5), (.int .i64 a0_6), (.int .i64 a0_7), (.int .i64 a0_8), (.str a1_1), (.str a0_10), (.int .i64 a0_11), (.int .i64 a0_12), .hold])])) else (bif (decide (a1_0 = (str [103, 110, 97, 109, 101]))) then (some (.lback (.tup []) [(.lent [(.int .i64 a0_0), (.str a0_1), (.str a0_2), (.int .i64 a0_3), (.int .i64 a0_4), (.int .i64 a0_5), (.int .i64 a0_6), (.int .i64 a0_7), (.int .i64 a0_8), (.str a0_9), (.str a1_1), (.int .i64 a0_11), (.int .i64 a0_12), .hold])])) else (bif (decide (a1_0 = (str [117, 105, 100]))) then (callT (kp E k n dec_Number [(.str a1_1)]) fun vt2 => (tupI .i64 vt2 fun vn3 vt4 => (tupI .u8 vt4 fun vn5 vt6 => (atNil vt6 (some (.lback (.tup []) [(.lent [(.int .i64 a0_0), (.str a0_1), (.str a0_2), (.int .i64 a0_3), (.int .i64 vn3), (.int .i64 a0_5), (.int .i64 a0_6), (.int .i64 a0_7), (.int .i64 a0_8), (.str a0_9), (.str a0_10), (.int .i64 a0_11), (.int .i64 a0_12), .hold])])))))) else (bif (decide (a1_0 = (str [103, 105, 100]))) then (callT (kp E k n dec_Number [(.str a1_1)]) fun vt8 => (tupI .i64 vt8 fun vn9 vt10 => (tupI .u8 vt10 fun vn11 vt12 => (atNil vt12 (some (.lback (.tup []) [(.lent [(.int .i64 a0_0), (.str a0_1), (.str a0_2), (.int .i64 a0_3), (.int .i64 a0_4), (.int .i64 vn9), (.int .i64 a0_6), (.int .i64 a0_7), (.int .i64 a0_8), (.str a0_9), (.str a0_10), (.int .i64 a0_11), (.int .i64 a0_12), .hold])])))))) else (bif (decide (a1_0 = (str [115, 105, 122, 101]))) then (callT (kp E k n dec_Number [(.str a1_1)]) fun vt14 => (tupI .i64 vt14 fun vn15 vt16 => (tupI .u8 vt16 fun vn17 vt18 => (atNil vt18 (some (.lback (.tup []) [(.lent [(.int .i64 a0_0), (.str a0_1), (.str a0_2), (.int .i64 a0_3), (.int .i64 a0_4), (.int .i64 a0_5), (.int .i64 vn15), (.int .i64 a0_7), (.int .i64 a0_8), (.str a0_9), (.str a0_10), (.int .i64 a0_11), (.int .i64 a0_12), .hold])])))))) else (bif (decide (a1_0 = (str [109, 116, 105, 109, 101]))) then (callT (kp E k n dec_Time [(.str a1_1)]) fun vt20 => (tupG 2 vt20 fun vg21 vt22 => (cellI .i64 vg21 0 fun vn23 => (cellI .i64 vg21 1 fun vn24 => (tupI .u8 vt22 fun vn25 vt26 => (atNil vt26 (some (.lback (.tup []) [(.lent [(.int .i64 a0_0), (.str a0_1), (.str a0_2), (.int .i64 a0_3), (.int .i64 a0_4), (.int .i64 a0_5), (.int .i64 a0_6), (.int .i64 vn23), (.int .i64 vn24), (.str a0_9), (.str a0_10), (.int .i64 a0_11), (.int .i64 a0_12), .hold])])))))))) else (some (.lback (.tup []) [(.lent [(.int .i64 a0_0), (.str a0_1), (.str a0_2), (.int .i64 a0_3), (.int .i64 a0_4), (.int .i64 a0_5), (.int .i64 a0_6), (.int .i64 a0_7), (.int .i64 a0_8), (.str a0_9), (.str a0_10), (.int .i64 a0_11), (.int .i64 a0_12), .hold])])))))))))) := (kp_at (by kernel_rfl)).trans (by kernel_rfl)
/- internal/stringslite.HasSuffix -/
/- oakum/text.Clean -/
/- slices.ContainsFunc[[]oakum/api.Pair,oakum/api.Pair] -/
/- oakum/item.extra$1 -/
/- oakum/utf.First -/
noncomputable def utf_First_bd : Code := Tryz.f92.body.getD .skip
noncomputable def utf_First_L0 (kap : FuncId → List AV → Option AV) (k : Nat) (k0 : Nat) (s0 : ByteArray) (i6s : ByteArray) (i6p : Nat) : Option AV :=
  loop (fun fr K => code ((bs E0 k).cfg kap utf_First) (sel utf_First_bd [1, 0, 1, 0, 0]) fr K) (canon ((bs E0 k).cfg kap utf_First) (firstReg (sel utf_First_bd [1, 0, 1, 0, 0]))) k0 (mkFr 16 [(0, (.str s0)), (6, (.itr 6))] [(6, (.it i6s i6p))]) (plug ((bs E0 k).cfg kap utf_First) (retK ((bs E0 k).cfg kap utf_First) [] Tryz.f92 [] some) [.blk 0, .seqR (sel utf_First_bd [1, 1])])
theorem utf_First_L0_s (kap : FuncId → List AV → Option AV) (k : Nat) (k0 : Nat) (s0 : ByteArray) (i6s : ByteArray) (i6p : Nat) : utf_First_L0 kap k (k0 + 1) s0 i6s i6p =
  (bif (decide (i6p < (ByteArray.size i6s))) then (callB (kap utf_wrong [(.str s0), (.int .i64 ((i6p : Nat) : Int)), (.int .i32 (((Utf8.decode i6s i6p).1 : Nat) : Int))]) fun vq2 => (bif vq2 then (some (.int .i64 ((i6p : Nat) : Int))) else (utf_First_L0 kap k k0 s0 i6s (i6p + (Utf8.decode i6s i6p).2)))) else (some (.int .i64 (-1 : Int)))) := by kernel_rfl
theorem utf_First_eq {E : Ext} [Core E] (k n : Nat) (a0 : ByteArray) : kp E k (n + 1) utf_First [(.str a0)] =
  (utf_First_L0 (kp E k n) k k a0 a0 0) := (kp_at (by kernel_rfl)).trans (by kernel_rfl)
/- oakum/pax.clean -/
theorem pax_clean_eq {E : Ext} [Core E] (k n : Nat) (a0 : ByteArray) : kp E k (n + 1) pax_clean [(.str a0)] =
  (callI .i64 (kp E k n strings_IndexByte [(.str a0), (.int .u8 (0 : Int))]) fun vn2 => (some (.bool (decide (vn2 < (0 : Int)))))) := (kp_at (by kernel_rfl)).trans (by kernel_rfl)
/- oakum/over.lay -/
theorem over_lay_eq {E : Ext} [Core E] (k n : Nat) (a0 : List AV) (a1_0 : ByteArray) (a1_1 : ByteArray) : kp E k (n + 1) over_lay [(.fresh 42 a0), (.agg [(.str a1_0), (.str a1_1)])] =
  (callX (kp E k n over_byKey [(.lrow 42 a0), (.str a1_0)]) fun vb1 vz2 => (nxR 42 vz2 fun vw4 vz3 => (bif List.length vw4 == (List.length a0) then (atNil vz3 (callT (some vb1) fun vt5 => (tupI .i64 vt5 fun vn6 vt7 => (tupB vt7 fun vq8 vt9 => (atNil vt9 (bif (decide (a1_1 = (str []))) then (bif vq8 then (callX (kp E k n slices_Delete_api_Pair [(.fresh 42 vw4), (.int .i64 vn6), (.int .i64 (IntKind.wrap .i64 (vn6 + (1 : Int))))]) fun vb10 vz11 => (atNil vz11 (callF 42 (some vb10) fun vw12 => (some (.lback (.fresh 42 vw12) []))))) else (bif (decide (a1_1 = (str []))) then (some (.lback (.fresh 42 vw4) [])) else (bif vq8 then (bif ((decide ((0 : Int) ≤ vn6)) && (decide (vn6 < (((List.length vw4) : Nat) : Int)))) then ((vw4[(Int.toNat vn6)]?).bind fun vy13 => (bif (decide (0 + 2 ≤ (AV.cells vy13).length) && true) then (some (.lback (.fresh 42 (List.set vw4 (Int.toNat vn6) (mkElem 2 (splice (AV.cells vy13) 0 [(.str a1_0), (.str a1_1)]) vy13))) [])) else none)) else none) else (callX (kp E k n slices_Insert_api_Pair [(.fresh 42 vw4), (.int .i64 vn6), (.fresh 42 [(.agg [(.str a1_0), (.str a1_1)])])]) fun vb14 vz15 => (atNil vz15 (callF 42 (some vb14) fun vw16 => (some (.lback (.fresh 42 vw16) [])))))))) else (bif (decide (a1_1 = (str []))) then (some (.lback (.fresh 42 vw4) [])) else (bif vq8 then (bif ((decide ((0 : Int) ≤ vn6)) && (decide (vn6 < (((List.length vw4) : Nat) : Int)))) then ((vw4[(Int.toNat vn6)]?).bind fun vy17 => (bif (decide (0 + 2 ≤ (AV.cells vy17).length) && true) then (some (.lback (.fresh 42 (List.set vw4 (Int.toNat vn6) (mkElem 2 (splice (AV.cells vy17) 0 [(.str a1_0), (.str a1_1)]) vy17))) [])) else none)) else none) else (callX (kp E k n slices_Insert_api_Pair [(.fresh 42 vw4), (.int .i64 vn6), (.fresh 42 [(.agg [(.str a1_0), (.str a1_1)])])]) fun vb18 vz19 => (atNil vz19 (callF 42 (some vb18) fun vw20 => (some (.lback (.fresh 42 vw20) []))))))))))))) else none))) := (kp_at (by kernel_rfl)).trans (by kernel_rfl)
/- slices.IndexFunc[[]oakum/api.Pair,oakum/api.Pair] -/
/- oakum/utf.wrong -/
theorem utf_wrong_eq {E : Ext} [Core E] (k n : Nat) (a0 : ByteArray) (a1 : Int) (a2 : Int) : kp E k (n + 1) utf_wrong [(.str a0), (.int .i64 a1), (.int .i32 a2)] =
  (bif (!(decide (a2 = (65533 : Int)))) then (some (.bool false)) else (bif ((decide ((0 : Int) ≤ a1)) && (decide (a1 ≤ (((ByteArray.size a0) : Nat) : Int)))) then (callT (kp E k n unicode_utf8_DecodeRuneInString [(.str (ByteArray.extract a0 (Int.toNat a1) (ByteArray.size a0)))]) fun vt2 => (tupI .i32 vt2 fun vn3 vt4 => (tupI .i64 vt4 fun vn5 vt6 => (atNil vt6 (some (.bool (decide (vn5 = (1 : Int))))))))) else none)) := (kp_at (by kernel_rfl)).trans (by kernel_rfl)
/- oakum/over.byKey -/
theorem over_byKey_eq {E : Ext} [Core E] (k n : Nat) (a0 : List AV) (a1 : ByteArray) : kp E k (n + 1) over_byKey [(.lrow 42 a0), (.str a1)] =
  (callX (kp E k n slices_BinarySearchFunc_string [(.lrow 42 a0), (.str a1), (.func (.func over_byKey_1) [] [])]) fun vb1 vz2 => (nxR 42 vz2 fun vw4 vz3 => (bif List.length vw4 == (List.length a0) then (atNil vz3 (callT (some vb1) fun vt5 => (tupI .i64 vt5 fun vn6 vt7 => (tupB vt7 fun vq8 vt9 => (atNil vt9 (some (.lback (.tup [(.int .i64 vn6), (.bool vq8)]) [(.lrow 42 vw4)]))))))) else none))) := (kp_at (by kernel_rfl)).trans (by kernel_rfl)
/- slices.BinarySearchFunc[[]oakum/api.Pair,oakum/api.Pair,string] -/
noncomputable def slices_BinarySearchFunc_string_bd : Code := Tryz.f152.body.getD .skip
noncomputable def slices_BinarySearchFunc_string_L0 (kap : FuncId → List AV → Option AV) (k : Nat) (k0 : Nat) (s1 : ByteArray) (s8 : Int) (s9 : Int) (s10 : Int) (x0 : List AV) : Option AV :=
  loop (fun fr K => code ({ (bs E0 k).cfg kap slices_BinarySearchFunc_string with rs := [0] } : Cfg) (sel slices_BinarySearchFunc_string_bd [1, 1, 1, 0, 0, 0]) fr K) (canon ({ (bs E0 k).cfg kap slices_BinarySearchFunc_string with rs := [0] } : Cfg) (firstReg (sel slices_BinarySearchFunc_string_bd [1, 1, 1, 0, 0, 0]))) k0 (mkFr 49 [(0, (.own 0)), (1, (.str s1)), (2, (.func (.func over_byKey_1) [] [])), (8, (.int .i64 s8)), (9, (.int .i64 s9)), (10, (.int .i64 s10))] [(0, (.row 42 x0 false))]) (plug ({ (bs E0 k).cfg kap slices_BinarySearchFunc_string with rs := [0] } : Cfg) (retK ({ (bs E0 k).cfg kap slices_BinarySearchFunc_string with rs := [0] } : Cfg) [] Tryz.f152 [.lrow 0 [], .junk, .junk] some) [.blk 0, .seqR (sel slices_BinarySearchFunc_string_bd [1, 1, 1, 1])])
theorem slices_BinarySearchFunc_string_L0_s (kap : FuncId → List AV → Option AV) (k : Nat) (k0 : Nat) (s1 : ByteArray) (s8 : Int) (s9 : Int) (s10 : Int) (x0 : List AV) : slices_BinarySearchFunc_string_L0 kap k (k0 + 1) s1 s8 s9 s10 x0 =
  (bif (decide (s9 < s10)) then (bif ((decide ((0 : Int) ≤ (IntKind.wrap .i64 (Int.fdiv (IntKind.wrap .u64 (IntKind.wrap .i64 (s9 + s10))) (2 ^ (min (Int.toNat (1 : Int)) (IntKind.bits .u64))))))) && (decide ((IntKind.wrap .i64 (Int.fdiv (IntKind.wrap .u64 (IntKind.wrap .i64 (s9 + s10))) (2 ^ (min (Int.toNat (1 : Int)) (IntKind.bits .u64))))) < (((List.length x0) : Nat) : Int)))) then ((x0[(Int.toNat (IntKind.wrap .i64 (Int.fdiv (IntKind.wrap .u64 (IntKind.wrap .i64 (s9 + s10))) (2 ^ (min (Int.toNat (1 : Int)) (IntKind.bits .u64))))))]?).bind fun vy1 => (cellS (AV.cells vy1) 0 fun vs2 => (cellS (AV.cells vy1) 1 fun vs3 => (callI .i64 (kap over_byKey_1 [(.agg [(.str vs2), (.str vs3)]), (.str s1)]) fun vn5 => (bif (decide (vn5 < (0 : Int))) then (slices_BinarySearchFunc_string_L0 kap k k0 s1 s8 (IntKind.wrap .i64 ((IntKind.wrap .i64 (Int.fdiv (IntKind.wrap .u64 (IntKind.wrap .i64 (s9 + s10))) (2 ^ (min (Int.toNat (1 : Int)) (IntKind.bits .u64))))) + (1 : Int))) s10 x0) else (slices_BinarySearchFunc_string_L0 kap k k0 s1 s8 s9 (IntKind.wrap .i64 (Int.fdiv (IntKind.wrap .u64 (IntKind.wrap .i64 (s9 + s10))) (2 ^ (min (Int.toNat (1 : Int)) (IntKind.bits .u64))))) x0)))))) else none) else (bif (decide (s9 < s8)) then (bif ((decide ((0 : Int) ≤ s9)) && (decide (s9 < (((List.length x0) : Nat) : Int)))) then ((x0[(Int.toNat s9)]?).bind fun vy6 => (cellS (AV.cells vy6) 0 fun vs7 => (cellS (AV.cells vy6) 1 fun vs8 => (callI .i64 (kap over_byKey_1 [(.agg [(.str vs7), (.str vs8)]), (.str s1)]) fun vn10 => (some (.lback (.tup [(.int .i64 s9), (.bool (decide (vn10 = (0 : Int))))]) [(.lrow 42 x0)])))))) else none) else (some (.lback (.tup [(.int .i64 s9), (.bool false)]) [(.lrow 42 x0)])))) := by kernel_rfl
theorem slices_BinarySearchFunc_string_eq {E : Ext} [Core E] (k n : Nat) (a0 : List AV) (a1 : ByteArray) : kp E k (n + 1) slices_BinarySearchFunc_string [(.lrow 42 a0), (.str a1), (.func (.func over_byKey_1) [] [])] =
  (slices_BinarySearchFunc_string_L0 (kp E k n) k k a1 (((List.length a0) : Nat) : Int) (0 : Int) (((List.length a0) : Nat) : Int) a0) := (kp_at (by kernel_rfl)).trans (by kernel_rfl)
/- oakum/over.byKey$1 -/
theorem over_byKey_1_eq {E : Ext} [Core E] (k n : Nat) (a0_0 : ByteArray) (a0_1 : ByteArray) (a1 : ByteArray) : kp E k (n + 1) over_byKey_1 [(.agg [(.str a0_0), (.str a0_1)]), (.str a1)] =
  (callI .i64 (kp E k n strings_Compare [(.str a0_0), (.str a1)]) fun vn2 => (some (.int .i64 vn2))) := (kp_at (by kernel_rfl)).trans (by kernel_rfl)
/- slices.rotateRight[oakum/api.Pair] -/
/- slices.rotateLeft[oakum/api.Pair] -/
end Go.Proofs.YtilbahgfjfcikaaGreatDoor.Eng.U


/- The program's own data: pairs, times, heads, items: as structures, as abstract values, as a row hands them in. Printed by apigen.py. -/
set_option linter.unusedVariables false
namespace Go.Proofs.YtilbahgfjfcikaaGreatDoor.Eng.U
open Go Go.Proofs Go.Proofs.YtilbahgfjfcikaaGreatDoor.Eng
abbrev Tx := List UInt8
structure Pair where
  key : Tx
  val : Tx
  deriving DecidableEq, Inhabited
structure Time where
  sec : Int
  nano : Int
  deriving DecidableEq, Inhabited
structure Head where
  kind : Int
  name : Tx
  link : Tx
  mode : Int
  uid : Int
  gid : Int
  size : Int
  sec : Int
  nano : Int
  user : Tx
  group : Tx
  major : Int
  minor : Int
  extra : List Pair
  deriving DecidableEq, Inhabited
structure Item where
  head : Head
  data : Tx
  deriving DecidableEq, Inhabited
def bys (l : Tx) : List AV := l.map byteAV
def encPair (p : Pair) : List AV := [.str (str p.key), .str (str p.val)]
def elPair (p : Pair) : AV := .agg (encPair p)
def prs (l : List Pair) : List AV := l.map elPair
def encTime (t : Time) : List AV := [.int .i64 t.sec, .int .i64 t.nano]
def encHead (h : Head) : List AV := [.int .i64 h.kind, .str (str h.name), .str (str h.link), .int .i64 h.mode, .int .i64 h.uid, .int .i64 h.gid, .int .i64 h.size, .int .i64 h.sec, .int .i64 h.nano, .str (str h.user), .str (str h.group), .int .i64 h.major, .int .i64 h.minor, .list 2 (prs h.extra)]
def encItem (x : Item) : List AV := [.int .i64 x.head.kind, .str (str x.head.name), .str (str x.head.link), .int .i64 x.head.mode, .int .i64 x.head.uid, .int .i64 x.head.gid, .int .i64 x.head.size, .int .i64 x.head.sec, .int .i64 x.head.nano, .str (str x.head.user), .str (str x.head.group), .int .i64 x.head.major, .int .i64 x.head.minor, .list 2 (prs x.head.extra), .list 1 (bys x.data)]
def elItem (x : Item) : AV := .agg (encItem x)
def its (l : List Item) : List AV := l.map elItem
theorem bys_len (l : Tx) : (bys l).length = l.length := by simp [bys]
theorem prs_len (l : List Pair) : (prs l).length = l.length := by simp [prs]
theorem cells_pair (p : Pair) : AV.cells (elPair p) = encPair p := (rfl)
section
variable {β : Type}
theorem prs_at (l : List Pair) (i : Nat) (h : i < l.length) (F : AV → Option β) : ((prs l)[i]?).bind F = F (elPair l[i]) := by unfold prs; rw [List.getElem?_map, List.getElem?_eq_getElem h]; rfl
theorem bys_at (l : Tx) (i : Nat) (h : i < l.length) (F : AV → Option β) : ((bys l)[i]?).bind F = F (byteAV l[i]) := by unfold bys; rw [List.getElem?_map, List.getElem?_eq_getElem h]; rfl
theorem prs_mid (a b : List Pair) (x : Pair) (F : AV → Option β) : ((prs (a ++ x :: b))[a.length]?).bind F = F (elPair x) := by rw [prs_at _ _ (by simp)]; simp
theorem bys_mid (a b : Tx) (x : UInt8) (F : AV → Option β) : ((bys (a ++ x :: b))[a.length]?).bind F = F (byteAV x) := by rw [bys_at _ _ (by simp)]; simp
theorem byte_c (c : UInt8) (K : Int → Option β) : cellI .u8 (AV.cells (byteAV c)) 0 K = K ((c.toNat : Nat) : Int) := cellI_0 _ _ _
theorem h_2 (x : Head) (K : ByteArray → Option β) : cellS (encHead x) 2 K = K (str x.link) := by first | exact (rfl) | (show cellS (encHead x) 2 K = _; simp [encHead, cellI, cellL, cellAt, atInt, atList])
theorem p_0 (x : Pair) (K : ByteArray → Option β) : cellS (encPair x) 0 K = K (str x.key) := by first | exact (rfl) | (show cellS (encPair x) 0 K = _; simp [encPair, cellI, cellL, cellAt, atInt, atList])
theorem p_1 (x : Pair) (K : ByteArray → Option β) : cellS (encPair x) 1 K = K (str x.val) := by first | exact (rfl) | (show cellS (encPair x) 1 K = _; simp [encPair, cellI, cellL, cellAt, atInt, atList])
end
end Go.Proofs.YtilbahgfjfcikaaGreatDoor.Eng.U


/- Items' names in plain words: what a full name tells, a head's full names, how much a head is. -/
set_option linter.unusedVariables false
set_option linter.unusedSectionVars false
set_option linter.unusedSimpArgs false
namespace Go.Proofs.YtilbahgfjfcikaaGreatDoor.Eng.U
open Go Go.Proofs Go.Proofs.YtilbahgfjfcikaaGreatDoor.Eng
variable {E : Ext} [Core E] {k n : Nat}

/-- Does a text end in a slash? -/
def sl (s : List UInt8) : Bool := decide (s.getLast? = some 47)
def told (kind : Int) (s : List UInt8) : Int × List UInt8 :=
  if kind = 1 ∧ sl s = true then (if 1 < s.length then (6, s.dropLast) else (6, s))
  else if kind = 6 ∧ sl s = true ∧ 1 < s.length then (6, s.dropLast) else (kind, s)
end Go.Proofs.YtilbahgfjfcikaaGreatDoor.Eng.U


/- ItemFulls, but for whether any field is wrong. -/
set_option linter.unusedVariables false
set_option linter.unusedSectionVars false
set_option linter.unusedSimpArgs false
namespace Go.Proofs.YtilbahgfjfcikaaGreatDoor.Eng.U
open Go Go.Proofs Go.Proofs.YtilbahgfjfcikaaGreatDoor.Eng
variable {E : Ext} [Core E] {k n : Nat}

end Go.Proofs.YtilbahgfjfcikaaGreatDoor.Eng.U


/- What functions answer, as the engine evaluates their code. Printed by gen2.py. -/
set_option linter.unusedVariables false
namespace Go.Proofs.YtilbahgfjfcikaaGreatDoor.Eng.U
open Go Go.Proofs Go.Proofs.YtilbahgfjfcikaaGreatDoor.Eng
/- oakum/dec.Right -/
/- oakum/oakumref04.Number -/
theorem ref04_Number_eq {E : Ext} [Core E] (k n : Nat) (a0 : ByteArray) : kp E k (n + 1) ref04_Number [(.str a0)] =
  (callT (kp E k n ref04_Below [(.str a0)]) fun vt2 => (tupI .i64 vt2 fun vn3 vt4 => (tupB vt4 fun vq5 vt6 => (atNil vt6 (bif (!vq5) then (some (.tup [(.int .i64 (0 : Int)), (.bool false)])) else (bif (decide (vn3 < (-9223372036854775807 : Int))) then (some (.tup [(.int .i64 (0 : Int)), (.bool false)])) else (some (.tup [(.int .i64 (IntKind.wrap .i64 (0 - vn3))), (.bool true)])))))))) := (kp_at (by kernel_rfl)).trans (by kernel_rfl)
/- oakum/oakumref04.Time -/
noncomputable def ref04_Time_bd : Code := Tryz.f59.body.getD .skip
noncomputable def ref04_Time_L0 (kap : FuncId → List AV → Option AV) (k : Nat) (k0 : Nat) (s0 : ByteArray) (s4 : Bool) (s5 : Int) (s6 : Int) (b2_0 : Int) (b2_1 : Int) : Option AV :=
  loop (fun fr K => code ((bs E0 k).cfg kap ref04_Time) (sel ref04_Time_bd [1, 1, 1, 1, 0, 1, 0, 0]) fr K) (canon ((bs E0 k).cfg kap ref04_Time) (firstReg (sel ref04_Time_bd [1, 1, 1, 1, 0, 1, 0, 0]))) k0 (mkFr 116 [(0, (.str s0)), (2, (.loc 2 0)), (4, (.bool s4)), (5, (.int .i64 s5)), (6, (.int .i64 s6))] [(2, (.box [(.int .i64 b2_0), (.int .i64 b2_1)]))]) (plug ((bs E0 k).cfg kap ref04_Time) (retK ((bs E0 k).cfg kap ref04_Time) [] Tryz.f59 [] some) [.blk 0, .seqR (sel ref04_Time_bd [1, 1, 1, 1, 1])])
noncomputable def ref04_Time_L1 (kap : FuncId → List AV → Option AV) (k : Nat) (k1 : Nat) (s4 : Bool) (s7 : Int) (s8 : Bool) (s9 : Int) (s10 : ByteArray) (s11 : Int) (b2_0 : Int) (b2_1 : Int) : Option AV :=
  loop (fun fr K => code ((bs E0 k).cfg kap ref04_Time) (sel ref04_Time_bd [1, 1, 1, 1, 1, 1, 1, 0, 1, 0, 1, 1, 1, 0, 0]) fr K) (canon ((bs E0 k).cfg kap ref04_Time) (firstReg (sel ref04_Time_bd [1, 1, 1, 1, 1, 1, 1, 0, 1, 0, 1, 1, 1, 0, 0]))) k1 (mkFr 116 [(2, (.loc 2 0)), (4, (.bool s4)), (7, (.int .i64 s7)), (8, (.bool s8)), (9, (.int .i64 s9)), (10, (.str s10)), (11, (.int .i64 s11))] [(2, (.box [(.int .i64 b2_0), (.int .i64 b2_1)]))]) (plug ((bs E0 k).cfg kap ref04_Time) (retK ((bs E0 k).cfg kap ref04_Time) [] Tryz.f59 [] some) [.blk 2, .seqR (sel ref04_Time_bd [1, 1, 1, 1, 1, 1, 1, 1])])
theorem ref04_Time_L0_s (kap : FuncId → List AV → Option AV) (k : Nat) (k0 : Nat) (s0 : ByteArray) (s4 : Bool) (s5 : Int) (s6 : Int) (b2_0 : Int) (b2_1 : Int) : ref04_Time_L0 kap k (k0 + 1) s0 s4 s5 s6 b2_0 b2_1 =
  (bif (decide (s6 ≥ (0 : Int))) then (bif ((decide ((0 : Int) ≤ s6)) && (decide (s6 < (((ByteArray.size s0) : Nat) : Int)))) then (bif (decide ((byteAt s0 (Int.toNat s6)) = (46 : Int))) then (ref04_Time_L0 kap k k0 s0 s4 s6 (IntKind.wrap .i64 (s6 - (1 : Int))) b2_0 b2_1) else (ref04_Time_L0 kap k k0 s0 s4 s5 (IntKind.wrap .i64 (s6 - (1 : Int))) b2_0 b2_1)) else none) else (bif ((decide ((0 : Int) ≤ s5)) && (decide (s5 ≤ (((ByteArray.size s0) : Nat) : Int)))) then (callT (kap ref04_Below [(.str (ByteArray.extract s0 0 (Int.toNat s5)))]) fun vt2 => (tupI .i64 vt2 fun vn3 vt4 => (tupB vt4 fun vq5 vt6 => (atNil vt6 (bif (decide (s5 < (((ByteArray.size s0) : Nat) : Int))) then (bif ((decide ((0 : Int) ≤ (IntKind.wrap .i64 (s5 + (1 : Int))))) && (decide ((IntKind.wrap .i64 (s5 + (1 : Int))) ≤ (((ByteArray.size s0) : Nat) : Int)))) then (callB (kap ref04_only [(.str (ByteArray.extract s0 (Int.toNat (IntKind.wrap .i64 (s5 + (1 : Int)))) (ByteArray.size s0)))]) fun vq8 => (bif (!vq8) then (some (.tup [(.agg [(.int .i64 (0 : Int)), (.int .i64 (0 : Int))]), (.bool false)])) else (bif (decide ((((ByteArray.size (ByteArray.extract s0 (Int.toNat (IntKind.wrap .i64 (s5 + (1 : Int)))) (ByteArray.size s0))) : Nat) : Int) > (9 : Int))) then (some (.tup [(.agg [(.int .i64 (0 : Int)), (.int .i64 (0 : Int))]), (.bool false)])) else (ref04_Time_L1 kap k k s4 vn3 vq5 (0 : Int) (ByteArray.extract s0 (Int.toNat (IntKind.wrap .i64 (s5 + (1 : Int)))) (ByteArray.size s0)) (0 : Int) b2_0 b2_1)))) else none) else (bif (!vq5) then (some (.tup [(.agg [(.int .i64 (0 : Int)), (.int .i64 (0 : Int))]), (.bool false)])) else (bif (!s4) then (bif (decide (vn3 = (-9223372036854775808 : Int))) then (some (.tup [(.agg [(.int .i64 (0 : Int)), (.int .i64 (0 : Int))]), (.bool false)])) else (bif s4 then (bif (decide (vn3 = (-9223372036854775808 : Int))) then (bif (!s4) then (some (.tup [(.agg [(.int .i64 (IntKind.wrap .i64 (0 - vn3))), (.int .i64 (0 : Int))]), (.bool true)])) else (some (.tup [(.agg [(.int .i64 vn3), (.int .i64 (0 : Int))]), (.bool true)]))) else (bif (!s4) then (some (.tup [(.agg [(.int .i64 (IntKind.wrap .i64 (0 - vn3))), (.int .i64 (0 : Int))]), (.bool true)])) else (some (.tup [(.agg [(.int .i64 vn3), (.int .i64 (0 : Int))]), (.bool true)])))) else (bif (!s4) then (some (.tup [(.agg [(.int .i64 (IntKind.wrap .i64 (0 - vn3))), (.int .i64 (0 : Int))]), (.bool true)])) else (some (.tup [(.agg [(.int .i64 vn3), (.int .i64 (0 : Int))]), (.bool true)]))))) else (bif s4 then (bif (decide (vn3 = (-9223372036854775808 : Int))) then (bif (!s4) then (some (.tup [(.agg [(.int .i64 (IntKind.wrap .i64 (0 - vn3))), (.int .i64 (0 : Int))]), (.bool true)])) else (some (.tup [(.agg [(.int .i64 vn3), (.int .i64 (0 : Int))]), (.bool true)]))) else (bif (!s4) then (some (.tup [(.agg [(.int .i64 (IntKind.wrap .i64 (0 - vn3))), (.int .i64 (0 : Int))]), (.bool true)])) else (some (.tup [(.agg [(.int .i64 vn3), (.int .i64 (0 : Int))]), (.bool true)])))) else (bif (!s4) then (some (.tup [(.agg [(.int .i64 (IntKind.wrap .i64 (0 - vn3))), (.int .i64 (0 : Int))]), (.bool true)])) else (some (.tup [(.agg [(.int .i64 vn3), (.int .i64 (0 : Int))]), (.bool true)]))))))))))) else none)) := by kernel_rfl
theorem ref04_Time_L1_s (kap : FuncId → List AV → Option AV) (k : Nat) (k1 : Nat) (s4 : Bool) (s7 : Int) (s8 : Bool) (s9 : Int) (s10 : ByteArray) (s11 : Int) (b2_0 : Int) (b2_1 : Int) : ref04_Time_L1 kap k (k1 + 1) s4 s7 s8 s9 s10 s11 b2_0 b2_1 =
  (bif (decide (s11 < (9 : Int))) then (bif (decide (s11 < (((ByteArray.size s10) : Nat) : Int))) then (bif ((decide ((0 : Int) ≤ s11)) && (decide (s11 < (((ByteArray.size s10) : Nat) : Int)))) then (ref04_Time_L1 kap k k1 s4 s7 s8 (IntKind.wrap .i64 ((IntKind.wrap .i64 ((IntKind.wrap .i64 ((10 : Int) * s9)) + (IntKind.wrap .i64 (byteAt s10 (Int.toNat s11))))) - (48 : Int))) s10 (IntKind.wrap .i64 (s11 + (1 : Int))) b2_0 b2_1) else none) else (ref04_Time_L1 kap k k1 s4 s7 s8 (IntKind.wrap .i64 ((10 : Int) * s9)) s10 (IntKind.wrap .i64 (s11 + (1 : Int))) b2_0 b2_1)) else (bif (!s8) then (some (.tup [(.agg [(.int .i64 (0 : Int)), (.int .i64 (0 : Int))]), (.bool false)])) else (bif (!s4) then (bif (decide (s7 = (-9223372036854775808 : Int))) then (some (.tup [(.agg [(.int .i64 (0 : Int)), (.int .i64 (0 : Int))]), (.bool false)])) else (bif s4 then (bif (decide (s7 = (-9223372036854775808 : Int))) then (bif (decide (s9 > (0 : Int))) then (some (.tup [(.agg [(.int .i64 (0 : Int)), (.int .i64 (0 : Int))]), (.bool false)])) else (bif (!s4) then (some (.tup [(.agg [(.int .i64 (IntKind.wrap .i64 (0 - s7))), (.int .i64 s9)]), (.bool true)])) else (bif (decide (s9 = (0 : Int))) then (some (.tup [(.agg [(.int .i64 s7), (.int .i64 (0 : Int))]), (.bool true)])) else (some (.tup [(.agg [(.int .i64 (IntKind.wrap .i64 (s7 - (1 : Int)))), (.int .i64 (IntKind.wrap .i64 ((1000000000 : Int) - s9)))]), (.bool true)]))))) else (bif (!s4) then (some (.tup [(.agg [(.int .i64 (IntKind.wrap .i64 (0 - s7))), (.int .i64 s9)]), (.bool true)])) else (bif (decide (s9 = (0 : Int))) then (some (.tup [(.agg [(.int .i64 s7), (.int .i64 (0 : Int))]), (.bool true)])) else (some (.tup [(.agg [(.int .i64 (IntKind.wrap .i64 (s7 - (1 : Int)))), (.int .i64 (IntKind.wrap .i64 ((1000000000 : Int) - s9)))]), (.bool true)]))))) else (bif (!s4) then (some (.tup [(.agg [(.int .i64 (IntKind.wrap .i64 (0 - s7))), (.int .i64 s9)]), (.bool true)])) else (bif (decide (s9 = (0 : Int))) then (some (.tup [(.agg [(.int .i64 s7), (.int .i64 (0 : Int))]), (.bool true)])) else (some (.tup [(.agg [(.int .i64 (IntKind.wrap .i64 (s7 - (1 : Int)))), (.int .i64 (IntKind.wrap .i64 ((1000000000 : Int) - s9)))]), (.bool true)])))))) else (bif s4 then (bif (decide (s7 = (-9223372036854775808 : Int))) then (bif (decide (s9 > (0 : Int))) then (some (.tup [(.agg [(.int .i64 (0 : Int)), (.int .i64 (0 : Int))]), (.bool false)])) else (bif (!s4) then (some (.tup [(.agg [(.int .i64 (IntKind.wrap .i64 (0 - s7))), (.int .i64 s9)]), (.bool true)])) else (bif (decide (s9 = (0 : Int))) then (some (.tup [(.agg [(.int .i64 s7), (.int .i64 (0 : Int))]), (.bool true)])) else (some (.tup [(.agg [(.int .i64 (IntKind.wrap .i64 (s7 - (1 : Int)))), (.int .i64 (IntKind.wrap .i64 ((1000000000 : Int) - s9)))]), (.bool true)]))))) else (bif (!s4) then (some (.tup [(.agg [(.int .i64 (IntKind.wrap .i64 (0 - s7))), (.int .i64 s9)]), (.bool true)])) else (bif (decide (s9 = (0 : Int))) then (some (.tup [(.agg [(.int .i64 s7), (.int .i64 (0 : Int))]), (.bool true)])) else (some (.tup [(.agg [(.int .i64 (IntKind.wrap .i64 (s7 - (1 : Int)))), (.int .i64 (IntKind.wrap .i64 ((1000000000 : Int) - s9)))]), (.bool true)]))))) else (bif (!s4) then (some (.tup [(.agg [(.int .i64 (IntKind.wrap .i64 (0 - s7))), (.int .i64 s9)]), (.bool true)])) else (bif (decide (s9 = (0 : Int))) then (some (.tup [(.agg [(.int .i64 s7), (.int .i64 (0 : Int))]), (.bool true)])) else (some (.tup [(.agg [(.int .i64 (IntKind.wrap .i64 (s7 - (1 : Int)))), (.int .i64 (IntKind.wrap .i64 ((1000000000 : Int) - s9)))]), (.bool true)])))))))) := by kernel_rfl
theorem ref04_Time_eq {E : Ext} [Core E] (k n : Nat) (a0 : ByteArray) : kp E k (n + 1) ref04_Time [(.str a0)] =
  (bif (decide ((((ByteArray.size a0) : Nat) : Int) > (0 : Int))) then (bif (decide ((0 : Int) < (((ByteArray.size a0) : Nat) : Int))) then (bif (decide ((byteAt a0 0) = (45 : Int))) then (bif (decide ((1 : Int) ≤ (((ByteArray.size a0) : Nat) : Int))) then (ref04_Time_L0 (kp E k n) k k (ByteArray.extract a0 1 (ByteArray.size a0)) (decide ((byteAt a0 0) = (45 : Int))) (((ByteArray.size (ByteArray.extract a0 1 (ByteArray.size a0))) : Nat) : Int) (IntKind.wrap .i64 ((((ByteArray.size (ByteArray.extract a0 1 (ByteArray.size a0))) : Nat) : Int) - (1 : Int))) (0 : Int) (0 : Int)) else none) else (ref04_Time_L0 (kp E k n) k k a0 (decide ((byteAt a0 0) = (45 : Int))) (((ByteArray.size a0) : Nat) : Int) (IntKind.wrap .i64 ((((ByteArray.size a0) : Nat) : Int) - (1 : Int))) (0 : Int) (0 : Int))) else none) else (ref04_Time_L0 (kp E k n) k k a0 false (((ByteArray.size a0) : Nat) : Int) (IntKind.wrap .i64 ((((ByteArray.size a0) : Nat) : Int) - (1 : Int))) (0 : Int) (0 : Int))) := (kp_at (by kernel_rfl)).trans (by kernel_rfl)
/- oakum/oakumref04.Digits -/
/- oakum/oakumref04.Text -/
/- oakum/oakumref04.Right -/
/- oakum/oakumref04.Below -/
noncomputable def ref04_Below_bd : Code := Tryz.f88.body.getD .skip
noncomputable def ref04_Below_L0 (kap : FuncId → List AV → Option AV) (k : Nat) (k0 : Nat) (s0 : ByteArray) (s4 : Int) (s5 : Int) : Option AV :=
  loop (fun fr K => code ((bs E0 k).cfg kap ref04_Below) (sel ref04_Below_bd [1, 1, 1, 0, 1, 0, 0]) fr K) (canon ((bs E0 k).cfg kap ref04_Below) (firstReg (sel ref04_Below_bd [1, 1, 1, 0, 1, 0, 0]))) k0 (mkFr 46 [(0, (.str s0)), (4, (.int .i64 s4)), (5, (.int .i64 s5))] []) (plug ((bs E0 k).cfg kap ref04_Below) (retK ((bs E0 k).cfg kap ref04_Below) [] Tryz.f88 [] some) [.blk 0, .seqR (sel ref04_Below_bd [1, 1, 1, 1])])
theorem ref04_Below_L0_s (kap : FuncId → List AV → Option AV) (k : Nat) (k0 : Nat) (s0 : ByteArray) (s4 : Int) (s5 : Int) : ref04_Below_L0 kap k (k0 + 1) s0 s4 s5 =
  (bif (decide (s5 < (((ByteArray.size s0) : Nat) : Int))) then (bif ((decide ((0 : Int) ≤ s5)) && (decide (s5 < (((ByteArray.size s0) : Nat) : Int)))) then (bif (decide (s4 < (-922337203685477580 : Int))) then (some (.tup [(.int .i64 (0 : Int)), (.bool false)])) else (bif (decide (s4 = (-922337203685477580 : Int))) then (bif (decide ((IntKind.wrap .i64 ((IntKind.wrap .i64 (byteAt s0 (Int.toNat s5))) - (48 : Int))) > (8 : Int))) then (some (.tup [(.int .i64 (0 : Int)), (.bool false)])) else (ref04_Below_L0 kap k k0 s0 (IntKind.wrap .i64 ((IntKind.wrap .i64 ((10 : Int) * s4)) - (IntKind.wrap .i64 ((IntKind.wrap .i64 (byteAt s0 (Int.toNat s5))) - (48 : Int))))) (IntKind.wrap .i64 (s5 + (1 : Int))))) else (ref04_Below_L0 kap k k0 s0 (IntKind.wrap .i64 ((IntKind.wrap .i64 ((10 : Int) * s4)) - (IntKind.wrap .i64 ((IntKind.wrap .i64 (byteAt s0 (Int.toNat s5))) - (48 : Int))))) (IntKind.wrap .i64 (s5 + (1 : Int)))))) else none) else (some (.tup [(.int .i64 s4), (.bool true)]))) := by kernel_rfl
theorem ref04_Below_eq {E : Ext} [Core E] (k n : Nat) (a0 : ByteArray) : kp E k (n + 1) ref04_Below [(.str a0)] =
  (callB (kp E k n ref04_only [(.str a0)]) fun vq2 => (bif (!vq2) then (some (.tup [(.int .i64 (0 : Int)), (.bool false)])) else (bif (decide ((0 : Int) < (((ByteArray.size a0) : Nat) : Int))) then (bif (decide ((byteAt a0 0) = (48 : Int))) then (bif (decide ((((ByteArray.size a0) : Nat) : Int) > (1 : Int))) then (some (.tup [(.int .i64 (0 : Int)), (.bool false)])) else (ref04_Below_L0 (kp E k n) k k a0 (0 : Int) (0 : Int))) else (ref04_Below_L0 (kp E k n) k k a0 (0 : Int) (0 : Int))) else none))) := (kp_at (by kernel_rfl)).trans (by kernel_rfl)
/- oakum/oakumref04.only -/
noncomputable def ref04_only_bd : Code := Tryz.f89.body.getD .skip
noncomputable def ref04_only_L0 (kap : FuncId → List AV → Option AV) (k : Nat) (k0 : Nat) (s0 : ByteArray) (s3 : Int) : Option AV :=
  loop (fun fr K => code ((bs E0 k).cfg kap ref04_only) (sel ref04_only_bd [1, 0, 1, 0, 0]) fr K) (canon ((bs E0 k).cfg kap ref04_only) (firstReg (sel ref04_only_bd [1, 0, 1, 0, 0]))) k0 (mkFr 23 [(0, (.str s0)), (3, (.int .i64 s3))] []) (plug ((bs E0 k).cfg kap ref04_only) (retK ((bs E0 k).cfg kap ref04_only) [] Tryz.f89 [] some) [.blk 0, .seqR (sel ref04_only_bd [1, 1])])
theorem ref04_only_L0_s (kap : FuncId → List AV → Option AV) (k : Nat) (k0 : Nat) (s0 : ByteArray) (s3 : Int) : ref04_only_L0 kap k (k0 + 1) s0 s3 =
  (bif (decide (s3 < (((ByteArray.size s0) : Nat) : Int))) then (bif ((decide ((0 : Int) ≤ s3)) && (decide (s3 < (((ByteArray.size s0) : Nat) : Int)))) then (bif (decide ((byteAt s0 (Int.toNat s3)) < (48 : Int))) then (some (.bool false)) else (bif ((decide ((0 : Int) ≤ s3)) && (decide (s3 < (((ByteArray.size s0) : Nat) : Int)))) then (bif (decide ((byteAt s0 (Int.toNat s3)) > (57 : Int))) then (some (.bool false)) else (ref04_only_L0 kap k k0 s0 (IntKind.wrap .i64 (s3 + (1 : Int))))) else none)) else none) else (some (.bool (decide ((((ByteArray.size s0) : Nat) : Int) > (0 : Int)))))) := by kernel_rfl
theorem ref04_only_eq {E : Ext} [Core E] (k n : Nat) (a0 : ByteArray) : kp E k (n + 1) ref04_only [(.str a0)] =
  (ref04_only_L0 (kp E k n) k k a0 (0 : Int)) := (kp_at (by kernel_rfl)).trans (by kernel_rfl)
/- strings.Cut -/
theorem strings_Cut_eq {E : Ext} [Core E] (k n : Nat) (a0 : ByteArray) (a1 : ByteArray) : kp E k (n + 1) strings_Cut [(.str a0), (.str a1)] =
  (callT (kp E k n stringslite_Cut [(.str a0), (.str a1)]) fun vt2 => (tupS vt2 fun vs3 vt4 => (tupS vt4 fun vs5 vt6 => (tupB vt6 fun vq7 vt8 => (atNil vt8 (some (.tup [(.str vs3), (.str vs5), (.bool vq7)]))))))) := (kp_at (by kernel_rfl)).trans (by kernel_rfl)
/- oakum/dec.Number -/
theorem dec_Number_eq {E : Ext} [Core E] (k n : Nat) (a0 : ByteArray) : kp E k (n + 1) dec_Number [(.str a0)] =
  (callT (kp E k n dec_natural [(.str a0)]) fun vt2 => (tupI .u64 vt2 fun vn3 vt4 => (tupB vt4 fun vq5 vt6 => (atNil vt6 (bif (!vq5) then (some (.tup [(.int .i64 (0 : Int)), (.int .u8 (15 : Int))])) else (bif (decide ((Int.fdiv vn3 (2 ^ (min (Int.toNat (63 : Int)) (IntKind.bits .u64)))) > (0 : Int))) then (some (.tup [(.int .i64 (0 : Int)), (.int .u8 (15 : Int))])) else (some (.tup [(.int .i64 (IntKind.wrap .i64 vn3)), (.int .u8 (0 : Int))])))))))) := (kp_at (by kernel_rfl)).trans (by kernel_rfl)
/- oakum/dec.Time -/
theorem dec_Time_eq {E : Ext} [Core E] (k n : Nat) (a0 : ByteArray) : kp E k (n + 1) dec_Time [(.str a0)] =
  (callT (kp E k n strings_CutPrefix [(.str a0), (.str (str [45]))]) fun vt2 => (tupS vt2 fun vs3 vt4 => (tupB vt4 fun vq5 vt6 => (atNil vt6 (callT (kp E k n strings_Cut [(.str vs3), (.str (str [46]))]) fun vt8 => (tupS vt8 fun vs9 vt10 => (tupS vt10 fun vs11 vt12 => (tupB vt12 fun vq13 vt14 => (atNil vt14 (callT (kp E k n dec_natural [(.str vs9)]) fun vt16 => (tupI .u64 vt16 fun vn17 vt18 => (tupB vt18 fun vq19 vt20 => (atNil vt20 (bif (!vq19) then (some (.tup [(.agg [(.int .i64 (0 : Int)), (.int .i64 (0 : Int))]), (.int .u8 (15 : Int))])) else (bif vq13 then (callB (kp E k n dec_digits [(.str vs11)]) fun vq22 => (bif (!vq22) then (some (.tup [(.agg [(.int .i64 (0 : Int)), (.int .i64 (0 : Int))]), (.int .u8 (15 : Int))])) else (bif (decide ((((ByteArray.size vs11) : Nat) : Int) > (9 : Int))) then (some (.tup [(.agg [(.int .i64 (0 : Int)), (.int .i64 (0 : Int))]), (.int .u8 (15 : Int))])) else (bif vq13 then (callS (kp E k n strings_Repeat [(.str (str [48])), (.int .i64 (IntKind.wrap .i64 ((9 : Int) - (((ByteArray.size vs11) : Nat) : Int))))]) fun vs24 => (bif (decide ((ByteArray.size vs11) + (ByteArray.size vs24) ≤ 9223372036854775807)) then (callT (kp E k n strconv_ParseInt [(.str (vs11 ++ vs24)), (.int .i64 (10 : Int)), (.int .i64 (64 : Int))]) fun vt26 => (tupI .i64 vt26 fun vn27 vt28 => (tupV vt28 fun vr29 vt30 => (atNil vt30 (bif (!vq5) then (bif (decide ((Int.fdiv vn17 (2 ^ (min (Int.toNat (63 : Int)) (IntKind.bits .u64)))) > (0 : Int))) then (some (.tup [(.agg [(.int .i64 (0 : Int)), (.int .i64 (0 : Int))]), (.int .u8 (15 : Int))])) else (bif (!vq5) then (some (.tup [(.agg [(.int .i64 (IntKind.wrap .i64 vn17)), (.int .i64 vn27)]), (.int .u8 (0 : Int))])) else (bif (decide (vn27 = (0 : Int))) then (some (.tup [(.agg [(.int .i64 (IntKind.wrap .i64 (IntKind.wrap .u64 (0 - vn17)))), (.int .i64 vn27)]), (.int .u8 (0 : Int))])) else (bif (decide ((Int.fdiv vn17 (2 ^ (min (Int.toNat (63 : Int)) (IntKind.bits .u64)))) > (0 : Int))) then (some (.tup [(.agg [(.int .i64 (0 : Int)), (.int .i64 (0 : Int))]), (.int .u8 (15 : Int))])) else (some (.tup [(.agg [(.int .i64 (IntKind.wrap .i64 ((IntKind.wrap .i64 (0 - (IntKind.wrap .i64 vn17))) - (1 : Int)))), (.int .i64 (IntKind.wrap .i64 ((1000000000 : Int) - vn27)))]), (.int .u8 (0 : Int))])))))) else (bif (!vq5) then (some (.tup [(.agg [(.int .i64 (IntKind.wrap .i64 vn17)), (.int .i64 vn27)]), (.int .u8 (0 : Int))])) else (bif (decide (vn27 = (0 : Int))) then (some (.tup [(.agg [(.int .i64 (IntKind.wrap .i64 (IntKind.wrap .u64 (0 - vn17)))), (.int .i64 vn27)]), (.int .u8 (0 : Int))])) else (bif (decide ((Int.fdiv vn17 (2 ^ (min (Int.toNat (63 : Int)) (IntKind.bits .u64)))) > (0 : Int))) then (some (.tup [(.agg [(.int .i64 (0 : Int)), (.int .i64 (0 : Int))]), (.int .u8 (15 : Int))])) else (some (.tup [(.agg [(.int .i64 (IntKind.wrap .i64 ((IntKind.wrap .i64 (0 - (IntKind.wrap .i64 vn17))) - (1 : Int)))), (.int .i64 (IntKind.wrap .i64 ((1000000000 : Int) - vn27)))]), (.int .u8 (0 : Int))])))))))))) else none)) else (bif (!vq5) then (bif (decide ((Int.fdiv vn17 (2 ^ (min (Int.toNat (63 : Int)) (IntKind.bits .u64)))) > (0 : Int))) then (some (.tup [(.agg [(.int .i64 (0 : Int)), (.int .i64 (0 : Int))]), (.int .u8 (15 : Int))])) else (bif (!vq5) then (some (.tup [(.agg [(.int .i64 (IntKind.wrap .i64 vn17)), (.int .i64 (0 : Int))]), (.int .u8 (0 : Int))])) else (some (.tup [(.agg [(.int .i64 (IntKind.wrap .i64 (IntKind.wrap .u64 (0 - vn17)))), (.int .i64 (0 : Int))]), (.int .u8 (0 : Int))])))) else (bif (!vq5) then (some (.tup [(.agg [(.int .i64 (IntKind.wrap .i64 vn17)), (.int .i64 (0 : Int))]), (.int .u8 (0 : Int))])) else (some (.tup [(.agg [(.int .i64 (IntKind.wrap .i64 (IntKind.wrap .u64 (0 - vn17)))), (.int .i64 (0 : Int))]), (.int .u8 (0 : Int))])))))))) else (bif vq13 then (callS (kp E k n strings_Repeat [(.str (str [48])), (.int .i64 (IntKind.wrap .i64 ((9 : Int) - (((ByteArray.size vs11) : Nat) : Int))))]) fun vs32 => (bif (decide ((ByteArray.size vs11) + (ByteArray.size vs32) ≤ 9223372036854775807)) then (callT (kp E k n strconv_ParseInt [(.str (vs11 ++ vs32)), (.int .i64 (10 : Int)), (.int .i64 (64 : Int))]) fun vt34 => (tupI .i64 vt34 fun vn35 vt36 => (tupV vt36 fun vr37 vt38 => (atNil vt38 (bif (!vq5) then (bif (decide ((Int.fdiv vn17 (2 ^ (min (Int.toNat (63 : Int)) (IntKind.bits .u64)))) > (0 : Int))) then (some (.tup [(.agg [(.int .i64 (0 : Int)), (.int .i64 (0 : Int))]), (.int .u8 (15 : Int))])) else (bif (!vq5) then (some (.tup [(.agg [(.int .i64 (IntKind.wrap .i64 vn17)), (.int .i64 vn35)]), (.int .u8 (0 : Int))])) else (bif (decide (vn35 = (0 : Int))) then (some (.tup [(.agg [(.int .i64 (IntKind.wrap .i64 (IntKind.wrap .u64 (0 - vn17)))), (.int .i64 vn35)]), (.int .u8 (0 : Int))])) else (bif (decide ((Int.fdiv vn17 (2 ^ (min (Int.toNat (63 : Int)) (IntKind.bits .u64)))) > (0 : Int))) then (some (.tup [(.agg [(.int .i64 (0 : Int)), (.int .i64 (0 : Int))]), (.int .u8 (15 : Int))])) else (some (.tup [(.agg [(.int .i64 (IntKind.wrap .i64 ((IntKind.wrap .i64 (0 - (IntKind.wrap .i64 vn17))) - (1 : Int)))), (.int .i64 (IntKind.wrap .i64 ((1000000000 : Int) - vn35)))]), (.int .u8 (0 : Int))])))))) else (bif (!vq5) then (some (.tup [(.agg [(.int .i64 (IntKind.wrap .i64 vn17)), (.int .i64 vn35)]), (.int .u8 (0 : Int))])) else (bif (decide (vn35 = (0 : Int))) then (some (.tup [(.agg [(.int .i64 (IntKind.wrap .i64 (IntKind.wrap .u64 (0 - vn17)))), (.int .i64 vn35)]), (.int .u8 (0 : Int))])) else (bif (decide ((Int.fdiv vn17 (2 ^ (min (Int.toNat (63 : Int)) (IntKind.bits .u64)))) > (0 : Int))) then (some (.tup [(.agg [(.int .i64 (0 : Int)), (.int .i64 (0 : Int))]), (.int .u8 (15 : Int))])) else (some (.tup [(.agg [(.int .i64 (IntKind.wrap .i64 ((IntKind.wrap .i64 (0 - (IntKind.wrap .i64 vn17))) - (1 : Int)))), (.int .i64 (IntKind.wrap .i64 ((1000000000 : Int) - vn35)))]), (.int .u8 (0 : Int))])))))))))) else none)) else (bif (!vq5) then (bif (decide ((Int.fdiv vn17 (2 ^ (min (Int.toNat (63 : Int)) (IntKind.bits .u64)))) > (0 : Int))) then (some (.tup [(.agg [(.int .i64 (0 : Int)), (.int .i64 (0 : Int))]), (.int .u8 (15 : Int))])) else (bif (!vq5) then (some (.tup [(.agg [(.int .i64 (IntKind.wrap .i64 vn17)), (.int .i64 (0 : Int))]), (.int .u8 (0 : Int))])) else (some (.tup [(.agg [(.int .i64 (IntKind.wrap .i64 (IntKind.wrap .u64 (0 - vn17)))), (.int .i64 (0 : Int))]), (.int .u8 (0 : Int))])))) else (bif (!vq5) then (some (.tup [(.agg [(.int .i64 (IntKind.wrap .i64 vn17)), (.int .i64 (0 : Int))]), (.int .u8 (0 : Int))])) else (some (.tup [(.agg [(.int .i64 (IntKind.wrap .i64 (IntKind.wrap .u64 (0 - vn17)))), (.int .i64 (0 : Int))]), (.int .u8 (0 : Int))])))))))))))))))))))) := (kp_at (by kernel_rfl)).trans (by kernel_rfl)
/- internal/stringslite.Cut -/
theorem stringslite_Cut_eq {E : Ext} [Core E] (k n : Nat) (a0 : ByteArray) (a1 : ByteArray) : kp E k (n + 1) stringslite_Cut [(.str a0), (.str a1)] =
  (callI .i64 (kp E k n stringslite_Index [(.str a0), (.str a1)]) fun vn2 => (bif (decide (vn2 ≥ (0 : Int))) then (bif ((decide ((0 : Int) ≤ vn2)) && (decide (vn2 ≤ (((ByteArray.size a0) : Nat) : Int)))) then (bif ((decide ((0 : Int) ≤ (IntKind.wrap .i64 (vn2 + (((ByteArray.size a1) : Nat) : Int))))) && (decide ((IntKind.wrap .i64 (vn2 + (((ByteArray.size a1) : Nat) : Int))) ≤ (((ByteArray.size a0) : Nat) : Int)))) then (some (.tup [(.str (ByteArray.extract a0 0 (Int.toNat vn2))), (.str (ByteArray.extract a0 (Int.toNat (IntKind.wrap .i64 (vn2 + (((ByteArray.size a1) : Nat) : Int)))) (ByteArray.size a0))), (.bool true)])) else none) else none) else (some (.tup [(.str a0), (.str (str [])), (.bool false)])))) := (kp_at (by kernel_rfl)).trans (by kernel_rfl)
/- oakum/dec.natural -/
theorem dec_natural_eq {E : Ext} [Core E] (k n : Nat) (a0 : ByteArray) : kp E k (n + 1) dec_natural [(.str a0)] =
  (callB (kp E k n dec_digits [(.str a0)]) fun vq2 => (bif (!vq2) then (some (.tup [(.int .u64 (0 : Int)), (.bool false)])) else (bif (decide ((0 : Int) < (((ByteArray.size a0) : Nat) : Int))) then (bif (decide ((byteAt a0 0) = (48 : Int))) then (bif (decide ((((ByteArray.size a0) : Nat) : Int) > (1 : Int))) then (some (.tup [(.int .u64 (0 : Int)), (.bool false)])) else (callT (kp E k n strconv_ParseUint [(.str a0), (.int .i64 (10 : Int)), (.int .i64 (64 : Int))]) fun vt4 => (tupI .u64 vt4 fun vn5 vt6 => (tupV vt6 fun vr7 vt8 => (atNil vt8 (nilB vr7 fun q9 => (bif q9 then (some (.tup [(.int .u64 vn5), (.bool (decide (vn5 ≤ (9223372036854775808 : Int))))])) else (some (.tup [(.int .u64 vn5), (.bool false)]))))))))) else (callT (kp E k n strconv_ParseUint [(.str a0), (.int .i64 (10 : Int)), (.int .i64 (64 : Int))]) fun vt11 => (tupI .u64 vt11 fun vn12 vt13 => (tupV vt13 fun vr14 vt15 => (atNil vt15 (nilB vr14 fun q16 => (bif q16 then (some (.tup [(.int .u64 vn12), (.bool (decide (vn12 ≤ (9223372036854775808 : Int))))])) else (some (.tup [(.int .u64 vn12), (.bool false)]))))))))) else none))) := (kp_at (by kernel_rfl)).trans (by kernel_rfl)
/- oakum/dec.digits -/
noncomputable def dec_digits_bd : Code := Tryz.f119.body.getD .skip
noncomputable def dec_digits_L0 (kap : FuncId → List AV → Option AV) (k : Nat) (k0 : Nat) (s0 : ByteArray) (s5 : Int) (s6 : Int) : Option AV :=
  loop (fun fr K => code ((bs E0 k).cfg kap dec_digits) (sel dec_digits_bd [1, 0, 1, 0, 0]) fr K) (canon ((bs E0 k).cfg kap dec_digits) (firstReg (sel dec_digits_bd [1, 0, 1, 0, 0]))) k0 (mkFr 22 [(0, (.str s0)), (5, (.int .i64 s5)), (6, (.int .i64 s6))] []) (plug ((bs E0 k).cfg kap dec_digits) (retK ((bs E0 k).cfg kap dec_digits) [] Tryz.f119 [] some) [.blk 0, .seqR (sel dec_digits_bd [1, 1])])
theorem dec_digits_L0_s (kap : FuncId → List AV → Option AV) (k : Nat) (k0 : Nat) (s0 : ByteArray) (s5 : Int) (s6 : Int) : dec_digits_L0 kap k (k0 + 1) s0 s5 s6 =
  (bif (decide (s6 < s5)) then (bif ((decide ((0 : Int) ≤ s6)) && (decide (s6 < (((ByteArray.size s0) : Nat) : Int)))) then (bif (decide ((byteAt s0 (Int.toNat s6)) < (48 : Int))) then (some (.bool false)) else (bif ((decide ((0 : Int) ≤ s6)) && (decide (s6 < (((ByteArray.size s0) : Nat) : Int)))) then (bif (decide ((byteAt s0 (Int.toNat s6)) > (57 : Int))) then (some (.bool false)) else (dec_digits_L0 kap k k0 s0 s5 (IntKind.wrap .i64 (s6 + (1 : Int))))) else none)) else none) else (some (.bool (!(decide (s0 = (str []))))))) := by kernel_rfl
theorem dec_digits_eq {E : Ext} [Core E] (k n : Nat) (a0 : ByteArray) : kp E k (n + 1) dec_digits [(.str a0)] =
  (dec_digits_L0 (kp E k n) k k a0 (((ByteArray.size a0) : Nat) : Int) (0 : Int)) := (kp_at (by kernel_rfl)).trans (by kernel_rfl)
/- internal/stringslite.CutPrefix -/
end Go.Proofs.YtilbahgfjfcikaaGreatDoor.Eng.U


/- Numbers as texts, in plain Lean. -/
set_option linter.unusedVariables false
set_option linter.unusedSimpArgs false
namespace Go.Proofs.YtilbahgfjfcikaaGreatDoor.P04
open Go

def isDig (c : UInt8) : Bool := decide (48 ≤ c.toNat) && decide (c.toNat ≤ 57)
def digs (l : List UInt8) : Bool := l.all isDig && !l.isEmpty
def valA (acc : Nat) (l : List UInt8) : Nat := l.foldl (fun a c => a * 10 + (c.toNat - 48)) acc
def lead (l : List UInt8) : Bool := decide (l.headD 0 = 48) && decide (1 < l.length)
def natOk (l : List UInt8) : Bool := digs l && !lead l && decide (valA 0 l ≤ 9223372036854775808)
theorem valA_ge : ∀ (l : List UInt8) (acc : Nat), acc ≤ valA acc l
  | [], acc => Nat.le_refl _
  | c :: l, acc => by
    have := valA_ge l (acc * 10 + (c.toNat - 48))
    simp only [valA, List.foldl_cons] at this ⊢
    omega
theorem valA_cons (c : UInt8) (l : List UInt8) (acc : Nat) : valA acc (c :: l) = valA (acc * 10 + (c.toNat - 48)) l := by
  unfold valA
  rw [List.foldl_cons]
theorem dig_iff {c : UInt8} : isDig c = true ↔ 48 ≤ c.toNat ∧ c.toNat ≤ 57 := by simp [isDig]
theorem parse_eq {M : Nat} (hM : M = 18446744073709551615) (l : List UInt8) : ∀ (acc : Nat), l.all isDig = true → acc ≤ M → Lib.parseUintM M acc l = if valA acc l ≤ M then .ok (valA acc l) else .range := by
  induction l with
  | nil =>
    intro acc _ h
    have e : valA acc [] = acc := rfl
    rw [e, if_pos h]
    rfl
  | cons c l ih =>
    intro acc hd h
    rw [List.all_cons, Bool.and_eq_true] at hd
    have hc := dig_iff.1 hd.1
    have hg := valA_ge l (acc * 10 + (c.toNat - 48))
    have e : Lib.parseUintM M acc (c :: l) = if 48 ≤ c.toNat ∧ c.toNat ≤ 57 then (if 1844674407370955162 ≤ acc then .range else if M < acc * 10 + (c.toNat - 48) then .range else Lib.parseUintM M (acc * 10 + (c.toNat - 48)) l) else Lib.parseUintM M 0 [47] := rfl
    rw [e, if_pos hc, valA_cons]
    by_cases h1 : 1844674407370955162 ≤ acc
    · rw [if_pos h1, if_neg (by omega)]
    · rw [if_neg h1]
      by_cases h2 : M < acc * 10 + (c.toNat - 48)
      · rw [if_pos h2, if_neg (by omega)]
      · rw [if_neg h2, ih _ hd.2 (by omega)]
theorem parseB_eq {l : List UInt8} (hd : digs l = true) : Lib.parseUintB 64 l = if valA 0 l ≤ 18446744073709551615 then .ok (valA 0 l) else .range := by
  simp only [digs, Bool.and_eq_true, Bool.not_eq_true', List.isEmpty_eq_false_iff] at hd
  rw [Lib.parseUintB, if_neg hd.2]
  exact parse_eq (by decide) l 0 hd.1 (by omega)
/-- Where the first point stands; the length, where there is none. -/
def dot (l : List UInt8) : Nat := l.findIdx (· == 46)
theorem index_dot : ∀ l : List UInt8, Lib.indexByte l 46 = if dot l < l.length then (dot l : Int) else -1
  | [] => rfl
  | c :: l => by
    have ih := index_dot l
    unfold Lib.indexByte dot
    rw [List.findIdx_cons]
    by_cases hc : (c == 46) = true
    · simp [hc]
    · rw [if_neg hc, Bool.eq_false_iff.2 hc, cond_false, ih]
      unfold dot
      have : List.findIdx (· == 46) l ≤ l.length := List.findIdx_le_length
      simp only [List.length_cons]
      by_cases h : List.findIdx (· == 46) l < l.length
      · rw [if_pos h, if_pos (show List.findIdx (· == 46) l + 1 < l.length + 1 by omega)]
        rw [if_neg (by simp)]
        omega
      · rw [if_neg h, if_neg (show ¬ List.findIdx (· == 46) l + 1 < l.length + 1 by omega)]
        rfl
/-- The time that a text is, behind its sign. -/
def timeB (minus : Bool) (t : List UInt8) : Option (Int × Int) :=
  let a := t.take (dot t)
  let b := t.drop (dot t + 1)
  let nano := if dot t < t.length then valA 0 (b ++ List.replicate (9 - b.length) 48) else 0
  let v := valA 0 a
  if natOk a = false then none
  else if dot t < t.length ∧ ¬ (digs b = true ∧ b.length ≤ 9) then none
  else if minus = false then (if 9223372036854775807 < v then none else some ((v : Int), (nano : Int)))
  else if nano = 0 then some (-(v : Int), 0)
  else if 9223372036854775807 < v then none
  else some (-(v : Int) - 1, 1000000000 - (nano : Int))
def timeL (s : List UInt8) : Option (Int × Int) := timeB (decide (s.head? = some 45)) (if s.head? = some 45 then s.drop 1 else s)
theorem valA_lt : ∀ (l : List UInt8) (acc m : Nat), l.all isDig = true → acc < 10 ^ m → valA acc l < 10 ^ (m + l.length)
  | [], acc, m, _, h => h
  | c :: l, acc, m, hd, h => by
    rw [List.all_cons, Bool.and_eq_true] at hd
    have hc := dig_iff.1 hd.1
    have := valA_lt l (acc * 10 + (c.toNat - 48)) (m + 1) hd.2 (by rw [Nat.pow_succ]; omega)
    rw [valA_cons, List.length_cons, show m + (l.length + 1) = m + 1 + l.length from by omega]
    exact this
theorem valA_app (a b : List UInt8) (acc : Nat) : valA acc (a ++ b) = valA (valA acc a) b := by simp [valA, List.foldl_append]
/-! Printing. -/
theorem decDigits_rec {u : Nat} (h : ¬ u < 10) : Lib.decDigits u = Lib.decDigits (u / 10) ++ [UInt8.ofNat (48 + u % 10)] := by rw [Lib.decDigits, dif_neg h]
end Go.Proofs.YtilbahgfjfcikaaGreatDoor.P04


/- The functions of the Dec laws in plain words. -/
set_option linter.unusedVariables false
set_option linter.unusedSectionVars false
set_option linter.unusedSimpArgs false
namespace Go.Proofs.YtilbahgfjfcikaaGreatDoor.Eng.U
open Go Go.Proofs Go.Proofs.YtilbahgfjfcikaaGreatDoor.Eng Go.Proofs.YtilbahgfjfcikaaGreatDoor.P04
variable {E : Ext} [Core E] {k n : Nat}

def endI : Lib.NumEnd Int → Int → AV
  | .ok v, _ => .tup [.int .i64 v, .nili]
  | .range, d => .tup [.int .i64 d, .ifc]
  | _, _ => .tup [.int .i64 0, .ifc]
def endU : Lib.NumEnd Nat → AV
  | .ok v => .tup [.int .u64 v, .nili]
  | .range => .tup [.int .u64 18446744073709551615, .ifc]
  | _ => .tup [.int .u64 0, .ifc]
class HasNum (E : Ext) : Prop where
  itoa : ∀ (k n : Nat) (v : Int), -9223372036854775808 ≤ v → v ≤ 9223372036854775807 → kp E k n strconv_Itoa [.int .i64 v] = some (.str (str (Lib.itoa v)))
  cutP : ∀ (k n : Nat) (s p : List UInt8), kp E k n strings_CutPrefix [.str (str s), .str (str p)] = some (.tup [.str (str (Lib.trimPrefix s p)), .bool (Lib.hasPrefix s p)])
  index : ∀ (k n : Nat) (s : List UInt8) (x : UInt8), kp E k n stringslite_Index [.str (str s), .str (str [x])] = some (.int .i64 (Lib.indexByte s x))
  indexB : ∀ (k n : Nat) (s : List UInt8) (c : Int), kp E k n strings_IndexByte [.str (str s), .int .u8 c] = some (.int .i64 (Lib.indexByte s c.toNat.toUInt8))
  rep : ∀ (k n : Nat) (s : List UInt8) (c : Nat), c ≤ 9223372036854775807 → s.length * c ≤ 140737488355328 → kp E k n strings_Repeat [.str (str s), .int .i64 c] = some (.str (str (Lib.repeatL s c)))
  pint : ∀ (k n : Nat) (s : List UInt8), s.length ≤ 281474976710656 → kp E k n strconv_ParseInt [.str (str s), .int .i64 10, .int .i64 64] = some (endI (Lib.parseIntB 64 s) (Lib.intSat 64 s))
  puint : ∀ (k n : Nat) (s : List UInt8), s.length ≤ 281474976710656 → kp E k n strconv_ParseUint [.str (str s), .int .i64 10, .int .i64 64] = some (endU (Lib.parseUintB 64 s))

theorem digits_loop (kap : FuncId → List AV → Option AV) : ∀ (suf pre : List UInt8) (k0 : Nat), suf.length < k0 → (pre ++ suf).length < 1000000000000000 →
    dec_digits_L0 kap k k0 (str (pre ++ suf)) (((pre ++ suf).length : Nat) : Int) ((pre.length : Nat) : Int) = some (.bool (suf.all isDig && !(pre ++ suf).isEmpty))
  | [], pre, k0 + 1, h, hb => by
    rw [dec_digits_L0_s, nlt, decide_eq_false (by simp), cond_false, str_dec]
    cases pre <;> simp
  | c :: suf, pre, k0 + 1, h, hb => by
    rw [dec_digits_L0_s]
    rw [mid_len] at hb
    have hg : (pre ++ c :: suf).getD pre.length 0 = c := mid_byte _ _ _
    rw [str_size, mid_len, dec0, nlt, decide_eq_true (by omega), Bool.true_and, cond_true, cond_true, cond_true, Int.toNat_natCast, str_byte, hg, List.all_cons]
    by_cases h1 : 48 ≤ c.toNat
    · rw [bif_f (by omega)]
      by_cases h2 : c.toNat ≤ 57
      · rw [bif_f (by omega), wrap1 (by omega)]
        have := digits_loop kap suf (pre ++ [c]) k0 (by simpa using h) (by simp; omega)
        rw [List.append_assoc, List.singleton_append, mid_len, List.length_append, List.length_singleton] at this
        rw [this, dig_iff.2 ⟨h1, h2⟩, Bool.true_and]
      · rw [bif_t (by omega), show isDig c = false from by simp [isDig]; omega]
        rfl
    · rw [bif_t (by omega), show isDig c = false from by simp [isDig]; omega]
      rfl
theorem digits_k (l : List UInt8) (hb : l.length < 1000000000000000) (hk : l.length < k) : kp E k (n + 1) dec_digits [.str (str l)] = some (.bool (digs l)) := by
  rw [dec_digits_eq, str_size]
  exact digits_loop _ l [] k hk hb
theorem only_loop (kap : FuncId → List AV → Option AV) : ∀ (suf pre : List UInt8) (k0 : Nat), suf.length < k0 → (pre ++ suf).length < 1000000000000000 →
    ref04_only_L0 kap k k0 (str (pre ++ suf)) ((pre.length : Nat) : Int) = some (.bool (suf.all isDig && !(pre ++ suf).isEmpty))
  | [], pre, k0 + 1, h, hb => by
    rw [ref04_only_L0_s, str_size, nlt, decide_eq_false (by simp), cond_false]
    cases pre with
    | nil => rfl
    | cons c l => rw [decide_eq_true (by simp)]; simp
  | c :: suf, pre, k0 + 1, h, hb => by
    rw [ref04_only_L0_s]
    rw [mid_len] at hb
    have hg : (pre ++ c :: suf).getD pre.length 0 = c := mid_byte _ _ _
    rw [str_size, mid_len, dec0, nlt, decide_eq_true (by omega), Bool.true_and, cond_true, cond_true, cond_true, Int.toNat_natCast, str_byte, hg, List.all_cons]
    by_cases h1 : 48 ≤ c.toNat
    · rw [bif_f (by omega)]
      by_cases h2 : c.toNat ≤ 57
      · rw [bif_f (by omega), wrap1 (by omega)]
        have := only_loop kap suf (pre ++ [c]) k0 (by simpa using h) (by simp; omega)
        rw [List.append_assoc, List.singleton_append, List.length_append, List.length_singleton] at this
        rw [this, dig_iff.2 ⟨h1, h2⟩, Bool.true_and]
      · rw [bif_t (by omega), show isDig c = false from by simp [isDig]; omega]
        rfl
    · rw [bif_t (by omega), show isDig c = false from by simp [isDig]; omega]
      rfl
theorem only_k (l : List UInt8) (hb : l.length < 1000000000000000) (hk : l.length < k) : kp E k (n + 1) ref04_only [.str (str l)] = some (.bool (digs l)) := by
  rw [ref04_only_eq]
  exact only_loop _ l [] k hk hb
theorem below_loop (kap : FuncId → List AV → Option AV) : ∀ (suf pre : List UInt8) (k0 acc : Nat), suf.length < k0 → (pre ++ suf).length < 1000000000000000 → suf.all isDig = true → acc ≤ 9223372036854775808 →
    ref04_Below_L0 kap k k0 (str (pre ++ suf)) (-(acc : Int)) ((pre.length : Nat) : Int) = some (if valA acc suf ≤ 9223372036854775808 then .tup [.int .i64 (-(valA acc suf : Int)), .bool true] else .tup [.int .i64 0, .bool false])
  | [], pre, k0 + 1, acc, h, hb, hd, ha => by
    rw [ref04_Below_L0_s, str_size, nlt, decide_eq_false (by simp), cond_false]
    have e : valA acc [] = acc := rfl
    rw [e, if_pos ha]
  | c :: suf, pre, k0 + 1, acc, h, hb, hd, ha => by
    rw [ref04_Below_L0_s]
    rw [mid_len] at hb
    rw [List.all_cons, Bool.and_eq_true] at hd
    have hc := dig_iff.1 hd.1
    have hg : (pre ++ c :: suf).getD pre.length 0 = c := mid_byte _ _ _
    rw [str_size, mid_len, dec0, nlt, decide_eq_true (by omega), Bool.true_and, cond_true, cond_true, Int.toNat_natCast, str_byte, hg, i64w (x := ((c.toNat : Nat) : Int)) (by omega), i64w (x := ((c.toNat : Nat) : Int) - 48) (by omega), valA_cons]
    have hge := valA_ge suf (acc * 10 + (c.toNat - 48))
    have next : acc * 10 + (c.toNat - 48) ≤ 9223372036854775808 → ref04_Below_L0 kap k k0 (str (pre ++ c :: suf)) (IntKind.wrap .i64 ((IntKind.wrap .i64 ((10 : Int) * -(acc : Int))) - (((c.toNat : Nat) : Int) - 48))) (IntKind.wrap .i64 (((pre.length : Nat) : Int) + 1)) = some (if valA (acc * 10 + (c.toNat - 48)) suf ≤ 9223372036854775808 then .tup [.int .i64 (-(valA (acc * 10 + (c.toNat - 48)) suf : Int)), .bool true] else .tup [.int .i64 0, .bool false]) := by
      intro hle
      have := below_loop kap suf (pre ++ [c]) k0 (acc * 10 + (c.toNat - 48)) (by simpa using h) (by simp; omega) hd.2 hle
      rw [List.append_assoc, List.singleton_append, List.length_append, List.length_singleton] at this
      rw [← this, wrap1 (by omega), i64w (x := 10 * -(acc : Int)) (by omega), i64w (by omega)]
      congr 1
      omega
    by_cases h1 : 922337203685477580 < acc
    · rw [bif_t (by omega), if_neg (by omega)]
    · rw [bif_f (by omega)]
      by_cases h2 : acc = 922337203685477580
      · rw [bif_t (by omega)]
        by_cases h3 : 8 < c.toNat - 48
        · rw [bif_t (by omega), if_neg (by omega)]
        · rw [bif_f (by omega)]
          exact next (by omega)
      · rw [bif_f (by omega)]
        exact next (by omega)
theorem head_lead (l : List UInt8) (hl : l ≠ []) : decide (l.getD 0 0 = 48) = decide (l.headD 0 = 48) := by cases l <;> simp at hl ⊢
theorem digs_ne {l : List UInt8} (h : digs l = true) : l ≠ [] := by
  intro e
  subst e
  simp [digs] at h
theorem digs_all {l : List UInt8} (h : digs l = true) : l.all isDig = true := by
  unfold digs at h
  rw [Bool.and_eq_true] at h
  exact h.1
theorem byte48 (c : UInt8) : decide (((c.toNat : Nat) : Int) = (48 : Int)) = decide (c = 48) := byte_is c 48 (by omega)
theorem below_k (l : List UInt8) (hb : l.length < 1000000000000000) (hk : l.length < k) : kp E k (n + 2) ref04_Below [.str (str l)] = some (.tup [.int .i64 (if natOk l then -(valA 0 l : Int) else 0), .bool (natOk l)]) := by
  rw [ref04_Below_eq, only_k l hb hk, callB_ok]
  unfold natOk
  cases hd : digs l with
  | false => rfl
  | true =>
    have hne := digs_ne hd
    have hpos : 0 < l.length := List.length_pos_iff.2 hne
    have hloop := below_loop (k := k) (kp E k (n + 1)) l [] k 0 hk hb (digs_all hd) (by omega)
    rw [List.nil_append] at hloop
    have e0 : (-((0 : Nat) : Int)) = 0 := rfl
    have e1 : ((([] : List UInt8).length : Nat) : Int) = 0 := rfl
    rw [e0, e1] at hloop
    rw [Bool.not_true, cond_false, str_size, bif_t (by omega), str_byte, byte48, head_lead l hne, hloop]
    unfold lead
    by_cases h1 : l.headD 0 = 48
    · rw [decide_eq_true h1, cond_true]
      by_cases h2 : 1 < l.length
      · rw [bif_t (by omega), decide_eq_true h2]
        rfl
      · rw [bif_f (by omega), decide_eq_false h2]
        simp only [Bool.and_false, Bool.not_false, Bool.and_true, Bool.true_and]
        by_cases h3 : valA 0 l ≤ 9223372036854775808
        · rw [if_pos h3, decide_eq_true h3]; rfl
        · rw [if_neg h3, decide_eq_false h3]; rfl
    · rw [decide_eq_false h1, cond_false]
      simp only [Bool.false_and, Bool.not_false, Bool.and_true, Bool.true_and]
      by_cases h3 : valA 0 l ≤ 9223372036854775808
      · rw [if_pos h3, decide_eq_true h3]; rfl
      · rw [if_neg h3, decide_eq_false h3]; rfl
theorem natural_k [HasNum E] (l : List UInt8) (hb : l.length < 100000000000000) (hk : l.length < k) : ∃ m : Int, kp E k (n + 2) dec_natural [.str (str l)] = some (.tup [.int .u64 m, .bool (natOk l)]) ∧ (natOk l = true → m = (valA 0 l : Int)) := by
  rw [dec_natural_eq, digits_k l (by omega) hk, callB_ok]
  unfold natOk
  cases hd : digs l with
  | false => exact ⟨0, rfl, fun h => by cases h⟩
  | true =>
    have hne := digs_ne hd
    have hpos : 0 < l.length := List.length_pos_iff.2 hne
    rw [Bool.not_true, cond_false, str_size, bif_t (by omega), str_byte, byte48, head_lead l hne, HasNum.puint k (n + 1) l (by omega), parseB_eq hd]
    have go : ∃ m : Int, (callT (β := AV) (some (endU (if valA 0 l ≤ 18446744073709551615 then Lib.NumEnd.ok (valA 0 l) else .range))) fun vt11 => (tupI .u64 vt11 fun vn12 vt13 => (tupV vt13 fun vr14 vt15 => (atNil vt15 (nilB vr14 fun q16 => (bif q16 then (some (.tup [(.int .u64 vn12), (.bool (decide (vn12 ≤ (9223372036854775808 : Int))))])) else (some (.tup [(.int .u64 vn12), (.bool false)])))))))) = some (.tup [.int .u64 m, .bool (decide (valA 0 l ≤ 9223372036854775808))]) ∧ (valA 0 l ≤ 9223372036854775808 → m = (valA 0 l : Int)) := by
      by_cases h3 : valA 0 l ≤ 18446744073709551615
      · rw [if_pos h3]
        refine ⟨(valA 0 l : Int), ?_, fun _ => rfl⟩
        have : decide (((valA 0 l : Nat) : Int) ≤ 9223372036854775808) = decide (valA 0 l ≤ 9223372036854775808) := by rw [decide_eq_decide]; omega
        rw [← this]
        rfl
      · rw [if_neg h3]
        refine ⟨18446744073709551615, ?_, fun h => by omega⟩
        rw [decide_eq_false (by omega)]
        rfl
    obtain ⟨m, g1, g2⟩ := go
    unfold lead
    by_cases h1 : l.headD 0 = 48
    · rw [decide_eq_true h1, cond_true]
      by_cases h2 : 1 < l.length
      · rw [bif_t (by omega), decide_eq_true h2]
        exact ⟨0, rfl, fun h => by simp at h⟩
      · rw [bif_f (by omega), decide_eq_false h2, g1]
        exact ⟨m, by simp, fun h => g2 (by simpa using h)⟩
    · rw [decide_eq_false h1, cond_false, g1]
      exact ⟨m, by simp, fun h => g2 (by simpa using h)⟩
end Go.Proofs.YtilbahgfjfcikaaGreatDoor.Eng.U


/- The functions of the Dec laws in plain words, part 2: printing. -/
set_option linter.unusedVariables false
set_option linter.unusedSectionVars false
set_option linter.unusedSimpArgs false
namespace Go.Proofs.YtilbahgfjfcikaaGreatDoor.Eng.U
open Go Go.Proofs Go.Proofs.YtilbahgfjfcikaaGreatDoor.Eng Go.Proofs.YtilbahgfjfcikaaGreatDoor.P04
variable {E : Ext} [Core E] [HasNum E] {k n : Nat}

theorem dig_len (u : Nat) (h : u ≤ 9223372036854775808) : (Lib.decDigits u).length ≤ 21 := by
  rw [Lib.decDigits_length]
  cases u with
  | zero => rw [Lib.nDigits_small (by omega)]; omega
  | succ u =>
    by_cases h2 : u + 1 < 9223372036854775808
    · have := Lib.itoa_length_le ((u + 1 : Nat) : Int) (by omega) (by omega)
      rwa [Lib.itoa_nonneg, Lib.decDigits_length] at this
    · rw [Lib.nDigits_unique 18 (u + 1) (by omega) (by omega)]; omega
def rightT (t : Int) : Bool := decide (0 ≤ t) && decide (t < 1000000000)
theorem ext_one (c : UInt8) (l : List UInt8) : ByteArray.extract (str (c :: l)) 1 (l.length + 1) = str l := by
  rw [str_ext]
  simp
end Go.Proofs.YtilbahgfjfcikaaGreatDoor.Eng.U


/- The functions of the Dec laws in plain words, part 3: reading. -/
set_option linter.unusedVariables false
set_option linter.unusedSectionVars false
set_option linter.unusedSimpArgs false
namespace Go.Proofs.YtilbahgfjfcikaaGreatDoor.Eng.U
open Go Go.Proofs Go.Proofs.YtilbahgfjfcikaaGreatDoor.Eng Go.Proofs.YtilbahgfjfcikaaGreatDoor.P04
variable {E : Ext} [Core E] [HasNum E] {k n : Nat}

theorem dot_le (t : List UInt8) : dot t ≤ t.length := List.findIdx_le_length
theorem cut_k (t : List UInt8) (ht : t.length < 1000000000000) : kp E k (n + 2) strings_Cut [.str (str t), .str (str [46])] = some (.tup [.str (str (t.take (dot t))), .str (str (t.drop (dot t + 1))), .bool (decide (dot t < t.length))]) := by
  have hd := dot_le t
  rw [strings_Cut_eq, stringslite_Cut_eq, HasNum.index k n t 46, callI_ok, index_dot]
  by_cases h : dot t < t.length
  · rw [if_pos h, decide_eq_true h, bif_t (by omega), str_size, str_size, List.length_singleton, wrapP (by omega) (by omega), bif_a, bif_t (by omega), bif_t (by omega), bif_a, bif_t (by omega), bif_t (by omega), Int.toNat_natCast, Int.toNat_natCast, str_ext, str_ext, List.take_length, List.drop_zero]
    rfl
  · rw [if_neg h, decide_eq_false h, bif_f (by omega), List.take_of_length_le (by omega), List.drop_of_length_le (by omega)]
    rfl
theorem trim_minus (s : List UInt8) : Lib.trimPrefix s [45] = (if s.head? = some 45 then s.drop 1 else s) ∧ Lib.hasPrefix s [45] = decide (s.head? = some 45) := by
  have h : Lib.hasPrefix s [45] = decide (s.head? = some 45) := by
    unfold Lib.hasPrefix
    cases s with
    | nil => rfl
    | cons c s =>
      simp only [List.isPrefixOf, List.head?_cons, Option.some.injEq, Bool.and_true]
      rw [Bool.eq_iff_iff, beq_iff_eq, decide_eq_true_eq]
      exact eq_comm
  refine ⟨?_, h⟩
  unfold Lib.trimPrefix
  rw [h]
  by_cases hs : s.head? = some 45
  · rw [if_pos hs, if_pos (decide_eq_true hs)]; rfl
  · rw [if_neg hs, if_neg (by simpa using hs)]
theorem repeat48 : ∀ c, Lib.repeatL [48] c = List.replicate c (48 : UInt8)
  | 0 => rfl
  | c + 1 => by rw [Lib.repeatL, repeat48 c]; rfl
theorem zeros_dig (c : Nat) : (List.replicate c (48 : UInt8)).all isDig = true := by
  rw [List.all_eq_true]
  intro x hx
  rw [List.eq_of_mem_replicate hx]
  rfl
theorem parseI_eq {l : List UInt8} (hd : digs l = true) (h9 : l.length ≤ 9) : Lib.parseIntB 64 l = .ok (valA 0 l : Int) ∧ valA 0 l < 1000000000 := by
  have hall := digs_all hd
  have hv : valA 0 l < 10 ^ (0 + l.length) := valA_lt l 0 0 hall (by omega)
  have hp : 10 ^ (0 + l.length) ≤ 10 ^ 9 := Nat.pow_le_pow_right (by omega) (by omega)
  have hlt : valA 0 l < 1000000000 := by omega
  refine ⟨?_, hlt⟩
  have hB := parseB_eq hd
  rw [if_pos (by omega)] at hB
  cases l with
  | nil => simp [digs] at hd
  | cons c r =>
    rw [List.all_cons, Bool.and_eq_true] at hall
    have hc := dig_iff.1 hall.1
    unfold Lib.parseIntB
    dsimp only
    rw [if_neg (show ¬ (c.toNat = 43 ∨ c.toNat = 45) by omega), hB]
    dsimp only
    have h1 : ¬ (2 : Nat) ^ (64 - 1) ≤ valA 0 (c :: r) := by
      have : (2 : Nat) ^ (64 - 1) = 9223372036854775808 := rfl
      omega
    rw [if_neg (fun h => h1 h.2), if_neg (fun h => by omega), if_neg (by omega)]
theorem nano_digs {b : List UInt8} (hd : digs b = true) (h9 : b.length ≤ 9) : digs (b ++ List.replicate (9 - b.length) 48) = true ∧ (b ++ List.replicate (9 - b.length) (48 : UInt8)).length = 9 := by
  constructor
  · unfold digs
    rw [List.all_append, digs_all hd, zeros_dig, Bool.true_and, Bool.true_and]
    have := digs_ne hd
    cases b with
    | nil => exact absurd rfl this
    | cons c b => rfl
  · rw [List.length_append, List.length_replicate]; omega
theorem half {v : Nat} : decide (Int.fdiv (v : Int) (2 ^ (min (Int.toNat (63 : Int)) (IntKind.bits .u64))) > (0 : Int)) = decide (9223372036854775807 < v) := by
  have e : ((2 : Int) ^ (min (Int.toNat (63 : Int)) (IntKind.bits .u64))) = 9223372036854775808 := rfl
  rw [e, decide_eq_decide, Int.fdiv_eq_ediv_of_nonneg _ (by omega)]
  omega
theorem negW {v : Nat} (h : v ≤ 9223372036854775808) : IntKind.wrap .i64 (IntKind.wrap .u64 (0 - (v : Int))) = -(v : Int) := by
  rw [IntKind.wrap_u64, IntKind.wrap_i64]
  omega
def timeAV : Option (Int × Int) → AV
  | some (a, b) => .tup [.agg [.int .i64 a, .int .i64 b], .int .u8 0]
  | none => .tup [.agg [.int .i64 0, .int .i64 0], .int .u8 15]
theorem number_k (l : List UInt8) (hb : l.length < 1000000000000) (hk : l.length < k) : kp E k (n + 3) dec_Number [.str (str l)] = some (bif natOk l && decide (valA 0 l ≤ 9223372036854775807) then .tup [.int .i64 (valA 0 l : Int), .int .u8 0] else .tup [.int .i64 0, .int .u8 15]) := by
  obtain ⟨m, h1, h2⟩ := natural_k (E := E) (k := k) (n := n) l (by omega) hk
  rw [dec_Number_eq, h1]
  simp (disch := first | omega | (simp only [List.length_append, List.length_cons, List.length_nil, List.length_take, List.length_drop]; done) | (simp only [List.length_append, List.length_cons, List.length_nil, List.length_take, List.length_drop]; omega) | fail) only [bif_t, bif_f, bif_n, bif_a, callB_ok, callI_ok, callS_ok, callL_ok, callF_ok, callT_ok, tupB_ok, tupI_ok, tupS_ok, tupL_ok, tupF_ok, atNil_ok, wrap1, wrapM, wrapP, Int.toNat_natCast, svs_len, ivs_len, bvs_len, str_size, svs_mid, ivs_mid, str_dec, str_ext, str_byte, mid_byte, mid_cut, List.length_nil, List.length_singleton, svs_snoc, ivs_snoc, svs_take, svs_drop, str_app, List.take_length, List.drop_zero, List.nil_append, cond_true, cond_false, Option.bind_some, Bool.not_true, Bool.not_false, Bool.true_and, Bool.and_true]
  cases ho : natOk l with
  | false => rfl
  | true =>
    rw [h2 ho]
    simp only [Bool.not_true, cond_false, Bool.true_and, half]
    by_cases hv : 9223372036854775807 < valA 0 l
    · rw [bif_t hv, decide_eq_false (by omega)]; rfl
    · rw [bif_f hv, decide_eq_true (by omega), i64w (by omega)]; rfl
theorem refNumber_k (l : List UInt8) (hb : l.length < 1000000000000) (hk : l.length < k) : kp E k (n + 3) ref04_Number [.str (str l)] = some (bif natOk l && decide (valA 0 l ≤ 9223372036854775807) then .tup [.int .i64 (valA 0 l : Int), .bool true] else .tup [.int .i64 0, .bool false]) := by
  rw [ref04_Number_eq, below_k l (by omega) hk]
  simp (disch := first | omega | (simp only [List.length_append, List.length_cons, List.length_nil, List.length_take, List.length_drop]; done) | (simp only [List.length_append, List.length_cons, List.length_nil, List.length_take, List.length_drop]; omega) | fail) only [bif_t, bif_f, bif_n, bif_a, callB_ok, callI_ok, callS_ok, callL_ok, callF_ok, callT_ok, tupB_ok, tupI_ok, tupS_ok, tupL_ok, tupF_ok, atNil_ok, wrap1, wrapM, wrapP, Int.toNat_natCast, svs_len, ivs_len, bvs_len, str_size, svs_mid, ivs_mid, str_dec, str_ext, str_byte, mid_byte, mid_cut, List.length_nil, List.length_singleton, svs_snoc, ivs_snoc, svs_take, svs_drop, str_app, List.take_length, List.drop_zero, List.nil_append, cond_true, cond_false, Option.bind_some, Bool.not_true, Bool.not_false, Bool.true_and, Bool.and_true]
  cases ho : natOk l with
  | false => rfl
  | true =>
    have hv : valA 0 l ≤ 9223372036854775808 := by
      unfold natOk at ho
      rw [Bool.and_eq_true, decide_eq_true_eq] at ho
      exact ho.2
    simp only [if_true, Bool.not_true, cond_false, Bool.true_and]
    by_cases hv : 9223372036854775807 < valA 0 l
    · rw [bif_t (by omega), decide_eq_false (by omega)]; rfl
    · rw [bif_f (by omega), decide_eq_true (by omega), i64w (by omega), show (0 : Int) - -(valA 0 l : Int) = (valA 0 l : Int) from by omega]; rfl
theorem natOk_le {l : List UInt8} (ho : natOk l = true) : valA 0 l ≤ 9223372036854775808 := by
  unfold natOk at ho
  rw [Bool.and_eq_true, decide_eq_true_eq] at ho
  exact ho.2
theorem time_k (s : List UInt8) (hs : s.length < 100000000000) (hk : s.length < k) : kp E k (n + 3) dec_Time [.str (str s)] = some (timeAV (timeL s)) := by
  obtain ⟨t1, t2⟩ := trim_minus s
  rw [dec_Time_eq, HasNum.cutP, t1, t2]
  unfold timeL
  have hle : (if s.head? = some 45 then s.drop 1 else s).length ≤ s.length := by split <;> simp
  generalize (if s.head? = some 45 then s.drop 1 else s) = t at hle
  generalize decide (s.head? = some 45) = minus
  simp (disch := first | omega | (simp only [List.length_append, List.length_cons, List.length_nil, List.length_take, List.length_drop]; done) | (simp only [List.length_append, List.length_cons, List.length_nil, List.length_take, List.length_drop]; omega) | fail) only [bif_t, bif_f, bif_n, bif_a, callB_ok, callI_ok, callS_ok, callL_ok, callF_ok, callT_ok, tupB_ok, tupI_ok, tupS_ok, tupL_ok, tupF_ok, atNil_ok, wrap1, wrapM, wrapP, Int.toNat_natCast, svs_len, ivs_len, bvs_len, str_size, svs_mid, ivs_mid, str_dec, str_ext, str_byte, mid_byte, mid_cut, List.length_nil, List.length_singleton, svs_snoc, ivs_snoc, svs_take, svs_drop, str_app, List.take_length, List.drop_zero, List.nil_append, cond_true, cond_false, Option.bind_some, Bool.not_true, Bool.not_false, Bool.true_and, Bool.and_true]
  rw [cut_k t (by omega)]
  simp (disch := first | omega | (simp only [List.length_append, List.length_cons, List.length_nil, List.length_take, List.length_drop]; done) | (simp only [List.length_append, List.length_cons, List.length_nil, List.length_take, List.length_drop]; omega) | fail) only [bif_t, bif_f, bif_n, bif_a, callB_ok, callI_ok, callS_ok, callL_ok, callF_ok, callT_ok, tupB_ok, tupI_ok, tupS_ok, tupL_ok, tupF_ok, atNil_ok, wrap1, wrapM, wrapP, Int.toNat_natCast, svs_len, ivs_len, bvs_len, str_size, svs_mid, ivs_mid, str_dec, str_ext, str_byte, mid_byte, mid_cut, List.length_nil, List.length_singleton, svs_snoc, ivs_snoc, svs_take, svs_drop, str_app, List.take_length, List.drop_zero, List.nil_append, cond_true, cond_false, Option.bind_some, Bool.not_true, Bool.not_false, Bool.true_and, Bool.and_true]
  obtain ⟨m, h1, h2⟩ := natural_k (E := E) (k := k) (n := n) (t.take (dot t)) (by rw [List.length_take]; omega) (by rw [List.length_take]; omega)
  rw [h1]
  simp (disch := first | omega | (simp only [List.length_append, List.length_cons, List.length_nil, List.length_take, List.length_drop]; done) | (simp only [List.length_append, List.length_cons, List.length_nil, List.length_take, List.length_drop]; omega) | fail) only [bif_t, bif_f, bif_n, bif_a, callB_ok, callI_ok, callS_ok, callL_ok, callF_ok, callT_ok, tupB_ok, tupI_ok, tupS_ok, tupL_ok, tupF_ok, atNil_ok, wrap1, wrapM, wrapP, Int.toNat_natCast, svs_len, ivs_len, bvs_len, str_size, svs_mid, ivs_mid, str_dec, str_ext, str_byte, mid_byte, mid_cut, List.length_nil, List.length_singleton, svs_snoc, ivs_snoc, svs_take, svs_drop, str_app, List.take_length, List.drop_zero, List.nil_append, cond_true, cond_false, Option.bind_some, Bool.not_true, Bool.not_false, Bool.true_and, Bool.and_true]
  unfold timeB
  dsimp only
  cases ho : natOk (t.take (dot t)) with
  | false => rfl
  | true =>
    obtain rfl := h2 ho
    have hv := natOk_le ho
    generalize valA 0 (t.take (dot t)) = v at hv
    rw [if_neg (by simp)]
    simp only [half, cond_true, cond_false, Bool.not_true, Bool.not_false]
    by_cases hp : dot t < t.length
    · have hbl : (t.drop (dot t + 1)).length ≤ t.length := by rw [List.length_drop]; omega
      rw [decide_eq_true hp]
      generalize hbe : t.drop (dot t + 1) = b at hbl
      rw [if_pos hp]
      simp only [cond_true, cond_false, Bool.not_true, Bool.not_false]
      rw [digits_k b (by omega) (by omega)]
      simp (disch := first | omega | (simp only [List.length_append, List.length_cons, List.length_nil, List.length_take, List.length_drop]; done) | (simp only [List.length_append, List.length_cons, List.length_nil, List.length_take, List.length_drop]; omega) | fail) only [bif_t, bif_f, bif_n, bif_a, callB_ok, callI_ok, callS_ok, callL_ok, callF_ok, callT_ok, tupB_ok, tupI_ok, tupS_ok, tupL_ok, tupF_ok, atNil_ok, wrap1, wrapM, wrapP, Int.toNat_natCast, svs_len, ivs_len, bvs_len, str_size, svs_mid, ivs_mid, str_dec, str_ext, str_byte, mid_byte, mid_cut, List.length_nil, List.length_singleton, svs_snoc, ivs_snoc, svs_take, svs_drop, str_app, List.take_length, List.drop_zero, List.nil_append, cond_true, cond_false, Option.bind_some, Bool.not_true, Bool.not_false, Bool.true_and, Bool.and_true]
      cases hd : digs b with
      | false => rw [if_pos ⟨hp, fun h => by simp at h⟩]; rfl
      | true =>
        simp only [cond_true, cond_false, Bool.not_true, Bool.not_false]
        by_cases h9 : b.length ≤ 9
        · obtain ⟨q1, q2⟩ := nano_digs hd h9
          obtain ⟨q3, q4⟩ := parseI_eq q1 (by omega)
          rw [if_neg (fun h => h.2 ⟨trivial, h9⟩), bif_f (by omega), i64w (x := 9 - ((b.length : Nat) : Int)) (by omega), show (9 : Int) - ((b.length : Nat) : Int) = ((9 - b.length : Nat) : Int) from by omega, HasNum.rep k (n + 2) _ _ (by omega) (by rw [List.length_singleton]; omega), repeat48]
          simp (disch := first | omega | (simp only [List.length_append, List.length_cons, List.length_nil, List.length_take, List.length_drop]; done) | (simp only [List.length_append, List.length_cons, List.length_nil, List.length_take, List.length_drop]; omega) | fail) only [bif_t, bif_f, bif_n, bif_a, callB_ok, callI_ok, callS_ok, callL_ok, callF_ok, callT_ok, tupB_ok, tupI_ok, tupS_ok, tupL_ok, tupF_ok, atNil_ok, wrap1, wrapM, wrapP, Int.toNat_natCast, svs_len, ivs_len, bvs_len, str_size, svs_mid, ivs_mid, str_dec, str_ext, str_byte, mid_byte, mid_cut, List.length_nil, List.length_singleton, svs_snoc, ivs_snoc, svs_take, svs_drop, str_app, List.take_length, List.drop_zero, List.nil_append, cond_true, cond_false, Option.bind_some, Bool.not_true, Bool.not_false, Bool.true_and, Bool.and_true]
          rw [List.length_replicate, bif_t (by omega), HasNum.pint k (n + 2) _ (by omega), q3]
          generalize valA 0 (b ++ List.replicate (9 - b.length) 48) = w at q4
          unfold endI
          simp (disch := first | omega | (simp only [List.length_append, List.length_cons, List.length_nil, List.length_take, List.length_drop]; done) | (simp only [List.length_append, List.length_cons, List.length_nil, List.length_take, List.length_drop]; omega) | fail) only [bif_t, bif_f, bif_n, bif_a, callB_ok, callI_ok, callS_ok, callL_ok, callF_ok, callT_ok, tupB_ok, tupI_ok, tupS_ok, tupL_ok, tupF_ok, atNil_ok, wrap1, wrapM, wrapP, Int.toNat_natCast, svs_len, ivs_len, bvs_len, str_size, svs_mid, ivs_mid, str_dec, str_ext, str_byte, mid_byte, mid_cut, List.length_nil, List.length_singleton, svs_snoc, ivs_snoc, svs_take, svs_drop, str_app, List.take_length, List.drop_zero, List.nil_append, cond_true, cond_false, Option.bind_some, Bool.not_true, Bool.not_false, Bool.true_and, Bool.and_true]
          have e0 : ∀ K : AV → List AV → Option AV, tupV [AV.nili] K = K .nili [] := fun K => rfl
          rw [e0]
          simp (disch := first | omega | (simp only [List.length_append, List.length_cons, List.length_nil, List.length_take, List.length_drop]; done) | (simp only [List.length_append, List.length_cons, List.length_nil, List.length_take, List.length_drop]; omega) | fail) only [bif_t, bif_f, bif_n, bif_a, callB_ok, callI_ok, callS_ok, callL_ok, callF_ok, callT_ok, tupB_ok, tupI_ok, tupS_ok, tupL_ok, tupF_ok, atNil_ok, wrap1, wrapM, wrapP, Int.toNat_natCast, svs_len, ivs_len, bvs_len, str_size, svs_mid, ivs_mid, str_dec, str_ext, str_byte, mid_byte, mid_cut, List.length_nil, List.length_singleton, svs_snoc, ivs_snoc, svs_take, svs_drop, str_app, List.take_length, List.drop_zero, List.nil_append, cond_true, cond_false, Option.bind_some, Bool.not_true, Bool.not_false, Bool.true_and, Bool.and_true]
          cases minus with
          | false =>
            simp only [cond_true, cond_false, Bool.not_true, Bool.not_false, if_true]
            by_cases h3 : 9223372036854775807 < v
            · rw [bif_t h3, if_pos h3]; rfl
            · rw [bif_f h3, if_neg h3, i64w (by omega)]; rfl
          | true =>
            simp only [cond_true, cond_false, Bool.not_true, Bool.not_false, if_neg (show ¬ true = false by decide)]
            by_cases h4 : w = 0
            · subst h4
              rw [bif_t (by omega), if_pos rfl, negW (by omega)]; rfl
            · rw [bif_f (by omega), if_neg h4]
              by_cases h3 : 9223372036854775807 < v
              · rw [bif_t h3, if_pos h3]; rfl
              · rw [bif_f h3, if_neg h3, i64w (x := (v : Int)) (by omega), i64w (x := 0 - (v : Int)) (by omega), i64w (x := 0 - (v : Int) - 1) (by omega), i64w (by omega), show (0 : Int) - (v : Int) - 1 = -(v : Int) - 1 from by omega]; rfl
        · rw [if_pos ⟨hp, fun h => h9 h.2⟩, bif_t (by omega)]
          rfl
    · rw [decide_eq_false hp, if_neg (fun h => hp h.1), if_neg hp]
      simp only [cond_true, cond_false, Bool.not_true, Bool.not_false]
      cases minus with
      | false =>
        simp only [cond_true, cond_false, Bool.not_true, Bool.not_false, if_true]
        by_cases h3 : 9223372036854775807 < v
        · rw [bif_t h3, if_pos h3]; rfl
        · rw [bif_f h3, if_neg h3, i64w (by omega)]; rfl
      | true =>
        simp only [cond_true, cond_false, Bool.not_true, Bool.not_false, if_neg (show ¬ true = false by decide), if_true]
        rw [negW (by omega)]; rfl
end Go.Proofs.YtilbahgfjfcikaaGreatDoor.Eng.U


/- The Dec laws answer true. -/
set_option linter.unusedVariables false
set_option linter.unusedSectionVars false
set_option linter.unusedSimpArgs false
namespace Go.Proofs.YtilbahgfjfcikaaGreatDoor.Eng.U
open Go Go.Proofs Go.Proofs.YtilbahgfjfcikaaGreatDoor.Eng Go.Proofs.YtilbahgfjfcikaaGreatDoor.P04
variable {E : Ext} [Core E] [HasNum E] {k n : Nat}

end Go.Proofs.YtilbahgfjfcikaaGreatDoor.Eng.U


/- What functions answer, as the engine evaluates their code. Printed by gen2.py. -/
set_option linter.unusedVariables false
namespace Go.Proofs.YtilbahgfjfcikaaGreatDoor.Eng.U
open Go Go.Proofs Go.Proofs.YtilbahgfjfcikaaGreatDoor.Eng
/- strings.ContainsAny -/
theorem strings_ContainsAny_eq {E : Ext} [Core E] (k n : Nat) (a0 : ByteArray) (a1 : ByteArray) : kp E k (n + 1) strings_ContainsAny [(.str a0), (.str a1)] =
  (callI .i64 (kp E k n strings_IndexAny [(.str a0), (.str a1)]) fun vn2 => (some (.bool (decide (vn2 ≥ (0 : Int)))))) := (kp_at (by kernel_rfl)).trans (by kernel_rfl)
/- strings.IndexAny -/
noncomputable def strings_IndexAny_bd : Code := Tryz.f93.body.getD .skip
noncomputable def strings_IndexAny_L0 (kap : FuncId → List AV → Option AV) (k : Nat) (k0 : Nat) (s1 : ByteArray) (i45s : ByteArray) (i45p : Nat) : Option AV :=
  loop (fun fr K => code ((bs E0 k).cfg kap strings_IndexAny) (sel strings_IndexAny_bd [1, 1, 1, 1, 0, 1, 0, 0]) fr K) (canon ((bs E0 k).cfg kap strings_IndexAny) (firstReg (sel strings_IndexAny_bd [1, 1, 1, 1, 0, 1, 0, 0]))) k0 (mkFr 55 [(1, (.str s1)), (45, (.itr 45))] [(45, (.it i45s i45p))]) (plug ((bs E0 k).cfg kap strings_IndexAny) (retK ((bs E0 k).cfg kap strings_IndexAny) [] Tryz.f93 [] some) [.blk 2, .seqR (sel strings_IndexAny_bd [1, 1, 1, 1, 1])])
theorem strings_IndexAny_L0_s (kap : FuncId → List AV → Option AV) (k : Nat) (k0 : Nat) (s1 : ByteArray) (i45s : ByteArray) (i45p : Nat) : strings_IndexAny_L0 kap k (k0 + 1) s1 i45s i45p =
  (bif (decide (i45p < (ByteArray.size i45s))) then (callI .i64 (kap strings_IndexRune [(.str s1), (.int .i32 (((Utf8.decode i45s i45p).1 : Nat) : Int))]) fun vn8 => (bif (decide (vn8 ≥ (0 : Int))) then (some (.int .i64 ((i45p : Nat) : Int))) else (strings_IndexAny_L0 kap k k0 s1 i45s (i45p + (Utf8.decode i45s i45p).2)))) else (some (.int .i64 (-1 : Int)))) := by kernel_rfl
theorem strings_IndexAny_eq {E : Ext} [Core E] (hB : E.isBase strings_IndexAny = false) (hF : E.fs.contains strings_IndexAny = true) (k n : Nat) (a0 : ByteArray) (a1 : ByteArray) : kp E k (n + 1) strings_IndexAny [(.str a0), (.str a1)] =
  (bif (decide (a1 = (str []))) then (some (.int .i64 (-1 : Int))) else (bif (decide ((((ByteArray.size a1) : Nat) : Int) = (1 : Int))) then (bif (decide ((0 : Int) < (((ByteArray.size a1) : Nat) : Int))) then (bif (decide ((IntKind.wrap .i32 (byteAt a1 0)) ≥ (128 : Int))) then (callI .i64 (kp E k n strings_IndexRune [(.str a0), (.int .i32 (65533 : Int))]) fun vn2 => (some (.int .i64 vn2))) else (callI .i64 (kp E k n strings_IndexRune [(.str a0), (.int .i32 (IntKind.wrap .i32 (byteAt a1 0)))]) fun vn4 => (some (.int .i64 vn4)))) else none) else (callB (kp E k n strings_shouldUseASCIISet [(.int .i64 (((ByteArray.size a0) : Nat) : Int))]) fun vq6 => (bif vq6 then (code ((bs E0 k).cfg (kp E k n) strings_IndexAny) (sel strings_IndexAny_bd [1, 1, 1, 0, 1, 0]) (mkFr 55 [(0, (.str a0)), (1, (.str a1)), (4, (.int .i64 (0 : Int))), (11, (.str a1)), (12, (.bool (decide (a1 = (str []))))), (13, (.str a1)), (14, (.int .i64 (((ByteArray.size a1) : Nat) : Int))), (15, (.bool (decide ((((ByteArray.size a1) : Nat) : Int) = (1 : Int))))), (24, (.str a0)), (25, (.int .i64 (((ByteArray.size a0) : Nat) : Int))), (26, (.bool vq6))] []) (plug ((bs E0 k).cfg (kp E k n) strings_IndexAny) (retK ((bs E0 k).cfg (kp E k n) strings_IndexAny) [] Tryz.f93 [] some) [.seqR (sel strings_IndexAny_bd [1, 1, 1, 1])])) else (strings_IndexAny_L0 (kp E k n) k k a1 a0 0))))) := (Base.kap_at (B := bs E k) hB hF _).trans (by kernel_rfl)
/- strings.IndexRune -/
noncomputable def strings_IndexRune_bd : Code := Tryz.f113.body.getD .skip
noncomputable def strings_IndexRune_L0 (kap : FuncId → List AV → Option AV) (k : Nat) (k0 : Nat) (i175s : ByteArray) (i175p : Nat) : Option AV :=
  loop (fun fr K => code ((bs E0 k).cfg kap strings_IndexRune) (sel strings_IndexRune_bd [1, 0, 1, 1, 1, 0, 0, 1, 0, 0]) fr K) (canon ((bs E0 k).cfg kap strings_IndexRune) (firstReg (sel strings_IndexRune_bd [1, 0, 1, 1, 1, 0, 0, 1, 0, 0]))) k0 (mkFr 187 [(175, (.itr 175))] [(175, (.it i175s i175p))]) (plug ((bs E0 k).cfg kap strings_IndexRune) (retK ((bs E0 k).cfg kap strings_IndexRune) [] Tryz.f113 [] some) [.blk 9, .seqR (sel strings_IndexRune_bd [1, 0, 1, 1, 1, 0, 1]), .blk 0])
noncomputable def strings_IndexRune_L1 (kap : FuncId → List AV → Option AV) (k : Nat) (k1 : Nat) (s0 : ByteArray) (s7 : ByteArray) (s8 : Int) (s9 : Int) : Option AV :=
  loop (fun fr K => code ((bs E0 k).cfg kap strings_IndexRune) (sel strings_IndexRune_bd [1, 0, 1, 1, 1, 1, 1, 1, 0, 1, 1, 1, 1, 0, 0, 0]) fr K) (canon ((bs E0 k).cfg kap strings_IndexRune) (firstReg (sel strings_IndexRune_bd [1, 0, 1, 1, 1, 1, 1, 1, 0, 1, 1, 1, 1, 0, 0, 0]))) k1 (mkFr 187 [(0, (.str s0)), (7, (.str s7)), (8, (.int .i64 s8)), (9, (.int .i64 s9))] []) (plug ((bs E0 k).cfg kap strings_IndexRune) (retK ((bs E0 k).cfg kap strings_IndexRune) [] Tryz.f113 [] some) [.blk 1, .seqR (sel strings_IndexRune_bd [1, 0, 1, 1, 1, 1, 1, 1, 0, 1, 1, 1, 1, 1]), .blk 0])
noncomputable def strings_IndexRune_L2 (kap : FuncId → List AV → Option AV) (k : Nat) (k1 : Nat) (k2 : Nat) (s0 : ByteArray) (s7 : ByteArray) (s8 : Int) (s9 : Int) (s12 : Int) : Option AV :=
  loop (fun fr K => code ((bs E0 k).cfg kap strings_IndexRune) (sel strings_IndexRune_bd [1, 0, 1, 1, 1, 1, 1, 1, 0, 1, 1, 1, 1, 0, 0, 0, 1, 0, 0, 1, 0, 1, 0, 0]) fr K) (canon ((bs E0 k).cfg kap strings_IndexRune) (firstReg (sel strings_IndexRune_bd [1, 0, 1, 1, 1, 1, 1, 1, 0, 1, 1, 1, 1, 0, 0, 0, 1, 0, 0, 1, 0, 1, 0, 0]))) k2 (mkFr 187 [(0, (.str s0)), (7, (.str s7)), (8, (.int .i64 s8)), (9, (.int .i64 s9)), (12, (.int .i64 s12))] []) (plug ((bs E0 k).cfg kap strings_IndexRune) (retK ((bs E0 k).cfg kap strings_IndexRune) [] Tryz.f113 [] some) [.blk 3, .seqR (sel strings_IndexRune_bd [1, 0, 1, 1, 1, 1, 1, 1, 0, 1, 1, 1, 1, 0, 0, 0, 1, 0, 0, 1, 1]), .blk 2, .lp (sel strings_IndexRune_bd [1, 0, 1, 1, 1, 1, 1, 1, 0, 1, 1, 1, 1, 0, 0, 0]) k1, .blk 1, .seqR (sel strings_IndexRune_bd [1, 0, 1, 1, 1, 1, 1, 1, 0, 1, 1, 1, 1, 1]), .blk 0])
theorem strings_IndexRune_L0_s (kap : FuncId → List AV → Option AV) (k : Nat) (k0 : Nat) (i175s : ByteArray) (i175p : Nat) : strings_IndexRune_L0 kap k (k0 + 1) i175s i175p =
  (bif (decide (i175p < (ByteArray.size i175s))) then (bif (decide ((((Utf8.decode i175s i175p).1 : Nat) : Int) = (65533 : Int))) then (some (.int .i64 ((i175p : Nat) : Int))) else (strings_IndexRune_L0 kap k k0 i175s (i175p + (Utf8.decode i175s i175p).2))) else (some (.int .i64 (-1 : Int)))) := by kernel_rfl
theorem strings_IndexRune_L1_s (kap : FuncId → List AV → Option AV) (k : Nat) (k1 : Nat) (s0 : ByteArray) (s7 : ByteArray) (s8 : Int) (s9 : Int) : strings_IndexRune_L1 kap k (k1 + 1) s0 s7 s8 s9 =
  (bif (decide (s9 < (((ByteArray.size s0) : Nat) : Int))) then (bif ((decide ((0 : Int) ≤ s9)) && (decide (s9 < (((ByteArray.size s0) : Nat) : Int)))) then (bif ((decide ((0 : Int) ≤ s8)) && (decide (s8 < (((ByteArray.size s7) : Nat) : Int)))) then (bif (!(decide ((byteAt s0 (Int.toNat s9)) = (byteAt s7 (Int.toNat s8))))) then (bif ((decide ((0 : Int) ≤ (IntKind.wrap .i64 (s9 + (1 : Int))))) && (decide ((IntKind.wrap .i64 (s9 + (1 : Int))) ≤ (((ByteArray.size s0) : Nat) : Int)))) then (bif ((decide ((0 : Int) ≤ s8)) && (decide (s8 < (((ByteArray.size s7) : Nat) : Int)))) then (callI .i64 (kap strings_IndexByte [(.str (ByteArray.extract s0 (Int.toNat (IntKind.wrap .i64 (s9 + (1 : Int)))) (ByteArray.size s0))), (.int .u8 (byteAt s7 (Int.toNat s8)))]) fun vn6 => (bif (decide (vn6 < (0 : Int))) then (some (.int .i64 (-1 : Int))) else (strings_IndexRune_L2 kap k k1 k s0 s7 s8 (IntKind.wrap .i64 (s9 + (IntKind.wrap .i64 (vn6 + (1 : Int))))) (1 : Int)))) else none) else none) else (strings_IndexRune_L2 kap k k1 k s0 s7 s8 s9 (1 : Int))) else none) else none) else (some (.int .i64 (-1 : Int)))) := by kernel_rfl
theorem strings_IndexRune_eq {E : Ext} [Core E] (k n : Nat) (a0 : ByteArray) (a1 : Int) : kp E k (n + 1) strings_IndexRune [(.str a0), (.int .i32 a1)] =
  (bif (decide ((0 : Int) ≤ a1)) then (bif (decide (a1 < (128 : Int))) then (callI .i64 (kp E k n strings_IndexByte [(.str a0), (.int .u8 (IntKind.wrap .u8 a1))]) fun vn2 => (some (.int .i64 vn2))) else (bif (decide (a1 = (65533 : Int))) then (strings_IndexRune_L0 (kp E k n) k k a0 0) else (callB (kp E k n unicode_utf8_ValidRune [(.int .i32 a1)]) fun vq4 => (bif (!vq4) then (some (.int .i64 (-1 : Int))) else (strings_IndexRune_L1 (kp E k n) k k a0 (Utf8.encode a1) (IntKind.wrap .i64 ((((ByteArray.size (Utf8.encode a1)) : Nat) : Int) - (1 : Int))) (IntKind.wrap .i64 ((((ByteArray.size (Utf8.encode a1)) : Nat) : Int) - (1 : Int)))))))) else (bif (decide (a1 = (65533 : Int))) then (strings_IndexRune_L0 (kp E k n) k k a0 0) else (callB (kp E k n unicode_utf8_ValidRune [(.int .i32 a1)]) fun vq8 => (bif (!vq8) then (some (.int .i64 (-1 : Int))) else (strings_IndexRune_L1 (kp E k n) k k a0 (Utf8.encode a1) (IntKind.wrap .i64 ((((ByteArray.size (Utf8.encode a1)) : Nat) : Int) - (1 : Int))) (IntKind.wrap .i64 ((((ByteArray.size (Utf8.encode a1)) : Nat) : Int) - (1 : Int)))))))) := (kp_at (by kernel_rfl)).trans (by kernel_rfl)
/- strings.shouldUseASCIISet -/
theorem strings_shouldUseASCIISet_eq {E : Ext} [Core E] (k n : Nat) (a0 : Int) : kp E k (n + 1) strings_shouldUseASCIISet [(.int .i64 a0)] =
  (some (.bool (decide (a0 > (8 : Int))))) := (kp_at (by kernel_rfl)).trans (by kernel_rfl)
/- unicode/utf8.ValidRune -/
theorem unicode_utf8_ValidRune_eq {E : Ext} [Core E] (k n : Nat) (a0 : Int) : kp E k (n + 1) unicode_utf8_ValidRune [(.int .i32 a0)] =
  (bif (decide ((0 : Int) ≤ a0)) then (bif (decide (a0 < (55296 : Int))) then (some (.bool true)) else (bif (decide ((57343 : Int) < a0)) then (bif (decide (a0 ≤ (1114111 : Int))) then (some (.bool true)) else (some (.bool false))) else (some (.bool false)))) else (bif (decide ((57343 : Int) < a0)) then (bif (decide (a0 ≤ (1114111 : Int))) then (some (.bool true)) else (some (.bool false))) else (some (.bool false)))) := (kp_at (by kernel_rfl)).trans (by kernel_rfl)
end Go.Proofs.YtilbahgfjfcikaaGreatDoor.Eng.U


/- Is any field of a head wrong: some number answers, and 0 says what ItemFulls wants. -/
set_option linter.unusedVariables false
set_option linter.unusedSectionVars false
set_option linter.unusedSimpArgs false
namespace Go.Proofs.YtilbahgfjfcikaaGreatDoor.Eng.U
open Go Go.Proofs Go.Proofs.YtilbahgfjfcikaaGreatDoor.Eng Go.Proofs.YtilbahgfjfcikaaGreatDoor.P04
variable {E : Ext} [Core E] [HasNum E] {k n : Nat}

class HasText (E : Ext) : Prop where
  dec : ∀ (k n : Nat) (s : List UInt8), ∃ r w : Int, kp E k n unicode_utf8_DecodeRuneInString [.str (str s)] = some (.tup [.int .i32 r, .int .i64 w])
  idx : ∀ (k n : Nat) (s : List UInt8), s.length ≤ 1000000 → ∃ i : Int, kp E k n strings_IndexAny [.str (str s), .str (str [61, 0])] = some (.int .i64 i)
theorem snoc_pairs (s : List Pair) : s = [] ∨ ∃ l c, s = l ++ [c] := by
  induction s with
  | nil => exact .inl rfl
  | cons x s ih =>
    rcases ih with rfl | ⟨l, c, rfl⟩
    · exact .inr ⟨[], x, rfl⟩
    · exact .inr ⟨x :: l, c, rfl⟩
def IsB (x : Option AV) : Prop := ∃ b : Bool, x = some (.bool b)
theorem isB_some (b : Bool) : IsB (some (.bool b)) := ⟨b, rfl⟩
theorem isB_bif {c : Bool} {a b : Option AV} (h1 : IsB a) (h2 : IsB b) : IsB (bif c then a else b) := by cases c <;> assumption
section
variable [HasText E]
theorem width_pos (s : ByteArray) (i : Nat) : 1 ≤ (Utf8.decode s i).2 := by
  rw [Lib.decode_at]
  unfold Lib.decodeN
  (repeat' split) <;> simp
end
end Go.Proofs.YtilbahgfjfcikaaGreatDoor.Eng.U


/- strings.IndexAny at "=\x00" and a text of at most 8 bytes: some place. -/
set_option linter.unusedVariables false
set_option linter.unusedSectionVars false
set_option linter.unusedSimpArgs false
namespace Go.Proofs.YtilbahgfjfcikaaGreatDoor.Eng.U
open Go Go.Proofs Go.Proofs.YtilbahgfjfcikaaGreatDoor.Eng
variable {E : Ext} [Core E] {k n : Nat}

class HasIB (E : Ext) : Prop where
  indexB : ∀ (k n : Nat) (s : List UInt8) (c : Int), kp E k n strings_IndexByte [.str (str s), .int .u8 c] = some (.int .i64 (Lib.indexByte s c.toNat.toUInt8))
theorem valid_B (r : Int) : IsB (kp E k (n + 1) unicode_utf8_ValidRune [.int .i32 r]) := by
  rw [unicode_utf8_ValidRune_eq]
  repeat' first | exact isB_some _ | refine isB_bif ?_ ?_
theorem enc_facts (r : Nat) (h : 128 ≤ r) : (Utf8.encode (r : Int)).size = 2 ∧ 128 ≤ byteAt (Utf8.encode (r : Int)) 1 ∨ (Utf8.encode (r : Int)).size = 3 ∨ (Utf8.encode (r : Int)).size = 4 := by
  unfold Utf8.encode
  dsimp only
  have hc : 128 ≤ (if Utf8.valid (r : Int) = true then Int.toNat (r : Int) else Utf8.runeError) := by
    split
    · omega
    · decide
  generalize (if Utf8.valid (r : Int) = true then Int.toNat (r : Int) else Utf8.runeError) = c at hc
  rw [if_neg (show ¬ c < 128 by omega)]
  split
  · refine .inl ⟨rfl, ?_⟩
    show (128 : Int) ≤ (((UInt8.ofNat (128 + c % 64)).toNat : Nat) : Int)
    rw [UInt8.toNat_ofNat']
    omega
  · split
    · exact .inr (.inl rfl)
    · exact .inr (.inr rfl)
theorem rune_I [HasIB E] (r : Nat) (hk : 10 < k) : ∃ i : Int, kp E k (n + 2) strings_IndexRune [.str (str [61, 0]), .int .i32 (r : Int)] = some (.int .i64 i) := by
  obtain ⟨k, rfl⟩ : ∃ j, k = j + 3 := ⟨k - 3, by omega⟩
  rw [strings_IndexRune_eq, bif_t (by omega)]
  by_cases h1 : r < 128
  · rw [bif_t (by omega), HasIB.indexB, callI_ok]; exact ⟨_, rfl⟩
  · rw [bif_f (by omega)]
    by_cases h2 : (r : Int) = 65533
    · rw [bif_t h2]
      have d0 : Utf8.decode (str [61, 0]) 0 = (61, 1) := by decide +kernel
      have d1 : Utf8.decode (str [61, 0]) 1 = (0, 1) := by decide +kernel
      have sz : (str [61, 0]).size = 2 := rfl
      have z1 : 0 + ((61, 1) : Nat × Nat).2 = 1 := rfl
      have z2 : 1 + ((0, 1) : Nat × Nat).2 = 2 := rfl
      rw [strings_IndexRune_L0_s, sz, d0, z1, bif_t (by omega), bif_f (by decide), strings_IndexRune_L0_s, sz, d1, z2, bif_t (by omega), bif_f (by decide), strings_IndexRune_L0_s, sz, bif_f (by omega)]
      exact ⟨_, rfl⟩
    · rw [bif_f h2]
      obtain ⟨b, hb⟩ := valid_B (E := E) (k := k + 3) (n := n) (r : Int)
      rw [hb, callB_ok]
      cases b with
      | false => exact ⟨_, rfl⟩
      | true =>
        rw [Bool.not_true, cond_false]
        have sz : (str [61, 0]).size = 2 := rfl
        rcases enc_facts r (by omega) with ⟨e1, e2⟩ | e1 | e1
        · rw [e1, i64w (by omega), strings_IndexRune_L1_s, sz, e1]
          have hb1 : byteAt (str [61, 0]) 1 = 0 := rfl
          have e3 : Int.toNat (((2 : Nat) : Int) - 1) = 1 := rfl
          rw [bif_t (by omega), bif_a, bif_t (by omega), bif_t (by omega), bif_a, bif_t (by omega), bif_t (by omega), e3, hb1, decide_eq_false (by omega), Bool.not_false, cond_true, i64w (by omega), bif_a, bif_t (by omega), bif_t (by omega), bif_a, bif_t (by omega), bif_t (by omega)]
          have e4 : Int.toNat (((2 : Nat) : Int) - 1 + 1) = 2 := rfl
          have e5 : ByteArray.extract (str [61, 0]) 2 2 = str [] := by decide +kernel
          rw [e4, e5, HasIB.indexB, callI_ok]
          have e6 : Lib.indexByte [] (byteAt (Utf8.encode (r : Int)) 1).toNat.toUInt8 = -1 := rfl
          rw [e6, bif_t (by omega)]
          exact ⟨_, rfl⟩
        · rw [e1, i64w (by omega), strings_IndexRune_L1_s, sz, bif_f (by omega)]; exact ⟨_, rfl⟩
        · rw [e1, i64w (by omega), strings_IndexRune_L1_s, sz, bif_f (by omega)]; exact ⟨_, rfl⟩
theorem any_loop [HasIB E] (hk : 10 < k) (s : List UInt8) : ∀ (m k0 i : Nat), s.length - i < m → m ≤ k0 → ∃ r : Int, strings_IndexAny_L0 (kp E k (n + 2)) k k0 (str [61, 0]) (str s) i = some (.int .i64 r)
  | 0, k0, i, h, _ => by omega
  | m + 1, k0 + 1, i, h, hkk => by
    rw [strings_IndexAny_L0_s, str_size]
    by_cases hi : i < s.length
    · rw [decide_eq_true hi, cond_true]
      obtain ⟨x, hx⟩ := rune_I (E := E) (k := k) (n := n) (Utf8.decode (str s) i).1 hk
      rw [hx, callI_ok]
      by_cases h0 : x ≥ 0
      · rw [bif_t h0]; exact ⟨_, rfl⟩
      · rw [bif_f h0]
        have hw := width_pos (str s) i
        exact any_loop hk s m k0 (i + (Utf8.decode (str s) i).2) (by omega) (by omega)
    · rw [decide_eq_false hi, cond_false]
      exact ⟨_, rfl⟩
theorem any_short [HasIB E] (hB : E.isBase strings_IndexAny = false) (hF : E.fs.contains strings_IndexAny = true) (hk : 10 < k) (s : List UInt8) (hs : s.length ≤ 8) : ∃ r : Int, kp E k (n + 3) strings_IndexAny [.str (str s), .str (str [61, 0])] = some (.int .i64 r) := by
  have sz : (str [61, 0]).size = 2 := rfl
  rw [strings_IndexAny_eq hB hF, sz, str_size, bif_f (by decide), bif_f (by omega), strings_shouldUseASCIISet_eq, callB_ok, bif_f (by omega)]
  exact any_loop hk s k k 0 (by omega) (Nat.le_refl _)
end Go.Proofs.YtilbahgfjfcikaaGreatDoor.Eng.U


/- What functions answer, as the engine evaluates their code. Printed by gen2.py. -/
set_option linter.unusedVariables false
namespace Go.Proofs.YtilbahgfjfcikaaGreatDoor.Eng.U
open Go Go.Proofs Go.Proofs.YtilbahgfjfcikaaGreatDoor.Eng
/- oakum/oakumlaw07.PaxPrints -/
/- oakum/oakumlaw07.PaxParses -/
/- oakum/oakumlaw07.PaxPairs -/
/- oakum/oakumlaw08.OverApplies -/
theorem law08_OverApplies_eq {E : Ext} [Core E] (k n : Nat) (a0_0 : Int) (a0_1 : ByteArray) (a0_2 : ByteArray) (a0_3 : Int) (a0_4 : Int) (a0_5 : Int) (a0_6 : Int) (a0_7 : Int) (a0_8 : Int) (a0_9 : ByteArray) (a0_10 : ByteArray) (a0_11 : Int) (a0_12 : Int) (a0_13 : List AV) (a1 : List AV) : kp E k (n + 1) law08_OverApplies [(.agg [(.int .i64 a0_0), (.str a0_1), (.str a0_2), (.int .i64 a0_3), (.int .i64 a0_4), (.int .i64 a0_5), (.int .i64 a0_6), (.int .i64 a0_7), (.int .i64 a0_8), (.str a0_9), (.str a0_10), (.int .i64 a0_11), (.int .i64 a0_12), (.list 2 a0_13)]), (.list 2 a1)] =
  (callB (kp E k n law08_alive []) fun vq2 => (bif (!vq2) then (some (.bool false)) else (callB (kp E k n law08_few [(.list 2 a1)]) fun vq4 => (bif (!vq4) then (some (.bool true)) else (callB (kp E k n law08_few [(.list 2 a0_13)]) fun vq6 => (bif (!vq6) then (some (.bool true)) else (callT (kp E k n over_Apply [(.agg [(.int .i64 a0_0), (.str a0_1), (.str a0_2), (.int .i64 a0_3), (.int .i64 a0_4), (.int .i64 a0_5), (.int .i64 a0_6), (.int .i64 a0_7), (.int .i64 a0_8), (.str a0_9), (.str a0_10), (.int .i64 a0_11), (.int .i64 a0_12), (.list 2 a0_13)]), (.list 2 a1)]) fun vt8 => (tupG 14 vt8 fun vg9 vt10 => (cellI .i64 vg9 0 fun vn11 => (cellS vg9 1 fun vs12 => (cellS vg9 2 fun vs13 => (cellI .i64 vg9 3 fun vn14 => (cellI .i64 vg9 4 fun vn15 => (cellI .i64 vg9 5 fun vn16 => (cellI .i64 vg9 6 fun vn17 => (cellI .i64 vg9 7 fun vn18 => (cellI .i64 vg9 8 fun vn19 => (cellS vg9 9 fun vs20 => (cellS vg9 10 fun vs21 => (cellI .i64 vg9 11 fun vn22 => (cellI .i64 vg9 12 fun vn23 => (cellL 2 vg9 13 fun vl24 => (tupI .u8 vt10 fun vn25 vt26 => (atNil vt26 (callB (kp E k n ref08_Right [(.list 2 a1)]) fun vq28 => (bif (!vq28) then (bif (decide ((IntKind.wrap .i64 vn25) = (15 : Int))) then (callB (kp E k n ref08_SameHead [(.agg [(.int .i64 vn11), (.str vs12), (.str vs13), (.int .i64 vn14), (.int .i64 vn15), (.int .i64 vn16), (.int .i64 vn17), (.int .i64 vn18), (.int .i64 vn19), (.str vs20), (.str vs21), (.int .i64 vn22), (.int .i64 vn23), (.list 2 vl24)]), (.agg [(.int .i64 (0 : Int)), (.str (str [])), (.str (str [])), (.int .i64 (0 : Int)), (.int .i64 (0 : Int)), (.int .i64 (0 : Int)), (.int .i64 (0 : Int)), (.int .i64 (0 : Int)), (.int .i64 (0 : Int)), (.str (str [])), (.str (str [])), (.int .i64 (0 : Int)), (.int .i64 (0 : Int)), (.list 2 [])])]) fun vq30 => (some (.bool vq30))) else (some (.bool false))) else (bif (decide ((IntKind.wrap .i64 vn25) = (0 : Int))) then (callG 14 (kp E k n ref08_Apply [(.agg [(.int .i64 a0_0), (.str a0_1), (.str a0_2), (.int .i64 a0_3), (.int .i64 a0_4), (.int .i64 a0_5), (.int .i64 a0_6), (.int .i64 a0_7), (.int .i64 a0_8), (.str a0_9), (.str a0_10), (.int .i64 a0_11), (.int .i64 a0_12), (.list 2 a0_13)]), (.list 2 a1)]) fun vg32 => (cellI .i64 vg32 0 fun vn33 => (cellS vg32 1 fun vs34 => (cellS vg32 2 fun vs35 => (cellI .i64 vg32 3 fun vn36 => (cellI .i64 vg32 4 fun vn37 => (cellI .i64 vg32 5 fun vn38 => (cellI .i64 vg32 6 fun vn39 => (cellI .i64 vg32 7 fun vn40 => (cellI .i64 vg32 8 fun vn41 => (cellS vg32 9 fun vs42 => (cellS vg32 10 fun vs43 => (cellI .i64 vg32 11 fun vn44 => (cellI .i64 vg32 12 fun vn45 => (cellL 2 vg32 13 fun vl46 => (callB (kp E k n ref08_SameHead [(.agg [(.int .i64 vn11), (.str vs12), (.str vs13), (.int .i64 vn14), (.int .i64 vn15), (.int .i64 vn16), (.int .i64 vn17), (.int .i64 vn18), (.int .i64 vn19), (.str vs20), (.str vs21), (.int .i64 vn22), (.int .i64 vn23), (.list 2 vl24)]), (.agg [(.int .i64 vn33), (.str vs34), (.str vs35), (.int .i64 vn36), (.int .i64 vn37), (.int .i64 vn38), (.int .i64 vn39), (.int .i64 vn40), (.int .i64 vn41), (.str vs42), (.str vs43), (.int .i64 vn44), (.int .i64 vn45), (.list 2 vl46)])]) fun vq48 => (some (.bool vq48)))))))))))))))))) else (some (.bool false))))))))))))))))))))))))))))) := (kp_at (by kernel_rfl)).trans (by kernel_rfl)
/- oakum/oakumref09.Fulls -/
/- oakum/oakumref09.Wrong -/
/- oakum/oakumref09.Right -/
/- oakum/oakumlaw07.alive -/
/- oakum/oakumlaw07.few -/
/- oakum/oakumref07.Right -/
noncomputable def ref07_Right_bd : Code := Tryz.f20.body.getD .skip
noncomputable def ref07_Right_L0 (kap : FuncId → List AV → Option AV) (k : Nat) (k0 : Nat) (s3 : Int) (b1_0 : ByteArray) (b1_1 : ByteArray) : Option AV :=
  loop (fun fr K => code ((bs E0 k).cfg kap ref07_Right) (sel ref07_Right_bd [1, 1, 0, 1, 0, 0]) fr K) (canon ((bs E0 k).cfg kap ref07_Right) (firstReg (sel ref07_Right_bd [1, 1, 0, 1, 0, 0]))) k0 (mkFr 73 [(1, (.loc 1 0)), (3, (.int .i64 s3))] [(1, (.box [(.str b1_0), (.str b1_1)]))]) (plug ((bs E0 k).cfg kap ref07_Right) (retK ((bs E0 k).cfg kap ref07_Right) [] Tryz.f20 [] some) [.blk 0, .seqR (sel ref07_Right_bd [1, 1, 1])])
theorem ref07_Right_L0_s (kap : FuncId → List AV → Option AV) (k : Nat) (k0 : Nat) (s3 : Int) (b1_0 : ByteArray) (b1_1 : ByteArray) : ref07_Right_L0 kap k (k0 + 1) s3 b1_0 b1_1 =
  (bif (decide (s3 < (((ByteArray.size b1_0) : Nat) : Int))) then (bif ((decide ((0 : Int) ≤ s3)) && (decide (s3 < (((ByteArray.size b1_0) : Nat) : Int)))) then (bif (decide ((byteAt b1_0 (Int.toNat s3)) = (61 : Int))) then (some (.bool false)) else (ref07_Right_L0 kap k k0 (IntKind.wrap .i64 (s3 + (1 : Int))) b1_0 b1_1)) else none) else (callI .i64 (kap ref07_Which [(.str b1_0)]) fun vn8 => (bif (decide (b1_1 = (str []))) then (some (.bool true)) else (bif (decide (vn8 < (0 : Int))) then (some (.bool true)) else (bif (decide (vn8 < (4 : Int))) then (callB (kap ref02_Clean [(.str b1_1)]) fun vq10 => (some (.bool vq10))) else (bif (decide (vn8 < (7 : Int))) then (callT (kap ref04_Number [(.str b1_1)]) fun vt12 => (tupI .i64 vt12 fun vn13 vt14 => (tupB vt14 fun vq15 vt16 => (atNil vt16 (some (.bool vq15)))))) else (callT (kap ref04_Time [(.str b1_1)]) fun vt18 => (tupG 2 vt18 fun vg19 vt20 => (cellI .i64 vg19 0 fun vn21 => (cellI .i64 vg19 1 fun vn22 => (tupB vt20 fun vq23 vt24 => (atNil vt24 (some (.bool vq23)))))))))))))) := by kernel_rfl
theorem ref07_Right_eq {E : Ext} [Core E] (k n : Nat) (a0_0 : ByteArray) (a0_1 : ByteArray) : kp E k (n + 1) ref07_Right [(.agg [(.str a0_0), (.str a0_1)])] =
  (bif (decide (a0_0 = (str []))) then (some (.bool false)) else (callI .i64 (kp E k n ref05_First [(.str a0_0)]) fun vn2 => (bif (decide (vn2 ≥ (0 : Int))) then (some (.bool false)) else (callI .i64 (kp E k n ref05_First [(.str a0_1)]) fun vn4 => (bif (decide (vn4 ≥ (0 : Int))) then (some (.bool false)) else (callB (kp E k n ref02_Clean [(.str a0_0)]) fun vq6 => (bif (!vq6) then (some (.bool false)) else (ref07_Right_L0 (kp E k n) k k (0 : Int) a0_0 a0_1)))))))) := (kp_at (by kernel_rfl)).trans (by kernel_rfl)
/- oakum/oakumref01.Same -/
/- oakum/oakumref07.Print -/
/- oakum/pax.Parse -/
/- oakum/oakumref07.Parse -/
/- oakum/oakumref07.Same -/
noncomputable def ref07_Same_bd : Code := Tryz.f25.body.getD .skip
noncomputable def ref07_Same_L0 (kap : FuncId → List AV → Option AV) (k : Nat) (k0 : Nat) (s0 : List AV) (s1 : List AV) (s5 : Int) : Option AV :=
  loop (fun fr K => code ((bs E0 k).cfg kap ref07_Same) (sel ref07_Same_bd [1, 1, 0, 1, 0, 0]) fr K) (canon ((bs E0 k).cfg kap ref07_Same) (firstReg (sel ref07_Same_bd [1, 1, 0, 1, 0, 0]))) k0 (mkFr 26 [(0, (.list 2 s0)), (1, (.list 2 s1)), (5, (.int .i64 s5))] []) (plug ((bs E0 k).cfg kap ref07_Same) (retK ((bs E0 k).cfg kap ref07_Same) [] Tryz.f25 [] some) [.blk 0, .seqR (sel ref07_Same_bd [1, 1, 1])])
theorem ref07_Same_L0_s (kap : FuncId → List AV → Option AV) (k : Nat) (k0 : Nat) (s0 : List AV) (s1 : List AV) (s5 : Int) : ref07_Same_L0 kap k (k0 + 1) s0 s1 s5 =
  (bif (decide (s5 < (((List.length s0) : Nat) : Int))) then (bif ((decide ((0 : Int) ≤ s5)) && (decide (s5 < (((List.length s0) : Nat) : Int)))) then ((s0[(Int.toNat s5)]?).bind fun vy1 => (cellS (AV.cells vy1) 0 fun vs2 => (cellS (AV.cells vy1) 1 fun vs3 => (bif ((decide ((0 : Int) ≤ s5)) && (decide (s5 < (((List.length s1) : Nat) : Int)))) then ((s1[(Int.toNat s5)]?).bind fun vy4 => (cellS (AV.cells vy4) 0 fun vs5 => (cellS (AV.cells vy4) 1 fun vs6 => (bif (!((decide (vs2 = vs5)) && ((decide (vs3 = vs6)) && true))) then (some (.bool false)) else (ref07_Same_L0 kap k k0 s0 s1 (IntKind.wrap .i64 (s5 + (1 : Int)))))))) else none)))) else none) else (some (.bool true))) := by kernel_rfl
theorem ref07_Same_eq {E : Ext} [Core E] (k n : Nat) (a0 : List AV) (a1 : List AV) : kp E k (n + 1) ref07_Same [(.list 2 a0), (.list 2 a1)] =
  (bif (!(decide ((((List.length a0) : Nat) : Int) = (((List.length a1) : Nat) : Int)))) then (some (.bool false)) else (ref07_Same_L0 (kp E k n) k k a0 a1 (0 : Int))) := (kp_at (by kernel_rfl)).trans (by kernel_rfl)
/- oakum/oakumref07.Which -/
noncomputable def ref07_Which_bd : Code := Tryz.f28.body.getD .skip
noncomputable def ref07_Which_L0 (kap : FuncId → List AV → Option AV) (k : Nat) (k0 : Nat) (s0 : ByteArray) (s3 : List AV) (s4 : Int) : Option AV :=
  loop (fun fr K => code ((bs E0 k).cfg kap ref07_Which) (sel ref07_Which_bd [1, 1, 0, 1, 0, 0]) fr K) (canon ((bs E0 k).cfg kap ref07_Which) (firstReg (sel ref07_Which_bd [1, 1, 0, 1, 0, 0]))) k0 (mkFr 19 [(0, (.str s0)), (3, (.list 1 s3)), (4, (.int .i64 s4))] []) (plug ((bs E0 k).cfg kap ref07_Which) (retK ((bs E0 k).cfg kap ref07_Which) [] Tryz.f28 [] some) [.blk 0, .seqR (sel ref07_Which_bd [1, 1, 1])])
theorem ref07_Which_L0_s (kap : FuncId → List AV → Option AV) (k : Nat) (k0 : Nat) (s0 : ByteArray) (s3 : List AV) (s4 : Int) : ref07_Which_L0 kap k (k0 + 1) s0 s3 s4 =
  (bif (decide (s4 < (((List.length s3) : Nat) : Int))) then (bif ((decide ((0 : Int) ≤ s4)) && (decide (s4 < (((List.length s3) : Nat) : Int)))) then ((s3[(Int.toNat s4)]?).bind fun vy3 => (cellS (AV.cells vy3) 0 fun vs4 => (bif (decide (vs4 = s0)) then (some (.int .i64 s4)) else (ref07_Which_L0 kap k k0 s0 s3 (IntKind.wrap .i64 (s4 + (1 : Int))))))) else none) else (some (.int .i64 (-1 : Int)))) := by kernel_rfl
theorem ref07_Which_eq {E : Ext} [Core E] (k n : Nat) (a0 : ByteArray) : kp E k (n + 1) ref07_Which [(.str a0)] =
  (callL 1 (kp E k n ref07_Keys []) fun vl2 => (ref07_Which_L0 (kp E k n) k k a0 vl2 (0 : Int))) := (kp_at (by kernel_rfl)).trans (by kernel_rfl)
/- oakum/pax.Len -/
noncomputable def pax_Len_bd : Code := Tryz.f29.body.getD .skip
noncomputable def pax_Len_L0 (kap : FuncId → List AV → Option AV) (k : Nat) (k0 : Nat) (s3 : Int) (s4 : Int) : Option AV :=
  loop (fun fr K => code ((bs E0 k).cfg kap pax_Len) (sel pax_Len_bd [1, 1, 1, 0, 0]) fr K) (canon ((bs E0 k).cfg kap pax_Len) (firstReg (sel pax_Len_bd [1, 1, 1, 0, 0]))) k0 (mkFr 25 [(3, (.int .i64 s3)), (4, (.int .i64 s4))] []) (plug ((bs E0 k).cfg kap pax_Len) (retK ((bs E0 k).cfg kap pax_Len) [] Tryz.f29 [] some) [.blk 0])
theorem pax_Len_L0_s (kap : FuncId → List AV → Option AV) (k : Nat) (k0 : Nat) (s3 : Int) (s4 : Int) : pax_Len_L0 kap k (k0 + 1) s3 s4 =
  (callS (kap strconv_Itoa [(.int .i64 s4)]) fun vs2 => (bif (decide ((IntKind.wrap .i64 (s3 + (((ByteArray.size vs2) : Nat) : Int))) = s4)) then (some (.int .i64 s4)) else (pax_Len_L0 kap k k0 s3 (IntKind.wrap .i64 (s3 + (((ByteArray.size vs2) : Nat) : Int)))))) := by kernel_rfl
theorem pax_Len_eq {E : Ext} [Core E] (k n : Nat) (a0_0 : ByteArray) (a0_1 : ByteArray) : kp E k (n + 1) pax_Len [(.agg [(.str a0_0), (.str a0_1)])] =
  (pax_Len_L0 (kp E k n) k k (IntKind.wrap .i64 ((IntKind.wrap .i64 ((((ByteArray.size a0_0) : Nat) : Int) + (((ByteArray.size a0_1) : Nat) : Int))) + (3 : Int))) (IntKind.wrap .i64 ((IntKind.wrap .i64 ((((ByteArray.size a0_0) : Nat) : Int) + (((ByteArray.size a0_1) : Nat) : Int))) + (3 : Int)))) := (kp_at (by kernel_rfl)).trans (by kernel_rfl)
/- oakum/oakumref07.Len -/
/- oakum/oakumlaw08.alive -/
theorem law08_alive_eq {E : Ext} [Core E] (k n : Nat)  : kp E k (n + 1) law08_alive [] =
  (callT (kp E k n over_Apply [(.agg [(.int .i64 (0 : Int)), (.str (str [98])), (.str (str [])), (.int .i64 (0 : Int)), (.int .i64 (0 : Int)), (.int .i64 (0 : Int)), (.int .i64 (0 : Int)), (.int .i64 (0 : Int)), (.int .i64 (0 : Int)), (.str (str [])), (.str (str [])), (.int .i64 (0 : Int)), (.int .i64 (0 : Int)), (.list 2 [])]), (.list 2 [(.agg [(.str (str [112, 97, 116, 104])), (.str (str [97]))])])]) fun vt2 => (tupG 14 vt2 fun vg3 vt4 => (cellI .i64 vg3 0 fun vn5 => (cellS vg3 1 fun vs6 => (cellS vg3 2 fun vs7 => (cellI .i64 vg3 3 fun vn8 => (cellI .i64 vg3 4 fun vn9 => (cellI .i64 vg3 5 fun vn10 => (cellI .i64 vg3 6 fun vn11 => (cellI .i64 vg3 7 fun vn12 => (cellI .i64 vg3 8 fun vn13 => (cellS vg3 9 fun vs14 => (cellS vg3 10 fun vs15 => (cellI .i64 vg3 11 fun vn16 => (cellI .i64 vg3 12 fun vn17 => (cellL 2 vg3 13 fun vl18 => (tupI .u8 vt4 fun vn19 vt20 => (atNil vt20 (callL 2 (kp E k n over_Lay [(.list 2 [(.agg [(.str (str [112, 97, 116, 104])), (.str (str [97]))])]), (.list 2 [(.agg [(.str (str [112, 97, 116, 104])), (.str (str []))])])]) fun vl22 => (bif (decide ((((List.length vl22) : Nat) : Int) = (0 : Int))) then (bif (decide ((IntKind.wrap .i64 vn19) = (0 : Int))) then (some (.bool (decide (vs6 = (str [97]))))) else (some (.bool false))) else (some (.bool false)))))))))))))))))))))) := (kp_at (by kernel_rfl)).trans (by kernel_rfl)
/- oakum/oakumlaw08.few -/
noncomputable def law08_few_bd : Code := Tryz.f37.body.getD .skip
noncomputable def law08_few_L0 (kap : FuncId → List AV → Option AV) (k : Nat) (k0 : Nat) (s0 : List AV) (s3 : Int) (s4 : Int) : Option AV :=
  loop (fun fr K => code ((bs E0 k).cfg kap law08_few) (sel law08_few_bd [1, 1, 0, 1, 0, 0]) fr K) (canon ((bs E0 k).cfg kap law08_few) (firstReg (sel law08_few_bd [1, 1, 0, 1, 0, 0]))) k0 (mkFr 33 [(0, (.list 2 s0)), (3, (.int .i64 s3)), (4, (.int .i64 s4))] []) (plug ((bs E0 k).cfg kap law08_few) (retK ((bs E0 k).cfg kap law08_few) [] Tryz.f37 [] some) [.blk 0, .seqR (sel law08_few_bd [1, 1, 1])])
theorem law08_few_L0_s (kap : FuncId → List AV → Option AV) (k : Nat) (k0 : Nat) (s0 : List AV) (s3 : Int) (s4 : Int) : law08_few_L0 kap k (k0 + 1) s0 s3 s4 =
  (bif (decide (s4 < (((List.length s0) : Nat) : Int))) then (bif ((decide ((0 : Int) ≤ s4)) && (decide (s4 < (((List.length s0) : Nat) : Int)))) then ((s0[(Int.toNat s4)]?).bind fun vy1 => (cellS (AV.cells vy1) 0 fun vs2 => (bif ((decide ((0 : Int) ≤ s4)) && (decide (s4 < (((List.length s0) : Nat) : Int)))) then ((s0[(Int.toNat s4)]?).bind fun vy3 => (cellS (AV.cells vy3) 1 fun vs4 => (law08_few_L0 kap k k0 s0 (IntKind.wrap .i64 ((IntKind.wrap .i64 (s3 + (((ByteArray.size vs2) : Nat) : Int))) + (((ByteArray.size vs4) : Nat) : Int))) (IntKind.wrap .i64 (s4 + (1 : Int)))))) else none))) else none) else (bif (decide ((((List.length s0) : Nat) : Int) ≤ (40 : Int))) then (some (.bool (decide (s3 ≤ (3000 : Int))))) else (some (.bool false)))) := by kernel_rfl
theorem law08_few_eq {E : Ext} [Core E] (k n : Nat) (a0 : List AV) : kp E k (n + 1) law08_few [(.list 2 a0)] =
  (law08_few_L0 (kp E k n) k k a0 (0 : Int) (0 : Int)) := (kp_at (by kernel_rfl)).trans (by kernel_rfl)
/- oakum/oakumref08.Right -/
noncomputable def ref08_Right_bd : Code := Tryz.f39.body.getD .skip
noncomputable def ref08_Right_L0 (kap : FuncId → List AV → Option AV) (k : Nat) (k0 : Nat) (s0 : List AV) (s3 : Int) : Option AV :=
  loop (fun fr K => code ((bs E0 k).cfg kap ref08_Right) (sel ref08_Right_bd [1, 0, 1, 0, 0]) fr K) (canon ((bs E0 k).cfg kap ref08_Right) (firstReg (sel ref08_Right_bd [1, 0, 1, 0, 0]))) k0 (mkFr 20 [(0, (.list 2 s0)), (3, (.int .i64 s3))] []) (plug ((bs E0 k).cfg kap ref08_Right) (retK ((bs E0 k).cfg kap ref08_Right) [] Tryz.f39 [] some) [.blk 0, .seqR (sel ref08_Right_bd [1, 1])])
theorem ref08_Right_L0_s (kap : FuncId → List AV → Option AV) (k : Nat) (k0 : Nat) (s0 : List AV) (s3 : Int) : ref08_Right_L0 kap k (k0 + 1) s0 s3 =
  (bif (decide (s3 < (((List.length s0) : Nat) : Int))) then (bif ((decide ((0 : Int) ≤ s3)) && (decide (s3 < (((List.length s0) : Nat) : Int)))) then ((s0[(Int.toNat s3)]?).bind fun vy1 => (cellS (AV.cells vy1) 0 fun vs2 => (cellS (AV.cells vy1) 1 fun vs3 => (callB (kap ref07_Right [(.agg [(.str vs2), (.str vs3)])]) fun vq5 => (bif (!vq5) then (some (.bool false)) else (ref08_Right_L0 kap k k0 s0 (IntKind.wrap .i64 (s3 + (1 : Int))))))))) else none) else (callL 2 (kap ref08_Lay [(.list 2 s0), (.list 2 [])]) fun vl7 => (callB (kap ref07_Same [(.list 2 vl7), (.list 2 s0)]) fun vq9 => (some (.bool vq9))))) := by kernel_rfl
theorem ref08_Right_eq {E : Ext} [Core E] (k n : Nat) (a0 : List AV) : kp E k (n + 1) ref08_Right [(.list 2 a0)] =
  (ref08_Right_L0 (kp E k n) k k a0 (0 : Int)) := (kp_at (by kernel_rfl)).trans (by kernel_rfl)
/- oakum/oakumref08.SameHead -/
theorem ref08_SameHead_eq {E : Ext} [Core E] (k n : Nat) (a0_0 : Int) (a0_1 : ByteArray) (a0_2 : ByteArray) (a0_3 : Int) (a0_4 : Int) (a0_5 : Int) (a0_6 : Int) (a0_7 : Int) (a0_8 : Int) (a0_9 : ByteArray) (a0_10 : ByteArray) (a0_11 : Int) (a0_12 : Int) (a0_13 : List AV) (a1_0 : Int) (a1_1 : ByteArray) (a1_2 : ByteArray) (a1_3 : Int) (a1_4 : Int) (a1_5 : Int) (a1_6 : Int) (a1_7 : Int) (a1_8 : Int) (a1_9 : ByteArray) (a1_10 : ByteArray) (a1_11 : Int) (a1_12 : Int) (a1_13 : List AV) : kp E k (n + 1) ref08_SameHead [(.agg [(.int .i64 a0_0), (.str a0_1), (.str a0_2), (.int .i64 a0_3), (.int .i64 a0_4), (.int .i64 a0_5), (.int .i64 a0_6), (.int .i64 a0_7), (.int .i64 a0_8), (.str a0_9), (.str a0_10), (.int .i64 a0_11), (.int .i64 a0_12), (.list 2 a0_13)]), (.agg [(.int .i64 a1_0), (.str a1_1), (.str a1_2), (.int .i64 a1_3), (.int .i64 a1_4), (.int .i64 a1_5), (.int .i64 a1_6), (.int .i64 a1_7), (.int .i64 a1_8), (.str a1_9), (.str a1_10), (.int .i64 a1_11), (.int .i64 a1_12), (.list 2 a1_13)])] =
  (bif (decide (a0_0 = a1_0)) then (bif (decide (a0_1 = a1_1)) then (bif (decide (a0_2 = a1_2)) then (bif (decide (a0_3 = a1_3)) then (bif (decide (a0_4 = a1_4)) then (bif (decide (a0_5 = a1_5)) then (bif (decide (a0_6 = a1_6)) then (bif ((decide (a0_7 = a1_7)) && ((decide (a0_8 = a1_8)) && true)) then (bif (decide (a0_9 = a1_9)) then (bif (decide (a0_10 = a1_10)) then (bif (decide (a0_11 = a1_11)) then (bif (decide (a0_12 = a1_12)) then (callB (kp E k n ref07_Same [(.list 2 a0_13), (.list 2 a1_13)]) fun vq2 => (some (.bool vq2))) else (some (.bool false))) else (some (.bool false))) else (some (.bool false))) else (some (.bool false))) else (some (.bool false))) else (some (.bool false))) else (some (.bool false))) else (some (.bool false))) else (some (.bool false))) else (some (.bool false))) else (some (.bool false))) else (some (.bool false))) := (kp_at (by kernel_rfl)).trans (by kernel_rfl)
/- oakum/oakumref08.Apply -/
noncomputable def ref08_Apply_bd : Code := Tryz.f41.body.getD .skip
noncomputable def ref08_Apply_L0 (kap : FuncId → List AV → Option AV) (k : Nat) (k0 : Nat) (s1 : List AV) (s6 : Int) (b2_0 : Int) (b2_1 : ByteArray) (b2_2 : ByteArray) (b2_3 : Int) (b2_4 : Int) (b2_5 : Int) (b2_6 : Int) (b2_7 : Int) (b2_8 : Int) (b2_9 : ByteArray) (b2_10 : ByteArray) (b2_11 : Int) (b2_12 : Int) (b2_13 : List AV) (b4_0 : Int) (b4_1 : ByteArray) (b4_2 : ByteArray) (b4_3 : Int) (b4_4 : Int) (b4_5 : Int) (b4_6 : Int) (b4_7 : Int) (b4_8 : Int) (b4_9 : ByteArray) (b4_10 : ByteArray) (b4_11 : Int) (b4_12 : Int) (b5_0 : Int) (b5_1 : ByteArray) (b5_2 : ByteArray) (b5_3 : Int) (b5_4 : Int) (b5_5 : Int) (b5_6 : Int) (b5_7 : Int) (b5_8 : Int) (b5_9 : ByteArray) (b5_10 : ByteArray) (b5_11 : Int) (b5_12 : Int) (x164 : List AV) (x165 : List AV) : Option AV :=
  loop (fun fr K => code ((bs E0 k).cfg kap ref08_Apply) (sel ref08_Apply_bd [1, 1, 1, 0, 1, 0, 0]) fr K) (canon ((bs E0 k).cfg kap ref08_Apply) (firstReg (sel ref08_Apply_bd [1, 1, 1, 0, 1, 0, 0]))) k0 (mkFr 80 [(1, (.list 2 s1)), (4, (.loc 4 0)), (5, (.loc 5 0)), (6, (.int .i64 s6))] [(2, (.box [(.int .i64 b2_0), (.str b2_1), (.str b2_2), (.int .i64 b2_3), (.int .i64 b2_4), (.int .i64 b2_5), (.int .i64 b2_6), (.int .i64 b2_7), (.int .i64 b2_8), (.str b2_9), (.str b2_10), (.int .i64 b2_11), (.int .i64 b2_12), (.list 2 b2_13)])), (4, (.box [(.int .i64 b4_0), (.str b4_1), (.str b4_2), (.int .i64 b4_3), (.int .i64 b4_4), (.int .i64 b4_5), (.int .i64 b4_6), (.int .i64 b4_7), (.int .i64 b4_8), (.str b4_9), (.str b4_10), (.int .i64 b4_11), (.int .i64 b4_12), (.own 164)])), (5, (.box [(.int .i64 b5_0), (.str b5_1), (.str b5_2), (.int .i64 b5_3), (.int .i64 b5_4), (.int .i64 b5_5), (.int .i64 b5_6), (.int .i64 b5_7), (.int .i64 b5_8), (.str b5_9), (.str b5_10), (.int .i64 b5_11), (.int .i64 b5_12), (.own 165)])), (164, (.row 42 x164 false)), (165, (.row 42 x165 false))]) (plug ((bs E0 k).cfg kap ref08_Apply) (retK ((bs E0 k).cfg kap ref08_Apply) [] Tryz.f41 [] some) [.blk 0, .seqR (sel ref08_Apply_bd [1, 1, 1, 1])])
theorem ref08_Apply_L0_s (kap : FuncId → List AV → Option AV) (k : Nat) (k0 : Nat) (s1 : List AV) (s6 : Int) (b2_0 : Int) (b2_1 : ByteArray) (b2_2 : ByteArray) (b2_3 : Int) (b2_4 : Int) (b2_5 : Int) (b2_6 : Int) (b2_7 : Int) (b2_8 : Int) (b2_9 : ByteArray) (b2_10 : ByteArray) (b2_11 : Int) (b2_12 : Int) (b2_13 : List AV) (b4_0 : Int) (b4_1 : ByteArray) (b4_2 : ByteArray) (b4_3 : Int) (b4_4 : Int) (b4_5 : Int) (b4_6 : Int) (b4_7 : Int) (b4_8 : Int) (b4_9 : ByteArray) (b4_10 : ByteArray) (b4_11 : Int) (b4_12 : Int) (b5_0 : Int) (b5_1 : ByteArray) (b5_2 : ByteArray) (b5_3 : Int) (b5_4 : Int) (b5_5 : Int) (b5_6 : Int) (b5_7 : Int) (b5_8 : Int) (b5_9 : ByteArray) (b5_10 : ByteArray) (b5_11 : Int) (b5_12 : Int) (x164 : List AV) (x165 : List AV) : ref08_Apply_L0 kap k (k0 + 1) s1 s6 b2_0 b2_1 b2_2 b2_3 b2_4 b2_5 b2_6 b2_7 b2_8 b2_9 b2_10 b2_11 b2_12 b2_13 b4_0 b4_1 b4_2 b4_3 b4_4 b4_5 b4_6 b4_7 b4_8 b4_9 b4_10 b4_11 b4_12 b5_0 b5_1 b5_2 b5_3 b5_4 b5_5 b5_6 b5_7 b5_8 b5_9 b5_10 b5_11 b5_12 x164 x165 =
  (bif (decide (s6 < (((List.length s1) : Nat) : Int))) then (bif ((decide ((0 : Int) ≤ s6)) && (decide (s6 < (((List.length s1) : Nat) : Int)))) then ((s1[(Int.toNat s6)]?).bind fun vy1 => (cellS (AV.cells vy1) 1 fun vs2 => (callT (kap ref04_Number [(.str vs2)]) fun vt4 => (tupI .i64 vt4 fun vn5 vt6 => (tupB vt6 fun vq7 vt8 => (atNil vt8 (bif ((decide ((0 : Int) ≤ s6)) && (decide (s6 < (((List.length s1) : Nat) : Int)))) then ((s1[(Int.toNat s6)]?).bind fun vy9 => (cellS (AV.cells vy9) 0 fun vs10 => (callI .i64 (kap ref07_Which [(.str vs10)]) fun vn12 => (bif (decide (vn12 = (0 : Int))) then (ref08_Apply_L0 kap k k0 s1 (IntKind.wrap .i64 (s6 + (1 : Int))) b2_0 b2_1 b2_2 b2_3 b2_4 b2_5 b2_6 b2_7 b2_8 b2_9 b2_10 b2_11 b2_12 b2_13 b4_0 b4_1 b4_2 b4_3 b4_4 b4_5 b4_6 b4_7 b4_8 b4_9 b4_10 b4_11 b4_12 b5_0 vs2 b5_2 b5_3 b5_4 b5_5 b5_6 b5_7 b5_8 b5_9 b5_10 b5_11 b5_12 x164 x165) else (bif (decide (vn12 = (1 : Int))) then (ref08_Apply_L0 kap k k0 s1 (IntKind.wrap .i64 (s6 + (1 : Int))) b2_0 b2_1 b2_2 b2_3 b2_4 b2_5 b2_6 b2_7 b2_8 b2_9 b2_10 b2_11 b2_12 b2_13 b4_0 b4_1 b4_2 b4_3 b4_4 b4_5 b4_6 b4_7 b4_8 b4_9 b4_10 b4_11 b4_12 b5_0 b5_1 vs2 b5_3 b5_4 b5_5 b5_6 b5_7 b5_8 b5_9 b5_10 b5_11 b5_12 x164 x165) else (bif (decide (vn12 = (2 : Int))) then (ref08_Apply_L0 kap k k0 s1 (IntKind.wrap .i64 (s6 + (1 : Int))) b2_0 b2_1 b2_2 b2_3 b2_4 b2_5 b2_6 b2_7 b2_8 b2_9 b2_10 b2_11 b2_12 b2_13 b4_0 b4_1 b4_2 b4_3 b4_4 b4_5 b4_6 b4_7 b4_8 b4_9 b4_10 b4_11 b4_12 b5_0 b5_1 b5_2 b5_3 b5_4 b5_5 b5_6 b5_7 b5_8 vs2 b5_10 b5_11 b5_12 x164 x165) else (bif (decide (vn12 = (3 : Int))) then (ref08_Apply_L0 kap k k0 s1 (IntKind.wrap .i64 (s6 + (1 : Int))) b2_0 b2_1 b2_2 b2_3 b2_4 b2_5 b2_6 b2_7 b2_8 b2_9 b2_10 b2_11 b2_12 b2_13 b4_0 b4_1 b4_2 b4_3 b4_4 b4_5 b4_6 b4_7 b4_8 b4_9 b4_10 b4_11 b4_12 b5_0 b5_1 b5_2 b5_3 b5_4 b5_5 b5_6 b5_7 b5_8 b5_9 vs2 b5_11 b5_12 x164 x165) else (bif (decide (vn12 = (4 : Int))) then (ref08_Apply_L0 kap k k0 s1 (IntKind.wrap .i64 (s6 + (1 : Int))) b2_0 b2_1 b2_2 b2_3 b2_4 b2_5 b2_6 b2_7 b2_8 b2_9 b2_10 b2_11 b2_12 b2_13 b4_0 b4_1 b4_2 b4_3 b4_4 b4_5 b4_6 b4_7 b4_8 b4_9 b4_10 b4_11 b4_12 b5_0 b5_1 b5_2 b5_3 vn5 b5_5 b5_6 b5_7 b5_8 b5_9 b5_10 b5_11 b5_12 x164 x165) else (bif (decide (vn12 = (5 : Int))) then (ref08_Apply_L0 kap k k0 s1 (IntKind.wrap .i64 (s6 + (1 : Int))) b2_0 b2_1 b2_2 b2_3 b2_4 b2_5 b2_6 b2_7 b2_8 b2_9 b2_10 b2_11 b2_12 b2_13 b4_0 b4_1 b4_2 b4_3 b4_4 b4_5 b4_6 b4_7 b4_8 b4_9 b4_10 b4_11 b4_12 b5_0 b5_1 b5_2 b5_3 b5_4 vn5 b5_6 b5_7 b5_8 b5_9 b5_10 b5_11 b5_12 x164 x165) else (bif (decide (vn12 = (6 : Int))) then (ref08_Apply_L0 kap k k0 s1 (IntKind.wrap .i64 (s6 + (1 : Int))) b2_0 b2_1 b2_2 b2_3 b2_4 b2_5 b2_6 b2_7 b2_8 b2_9 b2_10 b2_11 b2_12 b2_13 b4_0 b4_1 b4_2 b4_3 b4_4 b4_5 b4_6 b4_7 b4_8 b4_9 b4_10 b4_11 b4_12 b5_0 b5_1 b5_2 b5_3 b5_4 b5_5 vn5 b5_7 b5_8 b5_9 b5_10 b5_11 b5_12 x164 x165) else (bif (decide (vn12 = (7 : Int))) then (callT (kap ref04_Time [(.str vs2)]) fun vt14 => (tupG 2 vt14 fun vg15 vt16 => (cellI .i64 vg15 0 fun vn17 => (cellI .i64 vg15 1 fun vn18 => (tupB vt16 fun vq19 vt20 => (atNil vt20 (ref08_Apply_L0 kap k k0 s1 (IntKind.wrap .i64 (s6 + (1 : Int))) b2_0 b2_1 b2_2 b2_3 b2_4 b2_5 b2_6 b2_7 b2_8 b2_9 b2_10 b2_11 b2_12 b2_13 b4_0 b4_1 b4_2 b4_3 b4_4 b4_5 b4_6 b4_7 b4_8 b4_9 b4_10 b4_11 b4_12 b5_0 b5_1 b5_2 b5_3 b5_4 b5_5 b5_6 vn17 vn18 b5_9 b5_10 b5_11 b5_12 x164 x165))))))) else (bif ((decide ((0 : Int) ≤ s6)) && (decide (s6 < (((List.length s1) : Nat) : Int)))) then ((s1[(Int.toNat s6)]?).bind fun vy21 => (cellS (AV.cells vy21) 0 fun vs22 => (cellS (AV.cells vy21) 1 fun vs23 => (bif (decide (((List.length x165) + 1) * 32 ≤ 140737488355328) && decide (((List.length x165) + 1) ≤ 9223372036854775807)) then (ref08_Apply_L0 kap k k0 s1 (IntKind.wrap .i64 (s6 + (1 : Int))) b2_0 b2_1 b2_2 b2_3 b2_4 b2_5 b2_6 b2_7 b2_8 b2_9 b2_10 b2_11 b2_12 b2_13 b4_0 b4_1 b4_2 b4_3 b4_4 b4_5 b4_6 b4_7 b4_8 b4_9 b4_10 b4_11 b4_12 b5_0 b5_1 b5_2 b5_3 b5_4 b5_5 b5_6 b5_7 b5_8 b5_9 b5_10 b5_11 b5_12 x164 (x165 ++ [(.agg [(.str vs22), (.str vs23)])])) else none)))) else none)))))))))))) else none))))))) else none) else (some (.agg [(.int .i64 b5_0), (.str b5_1), (.str b5_2), (.int .i64 b5_3), (.int .i64 b5_4), (.int .i64 b5_5), (.int .i64 b5_6), (.int .i64 b5_7), (.int .i64 b5_8), (.str b5_9), (.str b5_10), (.int .i64 b5_11), (.int .i64 b5_12), (.list 2 x165)]))) := by kernel_rfl
theorem ref08_Apply_eq {E : Ext} [Core E] (k n : Nat) (a0_0 : Int) (a0_1 : ByteArray) (a0_2 : ByteArray) (a0_3 : Int) (a0_4 : Int) (a0_5 : Int) (a0_6 : Int) (a0_7 : Int) (a0_8 : Int) (a0_9 : ByteArray) (a0_10 : ByteArray) (a0_11 : Int) (a0_12 : Int) (a0_13 : List AV) (a1 : List AV) : kp E k (n + 1) ref08_Apply [(.agg [(.int .i64 a0_0), (.str a0_1), (.str a0_2), (.int .i64 a0_3), (.int .i64 a0_4), (.int .i64 a0_5), (.int .i64 a0_6), (.int .i64 a0_7), (.int .i64 a0_8), (.str a0_9), (.str a0_10), (.int .i64 a0_11), (.int .i64 a0_12), (.list 2 a0_13)]), (.list 2 a1)] =
  (ref08_Apply_L0 (kp E k n) k k a1 (0 : Int) a0_0 a0_1 a0_2 a0_3 a0_4 a0_5 a0_6 a0_7 a0_8 a0_9 a0_10 a0_11 a0_12 a0_13 (0 : Int) (str []) (str []) (0 : Int) (0 : Int) (0 : Int) (0 : Int) (0 : Int) (0 : Int) (str []) (str []) (0 : Int) (0 : Int) a0_0 a0_1 a0_2 a0_3 a0_4 a0_5 a0_6 a0_7 a0_8 a0_9 a0_10 a0_11 a0_12 [] []) := (kp_at (by kernel_rfl)).trans (by kernel_rfl)
/- oakum/oakumref09.Slash -/
/- oakum/oakumref09.fields -/
/- oakum/oakumref05.First -/
noncomputable def ref05_First_bd : Code := Tryz.f56.body.getD .skip
noncomputable def ref05_First_L0 (kap : FuncId → List AV → Option AV) (k : Nat) (k0 : Nat) (s3 : List AV) (s4 : Int) : Option AV :=
  loop (fun fr K => code ((bs E0 k).cfg kap ref05_First) (sel ref05_First_bd [1, 1, 0, 1, 0, 0]) fr K) (canon ((bs E0 k).cfg kap ref05_First) (firstReg (sel ref05_First_bd [1, 1, 0, 1, 0, 0]))) k0 (mkFr 24 [(3, (.list 1 s3)), (4, (.int .i64 s4))] []) (plug ((bs E0 k).cfg kap ref05_First) (retK ((bs E0 k).cfg kap ref05_First) [] Tryz.f56 [] some) [.blk 0, .seqR (sel ref05_First_bd [1, 1, 1])])
theorem ref05_First_L0_s (kap : FuncId → List AV → Option AV) (k : Nat) (k0 : Nat) (s3 : List AV) (s4 : Int) : ref05_First_L0 kap k (k0 + 1) s3 s4 =
  (bif (decide (s4 < (((List.length s3) : Nat) : Int))) then (bif ((decide ((0 : Int) ≤ s4)) && (decide (s4 < (((List.length s3) : Nat) : Int)))) then ((s3[(Int.toNat s4)]?).bind fun vy3 => (cellI .i64 (AV.cells vy3) 0 fun vn4 => (bif (decide (vn4 < (0 : Int))) then (bif ((decide ((0 : Int) ≤ s4)) && (decide (s4 < (((List.length s3) : Nat) : Int)))) then ((s3[(Int.toNat s4)]?).bind fun vy5 => (cellI .i64 (AV.cells vy5) 0 fun vn6 => (some (.int .i64 (IntKind.wrap .i64 ((IntKind.wrap .i64 (0 - vn6)) - (1 : Int))))))) else none) else (ref05_First_L0 kap k k0 s3 (IntKind.wrap .i64 (s4 + (1 : Int))))))) else none) else (some (.int .i64 (-1 : Int)))) := by kernel_rfl
theorem ref05_First_eq {E : Ext} [Core E] (k n : Nat) (a0 : ByteArray) : kp E k (n + 1) ref05_First [(.str a0)] =
  (callL 1 (kp E k n ref05_Ends [(.str a0)]) fun vl2 => (ref05_First_L0 (kp E k n) k k vl2 (0 : Int))) := (kp_at (by kernel_rfl)).trans (by kernel_rfl)
/- oakum/oakumref02.Clean -/
theorem ref02_Clean_eq {E : Ext} [Core E] (k n : Nat) (a0 : ByteArray) : kp E k (n + 1) ref02_Clean [(.str a0)] =
  (callS (kp E k n ref02_Get [(.list 1 (bytesAV a0))]) fun vs2 => (some (.bool (decide (vs2 = a0))))) := (kp_at (by kernel_rfl)).trans (by kernel_rfl)
/- oakum/oakumref07.Record -/
/- oakum/pax.record -/
/- oakum/oakumref07.Keys -/
theorem ref07_Keys_eq {E : Ext} [Core E] (k n : Nat)  : kp E k (n + 1) ref07_Keys [] =
  (some (.list 1 [(.str (str [112, 97, 116, 104])), (.str (str [108, 105, 110, 107, 112, 97, 116, 104])), (.str (str [117, 110, 97, 109, 101])), (.str (str [103, 110, 97, 109, 101])), (.str (str [117, 105, 100])), (.str (str [103, 105, 100])), (.str (str [115, 105, 122, 101])), (.str (str [109, 116, 105, 109, 101]))])) := (kp_at (by kernel_rfl)).trans (by kernel_rfl)
/- oakum/oakumref02.Quote -/
/- oakum/oakumref08.Lay -/
noncomputable def ref08_Lay_bd : Code := Tryz.f76.body.getD .skip
noncomputable def ref08_Lay_L0 (kap : FuncId → List AV → Option AV) (k : Nat) (k0 : Nat) (s7 : ByteArray) (s8 : Bool) (x5 : List AV) (x6 : List AV) : Option AV :=
  loop (fun fr K => code ((bs E0 k).cfg kap ref08_Lay) (sel ref08_Lay_bd [1, 1, 1, 1, 0, 0]) fr K) (canon ((bs E0 k).cfg kap ref08_Lay) (firstReg (sel ref08_Lay_bd [1, 1, 1, 1, 0, 0]))) k0 (mkFr 64 [(5, (.own 5)), (6, (.own 6)), (7, (.str s7)), (8, (.bool s8))] [(5, (.row 42 x5 true)), (6, (.row 42 x6 false))]) (plug ((bs E0 k).cfg kap ref08_Lay) (retK ((bs E0 k).cfg kap ref08_Lay) [] Tryz.f76 [] some) [.blk 0])
noncomputable def ref08_Lay_L1 (kap : FuncId → List AV → Option AV) (k : Nat) (k0 : Nat) (k1 : Nat) (s7 : ByteArray) (s8 : Bool) (s9 : ByteArray) (s10 : Bool) (s11 : Int) (x5 : List AV) (x6 : List AV) : Option AV :=
  loop (fun fr K => code ((bs E0 k).cfg kap ref08_Lay) (sel ref08_Lay_bd [1, 1, 1, 1, 0, 0, 0, 1, 0, 1, 0, 0]) fr K) (canon ((bs E0 k).cfg kap ref08_Lay) (firstReg (sel ref08_Lay_bd [1, 1, 1, 1, 0, 0, 0, 1, 0, 1, 0, 0]))) k1 (mkFr 64 [(5, (.own 5)), (6, (.own 6)), (7, (.str s7)), (8, (.bool s8)), (9, (.str s9)), (10, (.bool s10)), (11, (.int .i64 s11))] [(5, (.row 42 x5 true)), (6, (.row 42 x6 false))]) (plug ((bs E0 k).cfg kap ref08_Lay) (retK ((bs E0 k).cfg kap ref08_Lay) [] Tryz.f76 [] some) [.blk 2, .seqR (sel ref08_Lay_bd [1, 1, 1, 1, 0, 0, 0, 1, 1]), .blk 1, .lp (sel ref08_Lay_bd [1, 1, 1, 1, 0, 0]) k0, .blk 0])
theorem ref08_Lay_L0_s (kap : FuncId → List AV → Option AV) (k : Nat) (k0 : Nat) (s7 : ByteArray) (s8 : Bool) (x5 : List AV) (x6 : List AV) : ref08_Lay_L0 kap k (k0 + 1) s7 s8 x5 x6 =
  (ref08_Lay_L1 kap k k0 k s7 s8 (str []) false (0 : Int) x5 x6) := by kernel_rfl
theorem ref08_Lay_L1_s (kap : FuncId → List AV → Option AV) (k : Nat) (k0 : Nat) (k1 : Nat) (s7 : ByteArray) (s8 : Bool) (s9 : ByteArray) (s10 : Bool) (s11 : Int) (x5 : List AV) (x6 : List AV) : ref08_Lay_L1 kap k k0 (k1 + 1) s7 s8 s9 s10 s11 x5 x6 =
  (bif (decide (s11 < (((List.length x5) : Nat) : Int))) then (bif ((decide ((0 : Int) ≤ s11)) && (decide (s11 < (((List.length x5) : Nat) : Int)))) then ((x5[(Int.toNat s11)]?).bind fun vy1 => (cellS (AV.cells vy1) 0 fun vs2 => (bif s8 then (bif (!s10) then (ref08_Lay_L1 kap k k0 k1 s7 s8 vs2 true (IntKind.wrap .i64 (s11 + (1 : Int))) x5 x6) else (bif (Op.bytesLess (ByteArray.toList vs2) (ByteArray.toList s9)) then (ref08_Lay_L1 kap k k0 k1 s7 s8 vs2 true (IntKind.wrap .i64 (s11 + (1 : Int))) x5 x6) else (ref08_Lay_L1 kap k k0 k1 s7 s8 s9 s10 (IntKind.wrap .i64 (s11 + (1 : Int))) x5 x6))) else (bif (!((Op.bytesLess (ByteArray.toList vs2) (ByteArray.toList s7)) || (decide (vs2 = s7)))) then (bif (!s10) then (ref08_Lay_L1 kap k k0 k1 s7 s8 vs2 true (IntKind.wrap .i64 (s11 + (1 : Int))) x5 x6) else (bif (Op.bytesLess (ByteArray.toList vs2) (ByteArray.toList s9)) then (ref08_Lay_L1 kap k k0 k1 s7 s8 vs2 true (IntKind.wrap .i64 (s11 + (1 : Int))) x5 x6) else (ref08_Lay_L1 kap k k0 k1 s7 s8 s9 s10 (IntKind.wrap .i64 (s11 + (1 : Int))) x5 x6))) else (ref08_Lay_L1 kap k k0 k1 s7 s8 s9 s10 (IntKind.wrap .i64 (s11 + (1 : Int))) x5 x6))))) else none) else (bif (!s10) then (some (.list 2 x6)) else (callT (kap ref08_Last [(.list 2 x5), (.str s9)]) fun vt4 => (tupS vt4 fun vs5 vt6 => (tupB vt6 fun vq7 vt8 => (atNil vt8 (bif vq7 then (bif (decide (((List.length x6) + 1) * 32 ≤ 140737488355328) && decide (((List.length x6) + 1) ≤ 9223372036854775807)) then (ref08_Lay_L0 kap k k0 s9 false x5 (x6 ++ [(.agg [(.str s9), (.str vs5)])])) else none) else (ref08_Lay_L0 kap k k0 s9 false x5 x6)))))))) := by kernel_rfl
theorem ref08_Lay_eq {E : Ext} [Core E] (k n : Nat) (a0 : List AV) (a1 : List AV) : kp E k (n + 1) ref08_Lay [(.list 2 a0), (.list 2 a1)] =
  (bif (decide ((0 + (List.length a0)) * 32 ≤ 140737488355328) && decide ((0 + (List.length a0)) ≤ 9223372036854775807)) then (bif (decide (((List.length ([] ++ a0)) + (List.length a1)) * 32 ≤ 140737488355328) && decide (((List.length ([] ++ a0)) + (List.length a1)) ≤ 9223372036854775807)) then (ref08_Lay_L0 (kp E k n) k k (str []) true (([] ++ a0) ++ a1) []) else none) else none) := (kp_at (by kernel_rfl)).trans (by kernel_rfl)
/- oakum/oakumref09.name -/
/- oakum/oakumref05.Ends -/
noncomputable def ref05_Ends_bd : Code := Tryz.f86.body.getD .skip
noncomputable def ref05_Ends_L0 (kap : FuncId → List AV → Option AV) (k : Nat) (k0 : Nat) (s0 : ByteArray) (s4 : Int) (x3 : List AV) : Option AV :=
  loop (fun fr K => code ((bs E0 k).cfg kap ref05_Ends) (sel ref05_Ends_bd [1, 1, 0, 1, 0, 0]) fr K) (canon ((bs E0 k).cfg kap ref05_Ends) (firstReg (sel ref05_Ends_bd [1, 1, 0, 1, 0, 0]))) k0 (mkFr 30 [(0, (.str s0)), (3, (.own 3)), (4, (.int .i64 s4))] [(3, (.row 3 x3 false))]) (plug ((bs E0 k).cfg kap ref05_Ends) (retK ((bs E0 k).cfg kap ref05_Ends) [] Tryz.f86 [] some) [.blk 0, .seqR (sel ref05_Ends_bd [1, 1, 1])])
theorem ref05_Ends_L0_s (kap : FuncId → List AV → Option AV) (k : Nat) (k0 : Nat) (s0 : ByteArray) (s4 : Int) (x3 : List AV) : ref05_Ends_L0 kap k (k0 + 1) s0 s4 x3 =
  (bif (decide (s4 < (((ByteArray.size s0) : Nat) : Int))) then (callI .i64 (kap ref05_size [(.str s0), (.int .i64 s4)]) fun vn2 => (bif (decide (vn2 = (0 : Int))) then (bif (decide (((List.length x3) + 1) * 8 ≤ 140737488355328) && decide (((List.length x3) + 1) ≤ 9223372036854775807)) then (ref05_Ends_L0 kap k k0 s0 (IntKind.wrap .i64 (s4 + (1 : Int))) (x3 ++ [(.int .i64 (IntKind.wrap .i64 (0 - (IntKind.wrap .i64 (s4 + (1 : Int))))))])) else none) else (bif (decide (((List.length x3) + 1) * 8 ≤ 140737488355328) && decide (((List.length x3) + 1) ≤ 9223372036854775807)) then (ref05_Ends_L0 kap k k0 s0 (IntKind.wrap .i64 (s4 + vn2)) (x3 ++ [(.int .i64 (IntKind.wrap .i64 (s4 + vn2)))])) else none))) else (some (.list 1 x3))) := by kernel_rfl
theorem ref05_Ends_eq {E : Ext} [Core E] (k n : Nat) (a0 : ByteArray) : kp E k (n + 1) ref05_Ends [(.str a0)] =
  (ref05_Ends_L0 (kp E k n) k k a0 (0 : Int) []) := (kp_at (by kernel_rfl)).trans (by kernel_rfl)
/- oakum/oakumref02.Get -/
noncomputable def ref02_Get_bd : Code := Tryz.f87.body.getD .skip
noncomputable def ref02_Get_L0 (kap : FuncId → List AV → Option AV) (k : Nat) (k0 : Nat) (s0 : List AV) (s4 : Int) (x3 : List AV) : Option AV :=
  loop (fun fr K => code ((bs E0 k).cfg kap ref02_Get) (sel ref02_Get_bd [1, 1, 0, 1, 0, 0]) fr K) (canon ((bs E0 k).cfg kap ref02_Get) (firstReg (sel ref02_Get_bd [1, 1, 0, 1, 0, 0]))) k0 (mkFr 28 [(0, (.list 1 s0)), (3, (.own 3)), (4, (.int .i64 s4))] [(3, (.row 5 x3 false))]) (plug ((bs E0 k).cfg kap ref02_Get) (retK ((bs E0 k).cfg kap ref02_Get) [] Tryz.f87 [] some) [.blk 0, .seqR (sel ref02_Get_bd [1, 1, 1])])
theorem ref02_Get_L0_s (kap : FuncId → List AV → Option AV) (k : Nat) (k0 : Nat) (s0 : List AV) (s4 : Int) (x3 : List AV) : ref02_Get_L0 kap k (k0 + 1) s0 s4 x3 =
  (bif (decide (s4 < (((List.length s0) : Nat) : Int))) then (bif ((decide ((0 : Int) ≤ s4)) && (decide (s4 < (((List.length s0) : Nat) : Int)))) then ((s0[(Int.toNat s4)]?).bind fun vy1 => (cellI .u8 (AV.cells vy1) 0 fun vn2 => (bif (!(decide (vn2 = (0 : Int)))) then (bif ((decide ((0 : Int) ≤ s4)) && (decide (s4 < (((List.length s0) : Nat) : Int)))) then ((s0[(Int.toNat s4)]?).bind fun vy3 => (cellI .u8 (AV.cells vy3) 0 fun vn4 => (bif (decide (((List.length x3) + 1) * 1 ≤ 140737488355328) && decide (((List.length x3) + 1) ≤ 9223372036854775807)) then (ref02_Get_L0 kap k k0 s0 (IntKind.wrap .i64 (s4 + (1 : Int))) (x3 ++ [(.int .u8 vn4)])) else none))) else none) else ((toBytes x3).bind fun vl5 => (some (.str (str vl5))))))) else none) else ((toBytes x3).bind fun vl6 => (some (.str (str vl6))))) := by kernel_rfl
theorem ref02_Get_eq {E : Ext} [Core E] (k n : Nat) (a0 : List AV) : kp E k (n + 1) ref02_Get [(.list 1 a0)] =
  (ref02_Get_L0 (kp E k n) k k a0 (0 : Int) []) := (kp_at (by kernel_rfl)).trans (by kernel_rfl)
/- oakum/pax.length -/
/- oakum/oakumref02.open -/
/- oakum/oakumref02.code -/
/- oakum/oakumref08.Last -/
noncomputable def ref08_Last_bd : Code := Tryz.f103.body.getD .skip
noncomputable def ref08_Last_L0 (kap : FuncId → List AV → Option AV) (k : Nat) (k0 : Nat) (s0 : List AV) (s1 : ByteArray) (s6 : Int) : Option AV :=
  loop (fun fr K => code ((bs E0 k).cfg kap ref08_Last) (sel ref08_Last_bd [1, 0, 1, 0, 0]) fr K) (canon ((bs E0 k).cfg kap ref08_Last) (firstReg (sel ref08_Last_bd [1, 0, 1, 0, 0]))) k0 (mkFr 32 [(0, (.list 2 s0)), (1, (.str s1)), (6, (.int .i64 s6))] []) (plug ((bs E0 k).cfg kap ref08_Last) (retK ((bs E0 k).cfg kap ref08_Last) [] Tryz.f103 [] some) [.blk 0, .seqR (sel ref08_Last_bd [1, 1])])
theorem ref08_Last_L0_s (kap : FuncId → List AV → Option AV) (k : Nat) (k0 : Nat) (s0 : List AV) (s1 : ByteArray) (s6 : Int) : ref08_Last_L0 kap k (k0 + 1) s0 s1 s6 =
  (bif (decide (s6 ≥ (0 : Int))) then (bif ((decide ((0 : Int) ≤ s6)) && (decide (s6 < (((List.length s0) : Nat) : Int)))) then ((s0[(Int.toNat s6)]?).bind fun vy1 => (cellS (AV.cells vy1) 0 fun vs2 => (bif (decide (vs2 = s1)) then (bif ((decide ((0 : Int) ≤ s6)) && (decide (s6 < (((List.length s0) : Nat) : Int)))) then ((s0[(Int.toNat s6)]?).bind fun vy3 => (cellS (AV.cells vy3) 1 fun vs4 => (bif ((decide ((0 : Int) ≤ s6)) && (decide (s6 < (((List.length s0) : Nat) : Int)))) then ((s0[(Int.toNat s6)]?).bind fun vy5 => (cellS (AV.cells vy5) 1 fun vs6 => (some (.tup [(.str vs4), (.bool (!(decide (vs6 = (str [])))))])))) else none))) else none) else (ref08_Last_L0 kap k k0 s0 s1 (IntKind.wrap .i64 (s6 - (1 : Int))))))) else none) else (some (.tup [(.str (str [])), (.bool false)]))) := by kernel_rfl
theorem ref08_Last_eq {E : Ext} [Core E] (k n : Nat) (a0 : List AV) (a1 : ByteArray) : kp E k (n + 1) ref08_Last [(.list 2 a0), (.str a1)] =
  (ref08_Last_L0 (kp E k n) k k a0 a1 (IntKind.wrap .i64 ((((List.length a0) : Nat) : Int) - (1 : Int)))) := (kp_at (by kernel_rfl)).trans (by kernel_rfl)
/- oakum/oakumref05.size -/
noncomputable def ref05_size_bd : Code := Tryz.f110.body.getD .skip
noncomputable def ref05_size_L0 (kap : FuncId → List AV → Option AV) (k : Nat) (k0 : Nat) (s0 : ByteArray) (s1 : Int) (s6 : Int) (s7 : Int) (s8 : Int) : Option AV :=
  loop (fun fr K => code ((bs E0 k).cfg kap ref05_size) (sel ref05_size_bd [1, 1, 1, 1, 1, 1, 0, 1, 0, 0]) fr K) (canon ((bs E0 k).cfg kap ref05_size) (firstReg (sel ref05_size_bd [1, 1, 1, 1, 1, 1, 0, 1, 0, 0]))) k0 (mkFr 103 [(0, (.str s0)), (1, (.int .i64 s1)), (6, (.int .i64 s6)), (7, (.int .i64 s7)), (8, (.int .i64 s8))] []) (plug ((bs E0 k).cfg kap ref05_size) (retK ((bs E0 k).cfg kap ref05_size) [] Tryz.f110 [] some) [.blk 1, .seqR (sel ref05_size_bd [1, 1, 1, 1, 1, 1, 1])])
theorem ref05_size_L0_s (kap : FuncId → List AV → Option AV) (k : Nat) (k0 : Nat) (s0 : ByteArray) (s1 : Int) (s6 : Int) (s7 : Int) (s8 : Int) : ref05_size_L0 kap k (k0 + 1) s0 s1 s6 s7 s8 =
  (bif (decide (s8 < s6)) then (bif ((decide ((0 : Int) ≤ (IntKind.wrap .i64 (s1 + s8)))) && (decide ((IntKind.wrap .i64 (s1 + s8)) < (((ByteArray.size s0) : Nat) : Int)))) then (bif (decide ((byteAt s0 (Int.toNat (IntKind.wrap .i64 (s1 + s8)))) < (128 : Int))) then (some (.int .i64 (0 : Int))) else (bif ((decide ((0 : Int) ≤ (IntKind.wrap .i64 (s1 + s8)))) && (decide ((IntKind.wrap .i64 (s1 + s8)) < (((ByteArray.size s0) : Nat) : Int)))) then (bif (decide ((byteAt s0 (Int.toNat (IntKind.wrap .i64 (s1 + s8)))) ≥ (192 : Int))) then (some (.int .i64 (0 : Int))) else (bif ((decide ((0 : Int) ≤ (IntKind.wrap .i64 (s1 + s8)))) && (decide ((IntKind.wrap .i64 (s1 + s8)) < (((ByteArray.size s0) : Nat) : Int)))) then (ref05_size_L0 kap k k0 s0 s1 s6 (IntKind.wrap .i64 ((IntKind.wrap .i64 ((IntKind.wrap .i64 ((64 : Int) * s7)) + (IntKind.wrap .i64 (byteAt s0 (Int.toNat (IntKind.wrap .i64 (s1 + s8))))))) - (128 : Int))) (IntKind.wrap .i64 (s8 + (1 : Int)))) else none)) else none)) else none) else (bif ((decide ((0 : Int) ≤ s6)) && (decide (s6 < (5 : Int)))) then (([(.int .i64 (0 : Int)), (.int .i64 (0 : Int)), (.int .i64 (128 : Int)), (.int .i64 (2048 : Int)), (.int .i64 (65536 : Int))][(Int.toNat s6)]?).bind fun vy1 => (cellI .i64 (AV.cells vy1) 0 fun vn2 => (bif (decide (s7 < vn2)) then (some (.int .i64 (0 : Int))) else (bif (decide (s7 > (1114111 : Int))) then (some (.int .i64 (0 : Int))) else (bif (decide (s7 ≥ (55296 : Int))) then (bif (decide (s7 ≤ (57343 : Int))) then (some (.int .i64 (0 : Int))) else (some (.int .i64 s6))) else (some (.int .i64 s6))))))) else none)) := by kernel_rfl
theorem ref05_size_eq {E : Ext} [Core E] (k n : Nat) (a0 : ByteArray) (a1 : Int) : kp E k (n + 1) ref05_size [(.str a0), (.int .i64 a1)] =
  (bif ((decide ((0 : Int) ≤ a1)) && (decide (a1 < (((ByteArray.size a0) : Nat) : Int)))) then (bif (decide ((IntKind.wrap .i64 (byteAt a0 (Int.toNat a1))) < (128 : Int))) then (some (.int .i64 (1 : Int))) else (bif (decide ((IntKind.wrap .i64 (byteAt a0 (Int.toNat a1))) ≥ (192 : Int))) then (bif (decide ((IntKind.wrap .i64 (byteAt a0 (Int.toNat a1))) < (224 : Int))) then (bif (decide ((IntKind.wrap .i64 (a1 + (2 : Int))) > (((ByteArray.size a0) : Nat) : Int))) then (some (.int .i64 (0 : Int))) else (ref05_size_L0 (kp E k n) k k a0 a1 (2 : Int) (IntKind.wrap .i64 ((IntKind.wrap .i64 (byteAt a0 (Int.toNat a1))) - (192 : Int))) (1 : Int))) else (bif (decide ((IntKind.wrap .i64 (byteAt a0 (Int.toNat a1))) ≥ (224 : Int))) then (bif (decide ((IntKind.wrap .i64 (byteAt a0 (Int.toNat a1))) < (240 : Int))) then (bif (decide ((IntKind.wrap .i64 (a1 + (3 : Int))) > (((ByteArray.size a0) : Nat) : Int))) then (some (.int .i64 (0 : Int))) else (ref05_size_L0 (kp E k n) k k a0 a1 (3 : Int) (IntKind.wrap .i64 ((IntKind.wrap .i64 (byteAt a0 (Int.toNat a1))) - (224 : Int))) (1 : Int))) else (bif (decide ((IntKind.wrap .i64 (byteAt a0 (Int.toNat a1))) ≥ (240 : Int))) then (bif (decide ((IntKind.wrap .i64 (byteAt a0 (Int.toNat a1))) < (248 : Int))) then (bif (decide ((IntKind.wrap .i64 (a1 + (4 : Int))) > (((ByteArray.size a0) : Nat) : Int))) then (some (.int .i64 (0 : Int))) else (ref05_size_L0 (kp E k n) k k a0 a1 (4 : Int) (IntKind.wrap .i64 ((IntKind.wrap .i64 (byteAt a0 (Int.toNat a1))) - (240 : Int))) (1 : Int))) else (some (.int .i64 (0 : Int)))) else (some (.int .i64 (0 : Int))))) else (bif (decide ((IntKind.wrap .i64 (byteAt a0 (Int.toNat a1))) ≥ (240 : Int))) then (bif (decide ((IntKind.wrap .i64 (byteAt a0 (Int.toNat a1))) < (248 : Int))) then (bif (decide ((IntKind.wrap .i64 (a1 + (4 : Int))) > (((ByteArray.size a0) : Nat) : Int))) then (some (.int .i64 (0 : Int))) else (ref05_size_L0 (kp E k n) k k a0 a1 (4 : Int) (IntKind.wrap .i64 ((IntKind.wrap .i64 (byteAt a0 (Int.toNat a1))) - (240 : Int))) (1 : Int))) else (some (.int .i64 (0 : Int)))) else (some (.int .i64 (0 : Int)))))) else (bif (decide ((IntKind.wrap .i64 (byteAt a0 (Int.toNat a1))) ≥ (224 : Int))) then (bif (decide ((IntKind.wrap .i64 (byteAt a0 (Int.toNat a1))) < (240 : Int))) then (bif (decide ((IntKind.wrap .i64 (a1 + (3 : Int))) > (((ByteArray.size a0) : Nat) : Int))) then (some (.int .i64 (0 : Int))) else (ref05_size_L0 (kp E k n) k k a0 a1 (3 : Int) (IntKind.wrap .i64 ((IntKind.wrap .i64 (byteAt a0 (Int.toNat a1))) - (224 : Int))) (1 : Int))) else (bif (decide ((IntKind.wrap .i64 (byteAt a0 (Int.toNat a1))) ≥ (240 : Int))) then (bif (decide ((IntKind.wrap .i64 (byteAt a0 (Int.toNat a1))) < (248 : Int))) then (bif (decide ((IntKind.wrap .i64 (a1 + (4 : Int))) > (((ByteArray.size a0) : Nat) : Int))) then (some (.int .i64 (0 : Int))) else (ref05_size_L0 (kp E k n) k k a0 a1 (4 : Int) (IntKind.wrap .i64 ((IntKind.wrap .i64 (byteAt a0 (Int.toNat a1))) - (240 : Int))) (1 : Int))) else (some (.int .i64 (0 : Int)))) else (some (.int .i64 (0 : Int))))) else (bif (decide ((IntKind.wrap .i64 (byteAt a0 (Int.toNat a1))) ≥ (240 : Int))) then (bif (decide ((IntKind.wrap .i64 (byteAt a0 (Int.toNat a1))) < (248 : Int))) then (bif (decide ((IntKind.wrap .i64 (a1 + (4 : Int))) > (((ByteArray.size a0) : Nat) : Int))) then (some (.int .i64 (0 : Int))) else (ref05_size_L0 (kp E k n) k k a0 a1 (4 : Int) (IntKind.wrap .i64 ((IntKind.wrap .i64 (byteAt a0 (Int.toNat a1))) - (240 : Int))) (1 : Int))) else (some (.int .i64 (0 : Int)))) else (some (.int .i64 (0 : Int))))))) else none) := (kp_at (by kernel_rfl)).trans (by kernel_rfl)
end Go.Proofs.YtilbahgfjfcikaaGreatDoor.Eng.U

