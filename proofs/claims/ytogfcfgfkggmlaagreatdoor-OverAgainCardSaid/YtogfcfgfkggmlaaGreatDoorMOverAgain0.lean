/- Several texts of this proof in one file: Core, Shelf, RowT, Ext, Api, S08, R04, Q04, U04, U04b, U04c, V04, ApiR, B04, B06, R09, U09, U09b. -/
import Derived.Test.YtogfcfgfkggmlaaGreatDoorMEOverAgain2
import Derived.Test.YtogfcfgfkggmlaaGreatDoorProg
import Derived.Lib.DecodeN
import Derived.Lib.ItoaNum
import Derived.Shelf.Strings.Builder1
import Derived.Shelf.Strings.Builder2
import Derived.Shelf.Strings.OnBuilder
import Derived.Shelf.Strings.Trim
import Derived.Shelf.Small.Utf8
import Derived.Shelf.Small.Strs
import Derived.Shelf.Small.Wraps
import Derived.Shelf.Strings.BuilderF
import Derived.Shelf.Strings.BuilderK
import Derived.Shelf.Utf8.RuneCount
import Derived.Shelf.Strings.Builder2Cap
import Derived.Shelf.Strconv.Itoa0
import Derived.Shelf.Strconv.Itoa1
import Derived.Shelf.LaysM
import Derived.Shelf.Strconv.Itoa2
import Derived.Shelf.Strconv.Itoa3
import Derived.Shelf.Strconv.Itoa4
import Derived.Shelf.Bytes.Len
import Derived.Shelf.Bytes.TryGrow
import Derived.Shelf.Bytes.GrowSliceCatch
import Derived.Shelf.Bytes.GrowSlice
import Derived.Shelf.Bytes.GrowRow0
import Derived.Shelf.Bytes.GrowRow
import Derived.Shelf.Bytes.GrowNil
import Derived.Shelf.Bytes.Grow
import Derived.Shelf.Bytes.WriteString
import Derived.Shelf.Bytes.Reset
import Derived.Shelf.Bytes.Bytes
import Derived.Shelf.Strconv.ParseIntEmpty
import Derived.Shelf.Strconv.Clone
import Derived.Shelf.Strconv.SyntaxError
import Derived.Shelf.LaysC
import Derived.Shelf.Strconv.ToError
import Derived.Shelf.Strconv.Lower
import Derived.Shelf.Strconv.ParseUint10
import Derived.Shelf.Strconv.ParseUint10Empty
import Derived.Shelf.Strconv.ParseUint10Any
import Derived.Shelf.Strconv.ParseInt10
import Derived.Shelf.Strconv.RangeError
import Derived.Shelf.Strconv.ToErrorRange
import Derived.Shelf.Strconv.ParseUintEmpty
import Derived.Shelf.Strconv.ParseUint10b64
import Derived.Shelf.Strconv.ParseUint10b32
import Derived.Shelf.Strconv.ParseUint10b16
import Derived.Shelf.Strconv.ParseUint10b8
import Derived.Shelf.Strconv.ParseUint10At
import Derived.Shelf.Strconv.ParseInt10At64
import Derived.Shelf.Strconv.ParseInt10At32
import Derived.Shelf.Strconv.ParseInt10At16
import Derived.Shelf.Strconv.ParseInt10At8
import Derived.Shelf.Strconv.ParseInt10All
import Derived.Shelf.Strconv.ParseIntPublic10
import Derived.Shelf.Strconv.ErrVarParseInt
import Derived.Ground.MpProg
import Derived.Shelf.Pu.ParseUintPublic10
import Derived.Shelf.Pu.ErrVarParseUint
import Derived.Shelf.Strings.Search1
import Derived.Shelf.Bytes.GrowRow0Kept
import Derived.Shelf.Strings.Search2
import Derived.Shelf.Bytes.GrowRowKept
import Derived.Shelf.Strings.Search3
import Derived.Shelf.Bytes.GrowNilKept
import Derived.Shelf.Strings.Cut
import Derived.Shelf.Bytes.GrowKept
import Derived.Shelf.Strings.Count
import Derived.Shelf.Strings.Shaped
import Derived.Shelf.Bytes.WriteStringKept
import Derived.Shelf.Bytes.ResetKept
import Derived.Shelf.Bytes.BufferK
import Derived.Shelf.Bytes.GrowRow0Own
import Derived.Shelf.Bytes.GrowRowOwn
import Derived.Shelf.Bytes.GrowNilOwn
import Derived.Shelf.Bytes.GrowOwn
import Derived.Shelf.Bytes.LenAt
import Derived.Shelf.Bytes.TryGrowAt
import Derived.Shelf.Bytes.GrowRow0At
import Derived.Shelf.Bytes.GrowRowAt
import Derived.Shelf.Bytes.GrowNilAt
import Derived.Shelf.Bytes.GrowAt
import Derived.Shelf.Bytes.WriteStringAt
import Derived.Shelf.Strings.Prefix
import Derived.Shelf.Strings.Split
import Derived.Shelf.Strings.SplitShaped
import Derived.Shelf.Unicode.Decode
import Derived.Shelf.Strings.Runes
import Derived.Shelf.Strings.RuneCount
import Derived.Shelf.Strings.IndexAny
import Derived.Shelf.Strings.AsciiSet
import Derived.Shelf.Strings.IndexAnyAll
import Derived.Shelf.Strings.Explode
import Derived.Shelf.Bits.Mul64
import Derived.Shelf.Strings.Repeat
import Derived.Shelf.Unicode.DecodeSlow
import Derived.Shelf.Unicode.DecodeAny
import Derived.Shelf.Unicode.DecodeLast
import Derived.Shelf.Strings.BuilderCap
import Derived.Shelf.Slices.Turned
import Derived.Shelf.Slices.Equal
import Derived.Shelf.Slices.Empties2
import Derived.Test.YtogfcfgfkggmlaaGreatDoorCards
import Derived.Test.YtogfcfgfkggmlaaGreatDoorTie
import Derived.Lib.LaidIn
import Derived.Lib.LaidU8
import Derived.PinnedBridge
import Derived.Deep.DeepHandedRow
import Derived.ChangeSlices
import Derived.WalkKit
import Derived.ProofKit
import Derived.OpenShut
import Derived.ShutString
import Derived.ChangeOld
import Derived.ChangeSame
import Derived.Below
import Derived.Shelf.Spec.SlicesInsertGrow
import Derived.Maps.OwnIn
import Derived.Lib.AppendZerosOnto
import Derived.Deep.RegionLaw
import Derived.TacticsInMore
import Derived.Lib.ParseIntB
import Derived.Lib.Bytealg
import Derived.Lib.TrimByte
import Derived.Lib.Strings
import Derived.Lib.Repeat
import Derived.Lib.ItoaMem
import Derived.Lib.ItoaLen
import Derived.WalkSmall
import Derived.Lib.SmallJoins
/- The functions of a seat, by their names; what each loop keeps; a base open at its given functions. Printed by gen2.py. -/
set_option linter.unusedVariables false
namespace Go.Proofs.YtogfcfgfkggmlaaGreatDoor.Eng.U
open Go Go.Proofs Go.Proofs.YtogfcfgfkggmlaaGreatDoor.Eng
def law08_OverAgain : FuncId := 3
def law08_alive : FuncId := 15
def law08_few : FuncId := 16
def over_Lay : FuncId := 17
def ref07_Same : FuncId := 18
def ref07_Right : FuncId := 19
def over_Right : FuncId := 20
def over_Get : FuncId := 21
def over_Apply : FuncId := 61
def over_lay : FuncId := 62
def ref05_First : FuncId := 63
def ref02_Clean : FuncId := 64
def ref07_Which : FuncId := 65
def ref04_Number : FuncId := 66
def ref04_Time : FuncId := 67
def pax_Right : FuncId := 68
def dec_Time : FuncId := 100
def strconv_Itoa : FuncId := 114
def pax_Known : FuncId := 129
def over_say : FuncId := 130
def over_byKey : FuncId := 131
def slices_Delete_api_Pair : FuncId := 132
def slices_Insert_api_Pair : FuncId := 133
def ref05_Ends : FuncId := 134
def ref02_Get : FuncId := 135
def ref07_Keys : FuncId := 136
def ref04_Below : FuncId := 137
def ref04_only : FuncId := 138
def utf_Right : FuncId := 139
def strings_ContainsAny : FuncId := 140
def pax_value : FuncId := 141
def strconv_ParseUint : FuncId := 146
def dec_Number : FuncId := 147
def strings_CutPrefix : FuncId := 167
def strings_Cut : FuncId := 168
def dec_natural : FuncId := 169
def dec_digits : FuncId := 170
def strconv_ParseInt : FuncId := 171
def strings_Repeat : FuncId := 172
def strconv_FormatInt : FuncId := 182
def strings_TrimRight : FuncId := 183
def slices_BinarySearchFunc_string : FuncId := 203
def over_byKey_1 : FuncId := 204
def strings_Compare : FuncId := 205
def ref05_size : FuncId := 208
def utf_First : FuncId := 209
def strings_IndexAny : FuncId := 210
def pax_clean : FuncId := 211
def stringslite_Cut : FuncId := 236
def utf_wrong : FuncId := 254
def strings_IndexRune : FuncId := 255
def strings_shouldUseASCIISet : FuncId := 256
def strings_IndexByte : FuncId := 258
def unicode_utf8_DecodeRuneInString : FuncId := 271
def stringslite_Index : FuncId := 273
def unicode_utf8_ValidRune : FuncId := 288
def dirs : FuncId → Nat → Option Dir
  | 3, 12 => some { slots := [(0, .keep), (1, .keep), (6, .keep), (8, .keep), (9, .keep)], boxes := [] }
  | 3, 16 => some { slots := [(0, .keep), (1, .keep), (6, .keep), (8, .keep), (10, .keep)], boxes := [] }
  | 3, 23 => some { slots := [(1, .keep), (6, .keep), (11, .keep), (12, .keep)], boxes := [] }
  | 4, 8 => some { slots := [(0, .keep), (1, .keep), (2, .keep), (7, .keep), (8, .keep), (9, .keep), (10, .keep)], boxes := [] }
  | 6, 10 => some { slots := [(0, .keep), (6, .keep), (7, .keep), (8, .keep)], boxes := [] }
  | 7, 6 => some { slots := [(0, .keep), (3, .own 9 false), (4, .keep), (5, .keep)], boxes := [] }
  | 8, 8 => some { slots := [(0, .keep), (1, .keep), (5, .keep), (6, .keep), (7, .keep), (8, .keep), (9, .keep)], boxes := [] }
  | 8, 11 => some { slots := [(0, .keep), (1, .keep), (5, .keep), (6, .keep), (7, .keep), (8, .keep), (9, .keep), (10, .keep)], boxes := [] }
  | 8, 19 => some { slots := [(0, .keep), (1, .keep), (5, .keep), (6, .keep), (7, .keep), (8, .keep), (9, .keep), (10, .keep), (11, .keep), (12, .keep)], boxes := [] }
  | 9, 6 => some { slots := [(0, .keep), (3, .keep)], boxes := [] }
  | 9, 13 => some { slots := [(0, .keep), (3, .keep), (4, .keep), (5, .keep), (6, .keep)], boxes := [4] }
  | 12, 8 => some { slots := [(0, .keep), (3, .keep), (4, .keep), (5, .keep), (6, .keep)], boxes := [] }
  | 13, 6 => some { slots := [(1, .keep), (2, .keep), (3, .keep), (7, .keep), (8, .keep), (9, .keep), (10, .keep)], boxes := [3] }
  | 16, 3 => some { slots := [(0, .keep), (3, .keep), (4, .keep)], boxes := [] }
  | 17, 3 => some { slots := [(1, .keep), (5, .own 29 false), (10, .keep), (11, .keep), (12, .keep)], boxes := [] }
  | 17, 8 => some { slots := [(5, .own 29 false), (20, .keep), (21, .keep), (22, .keep)], boxes := [] }
  | 18, 4 => some { slots := [(0, .keep), (1, .keep), (5, .keep)], boxes := [] }
  | 19, 4 => some { slots := [(1, .keep), (3, .keep)], boxes := [1] }
  | 20, 2 => some { slots := [(0, .keep), (5, .keep), (6, .keep), (7, .keep)], boxes := [] }
  | 22, 4 => some { slots := [(5, .own 29 true), (6, .own 29 false), (7, .keep), (8, .keep)], boxes := [] }
  | 22, 6 => some { slots := [(5, .own 29 true), (6, .own 29 false), (7, .keep), (8, .keep), (9, .keep), (10, .keep), (11, .keep)], boxes := [] }
  | 23, 2 => some { slots := [(0, .keep), (3, .keep)], boxes := [] }
  | 24, 3 => some { slots := [(3, .keep), (6, .keep), (7, .keep), (8, .keep)], boxes := [] }
  | 26, 3 => some { slots := [(0, .keep), (3, .keep), (4, .keep)], boxes := [] }
  | 26, 8 => some { slots := [(0, .keep), (3, .keep), (4, .keep), (5, .keep), (6, .keep)], boxes := [5] }
  | 27, 3 => some { slots := [(4, .own 9 false), (7, .keep), (8, .keep), (9, .keep)], boxes := [] }
  | 30, 2 => some { slots := [(0, .keep), (3, .keep)], boxes := [] }
  | 34, 12 => some { slots := [(7, .keep), (9, .keep)], boxes := [7] }
  | 34, 33 => some { slots := [(0, .keep), (1, .keep), (2, .keep), (7, .keep), (8, .keep), (12, .keep), (13, .keep)], boxes := [7] }
  | 37, 2 => some { slots := [(0, .keep), (3, .keep)], boxes := [] }
  | 39, 2 => some { slots := [(0, .keep), (3, .keep)], boxes := [] }
  | 41, 3 => some { slots := [(0, .keep), (3, .own 42 false), (7, .keep), (8, .keep), (9, .keep)], boxes := [] }
  | 46, 6 => some { slots := [(6, .own 9 false), (56, .keep), (57, .keep), (58, .keep)], boxes := [] }
  | 47, 3 => some { slots := [(4, .own 9 false), (9, .keep), (10, .keep), (11, .keep)], boxes := [] }
  | 48, 3 => some { slots := [(3, .keep), (4, .keep)], boxes := [3] }
  | 49, 4 => some { slots := [(1, .keep), (3, .keep), (4, .keep)], boxes := [1] }
  | 61, 5 => some { slots := [(2, .keep), (4, .keep), (13, .keep), (14, .keep), (15, .keep)], boxes := [2, 4, 66, 68], rows := [⟨2, 13, 29, 66⟩, ⟨4, 13, 29, 68⟩] }
  | 63, 3 => some { slots := [(3, .keep), (4, .keep)], boxes := [] }
  | 65, 3 => some { slots := [(0, .keep), (3, .keep), (4, .keep)], boxes := [] }
  | 67, 6 => some { slots := [(0, .keep), (2, .keep), (4, .keep), (5, .keep), (6, .keep)], boxes := [2] }
  | 67, 17 => some { slots := [(2, .keep), (4, .keep), (7, .keep), (8, .keep), (9, .keep), (10, .keep), (11, .keep)], boxes := [2] }
  | 69, 2 => some { slots := [(0, .keep), (1, .keep), (7, .keep), (8, .keep)], boxes := [] }
  | 71, 2 => some { slots := [(0, .keep), (1, .keep), (6, .keep)], boxes := [] }
  | 83, 2 => some { slots := [(0, .keep), (3, .frz)], boxes := [] }
  | 83, 4 => some { slots := [(0, .keep), (3, .frz), (4, .keep), (5, .keep)], boxes := [] }
  | 83, 10 => some { slots := [(0, .keep), (3, .frz)], boxes := [] }
  | 84, 3 => some { slots := [(0, .keep), (1, .keep), (5, .keep), (6, .keep)], boxes := [] }
  | 87, 3 => some { slots := [(1, .keep), (2, .keep), (7, .keep), (8, .keep)], boxes := [] }
  | 89, 5 => some { slots := [(5, .keep), (6, .keep), (7, .keep)], boxes := [] }
  | 90, 4 => some { slots := [(0, .keep), (1, .keep), (5, .keep)], boxes := [] }
  | 91, 4 => some { slots := [(0, .keep), (3, .own 4 false), (4, .own 3 false), (13, .keep), (14, .keep)], boxes := [] }
  | 91, 7 => some { slots := [(0, .keep), (3, .own 4 false), (4, .own 3 false), (5, .keep), (13, .keep), (14, .keep), (17, .keep), (18, .keep)], boxes := [] }
  | 91, 14 => some { slots := [(0, .keep), (3, .own 4 false), (4, .own 3 false), (5, .keep), (6, .keep), (7, .keep), (13, .keep), (14, .keep), (17, .keep), (18, .keep), (29, .keep), (30, .keep)], boxes := [] }
  | 92, 2 => some { slots := [(0, .keep), (6, .keep), (7, .keep)], boxes := [] }
  | 92, 5 => some { slots := [(0, .keep), (3, .keep), (4, .keep), (6, .keep), (7, .keep)], boxes := [] }
  | 96, 2 => some { slots := [(0, .keep), (1, .keep), (7, .keep), (8, .keep)], boxes := [] }
  | 102, 4 => some { slots := [(0, .keep), (3, .own 9 false), (4, .keep), (5, .keep)], boxes := [] }
  | 110, 2 => some { slots := [(1, .keep), (2, .keep), (3, .keep)], boxes := [1, 2], gate := true }
  | 110, 3 => some { slots := [(1, .keep), (2, .keep), (3, .keep), (4, .keep)], boxes := [1, 2], gate := true }
  | 110, 5 => some { slots := [(1, .keep), (2, .keep), (3, .keep), (4, .keep), (5, .keep)], boxes := [1, 2, 5], gate := true }
  | 110, 6 => some { slots := [(1, .keep), (2, .keep), (3, .keep), (4, .keep), (5, .keep)], boxes := [1, 2, 5], gate := true }
  | 110, 7 => some { slots := [(1, .keep), (2, .keep), (4, .keep), (5, .keep)], boxes := [1, 2, 5], gate := true }
  | 110, 11 => some { slots := [(1, .keep), (2, .keep), (4, .keep), (5, .keep)], boxes := [1, 2, 5], gate := true }
  | 110, 13 => some { slots := [(1, .keep), (2, .keep), (4, .keep), (5, .keep)], boxes := [1, 2, 5], gate := true }
  | 110, 14 => some { slots := [(1, .keep), (2, .keep), (4, .keep), (5, .keep)], boxes := [1, 2, 5], gate := true }
  | 110, 15 => some { slots := [(1, .keep), (2, .keep), (4, .keep), (5, .keep)], boxes := [1, 2, 5], gate := true }
  | 110, 16 => some { slots := [(1, .keep), (2, .keep), (5, .keep)], boxes := [1, 2, 5], gate := true }
  | 110, 18 => some { slots := [(1, .keep), (2, .keep), (5, .keep), (6, .keep)], boxes := [1, 2, 5] }
  | 112, 9 => some { slots := [(4, .keep), (5, .keep)], boxes := [] }
  | 113, 3 => some { slots := [(0, .keep), (3, .keep), (4, .keep)], boxes := [] }
  | 118, 4 => some { slots := [(0, .keep), (3, .own 165 false), (4, .keep), (5, .keep)], boxes := [] }
  | 121, 2 => some { slots := [(1, .keep), (3, .keep)], boxes := [1] }
  | 121, 5 => some { slots := [(1, .keep), (3, .keep), (4, .keep)], boxes := [1] }
  | 134, 3 => some { slots := [(0, .keep), (3, .own 3 false), (4, .keep)], boxes := [] }
  | 135, 3 => some { slots := [(0, .keep), (3, .own 5 false), (4, .keep)], boxes := [] }
  | 137, 5 => some { slots := [(0, .keep), (4, .keep), (5, .keep)], boxes := [] }
  | 138, 2 => some { slots := [(0, .keep), (3, .keep)], boxes := [] }
  | 148, 2 => some { slots := [(0, .keep), (4, .own 5 false)], boxes := [] }
  | 157, 2 => some { slots := [(0, .keep), (1, .keep), (7, .keep), (8, .keep)], boxes := [] }
  | 158, 4 => some { slots := [(0, .keep), (3, .own 9 false), (4, .keep), (5, .keep)], boxes := [] }
  | 159, 5 => some { slots := [(1, .keep), (5, .keep), (6, .keep)], boxes := [] }
  | 162, 3 => some { slots := [(0, .keep), (3, .own 9 false), (6, .keep), (7, .keep)], boxes := [] }
  | 166, 11 => some { slots := [(0, .keep), (1, .keep), (2, .keep), (3, .keep), (9, .own 9 false), (10, .keep)], boxes := [] }
  | 170, 2 => some { slots := [(0, .keep), (5, .keep), (6, .keep)], boxes := [] }
  | 173, 3 => some { slots := [(0, .keep), (4, .own 5 false), (5, .keep)], boxes := [] }
  | 173, 9 => some { slots := [(0, .keep), (4, .own 5 false), (5, .keep), (6, .keep), (7, .keep)], boxes := [] }
  | 194, 2 => some { slots := [(5, .keep), (6, .keep), (7, .keep)], boxes := [] }
  | 202, 2 => some { slots := [(0, .keep), (3, .keep)], boxes := [] }
  | 203, 3 => some { slots := [(0, .keep), (1, .keep), (2, .keep), (8, .keep), (9, .keep), (10, .keep)], boxes := [0] }
  | 208, 15 => some { slots := [(0, .keep), (1, .keep), (6, .keep), (7, .keep), (8, .keep)], boxes := [] }
  | 209, 2 => some { slots := [(0, .keep), (6, .keep)], boxes := [6] }
  | 210, 12 => some { slots := [(0, .keep), (6, .keep), (8, .keep)], boxes := [6] }
  | 210, 18 => some { slots := [(1, .keep), (45, .keep)], boxes := [45] }
  | 222, 3 => some { slots := [(0, .keep), (3, .own 9 false), (7, .keep), (8, .keep), (9, .keep)], boxes := [] }
  | 228, 5 => some { slots := [(1, .keep), (5, .keep), (6, .keep)], boxes := [] }
  | 232, 6 => some { slots := [(0, .keep), (1, .keep), (6, .own 9 false), (7, .keep)], boxes := [] }
  | 233, 6 => some { slots := [(0, .keep), (1, .keep), (5, .keep)], boxes := [] }
  | 244, 1 => some { slots := [(0, .keep), (1, .keep)], boxes := [] }
  | 246, 1 => some { slots := [(0, .keep), (1, .keep)], boxes := [] }
  | 247, 1 => some { slots := [(0, .keep), (1, .keep)], boxes := [] }
  | 255, 5 => some { slots := [(0, .keep), (7, .keep), (8, .keep), (9, .keep)], boxes := [] }
  | 255, 12 => some { slots := [(0, .keep), (7, .keep), (8, .keep), (9, .keep), (12, .keep)], boxes := [] }
  | 255, 25 => some { slots := [(0, .keep), (7, .keep), (8, .keep), (9, .keep), (14, .keep), (15, .keep)], boxes := [] }
  | 255, 29 => some { slots := [(0, .keep), (7, .keep), (8, .keep), (9, .keep), (14, .keep), (15, .keep), (16, .keep)], boxes := [] }
  | 255, 38 => some { slots := [(175, .keep)], boxes := [175] }
  | 261, 10 => some { slots := [(0, .keep), (3, .keep), (4, .keep), (5, .keep)], boxes := [] }
  | 270, 2 => some { slots := [(2, .keep), (4, .keep)], boxes := [4] }
  | 280, 10 => some { slots := [(0, .keep), (4, .keep), (5, .keep), (6, .keep)], boxes := [] }
  | 296, 4 => some { slots := [(0, .keep), (1, .keep), (12, .keep), (13, .keep)], boxes := [] }
  | 298, 5 => some { slots := [(0, .keep), (1, .keep), (5, .keep), (6, .keep), (7, .keep), (8, .keep), (9, .keep)], boxes := [] }
  | 298, 11 => some { slots := [(0, .keep), (1, .keep), (5, .keep), (6, .keep), (7, .keep), (8, .keep), (10, .keep)], boxes := [] }
  | 308, 3 => some { slots := [(0, .keep), (4, .keep), (5, .keep)], boxes := [] }
  | 308, 8 => some { slots := [(4, .keep), (6, .keep), (7, .keep), (8, .keep)], boxes := [] }
  | _, _ => none
def fl : FuncId → List Bool
  | 62 => [true]
  | 132 => [true]
  | 133 => [true]
  | _ => []
def ln : FuncId → List Nat
  | 62 => [2, 0]
  | 130 => [1, 0]
  | 131 => [1, 0]
  | 132 => [2, 0, 0]
  | 133 => [2, 0, 2]
  | 203 => [1, 0, 0]
  | _ => []
def hd : FuncId → List Nat
  | 130 => [13]
  | _ => []
def glob (g : Nat) : Option (List AV) :=
  if g = 5 then some ((List.range 256).map fun c => .int .u8 (Lib.firstT c : Int)) else if g = 6 then some ((List.range 32).map fun i => .int .u8 ((if i % 2 = 0 then Lib.accLo (i / 2) else Lib.accHi (i / 2) : Nat) : Int)) else if g = 4 then some (Lib.pow10Tab.map fun z => .int .u64 z) else if g = 2 then some [.ifc] else if g = 3 then some [.ifc] else none
def coreFs : List FuncId := [3, 4, 6, 7, 8, 9, 10, 11, 12, 13, 14, 15, 16, 17, 18, 19, 20, 22, 23, 24, 25, 26, 27, 29, 30, 33, 34, 35, 36, 37, 38, 39, 41, 42, 45, 46, 47, 48, 49, 50, 51, 52, 53, 54, 55, 58, 59, 60, 61, 62, 63, 64, 65, 66, 67, 68, 69, 71, 72, 73, 74, 75, 80, 81, 82, 83, 84, 85, 86, 87, 89, 90, 91, 92, 94, 96, 97, 100, 102, 103, 104, 105, 106, 107, 108, 110, 111, 112, 113, 116, 117, 118, 119, 121, 123, 125, 126, 127, 128, 129, 130, 131, 134, 135, 136, 137, 138, 139, 140, 141, 143, 145, 147, 148, 149, 150, 152, 153, 157, 158, 159, 160, 161, 162, 166, 168, 169, 170, 173, 174, 175, 176, 177, 178, 179, 180, 181, 187, 188, 189, 190, 191, 192, 193, 194, 195, 196, 200, 202, 203, 204, 207, 208, 209, 211, 213, 214, 216, 219, 220, 221, 222, 223, 224, 225, 226, 227, 228, 229, 230, 232, 233, 234, 235, 236, 238, 240, 241, 242, 244, 246, 247, 252, 253, 254, 255, 256, 260, 261, 267, 268, 270, 274, 275, 276, 280, 281, 288, 289, 291, 294, 296, 298, 299, 300, 301, 302, 303, 304, 307, 308]
noncomputable def bs (E : Ext) (k : Nat) : Base := { P := Tryz.prog, fs := E.fs, isBase := E.isBase, base := E.base, fl := fl, ln := ln, hd := hd, glob := glob, dirs := dirs, k := k }
/-- An extension that has no given functions: for what doesn't look at them. -/
def E0 : Ext := { fs := [], isBase := fun _ => false, base := fun _ _ => none }
class Core (E : Ext) : Prop where
  isB : ∀ f, coreFs.contains f = true → E.isBase f = false
  has : ∀ f, coreFs.contains f = true → E.fs.contains f = true
/-- What a function answers, calls nested n deep, k rounds of each loop. -/
noncomputable def kp (E : Ext) (k n : Nat) : FuncId → List AV → Option AV := (bs E k).kap n
theorem kp_at {E : Ext} [h : Core E] {k n : Nat} {f : FuncId} {args : List AV} (hf : coreFs.contains f = true) : kp E k (n + 1) f args = (bs E k).at (kp E k n) f args := Base.kap_at (h.isB f hf) (h.has f hf) args
theorem kp_base {E : Ext} {k n : Nat} {f : FuncId} {args : List AV} (hf : E.isBase f = true) : kp E k n f args = E.base f args := Base.kap_base (B := bs E k) hf args
end Go.Proofs.YtogfcfgfkggmlaaGreatDoor.Eng.U


/-
  DERIVED: THE SHELF's CONTRACTS AT THIS DUMP, IN PLAIN WORDS (tools/lay-plain.mjs out of 'TryzShelf.lean', which tools/lay-shelf.mjs wrote): THE SAME DECLARATIONS UNDER THE SAME NAMES: 'import', 'namespace', 'open', 'def', 'theorem' AND NOTHING ELSE: no command of the shelf's: FOR A HAND-IN. Each laying: the table of numbers ('.._ren') and one theorem, a field a fact of the dump's own or the kernel's comparison; each contract: ONE APPLICATION.
-/
namespace Go.Proofs
open Go.Shelf
def Tryz.lays162_ren : Go.Shelf.Ren := ⟨fun | 162 => 183 | 232 => 244 | 227 => 245 | 234 => 246 | 236 => 247 | 228 => 257 | 271 => 280 | 151 => 281 | 120 => 304 | 197 => 271 | 152 => 255 | 260 => 297 | 137 => 258 | 119 => 288 | 224 => 289 | 225 => 290 | 217 => 291 | 266 => 306 | n => n, fun | 9 => 9 | 4 => 4 | 3 => 3 | 5 => 5 | 117 => 254 | 116 => 253 | 0 => 0 | 124 => 257 | 21 => 21 | 105 => 272 | 46 => 208 | 119 => 305 | 139 => 308 | 138 => 307 | n => n, fun | 3 => 5 | 4 => 6 | n => n⟩
theorem Tryz.lays162 : Go.Proofs.Lays.n162 Tryz.prog Tryz.lays162_ren := {
  mixed := by kernel_rfl
  f119 := Tryz.func288.trans (congrArg some (by kernel_rfl))
  f120 := Tryz.func304.trans (congrArg some (by kernel_rfl))
  f137 := Tryz.func258.trans (congrArg some (by kernel_rfl))
  f151 := Tryz.func281.trans (congrArg some (by kernel_rfl))
  f152 := Tryz.func255.trans (congrArg some (by kernel_rfl))
  f162 := Tryz.func183.trans (congrArg some (by kernel_rfl))
  f197 := Tryz.func271.trans (congrArg some (by kernel_rfl))
  f217 := Tryz.func291.trans (congrArg some (by kernel_rfl))
  f224 := Tryz.func289.trans (congrArg some (by kernel_rfl))
  f225 := Tryz.func290.trans (congrArg some (by kernel_rfl))
  f227 := Tryz.func245.trans (congrArg some (by kernel_rfl))
  f228 := Tryz.func257.trans (congrArg some (by kernel_rfl))
  f232 := Tryz.func244.trans (congrArg some (by kernel_rfl))
  f234 := Tryz.func246.trans (congrArg some (by kernel_rfl))
  f236 := Tryz.func247.trans (congrArg some (by kernel_rfl))
  f260 := Tryz.func297.trans (congrArg some (by kernel_rfl))
  f266 := Tryz.func306.trans (congrArg some (by kernel_rfl))
  f271 := Tryz.func280.trans (congrArg some (by kernel_rfl))
  t0 := Tryz.underlying0
  a0 := Tryz.isAgg0
  z0 := Tryz.sizeOf0
  v0 := Tryz.zeroValue0
  t3 := Tryz.underlying3
  a3 := Tryz.isAgg3
  z3 := Tryz.sizeOf3
  v3 := Tryz.zeroValue3
  t4 := Tryz.underlying4
  a4 := Tryz.isAgg4
  z4 := Tryz.sizeOf4
  v4 := Tryz.zeroValue4
  t5 := Tryz.underlying5
  a5 := Tryz.isAgg5
  z5 := Tryz.sizeOf5
  v5 := Tryz.zeroValue5
  t9 := Tryz.underlying9
  a9 := Tryz.isAgg9
  z9 := Tryz.sizeOf9
  v9 := Tryz.zeroValue9
  t21 := Tryz.underlying21
  a21 := Tryz.isAgg21
  z21 := Tryz.sizeOf21
  v21 := Tryz.zeroValue21
  t46 := Tryz.underlying208
  a46 := Tryz.isAgg208
  z46 := Tryz.sizeOf208
  v46 := Tryz.zeroValue208
  t105 := Tryz.underlying272
  a105 := Tryz.isAgg272
  z105 := Tryz.sizeOf272
  v105 := Tryz.zeroValue272
  t116 := Tryz.underlying253
  a116 := Tryz.isAgg253
  z116 := Tryz.sizeOf253
  t117 := Tryz.underlying254
  a117 := Tryz.isAgg254
  z117 := Tryz.sizeOf254
  v117 := Tryz.zeroValue254
  t119 := Tryz.underlying305
  a119 := Tryz.isAgg305
  z119 := Tryz.sizeOf305
  t124 := Tryz.underlying257
  a124 := Tryz.isAgg257
  z124 := Tryz.sizeOf257
  v124 := Tryz.zeroValue257
  t138 := Tryz.underlying307
  a138 := Tryz.isAgg307
  z138 := Tryz.sizeOf307
  v138 := Tryz.zeroValue307
  t139 := Tryz.underlying308
  a139 := Tryz.isAgg308
  z139 := Tryz.sizeOf308
  v139 := Tryz.zeroValue308
  g3 := by kernel_rfl
  g4 := by kernel_rfl }
open Go.RowKit in
/-- strings.TrimRight: "TrimRight returns a slice of the string s, with all trailing Unicode code points contained in cutset removed.": AT A cutset OF ONE ASCII BYTE. The world is as it was. (LAID: no walk: one application.) -/
theorem Tryz.strings_TrimRight_one (s : ByteArray) (c : UInt8) (hc : c.toNat < 128) (w : World) (hs : s.size ≤ 9223372036854775807) :
    Calls Tryz.prog 183 #[.string s, .string ⟨#[c]⟩] w fun e w' => e = .returned (.string ⟨(Lib.trimRightB s.data.toList c).toArray⟩) ∧ w' = w := Any.strings_TrimRight_one Tryz.lays162 s c hc w hs
def Tryz.lays106_ren : Go.Shelf.Ren := ⟨fun | 106 => 205 | 213 => 252 | 265 => 286 | n => n, fun | 9 => 9 | 3 => 3 | n => n, fun | n => n⟩
theorem Tryz.lays106 : Go.Proofs.Lays.n106 Tryz.prog Tryz.lays106_ren := {
  mixed := by kernel_rfl
  f106 := Tryz.func205.trans (congrArg some (by kernel_rfl))
  f213 := Tryz.func252.trans (congrArg some (by kernel_rfl))
  f265 := Tryz.func286.trans (congrArg some (by kernel_rfl))
  t3 := Tryz.underlying3
  a3 := Tryz.isAgg3
  z3 := Tryz.sizeOf3
  v3 := Tryz.zeroValue3
  t9 := Tryz.underlying9
  a9 := Tryz.isAgg9
  z9 := Tryz.sizeOf9
  v9 := Tryz.zeroValue9 }
open Go.RowKit in
/-- strings.Compare: "Compare returns an integer comparing two strings lexicographically. The result will be 0 if a == b, -1 if a < b, and +1 if a > b.": IT RETURNS 'Lib.compareBytes a b'; the world is as it was. (LAID: no walk: one application.) -/
theorem Tryz.strings_Compare (a b : ByteArray) (w : World) :
    Calls Tryz.prog 205 #[.string a, .string b] w fun e w' => e = .returned (.int .i64 (Lib.compareBytes a.data.toList b.data.toList)) ∧ w' = w := Any.strings_Compare Tryz.lays106 a b w
def Tryz.lays137_ren : Go.Shelf.Ren := ⟨fun | 137 => 258 | 217 => 291 | 266 => 306 | n => n, fun | 9 => 9 | 5 => 5 | 3 => 3 | n => n, fun | n => n⟩
theorem Tryz.lays137 : Go.Proofs.Lays.n137 Tryz.prog Tryz.lays137_ren := {
  mixed := by kernel_rfl
  f137 := Tryz.func258.trans (congrArg some (by kernel_rfl))
  f217 := Tryz.func291.trans (congrArg some (by kernel_rfl))
  f266 := Tryz.func306.trans (congrArg some (by kernel_rfl))
  t3 := Tryz.underlying3
  a3 := Tryz.isAgg3
  z3 := Tryz.sizeOf3
  v3 := Tryz.zeroValue3
  t5 := Tryz.underlying5
  a5 := Tryz.isAgg5
  z5 := Tryz.sizeOf5
  v5 := Tryz.zeroValue5
  t9 := Tryz.underlying9
  a9 := Tryz.isAgg9
  z9 := Tryz.sizeOf9
  v9 := Tryz.zeroValue9 }
open Go.RowKit in
/-- strings.IndexByte: "IndexByte returns the index of the first instance of c in s, or -1 if c is not present in s.": IT RETURNS 'Lib.indexByte s c'; the world is as it was. (LAID: no walk: one application.) -/
theorem Tryz.strings_IndexByte (s : ByteArray) (c : Int) (w : World) :
    Calls Tryz.prog 258 #[.string s, .int .u8 c] w fun e w' => e = .returned (.int .i64 (Lib.indexByte s.data.toList c.toNat.toUInt8)) ∧ w' = w := Any.strings_IndexByte Tryz.lays137 s c w
def Tryz.lays103_ren : Go.Shelf.Ren := ⟨fun | 103 => 167 | 210 => 235 | 206 => 216 | n => n, fun | 9 => 9 | 4 => 4 | 24 => 30 | 3 => 3 | n => n, fun | n => n⟩
theorem Tryz.lays103 : Go.Proofs.Lays.n103 Tryz.prog Tryz.lays103_ren := {
  mixed := by kernel_rfl
  f103 := Tryz.func167.trans (congrArg some (by kernel_rfl))
  f206 := Tryz.func216.trans (congrArg some (by kernel_rfl))
  f210 := Tryz.func235.trans (congrArg some (by kernel_rfl))
  t3 := Tryz.underlying3
  a3 := Tryz.isAgg3
  z3 := Tryz.sizeOf3
  v3 := Tryz.zeroValue3
  t4 := Tryz.underlying4
  a4 := Tryz.isAgg4
  z4 := Tryz.sizeOf4
  v4 := Tryz.zeroValue4
  t9 := Tryz.underlying9
  a9 := Tryz.isAgg9
  z9 := Tryz.sizeOf9
  v9 := Tryz.zeroValue9
  t24 := Tryz.underlying30
  a24 := Tryz.isAgg30
  z24 := Tryz.sizeOf30
  v24 := Tryz.zeroValue30 }
open Go.RowKit in
/-- strings.CutPrefix: "CutPrefix returns s without the provided leading prefix string and reports whether it found the prefix. If s doesn't start with prefix, CutPrefix returns s, false. If prefix is the empty string, CutPrefix returns s, true.": IT RETURNS '(Lib.trimPrefix s p, Lib.hasPrefix s p)'; the world is as it was. (LAID: no walk: one application.) -/
theorem Tryz.strings_CutPrefix (s p : ByteArray) (w : World) :
    Calls Tryz.prog 167 #[.string s, .string p] w fun e w' => e = .returned (.tuple #[.string ⟨(Lib.trimPrefix s.data.toList p.data.toList).toArray⟩, .bool (Lib.hasPrefix s.data.toList p.data.toList)]) ∧ w' = w := Any.strings_CutPrefix Tryz.lays103 s p w
def Tryz.laysM171_ren : Go.Shelf.Ren := ⟨fun | 171 => 114 | 243 => 193 | 246 => 243 | 283 => 276 | 284 => 277 | 285 => 278 | 286 => 279 | 129 => 300 | 317 => 299 | 318 => 301 | 319 => 302 | 320 => 303 | 337 => 309 | 338 => 310 | n => n, fun | 3 => 3 | 9 => 9 | 2 => 2 | 4 => 4 | 171 => 278 | 0 => 0 | 53 => 183 | 37 => 40 | 5 => 5 | 173 => 281 | 212 => 298 | 51 => 107 | 20 => 20 | 213 => 299 | 46 => 208 | 232 => 311 | 233 => 312 | n => n, fun | 17 => 4 | 18 => 7 | 19 => 8 | n => n⟩
theorem Tryz.laysM171 : Go.Proofs.LaysM.n171 Tryz.prog Tryz.laysM171_ren := {
  mixed := by kernel_rfl
  f129 := Tryz.func300.trans (congrArg some (by kernel_rfl))
  f171 := Tryz.func114.trans (congrArg some (by kernel_rfl))
  f243 := Tryz.func193.trans (congrArg some (by kernel_rfl))
  f246 := Tryz.func243.trans (congrArg some (by kernel_rfl))
  f283 := Tryz.func276.trans (congrArg some (by kernel_rfl))
  f284 := Tryz.func277.trans (congrArg some (by kernel_rfl))
  f285 := Tryz.func278.trans (congrArg some (by kernel_rfl))
  f286 := Tryz.func279.trans (congrArg some (by kernel_rfl))
  f317 := Tryz.func299.trans (congrArg some (by kernel_rfl))
  f318 := Tryz.func301.trans (congrArg some (by kernel_rfl))
  f319 := Tryz.func302.trans (congrArg some (by kernel_rfl))
  f320 := Tryz.func303.trans (congrArg some (by kernel_rfl))
  f337 := Tryz.func309.trans (congrArg some (by kernel_rfl))
  f338 := Tryz.func310.trans (congrArg some (by kernel_rfl))
  t0 := Tryz.underlying0
  a0 := Tryz.isAgg0
  z0 := Tryz.sizeOf0
  v0 := Tryz.zeroValue0
  t2 := Tryz.underlying2
  a2 := Tryz.isAgg2
  z2 := Tryz.sizeOf2
  v2 := Tryz.zeroValue2
  t3 := Tryz.underlying3
  a3 := Tryz.isAgg3
  z3 := Tryz.sizeOf3
  v3 := Tryz.zeroValue3
  t4 := Tryz.underlying4
  a4 := Tryz.isAgg4
  z4 := Tryz.sizeOf4
  v4 := Tryz.zeroValue4
  t5 := Tryz.underlying5
  a5 := Tryz.isAgg5
  z5 := Tryz.sizeOf5
  v5 := Tryz.zeroValue5
  t9 := Tryz.underlying9
  a9 := Tryz.isAgg9
  z9 := Tryz.sizeOf9
  v9 := Tryz.zeroValue9
  t20 := Tryz.underlying20
  a20 := Tryz.isAgg20
  z20 := Tryz.sizeOf20
  v20 := Tryz.zeroValue20
  t37 := Tryz.underlying40
  a37 := Tryz.isAgg40
  z37 := Tryz.sizeOf40
  v37 := Tryz.zeroValue40
  t46 := Tryz.underlying208
  a46 := Tryz.isAgg208
  z46 := Tryz.sizeOf208
  v46 := Tryz.zeroValue208
  t51 := Tryz.underlying107
  a51 := Tryz.isAgg107
  z51 := Tryz.sizeOf107
  v51 := Tryz.zeroValue107
  t53 := Tryz.underlying183
  a53 := Tryz.isAgg183
  z53 := Tryz.sizeOf183
  v53 := Tryz.zeroValue183
  t171 := Tryz.underlying278
  a171 := Tryz.isAgg278
  z171 := Tryz.sizeOf278
  v171 := Tryz.zeroValue278
  t173 := Tryz.underlying281
  a173 := Tryz.isAgg281
  z173 := Tryz.sizeOf281
  v173 := Tryz.zeroValue281
  t212 := Tryz.underlying298
  a212 := Tryz.isAgg298
  z212 := Tryz.sizeOf298
  v212 := Tryz.zeroValue298
  t213 := Tryz.underlying299
  a213 := Tryz.isAgg299
  z213 := Tryz.sizeOf299
  t232 := Tryz.underlying311
  a232 := Tryz.isAgg311
  z232 := Tryz.sizeOf311
  v232 := Tryz.zeroValue311
  t233 := Tryz.underlying312
  a233 := Tryz.isAgg312
  z233 := Tryz.sizeOf312
  v233 := Tryz.zeroValue312
  g17 := by kernel_rfl
  g18 := by kernel_rfl
  g19 := by kernel_rfl
  i0 := by kernel_rfl
  i2 := by kernel_rfl
  i3 := by kernel_rfl
  i4 := by kernel_rfl
  i5 := by kernel_rfl
  i9 := by kernel_rfl
  i20 := by kernel_rfl
  i37 := by kernel_rfl
  i46 := by kernel_rfl
  i51 := by kernel_rfl
  i53 := by kernel_rfl
  i171 := by kernel_rfl
  i173 := by kernel_rfl
  i212 := by kernel_rfl
  i232 := by kernel_rfl
  i233 := by kernel_rfl
  m17 := by kernel_rfl
  m18 := by kernel_rfl
  m19 := by kernel_rfl }
open Go.RowKit Go.Sort Go.Lib in
/-- strconv.Itoa: "Itoa is equivalent to FormatInt(int64(i), 10).": i's DECIMAL NUMERAL ('Lib.itoa': a '-' where i is negative, then the digits), FOR EVERY int. The world behind the call: the world before it, new blocks behind the heap (the library's 'var a [24]byte'), draws. (LAID: no walk: one application.) -/
theorem Tryz.strconv_Itoa (n : Int) (h0 : -9223372036854775808 ≤ n) (h1 : n ≤ 9223372036854775807) (w : World) (htab : Lib.TabIs Tryz.prog w "internal/strconv.uint64pow10" .u64 Lib.pow10Tab) :
    Calls Tryz.prog 114 #[.int .i64 n] w fun e w' => e = .returned (.string ⟨(Lib.itoa n).toArray⟩) ∧ ∃ k os, w' = grow (w.drewN k) os := Any.strconv_Itoa Tryz.laysM171 n h0 h1 w htab
def Tryz.laysM173_ren : Go.Shelf.Ren := ⟨fun | 173 => 182 | 246 => 243 | 283 => 276 | 284 => 277 | 285 => 278 | 286 => 279 | 129 => 300 | 317 => 299 | 318 => 301 | 319 => 302 | 320 => 303 | 337 => 309 | 338 => 310 | n => n, fun | 2 => 2 | 3 => 3 | 9 => 9 | 4 => 4 | 171 => 278 | 0 => 0 | 53 => 183 | 37 => 40 | 5 => 5 | 173 => 281 | 212 => 298 | 51 => 107 | 20 => 20 | 213 => 299 | 46 => 208 | 232 => 311 | 233 => 312 | n => n, fun | 17 => 4 | 18 => 7 | 19 => 8 | n => n⟩
theorem Tryz.laysM173 : Go.Proofs.LaysM.n173 Tryz.prog Tryz.laysM173_ren := {
  mixed := by kernel_rfl
  f129 := Tryz.func300.trans (congrArg some (by kernel_rfl))
  f173 := Tryz.func182.trans (congrArg some (by kernel_rfl))
  f246 := Tryz.func243.trans (congrArg some (by kernel_rfl))
  f283 := Tryz.func276.trans (congrArg some (by kernel_rfl))
  f284 := Tryz.func277.trans (congrArg some (by kernel_rfl))
  f285 := Tryz.func278.trans (congrArg some (by kernel_rfl))
  f286 := Tryz.func279.trans (congrArg some (by kernel_rfl))
  f317 := Tryz.func299.trans (congrArg some (by kernel_rfl))
  f318 := Tryz.func301.trans (congrArg some (by kernel_rfl))
  f319 := Tryz.func302.trans (congrArg some (by kernel_rfl))
  f320 := Tryz.func303.trans (congrArg some (by kernel_rfl))
  f337 := Tryz.func309.trans (congrArg some (by kernel_rfl))
  f338 := Tryz.func310.trans (congrArg some (by kernel_rfl))
  t0 := Tryz.underlying0
  a0 := Tryz.isAgg0
  z0 := Tryz.sizeOf0
  v0 := Tryz.zeroValue0
  t2 := Tryz.underlying2
  a2 := Tryz.isAgg2
  z2 := Tryz.sizeOf2
  v2 := Tryz.zeroValue2
  t3 := Tryz.underlying3
  a3 := Tryz.isAgg3
  z3 := Tryz.sizeOf3
  v3 := Tryz.zeroValue3
  t4 := Tryz.underlying4
  a4 := Tryz.isAgg4
  z4 := Tryz.sizeOf4
  v4 := Tryz.zeroValue4
  t5 := Tryz.underlying5
  a5 := Tryz.isAgg5
  z5 := Tryz.sizeOf5
  v5 := Tryz.zeroValue5
  t9 := Tryz.underlying9
  a9 := Tryz.isAgg9
  z9 := Tryz.sizeOf9
  v9 := Tryz.zeroValue9
  t20 := Tryz.underlying20
  a20 := Tryz.isAgg20
  z20 := Tryz.sizeOf20
  v20 := Tryz.zeroValue20
  t37 := Tryz.underlying40
  a37 := Tryz.isAgg40
  z37 := Tryz.sizeOf40
  v37 := Tryz.zeroValue40
  t46 := Tryz.underlying208
  a46 := Tryz.isAgg208
  z46 := Tryz.sizeOf208
  v46 := Tryz.zeroValue208
  t51 := Tryz.underlying107
  a51 := Tryz.isAgg107
  z51 := Tryz.sizeOf107
  v51 := Tryz.zeroValue107
  t53 := Tryz.underlying183
  a53 := Tryz.isAgg183
  z53 := Tryz.sizeOf183
  v53 := Tryz.zeroValue183
  t171 := Tryz.underlying278
  a171 := Tryz.isAgg278
  z171 := Tryz.sizeOf278
  v171 := Tryz.zeroValue278
  t173 := Tryz.underlying281
  a173 := Tryz.isAgg281
  z173 := Tryz.sizeOf281
  v173 := Tryz.zeroValue281
  t212 := Tryz.underlying298
  a212 := Tryz.isAgg298
  z212 := Tryz.sizeOf298
  v212 := Tryz.zeroValue298
  t213 := Tryz.underlying299
  a213 := Tryz.isAgg299
  z213 := Tryz.sizeOf299
  t232 := Tryz.underlying311
  a232 := Tryz.isAgg311
  z232 := Tryz.sizeOf311
  v232 := Tryz.zeroValue311
  t233 := Tryz.underlying312
  a233 := Tryz.isAgg312
  z233 := Tryz.sizeOf312
  v233 := Tryz.zeroValue312
  g17 := by kernel_rfl
  g18 := by kernel_rfl
  g19 := by kernel_rfl
  i0 := by kernel_rfl
  i2 := by kernel_rfl
  i3 := by kernel_rfl
  i4 := by kernel_rfl
  i5 := by kernel_rfl
  i9 := by kernel_rfl
  i20 := by kernel_rfl
  i37 := by kernel_rfl
  i46 := by kernel_rfl
  i51 := by kernel_rfl
  i53 := by kernel_rfl
  i171 := by kernel_rfl
  i173 := by kernel_rfl
  i212 := by kernel_rfl
  i232 := by kernel_rfl
  i233 := by kernel_rfl
  m17 := by kernel_rfl
  m18 := by kernel_rfl
  m19 := by kernel_rfl }
open Go.RowKit Go.Sort Go.Lib in
/-- strconv.FormatInt: "FormatInt returns the string representation of i in the given base": AT BASE 10: i's decimal numeral, for every int64. (LAID: no walk: one application.) -/
theorem Tryz.strconv_FormatInt_10 (n : Int) (h0 : -9223372036854775808 ≤ n) (h1 : n ≤ 9223372036854775807) (w : World) (htab : Lib.TabIs Tryz.prog w "internal/strconv.uint64pow10" .u64 Lib.pow10Tab) :
    Calls Tryz.prog 182 #[.int .i64 n, .int .i64 10] w fun e w' => e = .returned (.string ⟨(Lib.itoa n).toArray⟩) ∧ ∃ k os, w' = grow (w.drewN k) os := Any.strconv_FormatInt_10 Tryz.laysM173 n h0 h1 w htab
def Tryz.laysC174_ren : Go.Shelf.Ren := ⟨fun | 174 => 171 | 247 => 237 | 245 => 218 | 287 => 217 | 279 => 262 | 280 => 263 | 281 => 264 | 282 => 265 | 321 => 260 | 322 => 261 | 316 => 292 | 171 => 114 | 205 => 293 | 243 => 193 | 246 => 243 | 283 => 276 | 284 => 277 | 285 => 278 | 286 => 279 | 129 => 300 | 317 => 299 | 318 => 301 | 319 => 302 | 320 => 303 | 337 => 309 | 338 => 310 | n => n, fun | 9 => 9 | 3 => 3 | 2 => 2 | 75 => 185 | 85 => 205 | 4 => 4 | 167 => 265 | 5 => 5 | 53 => 183 | 175 => 186 | 46 => 208 | 168 => 267 | 37 => 40 | 0 => 0 | 210 => 290 | 21 => 21 | 127 => 258 | 145 => 303 | 143 => 301 | 171 => 278 | 173 => 281 | 212 => 298 | 51 => 107 | 20 => 20 | 213 => 299 | 232 => 311 | 233 => 312 | 80 => 149 | n => n, fun | 15 => 2 | 16 => 3 | 17 => 4 | 18 => 7 | 19 => 8 | n => n⟩
theorem Tryz.laysC174 : Go.Proofs.LaysC.n174 Tryz.prog Tryz.laysC174_ren := {
  mixed := by kernel_rfl
  f129 := Tryz.func300.trans (congrArg some (by kernel_rfl))
  f171 := Tryz.func114.trans (congrArg some (by kernel_rfl))
  f174 := Tryz.func171.trans (congrArg some (by kernel_rfl))
  f205 := Tryz.func293.trans (congrArg some (by kernel_rfl))
  f243 := Tryz.func193.trans (congrArg some (by kernel_rfl))
  f245 := Tryz.func218.trans (congrArg some (by kernel_rfl))
  f246 := Tryz.func243.trans (congrArg some (by kernel_rfl))
  f247 := Tryz.func237.trans (congrArg some (by kernel_rfl))
  f279 := Tryz.func262.trans (congrArg some (by kernel_rfl))
  f280 := Tryz.func263.trans (congrArg some (by kernel_rfl))
  f281 := Tryz.func264.trans (congrArg some (by kernel_rfl))
  f282 := Tryz.func265.trans (congrArg some (by kernel_rfl))
  f283 := Tryz.func276.trans (congrArg some (by kernel_rfl))
  f284 := Tryz.func277.trans (congrArg some (by kernel_rfl))
  f285 := Tryz.func278.trans (congrArg some (by kernel_rfl))
  f286 := Tryz.func279.trans (congrArg some (by kernel_rfl))
  f287 := Tryz.func217.trans (congrArg some (by kernel_rfl))
  f316 := Tryz.func292.trans (congrArg some (by kernel_rfl))
  f317 := Tryz.func299.trans (congrArg some (by kernel_rfl))
  f318 := Tryz.func301.trans (congrArg some (by kernel_rfl))
  f319 := Tryz.func302.trans (congrArg some (by kernel_rfl))
  f320 := Tryz.func303.trans (congrArg some (by kernel_rfl))
  f321 := Tryz.func260.trans (congrArg some (by kernel_rfl))
  f322 := Tryz.func261.trans (congrArg some (by kernel_rfl))
  f337 := Tryz.func309.trans (congrArg some (by kernel_rfl))
  f338 := Tryz.func310.trans (congrArg some (by kernel_rfl))
  t0 := Tryz.underlying0
  a0 := Tryz.isAgg0
  z0 := Tryz.sizeOf0
  v0 := Tryz.zeroValue0
  t2 := Tryz.underlying2
  a2 := Tryz.isAgg2
  z2 := Tryz.sizeOf2
  v2 := Tryz.zeroValue2
  t3 := Tryz.underlying3
  a3 := Tryz.isAgg3
  z3 := Tryz.sizeOf3
  v3 := Tryz.zeroValue3
  t4 := Tryz.underlying4
  a4 := Tryz.isAgg4
  z4 := Tryz.sizeOf4
  v4 := Tryz.zeroValue4
  t5 := Tryz.underlying5
  a5 := Tryz.isAgg5
  z5 := Tryz.sizeOf5
  v5 := Tryz.zeroValue5
  t9 := Tryz.underlying9
  a9 := Tryz.isAgg9
  z9 := Tryz.sizeOf9
  v9 := Tryz.zeroValue9
  t20 := Tryz.underlying20
  a20 := Tryz.isAgg20
  z20 := Tryz.sizeOf20
  v20 := Tryz.zeroValue20
  t21 := Tryz.underlying21
  a21 := Tryz.isAgg21
  z21 := Tryz.sizeOf21
  v21 := Tryz.zeroValue21
  t37 := Tryz.underlying40
  a37 := Tryz.isAgg40
  z37 := Tryz.sizeOf40
  v37 := Tryz.zeroValue40
  t46 := Tryz.underlying208
  a46 := Tryz.isAgg208
  z46 := Tryz.sizeOf208
  v46 := Tryz.zeroValue208
  t51 := Tryz.underlying107
  a51 := Tryz.isAgg107
  z51 := Tryz.sizeOf107
  v51 := Tryz.zeroValue107
  t53 := Tryz.underlying183
  a53 := Tryz.isAgg183
  z53 := Tryz.sizeOf183
  v53 := Tryz.zeroValue183
  t75 := Tryz.underlying185
  a75 := Tryz.isAgg185
  z75 := Tryz.sizeOf185
  v75 := Tryz.zeroValue185
  t85 := Tryz.underlying205
  a85 := Tryz.isAgg205
  z85 := Tryz.sizeOf205
  v85 := Tryz.zeroValue205
  t127 := Tryz.underlying258
  a127 := Tryz.isAgg258
  z127 := Tryz.sizeOf258
  v127 := Tryz.zeroValue258
  t143 := Tryz.underlying301
  a143 := Tryz.isAgg301
  z143 := Tryz.sizeOf301
  v143 := Tryz.zeroValue301
  t145 := Tryz.underlying303
  a145 := Tryz.isAgg303
  z145 := Tryz.sizeOf303
  v145 := Tryz.zeroValue303
  t167 := Tryz.underlying265
  a167 := Tryz.isAgg265
  z167 := Tryz.sizeOf265
  v167 := Tryz.zeroValue265
  t168 := Tryz.underlying267
  a168 := Tryz.isAgg267
  z168 := Tryz.sizeOf267
  v168 := Tryz.zeroValue267
  t171 := Tryz.underlying278
  a171 := Tryz.isAgg278
  z171 := Tryz.sizeOf278
  v171 := Tryz.zeroValue278
  t173 := Tryz.underlying281
  a173 := Tryz.isAgg281
  z173 := Tryz.sizeOf281
  v173 := Tryz.zeroValue281
  t175 := Tryz.underlying186
  a175 := Tryz.isAgg186
  z175 := Tryz.sizeOf186
  v175 := Tryz.zeroValue186
  t210 := Tryz.underlying290
  a210 := Tryz.isAgg290
  z210 := Tryz.sizeOf290
  v210 := Tryz.zeroValue290
  t212 := Tryz.underlying298
  a212 := Tryz.isAgg298
  z212 := Tryz.sizeOf298
  v212 := Tryz.zeroValue298
  t213 := Tryz.underlying299
  a213 := Tryz.isAgg299
  z213 := Tryz.sizeOf299
  t232 := Tryz.underlying311
  a232 := Tryz.isAgg311
  z232 := Tryz.sizeOf311
  v232 := Tryz.zeroValue311
  t233 := Tryz.underlying312
  a233 := Tryz.isAgg312
  z233 := Tryz.sizeOf312
  v233 := Tryz.zeroValue312
  g15 := by kernel_rfl
  g16 := by kernel_rfl
  g17 := by kernel_rfl
  g18 := by kernel_rfl
  g19 := by kernel_rfl
  t80 := Tryz.underlying149
  a80 := Tryz.isAgg149
  z80 := Tryz.sizeOf149
  v80 := Tryz.zeroValue149
  i0 := by kernel_rfl
  i2 := by kernel_rfl
  i3 := by kernel_rfl
  i4 := by kernel_rfl
  i5 := by kernel_rfl
  i9 := by kernel_rfl
  i20 := by kernel_rfl
  i21 := by kernel_rfl
  i37 := by kernel_rfl
  i46 := by kernel_rfl
  i51 := by kernel_rfl
  i53 := by kernel_rfl
  i75 := by kernel_rfl
  i80 := by kernel_rfl
  i85 := by kernel_rfl
  i127 := by kernel_rfl
  i143 := by kernel_rfl
  i145 := by kernel_rfl
  i167 := by kernel_rfl
  i168 := by kernel_rfl
  i171 := by kernel_rfl
  i173 := by kernel_rfl
  i175 := by kernel_rfl
  i210 := by kernel_rfl
  i212 := by kernel_rfl
  i232 := by kernel_rfl
  i233 := by kernel_rfl
  m15 := by kernel_rfl
  m16 := by kernel_rfl
  m17 := by kernel_rfl
  m18 := by kernel_rfl
  m19 := by kernel_rfl
  c0 := by kernel_rfl
  c2 := by kernel_rfl
  c3 := by kernel_rfl
  c4 := by kernel_rfl
  c5 := by kernel_rfl
  c9 := by kernel_rfl
  c20 := by kernel_rfl
  c21 := by kernel_rfl
  c37 := by kernel_rfl
  c46 := by kernel_rfl
  c51 := by kernel_rfl
  c53 := by kernel_rfl
  c75 := by kernel_rfl
  c80 := by kernel_rfl
  c85 := by kernel_rfl
  c127 := by kernel_rfl
  c143 := by kernel_rfl
  c145 := by kernel_rfl
  c167 := by kernel_rfl
  c168 := by kernel_rfl
  c171 := by kernel_rfl
  c173 := by kernel_rfl
  c175 := by kernel_rfl
  c210 := by kernel_rfl
  c212 := by kernel_rfl
  c213 := by kernel_rfl
  c232 := by kernel_rfl
  c233 := by kernel_rfl }
open Go.RowKit in
/-- strconv.ParseInt(s, 10, 64), AT EVERY STRING THAT SPELLS AN int64 ('Lib.parseIntB 64 s.data.toList = .ok v'): v, AND NO ERROR. (LAID: no walk: one application.) -/
theorem Tryz.strconv_ParseInt_10_at64_ok (s : ByteArray) (hmax : s.size ≤ 9223372036854775806) (v : Int) (h : Lib.parseIntB 64 s.data.toList = .ok v) (w : World) :
    Calls Tryz.prog 171 #[.string s, .int .i64 10, .int .i64 64] w fun e w' => e = .returned (.tuple #[.int .i64 v, .nilIface]) ∧ (w' = w ∨ ∃ t, w' = Lib.bytesWorld w 5 t) := Any.strconv_ParseInt_10_at64_ok Tryz.laysC174 s hmax v h w
open Go.RowKit in
/-- strconv.ParseInt(s, 10, 64), AT EVERY STRING THAT IS NO DECIMAL NUMERAL: 0, AND AN ERROR THAT IS NOT nil: a *NumError in a new block N: {Func: "ParseInt", Num: s's bytes, Err: what the variable ErrSyntax holds}. Of what was there nothing has turned. (LAID: no walk: one application.) -/
theorem Tryz.strconv_ParseInt_10_at64_syntax (s : ByteArray) (hlim : s.size ≤ 281474976710656) (h : Lib.parseIntB 64 s.data.toList = Lib.parseIntB 64 []) (ev : Value) (w : World) (hv : w.cell? ⟨2, 0, none⟩ = some ev) (hev : ev = .nilIface ∨ ∃ te pe, ev = .iface te pe) :
    Calls Tryz.prog 171 #[.string s, .int .i64 10, .int .i64 64] w fun e w' => ∃ N, e = .returned (.tuple #[.int .i64 (0), .iface 267 (.pointer (some ⟨N, 0, none⟩))]) ∧ w.heap.size ≤ N ∧ w'.heap[N]? = some (.cells #[.string ⟨#[80, 97, 114, 115, 101, 73, 110, 116]⟩, .string s, ev] 290 (0, 0)) ∧ Below w.heap.size w w' := Any.strconv_ParseInt_10_at64_syntax Tryz.laysC174 s hlim h ev w hv hev
open Go.RowKit in
/-- strconv.ParseInt(s, 10, 64), AT EVERY NUMERAL THAT NO int64 HOLDS: THE GREATEST OR THE LEAST int64, BY THE SIGN ('Lib.intSat 64'), AND AN ERROR THAT IS NOT nil: a *NumError in a new block N: {Func: "ParseInt", Num: s's bytes, Err: what the variable ErrRange holds}. Of what was there nothing has turned. (LAID: no walk: one application.) -/
theorem Tryz.strconv_ParseInt_10_at64_range (s : ByteArray) (hlim : s.size ≤ 281474976710656) (h : Lib.parseIntB 64 s.data.toList = .range) (ev : Value) (w : World) (hv : w.cell? ⟨3, 0, none⟩ = some ev) (hev : ev = .nilIface ∨ ∃ te pe, ev = .iface te pe) :
    Calls Tryz.prog 171 #[.string s, .int .i64 10, .int .i64 64] w fun e w' => ∃ N, e = .returned (.tuple #[.int .i64 (Lib.intSat 64 s.data.toList), .iface 267 (.pointer (some ⟨N, 0, none⟩))]) ∧ w.heap.size ≤ N ∧ w'.heap[N]? = some (.cells #[.string ⟨#[80, 97, 114, 115, 101, 73, 110, 116]⟩, .string s, ev] 290 (0, 0)) ∧ Below w.heap.size w w' := Any.strconv_ParseInt_10_at64_range Tryz.laysC174 s hlim h ev w hv hev
def Tryz.laysPu14_ren : Go.Shelf.Ren := ⟨fun | 14 => 146 | 16 => 217 | 17 => 218 | 19 => 260 | 20 => 261 | 21 => 262 | 22 => 263 | 23 => 264 | 24 => 265 | 25 => 292 | 27 => 114 | 26 => 293 | 28 => 193 | 29 => 243 | 30 => 276 | 31 => 277 | 32 => 278 | 33 => 279 | 35 => 300 | 34 => 299 | 36 => 301 | 37 => 302 | 38 => 303 | 39 => 309 | 40 => 310 | n => n, fun | 9 => 9 | 3 => 3 | 22 => 183 | 24 => 185 | 25 => 186 | 4 => 4 | 34 => 265 | 5 => 5 | 36 => 208 | 37 => 40 | 0 => 0 | 39 => 267 | 21 => 21 | 44 => 290 | 47 => 258 | 50 => 303 | 48 => 301 | 2 => 2 | 52 => 278 | 55 => 281 | 59 => 298 | 60 => 107 | 20 => 20 | 61 => 299 | 65 => 311 | 66 => 312 | 67 => 149 | n => n, fun | 0 => 2 | 1 => 3 | 2 => 4 | 3 => 7 | 4 => 8 | n => n⟩
theorem Tryz.laysPu14 : Go.Proofs.LaysPu.n14 Tryz.prog Tryz.laysPu14_ren := {
  mixed := by kernel_rfl
  f14 := Tryz.func146.trans (congrArg some (by kernel_rfl))
  f16 := Tryz.func217.trans (congrArg some (by kernel_rfl))
  f17 := Tryz.func218.trans (congrArg some (by kernel_rfl))
  f19 := Tryz.func260.trans (congrArg some (by kernel_rfl))
  f20 := Tryz.func261.trans (congrArg some (by kernel_rfl))
  f21 := Tryz.func262.trans (congrArg some (by kernel_rfl))
  f22 := Tryz.func263.trans (congrArg some (by kernel_rfl))
  f23 := Tryz.func264.trans (congrArg some (by kernel_rfl))
  f24 := Tryz.func265.trans (congrArg some (by kernel_rfl))
  f25 := Tryz.func292.trans (congrArg some (by kernel_rfl))
  f26 := Tryz.func293.trans (congrArg some (by kernel_rfl))
  f27 := Tryz.func114.trans (congrArg some (by kernel_rfl))
  f28 := Tryz.func193.trans (congrArg some (by kernel_rfl))
  f29 := Tryz.func243.trans (congrArg some (by kernel_rfl))
  f30 := Tryz.func276.trans (congrArg some (by kernel_rfl))
  f31 := Tryz.func277.trans (congrArg some (by kernel_rfl))
  f32 := Tryz.func278.trans (congrArg some (by kernel_rfl))
  f33 := Tryz.func279.trans (congrArg some (by kernel_rfl))
  f34 := Tryz.func299.trans (congrArg some (by kernel_rfl))
  f35 := Tryz.func300.trans (congrArg some (by kernel_rfl))
  f36 := Tryz.func301.trans (congrArg some (by kernel_rfl))
  f37 := Tryz.func302.trans (congrArg some (by kernel_rfl))
  f38 := Tryz.func303.trans (congrArg some (by kernel_rfl))
  f39 := Tryz.func309.trans (congrArg some (by kernel_rfl))
  f40 := Tryz.func310.trans (congrArg some (by kernel_rfl))
  t0 := Tryz.underlying0
  a0 := Tryz.isAgg0
  z0 := Tryz.sizeOf0
  v0 := Tryz.zeroValue0
  i0 := by kernel_rfl
  t2 := Tryz.underlying2
  a2 := Tryz.isAgg2
  z2 := Tryz.sizeOf2
  v2 := Tryz.zeroValue2
  i2 := by kernel_rfl
  t3 := Tryz.underlying3
  a3 := Tryz.isAgg3
  z3 := Tryz.sizeOf3
  v3 := Tryz.zeroValue3
  i3 := by kernel_rfl
  t4 := Tryz.underlying4
  a4 := Tryz.isAgg4
  z4 := Tryz.sizeOf4
  v4 := Tryz.zeroValue4
  i4 := by kernel_rfl
  t5 := Tryz.underlying5
  a5 := Tryz.isAgg5
  z5 := Tryz.sizeOf5
  v5 := Tryz.zeroValue5
  i5 := by kernel_rfl
  t9 := Tryz.underlying9
  a9 := Tryz.isAgg9
  z9 := Tryz.sizeOf9
  v9 := Tryz.zeroValue9
  i9 := by kernel_rfl
  t20 := Tryz.underlying20
  a20 := Tryz.isAgg20
  z20 := Tryz.sizeOf20
  v20 := Tryz.zeroValue20
  i20 := by kernel_rfl
  t21 := Tryz.underlying21
  a21 := Tryz.isAgg21
  z21 := Tryz.sizeOf21
  v21 := Tryz.zeroValue21
  i21 := by kernel_rfl
  t22 := Tryz.underlying183
  a22 := Tryz.isAgg183
  z22 := Tryz.sizeOf183
  v22 := Tryz.zeroValue183
  i22 := by kernel_rfl
  t24 := Tryz.underlying185
  a24 := Tryz.isAgg185
  z24 := Tryz.sizeOf185
  v24 := Tryz.zeroValue185
  i24 := by kernel_rfl
  t25 := Tryz.underlying186
  a25 := Tryz.isAgg186
  z25 := Tryz.sizeOf186
  v25 := Tryz.zeroValue186
  i25 := by kernel_rfl
  t34 := Tryz.underlying265
  a34 := Tryz.isAgg265
  z34 := Tryz.sizeOf265
  v34 := Tryz.zeroValue265
  i34 := by kernel_rfl
  c34 := by kernel_rfl
  t36 := Tryz.underlying208
  a36 := Tryz.isAgg208
  z36 := Tryz.sizeOf208
  v36 := Tryz.zeroValue208
  i36 := by kernel_rfl
  t37 := Tryz.underlying40
  a37 := Tryz.isAgg40
  z37 := Tryz.sizeOf40
  v37 := Tryz.zeroValue40
  i37 := by kernel_rfl
  t39 := Tryz.underlying267
  a39 := Tryz.isAgg267
  z39 := Tryz.sizeOf267
  v39 := Tryz.zeroValue267
  i39 := by kernel_rfl
  t44 := Tryz.underlying290
  a44 := Tryz.isAgg290
  z44 := Tryz.sizeOf290
  v44 := Tryz.zeroValue290
  i44 := by kernel_rfl
  t47 := Tryz.underlying258
  a47 := Tryz.isAgg258
  z47 := Tryz.sizeOf258
  v47 := Tryz.zeroValue258
  i47 := by kernel_rfl
  t48 := Tryz.underlying301
  a48 := Tryz.isAgg301
  z48 := Tryz.sizeOf301
  v48 := Tryz.zeroValue301
  i48 := by kernel_rfl
  t50 := Tryz.underlying303
  a50 := Tryz.isAgg303
  z50 := Tryz.sizeOf303
  v50 := Tryz.zeroValue303
  i50 := by kernel_rfl
  t52 := Tryz.underlying278
  a52 := Tryz.isAgg278
  z52 := Tryz.sizeOf278
  v52 := Tryz.zeroValue278
  i52 := by kernel_rfl
  t55 := Tryz.underlying281
  a55 := Tryz.isAgg281
  z55 := Tryz.sizeOf281
  v55 := Tryz.zeroValue281
  i55 := by kernel_rfl
  t59 := Tryz.underlying298
  a59 := Tryz.isAgg298
  z59 := Tryz.sizeOf298
  v59 := Tryz.zeroValue298
  i59 := by kernel_rfl
  t60 := Tryz.underlying107
  a60 := Tryz.isAgg107
  z60 := Tryz.sizeOf107
  v60 := Tryz.zeroValue107
  i60 := by kernel_rfl
  t61 := Tryz.underlying299
  a61 := Tryz.isAgg299
  z61 := Tryz.sizeOf299
  t65 := Tryz.underlying311
  a65 := Tryz.isAgg311
  z65 := Tryz.sizeOf311
  v65 := Tryz.zeroValue311
  i65 := by kernel_rfl
  t66 := Tryz.underlying312
  a66 := Tryz.isAgg312
  z66 := Tryz.sizeOf312
  v66 := Tryz.zeroValue312
  i66 := by kernel_rfl
  t67 := Tryz.underlying149
  a67 := Tryz.isAgg149
  z67 := Tryz.sizeOf149
  v67 := Tryz.zeroValue149
  i67 := by kernel_rfl
  g0 := by kernel_rfl
  m0 := by kernel_rfl
  g1 := by kernel_rfl
  m1 := by kernel_rfl
  g2 := by kernel_rfl
  m2 := by kernel_rfl
  g3 := by kernel_rfl
  m3 := by kernel_rfl
  g4 := by kernel_rfl
  m4 := by kernel_rfl }
open Go.RowKit in
/-- strconv.ParseUint(s, 10, 64), AT EVERY STRING THAT SPELLS A uint64 ('Lib.parseUintB 64 s.data.toList = .ok u'): u, AND NO ERROR. (LAID: no walk: one application.) -/
theorem Tryz.strconv_ParseUint_10_at64_ok (s : ByteArray) (hmax : s.size ≤ 9223372036854775806) (u : Nat) (h : Lib.parseUintB 64 s.data.toList = .ok u) (w : World) :
    Calls Tryz.prog 146 #[.string s, .int .i64 10, .int .i64 64] w fun e w' => e = .returned (.tuple #[.int .u64 u, .nilIface]) ∧ (w' = w ∨ w' = Lib.bytesWorld w 5 s) := Any.strconv_ParseUint_10_at64_ok Tryz.laysPu14 s hmax u h w
open Go.RowKit in
/-- strconv.ParseUint(s, 10, 64), AT EVERY STRING THAT IS NO ROW OF DECIMAL DIGITS (a sign is a fault): 0, AND AN ERROR THAT IS NOT nil: a *NumError in a new block N: {Func: "ParseUint", Num: s's bytes, Err: what the variable ErrSyntax holds}. Of what was there nothing has turned. (LAID: no walk: one application.) -/
theorem Tryz.strconv_ParseUint_10_at64_syntax (s : ByteArray) (hlim : s.size ≤ 281474976710656) (h : Lib.parseUintB 64 s.data.toList = Lib.parseUintB 64 []) (ev : Value) (w : World) (hv : w.cell? ⟨2, 0, none⟩ = some ev) (hev : ev = .nilIface ∨ ∃ te pe, ev = .iface te pe) :
    Calls Tryz.prog 146 #[.string s, .int .i64 10, .int .i64 64] w fun e w' => ∃ N, e = .returned (.tuple #[.int .u64 0, .iface 267 (.pointer (some ⟨N, 0, none⟩))]) ∧ w.heap.size ≤ N ∧ w'.heap[N]? = some (.cells #[.string ⟨#[80, 97, 114, 115, 101, 85, 105, 110, 116]⟩, .string s, ev] 290 (0, 0)) ∧ Below w.heap.size w w' := Any.strconv_ParseUint_10_at64_syntax Tryz.laysPu14 s hlim h ev w hv hev
open Go.RowKit in
/-- strconv.ParseUint(s, 10, 64), AT EVERY NUMERAL THAT NO uint64 HOLDS: THE GREATEST uint64, AND AN ERROR THAT IS NOT nil: a *NumError in a new block N: {Func: "ParseUint", Num: s's bytes, Err: what the variable ErrRange holds}. Of what was there nothing has turned. (LAID: no walk: one application.) -/
theorem Tryz.strconv_ParseUint_10_at64_range (s : ByteArray) (hlim : s.size ≤ 281474976710656) (h : Lib.parseUintB 64 s.data.toList = .range) (ev : Value) (w : World) (hv : w.cell? ⟨3, 0, none⟩ = some ev) (hev : ev = .nilIface ∨ ∃ te pe, ev = .iface te pe) :
    Calls Tryz.prog 146 #[.string s, .int .i64 10, .int .i64 64] w fun e w' => ∃ N, e = .returned (.tuple #[.int .u64 18446744073709551615, .iface 267 (.pointer (some ⟨N, 0, none⟩))]) ∧ w.heap.size ≤ N ∧ w'.heap[N]? = some (.cells #[.string ⟨#[80, 97, 114, 115, 101, 85, 105, 110, 116]⟩, .string s, ev] 290 (0, 0)) ∧ Below w.heap.size w w' := Any.strconv_ParseUint_10_at64_range Tryz.laysPu14 s hlim h ev w hv hev
def Tryz.lays219_ren : Go.Shelf.Ren := ⟨fun | 219 => 273 | 217 => 291 | 225 => 290 | 224 => 289 | 267 => 298 | 266 => 306 | 314 => 308 | n => n, fun | 9 => 9 | 3 => 3 | 4 => 4 | 5 => 5 | 46 => 208 | 146 => 274 | 51 => 107 | n => n, fun | 1 => 1 | n => n⟩
theorem Tryz.lays219 : Go.Proofs.Lays.n219 Tryz.prog Tryz.lays219_ren := {
  mixed := by kernel_rfl
  f217 := Tryz.func291.trans (congrArg some (by kernel_rfl))
  f219 := Tryz.func273.trans (congrArg some (by kernel_rfl))
  f224 := Tryz.func289.trans (congrArg some (by kernel_rfl))
  f225 := Tryz.func290.trans (congrArg some (by kernel_rfl))
  f266 := Tryz.func306.trans (congrArg some (by kernel_rfl))
  f267 := Tryz.func298.trans (congrArg some (by kernel_rfl))
  f314 := Tryz.func308.trans (congrArg some (by kernel_rfl))
  t3 := Tryz.underlying3
  a3 := Tryz.isAgg3
  z3 := Tryz.sizeOf3
  v3 := Tryz.zeroValue3
  t4 := Tryz.underlying4
  a4 := Tryz.isAgg4
  z4 := Tryz.sizeOf4
  v4 := Tryz.zeroValue4
  t5 := Tryz.underlying5
  a5 := Tryz.isAgg5
  z5 := Tryz.sizeOf5
  v5 := Tryz.zeroValue5
  t9 := Tryz.underlying9
  a9 := Tryz.isAgg9
  z9 := Tryz.sizeOf9
  v9 := Tryz.zeroValue9
  t46 := Tryz.underlying208
  a46 := Tryz.isAgg208
  z46 := Tryz.sizeOf208
  v46 := Tryz.zeroValue208
  t51 := Tryz.underlying107
  a51 := Tryz.isAgg107
  z51 := Tryz.sizeOf107
  v51 := Tryz.zeroValue107
  t146 := Tryz.underlying274
  a146 := Tryz.isAgg274
  z146 := Tryz.sizeOf274
  v146 := Tryz.zeroValue274
  g1 := by kernel_rfl }
open Go.RowKit Go.Lib in
/-- internal/stringslite.Index (what strings.Index calls) AT A substr OF ONE BYTE c: IT RETURNS 'Lib.indexByte s c'; the world is as it was. (LAID: no walk: one application.) -/
theorem Tryz.stringslite_Index_one (s : ByteArray) (c : UInt8) (w : World) :
    Calls Tryz.prog 273 #[.string s, .string ⟨#[c]⟩] w fun e w' => e = .returned (.int .i64 (Lib.indexByte s.data.toList c)) ∧ w' = w := Any.stringslite_Index_one Tryz.lays219 s c w
open Go.RowKit Go.Lib in
/-- internal/stringslite.Index (what strings.Index calls) AT A substr OF WHATEVER LENGTH: IT RETURNS 'Lib.index s substr'; the world is as it was. 'm': what internal/bytealg.MaxLen holds: whatever. (LAID: no walk: one application.) -/
theorem Tryz.stringslite_Index (s sub : ByteArray) (m : Int) (w : World) (hs : s.size < 4294967281) (hm : w.cell? ⟨1, 0, none⟩ = some (.int .i64 m)) :
    Calls Tryz.prog 273 #[.string s, .string sub] w fun e w' => e = .returned (.int .i64 (Lib.index s.data.toList sub.data.toList)) ∧ w' = w := Any.stringslite_Index Tryz.lays219 s sub m w hs hm
def Tryz.lays220_ren : Go.Shelf.Ren := ⟨fun | 220 => 236 | 219 => 273 | 217 => 291 | 225 => 290 | 224 => 289 | 267 => 298 | 266 => 306 | 314 => 308 | n => n, fun | 9 => 9 | 4 => 4 | 3 => 3 | 5 => 5 | 46 => 208 | 146 => 274 | 51 => 107 | n => n, fun | 1 => 1 | n => n⟩
theorem Tryz.lays220 : Go.Proofs.Lays.n220 Tryz.prog Tryz.lays220_ren := {
  mixed := by kernel_rfl
  f217 := Tryz.func291.trans (congrArg some (by kernel_rfl))
  f219 := Tryz.func273.trans (congrArg some (by kernel_rfl))
  f220 := Tryz.func236.trans (congrArg some (by kernel_rfl))
  f224 := Tryz.func289.trans (congrArg some (by kernel_rfl))
  f225 := Tryz.func290.trans (congrArg some (by kernel_rfl))
  f266 := Tryz.func306.trans (congrArg some (by kernel_rfl))
  f267 := Tryz.func298.trans (congrArg some (by kernel_rfl))
  f314 := Tryz.func308.trans (congrArg some (by kernel_rfl))
  t3 := Tryz.underlying3
  a3 := Tryz.isAgg3
  z3 := Tryz.sizeOf3
  v3 := Tryz.zeroValue3
  t4 := Tryz.underlying4
  a4 := Tryz.isAgg4
  z4 := Tryz.sizeOf4
  v4 := Tryz.zeroValue4
  t5 := Tryz.underlying5
  a5 := Tryz.isAgg5
  z5 := Tryz.sizeOf5
  v5 := Tryz.zeroValue5
  t9 := Tryz.underlying9
  a9 := Tryz.isAgg9
  z9 := Tryz.sizeOf9
  v9 := Tryz.zeroValue9
  t46 := Tryz.underlying208
  a46 := Tryz.isAgg208
  z46 := Tryz.sizeOf208
  v46 := Tryz.zeroValue208
  t51 := Tryz.underlying107
  a51 := Tryz.isAgg107
  z51 := Tryz.sizeOf107
  v51 := Tryz.zeroValue107
  t146 := Tryz.underlying274
  a146 := Tryz.isAgg274
  z146 := Tryz.sizeOf274
  v146 := Tryz.zeroValue274
  g1 := by kernel_rfl }
open Go.RowKit Go.Lib in
/-- internal/stringslite.Cut (what strings.Cut calls): IT RETURNS 'Lib.cut s sep'; the world is as it was but for the count of draws. (LAID: no walk: one application.) -/
theorem Tryz.stringslite_Cut (s sep : ByteArray) (m : Int) (w : World) (hs : s.size < 4294967281) (hm : w.cell? ⟨1, 0, none⟩ = some (.int .i64 m)) :
    Calls Tryz.prog 236 #[.string s, .string sep] w fun e w' => e = .returned (.tuple #[.string ⟨(Lib.cut s.data.toList sep.data.toList).1.toArray⟩, .string ⟨(Lib.cut s.data.toList sep.data.toList).2.1.toArray⟩, .bool (Lib.cut s.data.toList sep.data.toList).2.2]) ∧ ∃ n, w' = w.drewN n := Any.stringslite_Cut Tryz.lays220 s sep m w hs hm
def Tryz.lays145_ren : Go.Shelf.Ren := ⟨fun | 145 => 168 | 220 => 236 | 219 => 273 | 217 => 291 | 225 => 290 | 224 => 289 | 267 => 298 | 266 => 306 | 314 => 308 | n => n, fun | 9 => 9 | 4 => 4 | 59 => 201 | 3 => 3 | 5 => 5 | 46 => 208 | 146 => 274 | 51 => 107 | n => n, fun | 1 => 1 | n => n⟩
theorem Tryz.lays145 : Go.Proofs.Lays.n145 Tryz.prog Tryz.lays145_ren := {
  mixed := by kernel_rfl
  f145 := Tryz.func168.trans (congrArg some (by kernel_rfl))
  f217 := Tryz.func291.trans (congrArg some (by kernel_rfl))
  f219 := Tryz.func273.trans (congrArg some (by kernel_rfl))
  f220 := Tryz.func236.trans (congrArg some (by kernel_rfl))
  f224 := Tryz.func289.trans (congrArg some (by kernel_rfl))
  f225 := Tryz.func290.trans (congrArg some (by kernel_rfl))
  f266 := Tryz.func306.trans (congrArg some (by kernel_rfl))
  f267 := Tryz.func298.trans (congrArg some (by kernel_rfl))
  f314 := Tryz.func308.trans (congrArg some (by kernel_rfl))
  t3 := Tryz.underlying3
  a3 := Tryz.isAgg3
  z3 := Tryz.sizeOf3
  v3 := Tryz.zeroValue3
  t4 := Tryz.underlying4
  a4 := Tryz.isAgg4
  z4 := Tryz.sizeOf4
  v4 := Tryz.zeroValue4
  t5 := Tryz.underlying5
  a5 := Tryz.isAgg5
  z5 := Tryz.sizeOf5
  v5 := Tryz.zeroValue5
  t9 := Tryz.underlying9
  a9 := Tryz.isAgg9
  z9 := Tryz.sizeOf9
  v9 := Tryz.zeroValue9
  t46 := Tryz.underlying208
  a46 := Tryz.isAgg208
  z46 := Tryz.sizeOf208
  v46 := Tryz.zeroValue208
  t51 := Tryz.underlying107
  a51 := Tryz.isAgg107
  z51 := Tryz.sizeOf107
  v51 := Tryz.zeroValue107
  t59 := Tryz.underlying201
  a59 := Tryz.isAgg201
  z59 := Tryz.sizeOf201
  v59 := Tryz.zeroValue201
  t146 := Tryz.underlying274
  a146 := Tryz.isAgg274
  z146 := Tryz.sizeOf274
  v146 := Tryz.zeroValue274
  g1 := by kernel_rfl }
open Go.RowKit Go.Lib in
/-- strings.Cut: "Cut slices s around the first instance of sep, returning the text before and after sep. The found result reports whether sep appears in s. If sep does not appear in s, cut returns s, "", false.": IT RETURNS 'Lib.cut s sep'; the world is as it was but for the count of draws. (LAID: no walk: one application.) -/
theorem Tryz.strings_Cut (s sep : ByteArray) (m : Int) (w : World) (hs : s.size < 4294967281) (hm : w.cell? ⟨1, 0, none⟩ = some (.int .i64 m)) :
    Calls Tryz.prog 168 #[.string s, .string sep] w fun e w' => e = .returned (.tuple #[.string ⟨(Lib.cut s.data.toList sep.data.toList).1.toArray⟩, .string ⟨(Lib.cut s.data.toList sep.data.toList).2.1.toArray⟩, .bool (Lib.cut s.data.toList sep.data.toList).2.2]) ∧ ∃ n, w' = w.drewN n := Any.strings_Cut Tryz.lays145 s sep m w hs hm
def Tryz.lays197_ren : Go.Shelf.Ren := ⟨fun | 197 => 271 | 260 => 297 | n => n, fun | 9 => 9 | 21 => 21 | 3 => 3 | 4 => 4 | 5 => 5 | 105 => 272 | 119 => 305 | 0 => 0 | 46 => 208 | 139 => 308 | 138 => 307 | n => n, fun | 3 => 5 | 4 => 6 | n => n⟩
theorem Tryz.lays197 : Go.Proofs.Lays.n197 Tryz.prog Tryz.lays197_ren := {
  mixed := by kernel_rfl
  f197 := Tryz.func271.trans (congrArg some (by kernel_rfl))
  f260 := Tryz.func297.trans (congrArg some (by kernel_rfl))
  t0 := Tryz.underlying0
  a0 := Tryz.isAgg0
  z0 := Tryz.sizeOf0
  v0 := Tryz.zeroValue0
  t3 := Tryz.underlying3
  a3 := Tryz.isAgg3
  z3 := Tryz.sizeOf3
  v3 := Tryz.zeroValue3
  t4 := Tryz.underlying4
  a4 := Tryz.isAgg4
  z4 := Tryz.sizeOf4
  v4 := Tryz.zeroValue4
  t5 := Tryz.underlying5
  a5 := Tryz.isAgg5
  z5 := Tryz.sizeOf5
  v5 := Tryz.zeroValue5
  t9 := Tryz.underlying9
  a9 := Tryz.isAgg9
  z9 := Tryz.sizeOf9
  v9 := Tryz.zeroValue9
  t21 := Tryz.underlying21
  a21 := Tryz.isAgg21
  z21 := Tryz.sizeOf21
  v21 := Tryz.zeroValue21
  t46 := Tryz.underlying208
  a46 := Tryz.isAgg208
  z46 := Tryz.sizeOf208
  v46 := Tryz.zeroValue208
  t105 := Tryz.underlying272
  a105 := Tryz.isAgg272
  z105 := Tryz.sizeOf272
  v105 := Tryz.zeroValue272
  t119 := Tryz.underlying305
  a119 := Tryz.isAgg305
  z119 := Tryz.sizeOf305
  t138 := Tryz.underlying307
  a138 := Tryz.isAgg307
  z138 := Tryz.sizeOf307
  v138 := Tryz.zeroValue307
  t139 := Tryz.underlying308
  a139 := Tryz.isAgg308
  z139 := Tryz.sizeOf308
  v139 := Tryz.zeroValue308
  g3 := by kernel_rfl
  g4 := by kernel_rfl }
def Tryz.lays226_ren : Go.Shelf.Ren := ⟨fun | 226 => 256 | n => n, fun | 3 => 3 | 4 => 4 | n => n, fun | n => n⟩
theorem Tryz.lays226 : Go.Proofs.Lays.n226 Tryz.prog Tryz.lays226_ren := {
  mixed := by kernel_rfl
  f226 := Tryz.func256.trans (congrArg some (by kernel_rfl))
  t3 := Tryz.underlying3
  a3 := Tryz.isAgg3
  z3 := Tryz.sizeOf3
  v3 := Tryz.zeroValue3
  t4 := Tryz.underlying4
  a4 := Tryz.isAgg4
  z4 := Tryz.sizeOf4
  v4 := Tryz.zeroValue4 }
open Go.RowKit Go.Lib in
theorem Tryz.strings_shouldUseASCIISet (n : Int) (w : World) :
    Calls Tryz.prog 256 #[.int .i64 n] w fun e w' => e = .returned (.bool (decide (8 < n))) ∧ w' = w := Any.strings_shouldUseASCIISet Tryz.lays226 n w
def Tryz.lays153_ren : Go.Shelf.Ren := ⟨fun | 153 => 210 | 152 => 255 | 226 => 256 | 227 => 245 | 228 => 257 | 137 => 258 | 119 => 288 | 224 => 289 | 225 => 290 | 217 => 291 | 266 => 306 | n => n, fun | 9 => 9 | 3 => 3 | 4 => 4 | 5 => 5 | 21 => 21 | 117 => 254 | 116 => 253 | 0 => 0 | 46 => 208 | 124 => 257 | n => n, fun | n => n⟩
theorem Tryz.lays153 : Go.Proofs.Lays.n153 Tryz.prog Tryz.lays153_ren := {
  mixed := by kernel_rfl
  f119 := Tryz.func288.trans (congrArg some (by kernel_rfl))
  f137 := Tryz.func258.trans (congrArg some (by kernel_rfl))
  f152 := Tryz.func255.trans (congrArg some (by kernel_rfl))
  f153 := Tryz.func210.trans (congrArg some (by kernel_rfl))
  f217 := Tryz.func291.trans (congrArg some (by kernel_rfl))
  f224 := Tryz.func289.trans (congrArg some (by kernel_rfl))
  f225 := Tryz.func290.trans (congrArg some (by kernel_rfl))
  f226 := Tryz.func256.trans (congrArg some (by kernel_rfl))
  f227 := Tryz.func245.trans (congrArg some (by kernel_rfl))
  f228 := Tryz.func257.trans (congrArg some (by kernel_rfl))
  f266 := Tryz.func306.trans (congrArg some (by kernel_rfl))
  t0 := Tryz.underlying0
  a0 := Tryz.isAgg0
  z0 := Tryz.sizeOf0
  v0 := Tryz.zeroValue0
  t3 := Tryz.underlying3
  a3 := Tryz.isAgg3
  z3 := Tryz.sizeOf3
  v3 := Tryz.zeroValue3
  t4 := Tryz.underlying4
  a4 := Tryz.isAgg4
  z4 := Tryz.sizeOf4
  v4 := Tryz.zeroValue4
  t5 := Tryz.underlying5
  a5 := Tryz.isAgg5
  z5 := Tryz.sizeOf5
  v5 := Tryz.zeroValue5
  t9 := Tryz.underlying9
  a9 := Tryz.isAgg9
  z9 := Tryz.sizeOf9
  v9 := Tryz.zeroValue9
  t21 := Tryz.underlying21
  a21 := Tryz.isAgg21
  z21 := Tryz.sizeOf21
  v21 := Tryz.zeroValue21
  t46 := Tryz.underlying208
  a46 := Tryz.isAgg208
  z46 := Tryz.sizeOf208
  v46 := Tryz.zeroValue208
  t116 := Tryz.underlying253
  a116 := Tryz.isAgg253
  z116 := Tryz.sizeOf253
  t117 := Tryz.underlying254
  a117 := Tryz.isAgg254
  z117 := Tryz.sizeOf254
  v117 := Tryz.zeroValue254
  t124 := Tryz.underlying257
  a124 := Tryz.isAgg257
  z124 := Tryz.sizeOf257
  v124 := Tryz.zeroValue257 }
open Go.RowKit Go.Lib in
theorem Tryz.strings_IndexAny_long (hv116 : ∀ w, (zeroValue 253).run Tryz.prog w = .ok (.agg (Array.replicate 256 (.bool false))) w) (s chars : ByteArray) (w : World) (h2 : 2 ≤ chars.size) (h8 : 8 < s.size) (hs : s.size < 4294967281) (hcs : chars.size < 4294967281) (hascii : ∀ (j : Nat) b, chars.data.toList[j]? = some b → b.toNat < 128) :
    Calls Tryz.prog 210 #[.string s, .string chars] w fun e w' => e = .returned (.int .i64 (Lib.indexAny s.data.toList chars.data.toList)) ∧ w' = ((w.alloc (.cells (Lib.setCells chars.data.toList) 253)).alloc (.cells (Lib.setCells chars.data.toList) 253)) := Any.strings_IndexAny_long Tryz.lays153 hv116 (by kernel_rfl) s chars w h2 h8 hs hcs hascii
open Go.RowKit Go.Lib in
/-- strings.IndexAny ON ASCII BYTES: the four roads under one statement. (LAID: no walk: one application.) -/
theorem Tryz.strings_IndexAny (hv116 : ∀ w, (zeroValue 253).run Tryz.prog w = .ok (.agg (Array.replicate 256 (.bool false))) w) (s chars : ByteArray) (w : World) (hs : s.size < 4294967281) (hcs : chars.size < 4294967281) (has : ∀ (j : Nat) b, s.data.toList[j]? = some b → b.toNat < 128) (hac : ∀ (j : Nat) b, chars.data.toList[j]? = some b → b.toNat < 128) :
    Calls Tryz.prog 210 #[.string s, .string chars] w fun e w' => e = .returned (.int .i64 (Lib.indexAny s.data.toList chars.data.toList)) ∧ Below w.heap.size w w' := Any.strings_IndexAny Tryz.lays153 hv116 (by kernel_rfl) s chars w hs hcs has hac
def Tryz.lays150_ren : Go.Shelf.Ren := ⟨fun | 150 => 140 | 153 => 210 | 152 => 255 | 226 => 256 | 227 => 245 | 228 => 257 | 137 => 258 | 119 => 288 | 224 => 289 | 225 => 290 | 217 => 291 | 266 => 306 | n => n, fun | 9 => 9 | 4 => 4 | 3 => 3 | 5 => 5 | 21 => 21 | 117 => 254 | 116 => 253 | 0 => 0 | 46 => 208 | 124 => 257 | n => n, fun | n => n⟩
theorem Tryz.lays150 : Go.Proofs.Lays.n150 Tryz.prog Tryz.lays150_ren := {
  mixed := by kernel_rfl
  f119 := Tryz.func288.trans (congrArg some (by kernel_rfl))
  f137 := Tryz.func258.trans (congrArg some (by kernel_rfl))
  f150 := Tryz.func140.trans (congrArg some (by kernel_rfl))
  f152 := Tryz.func255.trans (congrArg some (by kernel_rfl))
  f153 := Tryz.func210.trans (congrArg some (by kernel_rfl))
  f217 := Tryz.func291.trans (congrArg some (by kernel_rfl))
  f224 := Tryz.func289.trans (congrArg some (by kernel_rfl))
  f225 := Tryz.func290.trans (congrArg some (by kernel_rfl))
  f226 := Tryz.func256.trans (congrArg some (by kernel_rfl))
  f227 := Tryz.func245.trans (congrArg some (by kernel_rfl))
  f228 := Tryz.func257.trans (congrArg some (by kernel_rfl))
  f266 := Tryz.func306.trans (congrArg some (by kernel_rfl))
  t0 := Tryz.underlying0
  a0 := Tryz.isAgg0
  z0 := Tryz.sizeOf0
  v0 := Tryz.zeroValue0
  t3 := Tryz.underlying3
  a3 := Tryz.isAgg3
  z3 := Tryz.sizeOf3
  v3 := Tryz.zeroValue3
  t4 := Tryz.underlying4
  a4 := Tryz.isAgg4
  z4 := Tryz.sizeOf4
  v4 := Tryz.zeroValue4
  t5 := Tryz.underlying5
  a5 := Tryz.isAgg5
  z5 := Tryz.sizeOf5
  v5 := Tryz.zeroValue5
  t9 := Tryz.underlying9
  a9 := Tryz.isAgg9
  z9 := Tryz.sizeOf9
  v9 := Tryz.zeroValue9
  t21 := Tryz.underlying21
  a21 := Tryz.isAgg21
  z21 := Tryz.sizeOf21
  v21 := Tryz.zeroValue21
  t46 := Tryz.underlying208
  a46 := Tryz.isAgg208
  z46 := Tryz.sizeOf208
  v46 := Tryz.zeroValue208
  t116 := Tryz.underlying253
  a116 := Tryz.isAgg253
  z116 := Tryz.sizeOf253
  t117 := Tryz.underlying254
  a117 := Tryz.isAgg254
  z117 := Tryz.sizeOf254
  v117 := Tryz.zeroValue254
  t124 := Tryz.underlying257
  a124 := Tryz.isAgg257
  z124 := Tryz.sizeOf257
  v124 := Tryz.zeroValue257 }
open Go.RowKit Go.Lib in
/-- strings.ContainsAny ON ASCII BYTES. (LAID: no walk: one application.) -/
theorem Tryz.strings_ContainsAny (hv116 : ∀ w, (zeroValue 253).run Tryz.prog w = .ok (.agg (Array.replicate 256 (.bool false))) w) (s chars : ByteArray) (w : World) (hs : s.size < 4294967281) (hcs : chars.size < 4294967281) (has : ∀ (j : Nat) b, s.data.toList[j]? = some b → b.toNat < 128) (hac : ∀ (j : Nat) b, chars.data.toList[j]? = some b → b.toNat < 128) :
    Calls Tryz.prog 140 #[.string s, .string chars] w fun e w' => e = .returned (.bool (Lib.containsAny s.data.toList chars.data.toList)) ∧ Below w.heap.size w w' := Any.strings_ContainsAny Tryz.lays150 hv116 (by kernel_rfl) s chars w hs hcs has hac
def Tryz.lays105_ren : Go.Shelf.Ren := ⟨fun | 105 => 172 | 212 => 238 | 99 => 145 | 165 => 184 | 166 => 185 | 170 => 239 | 169 => 186 | 263 => 274 | 264 => 275 | 206 => 216 | 240 => 248 | 241 => 249 | 276 => 282 | 277 => 283 | n => n, fun | 9 => 9 | 3 => 3 | 4 => 4 | 20 => 20 | 0 => 0 | 46 => 208 | 109 => 249 | 5 => 5 | 72 => 215 | 76 => 217 | 51 => 107 | 146 => 274 | 53 => 183 | 148 => 276 | 70 => 213 | 37 => 40 | 75 => 185 | 127 => 258 | 164 => 284 | 80 => 149 | n => n, fun | n => n⟩
theorem Tryz.lays105 : Go.Proofs.Lays.n105 Tryz.prog Tryz.lays105_ren := {
  mixed := by kernel_rfl
  f99 := Tryz.func145.trans (congrArg some (by kernel_rfl))
  f105 := Tryz.func172.trans (congrArg some (by kernel_rfl))
  f165 := Tryz.func184.trans (congrArg some (by kernel_rfl))
  f166 := Tryz.func185.trans (congrArg some (by kernel_rfl))
  f169 := Tryz.func186.trans (congrArg some (by kernel_rfl))
  f170 := Tryz.func239.trans (congrArg some (by kernel_rfl))
  f206 := Tryz.func216.trans (congrArg some (by kernel_rfl))
  f212 := Tryz.func238.trans (congrArg some (by kernel_rfl))
  f240 := Tryz.func248.trans (congrArg some (by kernel_rfl))
  f241 := Tryz.func249.trans (congrArg some (by kernel_rfl))
  f263 := Tryz.func274.trans (congrArg some (by kernel_rfl))
  f264 := Tryz.func275.trans (congrArg some (by kernel_rfl))
  f276 := Tryz.func282.trans (congrArg some (by kernel_rfl))
  f277 := Tryz.func283.trans (congrArg some (by kernel_rfl))
  t0 := Tryz.underlying0
  a0 := Tryz.isAgg0
  z0 := Tryz.sizeOf0
  v0 := Tryz.zeroValue0
  t3 := Tryz.underlying3
  a3 := Tryz.isAgg3
  z3 := Tryz.sizeOf3
  v3 := Tryz.zeroValue3
  t4 := Tryz.underlying4
  a4 := Tryz.isAgg4
  z4 := Tryz.sizeOf4
  v4 := Tryz.zeroValue4
  t5 := Tryz.underlying5
  a5 := Tryz.isAgg5
  z5 := Tryz.sizeOf5
  v5 := Tryz.zeroValue5
  t9 := Tryz.underlying9
  a9 := Tryz.isAgg9
  z9 := Tryz.sizeOf9
  v9 := Tryz.zeroValue9
  t20 := Tryz.underlying20
  a20 := Tryz.isAgg20
  z20 := Tryz.sizeOf20
  v20 := Tryz.zeroValue20
  t37 := Tryz.underlying40
  a37 := Tryz.isAgg40
  z37 := Tryz.sizeOf40
  v37 := Tryz.zeroValue40
  t46 := Tryz.underlying208
  a46 := Tryz.isAgg208
  z46 := Tryz.sizeOf208
  v46 := Tryz.zeroValue208
  t51 := Tryz.underlying107
  a51 := Tryz.isAgg107
  z51 := Tryz.sizeOf107
  v51 := Tryz.zeroValue107
  t53 := Tryz.underlying183
  a53 := Tryz.isAgg183
  z53 := Tryz.sizeOf183
  v53 := Tryz.zeroValue183
  t70 := Tryz.underlying213
  a70 := Tryz.isAgg213
  z70 := Tryz.sizeOf213
  v70 := Tryz.zeroValue213
  t72 := Tryz.underlying215
  a72 := Tryz.isAgg215
  z72 := Tryz.sizeOf215
  v72 := Tryz.zeroValue215
  t75 := Tryz.underlying185
  a75 := Tryz.isAgg185
  z75 := Tryz.sizeOf185
  v75 := Tryz.zeroValue185
  t76 := Tryz.underlying217
  a76 := Tryz.isAgg217
  z76 := Tryz.sizeOf217
  v76 := Tryz.zeroValue217
  t109 := Tryz.underlying249
  a109 := Tryz.isAgg249
  z109 := Tryz.sizeOf249
  v109 := Tryz.zeroValue249
  t127 := Tryz.underlying258
  a127 := Tryz.isAgg258
  z127 := Tryz.sizeOf258
  v127 := Tryz.zeroValue258
  t146 := Tryz.underlying274
  a146 := Tryz.isAgg274
  z146 := Tryz.sizeOf274
  v146 := Tryz.zeroValue274
  t148 := Tryz.underlying276
  a148 := Tryz.isAgg276
  z148 := Tryz.sizeOf276
  v148 := Tryz.zeroValue276
  t164 := Tryz.underlying284
  a164 := Tryz.isAgg284
  z164 := Tryz.sizeOf284
  v164 := Tryz.zeroValue284 }
theorem Tryz.Builder_Extra_105 : Builder.Extra Tryz.prog Tryz.lays105_ren := {
  sizeBuilder := by kernel_rfl
  liesBuilder := by kernel_rfl
  t5 := Tryz.underlying5
  a5 := Tryz.isAgg5
  z5 := Tryz.sizeOf5
  v5 := Tryz.zeroValue5
  infoByte := by kernel_rfl
  cellsByte := by kernel_rfl
  sizeByte := by kernel_rfl
  neB5 := by decide }
open Go.RowKit Go.Lib in
/-- **strings.Repeat: count ≥ 0, the result within one allocation: count copies of s.** (LAID: no walk: one application.) -/
theorem Tryz.strings_Repeat (s : ByteArray) (c : Nat) (w : World) (hc : c ≤ 9223372036854775807) (hlen : s.size * c ≤ 140737488355328) :
    Calls Tryz.prog 172 #[.string s, .int .i64 c] w fun e w' => e = .returned (.string ⟨(Lib.repeatL s.data.toList c).toArray⟩) ∧ Below w.heap.size w w' := Any.strings_Repeat Tryz.lays105 Tryz.Builder_Extra_105 s c w hc hlen
def Tryz.lays260_ren : Go.Shelf.Ren := ⟨fun | 260 => 297 | n => n, fun | 9 => 9 | 21 => 21 | 3 => 3 | 4 => 4 | 5 => 5 | 119 => 305 | 0 => 0 | 46 => 208 | 139 => 308 | 138 => 307 | n => n, fun | 3 => 5 | 4 => 6 | n => n⟩
theorem Tryz.lays260 : Go.Proofs.Lays.n260 Tryz.prog Tryz.lays260_ren := {
  mixed := by kernel_rfl
  f260 := Tryz.func297.trans (congrArg some (by kernel_rfl))
  t0 := Tryz.underlying0
  a0 := Tryz.isAgg0
  z0 := Tryz.sizeOf0
  v0 := Tryz.zeroValue0
  t3 := Tryz.underlying3
  a3 := Tryz.isAgg3
  z3 := Tryz.sizeOf3
  v3 := Tryz.zeroValue3
  t4 := Tryz.underlying4
  a4 := Tryz.isAgg4
  z4 := Tryz.sizeOf4
  v4 := Tryz.zeroValue4
  t5 := Tryz.underlying5
  a5 := Tryz.isAgg5
  z5 := Tryz.sizeOf5
  v5 := Tryz.zeroValue5
  t9 := Tryz.underlying9
  a9 := Tryz.isAgg9
  z9 := Tryz.sizeOf9
  v9 := Tryz.zeroValue9
  t21 := Tryz.underlying21
  a21 := Tryz.isAgg21
  z21 := Tryz.sizeOf21
  v21 := Tryz.zeroValue21
  t46 := Tryz.underlying208
  a46 := Tryz.isAgg208
  z46 := Tryz.sizeOf208
  v46 := Tryz.zeroValue208
  t119 := Tryz.underlying305
  a119 := Tryz.isAgg305
  z119 := Tryz.sizeOf305
  t138 := Tryz.underlying307
  a138 := Tryz.isAgg307
  z138 := Tryz.sizeOf307
  v138 := Tryz.zeroValue307
  t139 := Tryz.underlying308
  a139 := Tryz.isAgg308
  z139 := Tryz.sizeOf308
  v139 := Tryz.zeroValue308
  g3 := by kernel_rfl
  g4 := by kernel_rfl }
open Go.RowKit Go.Lib in
/-- **unicode/utf8.DecodeRuneInString AT EVERY STRING.** (LAID: no walk: one application.) -/
theorem Tryz.utf8_DecodeRuneInString (s : ByteArray) (w : World) (hT : Lib.Utf8Tabs 5 6 w) :
    Calls Tryz.prog 271 #[.string s] w fun e w' => e = .returned (.tuple #[.int .i32 (Lib.decodeGo s).1, .int .i64 (Lib.decodeGo s).2]) ∧ Below w.heap.size w w' := Any.utf8_DecodeRuneInString Tryz.lays197 s w hT
end Go.Proofs


/- What the rows of a seat with laid tables and sentinels share: the tables, the witness. -/
set_option linter.unusedVariables false
set_option linter.unusedSimpArgs false
namespace Go.Proofs.YtogfcfgfkggmlaaGreatDoor.row
open Go Go.ChangeShapes Go.WideShapes Go.ChangeAt Go.RowKit Go.Proofs Go.Shelf Go.Proofs.YtogfcfgfkggmlaaGreatDoor.Eng Go.Proofs.YtogfcfgfkggmlaaGreatDoor.Eng.Rdv

theorem own : ownKnob Tryz.prog.godebug = none := by kernel_rfl
theorem laidOut : laidOutB Tryz.prog = true := by kernel_rfl
section
variable {H : Type} {enc : TypeId × Value → H} {P : Program} {w : World} {base : Nat} {sp : Nat → Bool} {held : Bool}
theorem arr_len {fuel : Nat} {t e : TypeId} {n : Nat} {cs : List Value} {d : DataW H} {p : List MemPlace} (ht : P.underlying t = some (.array n e)) (h : DataW.trod enc P w base sp held fuel t cs = some (d, p)) : cs.length = P.cellsOf t := by
  cases fuel with
  | zero => simp [DataW.trod] at h
  | succ fuel =>
    simp only [DataW.trod, ht] at h
    split at h
    · assumption
    · cases h
theorem iface_only {fuel : Nat} {t : TypeId} {ms : Array (String × TypeId)} {cs : List Value} {nm : String} {d : DataW H} {p : List MemPlace} (ht : P.underlying t = some (.interface ms)) (h : DataW.trod enc P w base sp held fuel t cs = some (.iface nm d, p)) : ∃ u v, cs = [.iface u v] := by
  cases fuel with
  | zero => simp [DataW.trod] at h
  | succ fuel =>
    simp only [DataW.trod, ht] at h
    split at h <;> first | exact ⟨_, _, rfl⟩ | (cases h; done) | simp_all
end
theorem add0 (g j : Nat) : (⟨g, 0, none⟩ : Addr).add j = ⟨g, j, none⟩ := by rw [add_lit', Nat.zero_add]
/-- A variable of so many leaves, cell by cell. -/
theorem glob_one {W : World} {g : Nat} {arr : Array Value} {name : String} (hn : Tryz.prog.globalNamed name = some g) (hv : W.var? Tryz.prog name = some arr) (cs : List AV) (f : Nat → Value) (hl : arr.size = cs.length) (hleaf : ∀ (j : Nat) (c : AV), cs[j]? = some c → c.leaf = true ∧ arr[j]? = some (f j) ∧ V (stab W) c (f j)) :
    V (stab W) (.eptr cs 0) (.pointer (some ⟨g, 0, none⟩)) ∧ ∃ arr t f, W.heap[g]? = some (.cells arr t f) ∧ arr.size = cs.length := by
  refine ⟨?_, ?_⟩
  · have := V.eptr (S := stab W) cs 0 ⟨g, 0, none⟩ f (fun j c h => (hleaf j c h).1) (fun j c h => by
      rw [add0]
      show W.cell? ⟨g, j, none⟩ = _
      rw [World.var?_cell hn hv j]
      exact (hleaf j c h).2.1) (fun j c h => (hleaf j c h).2.2)
    rwa [add0] at this
  · unfold World.var? at hv
    rw [hn, Option.bind_some] at hv
    split at hv
    · rename_i cs' t f' he
      obtain rfl := Option.some.inj hv
      exact ⟨_, _, _, he, hl⟩
    · cases hv
theorem ints_one {W : World} {g : Nat} {name : String} {k : IntKind} {zs : List Int} (hn : Tryz.prog.globalNamed name = some g) (hv : W.var? Tryz.prog name = some (zs.map fun z => Value.int k z).toArray) :
    V (stab W) (.eptr (zs.map fun z => .int k z) 0) (.pointer (some ⟨g, 0, none⟩)) ∧ ∃ arr t f, W.heap[g]? = some (.cells arr t f) ∧ arr.size = (zs.map fun z => AV.int k z).length := by
  refine glob_one hn hv _ (fun j => .int k (zs.getD j 0)) (by simp) fun j c hc => ?_
  rw [List.getElem?_map] at hc
  obtain ⟨z, hz, rfl⟩ := Option.map_eq_some_iff.1 hc
  refine ⟨rfl, ?_, ?_⟩
  · simp [List.getD_eq_getElem?_getD, hz]
  · rw [List.getD_eq_getElem?_getD, hz]; exact V.int _ _
theorem iface_one {W : World} {g : Nat} {name : String} {nm : String} {d : DataW Unit} {t : TypeId} {ms : Array (String × TypeId)} (hn : Tryz.prog.globalNamed name = some g) (hy : (Tryz.prog.globals[g]?).map (·.type) = some t) (hi : Tryz.prog.underlying t = some (.interface ms)) (h : Lib.VarReads Tryz.prog W name (.iface nm d)) :
    V (stab W) (.eptr [.ifc] 0) (.pointer (some ⟨g, 0, none⟩)) ∧ ∃ arr t f, W.heap[g]? = some (.cells arr t f) ∧ arr.size = [AV.ifc].length := by
  obtain ⟨g', t', cs, fuel, p, hg, hty, hvar, hd⟩ := h
  obtain rfl := Option.some.inj (hn.symm.trans hg)
  obtain rfl := Option.some.inj (hy.symm.trans hty)
  obtain ⟨u, v, e⟩ := iface_only hi hd
  obtain ⟨cs⟩ := cs
  obtain rfl : cs = [.iface u v] := e
  refine glob_one hn hvar _ (fun _ => .iface u v) rfl fun j c hc => ?_
  match j with
  | 0 => cases hc; exact ⟨rfl, rfl, V.ifc _ _⟩
  | j + 1 => simp at hc
theorem tab_var {W : World} {g : Nat} {name : String} {k : IntKind} {zs : List Int} {t e : TypeId} {n : Nat} (hn : Tryz.prog.globalNamed name = some g) (hy : (Tryz.prog.globals[g]?).map (·.type) = some t) (ht : Tryz.prog.underlying t = some (.array n e)) (he : Tryz.prog.underlying e = some (.int k)) (hce : Tryz.prog.cellsOf e = 1) (hct : Tryz.prog.cellsOf t = n) (h : Lib.VarReads Tryz.prog W name (Lib.tabData k zs)) : W.var? Tryz.prog name = some (zs.map fun z => Value.int k z).toArray := by
  obtain ⟨g', t', cs, fuel, p, hg, hty, hvar, hd⟩ := h
  obtain rfl := Option.some.inj (hn.symm.trans hg)
  obtain rfl := Option.some.inj (hy.symm.trans hty)
  rw [hvar, ← Lib.cells_of_tab ht he hce hct hd]
/-- What the row's laid variables give. -/
theorem tables {W : World} {l : List (String × DataW Unit)} (hl : l = [("math/bits.deBruijn32tab", Rows.laid_math_bits_deBruijn32tab), ("math/bits.deBruijn64tab", Rows.laid_math_bits_deBruijn64tab), ("internal/strconv.uint64pow10", Rows.laid_internal_strconv_uint64pow10), ("unicode/utf8.acceptRanges", Rows.laid_unicode_utf8_acceptRanges), ("strconv.ErrRange", Rows.laid_strconv_ErrRange), ("strconv.ErrSyntax", Rows.laid_strconv_ErrSyntax), ("unicode/utf8.first", Rows.laid_unicode_utf8_first)]) (h : laidMetH Tryz.prog l W) : GlobOk U.glob (stab W) W := by
  subst hl
  have h' : laidMet Tryz.prog [("math/bits.deBruijn32tab", Rows.laid_math_bits_deBruijn32tab), ("math/bits.deBruijn64tab", Rows.laid_math_bits_deBruijn64tab), ("internal/strconv.uint64pow10", Lib.tabData .u64 Lib.pow10Tab), ("unicode/utf8.acceptRanges", Lib.acceptData), ("strconv.ErrRange", Rows.laid_strconv_ErrRange), ("strconv.ErrSyntax", Rows.laid_strconv_ErrSyntax), ("unicode/utf8.first", Lib.firstData)] W := by
    have e1 : (Rows.laid_unicode_utf8_acceptRanges : DataW Unit) = Lib.acceptData := by kernel_rfl
    have e2 : Rows.laid_unicode_utf8_first = Lib.firstData := by kernel_rfl
    have e3 : (Rows.laid_internal_strconv_uint64pow10 : DataW Unit) = Lib.tabData .u64 Lib.pow10Tab := by kernel_rfl
    rw [← e1, ← e2, ← e3]
    exact h
  have r1 : Lib.VarReads Tryz.prog W "internal/strconv.uint64pow10" (Lib.tabData .u64 Lib.pow10Tab) := Lib.laidMet.reads h' (.tail _ (.tail _ (.head _)))
  have r3 : Lib.VarReads Tryz.prog W "strconv.ErrSyntax" Rows.laid_strconv_ErrSyntax := Lib.laidMet.reads h' (.tail _ (.tail _ (.tail _ (.tail _ (.tail _ (.head _))))))
  have r4 : Lib.VarReads Tryz.prog W "strconv.ErrRange" Rows.laid_strconv_ErrRange := Lib.laidMet.reads h' (.tail _ (.tail _ (.tail _ (.tail _ (.head _)))))
  have r7 : Lib.VarReads Tryz.prog W "unicode/utf8.first" Lib.firstData := Lib.laidMet.reads h' (.tail _ (.tail _ (.tail _ (.tail _ (.tail _ (.tail _ (.head _)))))))
  have r8 : Lib.VarReads Tryz.prog W "unicode/utf8.acceptRanges" Lib.acceptData := Lib.laidMet.reads h' (.tail _ (.tail _ (.tail _ (.head _))))
  have hU : Lib.Utf8Tabs 5 6 W := Go.Proofs.utf8Tabs_of_reads (P := Tryz.prog) (ρ := Tryz.lays260_ren) { Tryz.lays260 with } ⟨by kernel_rfl, by kernel_rfl, by kernel_rfl, by kernel_rfl, by kernel_rfl, by kernel_rfl, by kernel_rfl⟩ r7 r8
  intro g cs hg
  unfold U.glob at hg
  split at hg
  · rename_i h0
    subst h0
    obtain rfl := Option.some.inj hg
    have := ints_one (g := 5) (name := "unicode/utf8.first") (by kernel_rfl) (tab_var (g := 5) (t := 305) (e := 5) (n := 256) (by kernel_rfl) (by kernel_rfl) Tryz.underlying305 Tryz.underlying5 (by kernel_rfl) (by kernel_rfl) r7)
    rw [Lib.firstTab, List.map_map] at this
    exact this
  · split at hg
    · rename_i h0 h1
      subst h1
      obtain rfl := Option.some.inj hg
      obtain ⟨g', t', cs, fuel, p, hgn, hty, hvar, hd⟩ := r8
      obtain rfl := Option.some.inj ((show Tryz.prog.globalNamed "unicode/utf8.acceptRanges" = some 6 by kernel_rfl).symm.trans hgn)
      obtain rfl := Option.some.inj ((show (Tryz.prog.globals[6]?).map (·.type) = some 308 by kernel_rfl).symm.trans hty)
      have hlen := arr_len Tryz.underlying308 hd
      have hsz : Tryz.prog.cellsOf 308 = 32 := by kernel_rfl
      rw [hsz, Array.length_toList] at hlen
      refine glob_one hgn hvar _ (fun i => .int .u8 (((if i % 2 = 0 then Lib.accLo (i / 2) else Lib.accHi (i / 2) : Nat) : Int))) (by simp [hlen]) fun j c hc => ?_
      rw [List.getElem?_map] at hc
      obtain ⟨x, hx, rfl⟩ := Option.map_eq_some_iff.1 hc
      obtain ⟨hj, rfl⟩ := List.getElem?_eq_some_iff.1 hx
      rw [List.length_range] at hj
      rw [List.getElem_range]
      refine ⟨rfl, ?_, V.int _ _⟩
      rw [← World.var?_cell hgn hvar j]
      obtain ⟨h2, h3⟩ := hU.2 (j / 2) (by omega)
      by_cases hm : j % 2 = 0
      · rw [if_pos hm]
        rwa [show 2 * (j / 2) = j from by omega] at h2
      · rw [if_neg hm]
        rwa [show 2 * (j / 2) + 1 = j from by omega] at h3
    · split at hg
      · rename_i h0 h1 h2
        subst h2
        obtain rfl := Option.some.inj hg
        exact ints_one (g := 4) (name := "internal/strconv.uint64pow10") (by kernel_rfl) (tab_var (g := 4) (t := 298) (e := 183) (n := 20) (by kernel_rfl) (by kernel_rfl) Tryz.underlying298 Tryz.underlying183 (by kernel_rfl) (by kernel_rfl) r1)
      · split at hg
        · rename_i h0 h1 h2 h3
          subst h3
          obtain rfl := Option.some.inj hg
          exact iface_one (name := "strconv.ErrSyntax") (by kernel_rfl) (t := 185) (by kernel_rfl) Tryz.underlying185 r3
        · split at hg
          · rename_i h0 h1 h2 h3 h4
            subst h4
            obtain rfl := Option.some.inj hg
            exact iface_one (name := "strconv.ErrRange") (by kernel_rfl) (t := 185) (by kernel_rfl) Tryz.underlying185 r4
          · cases hg
/-- The cells that a datum of numbers is. -/
def litV : DataW Unit → Value
  | .lit (.int k n) => .int k n
  | _ => .nilIface
def rowV : DataW Unit → Array Value
  | .agg l => (l.map litV).toArray
  | _ => #[]
/-- So many blocks has the settled world. -/
noncomputable def low : Nat := (World.holding Tryz.prog default ⟨#[], #[], []⟩).heap.size
/-- The witness: the settled memory with the two errors' texts behind it, the variables holding what their initialisers lay. -/
noncomputable def laidWorld (os : Os) : World :=
  let w0 := World.holding Tryz.prog os ⟨#[.cells #[.string ⟨#[118, 97, 108, 117, 101, 32, 111, 117, 116, 32, 111, 102, 32, 114, 97, 110, 103, 101]⟩] 303, .cells #[.string ⟨#[105, 110, 118, 97, 108, 105, 100, 32, 115, 121, 110, 116, 97, 120]⟩] 303], #[], []⟩
  let put (h : Array Obj) (g : Nat) (cs : Array Value) : Array Obj := h.modify g fun
    | .cells _ t frozen => .cells cs t frozen
    | o => o
  let h1 := put w0.heap 5 (Lib.firstTab.map fun z => Value.int .u8 z).toArray
  let h2 := put h1 6 ((List.range 16).flatMap fun i => [Value.int .u8 (Lib.accLo i), Value.int .u8 (Lib.accHi i)]).toArray
  let h3 := put h2 7 (rowV Rows.laid_math_bits_deBruijn32tab)
  let h4 := put h3 8 (rowV Rows.laid_math_bits_deBruijn64tab)
  let h5 := put h4 4 (rowV Rows.laid_internal_strconv_uint64pow10)
  let h6 := put h5 3 #[.iface 301 (.pointer (some ⟨low, 0, none⟩))]
  let h7 := put h6 2 #[.iface 301 (.pointer (some ⟨low + 1, 0, none⟩))]
  { w0 with heap := h7 }
noncomputable abbrev laidBlocks : List Nat := [7, 8, 4, 6, 3, 2, 5, low, low + 1]
theorem cells_slice (a : Option Addr) (l c : Nat) : (Value.slice a l c).cells.toList = [Value.slice a l c] := rfl
end Go.Proofs.YtogfcfgfkggmlaaGreatDoor.row


/- Given functions in pieces: each with what it answers, and that it does. -/
set_option linter.unusedVariables false
set_option linter.unusedSectionVars false
set_option linter.unusedSimpArgs false
namespace Go.Proofs.YtogfcfgfkggmlaaGreatDoor.Eng.U
open Go Go.Proofs Go.Proofs.YtogfcfgfkggmlaaGreatDoor.Eng Go.RowKit

structure Piece where
  f : FuncId
  ans : List AV → Option AV
def extOf (ps : List Piece) : Ext := { fs := coreFs, isBase := fun f => ps.any fun p => p.f == f, base := fun f args => (ps.find? fun p => p.f == f).bind fun p => p.ans args }
def Piece.Right (p : Piece) : Prop := Enters Tryz.prog p.f ∧ ∀ args res, p.ans args = some res → Ok Tryz.prog glob p.f args res
theorem core_of {ps : List Piece} (h : coreFs.all (fun f => !ps.any fun p => p.f == f) = true) : Core (extOf ps) where
  isB f hf := by
    have := List.all_eq_true.1 h f (List.contains_iff_mem.1 hf)
    simpa [extOf] using this
  has f hf := hf
theorem good_of {ps : List Piece} (h : ∀ p ∈ ps, p.Right) (hn : coreFs.all (namedOk Tryz.prog) = true) (k : Nat) : (bs (extOf ps) k).Good where
  mixed := by kernel_rfl
  names := hn
  base f args res hb hr := by
    change ((ps.find? fun p => p.f == f).bind fun p => p.ans args) = some res at hr
    obtain ⟨p, hp, ha⟩ := Option.bind_eq_some_iff.1 hr
    have hm := List.mem_of_find?_eq_some hp
    have hf : (p.f == f) = true := List.find?_some (p := fun q : Piece => q.f == f) hp
    have hf : p.f = f := by simpa using hf
    obtain ⟨h1, h2⟩ := h p hm
    rw [hf] at h1 h2
    exact ⟨h1, h2 args res ha⟩
theorem names_ok : coreFs.all (namedOk Tryz.prog) = true := by kernel_rfl
theorem kp_piece {ps : List Piece} {p : Piece} {k n : Nat} {args : List AV} (hp : ps.find? (fun q => q.f == p.f) = some p) : kp (extOf ps) k n p.f args = p.ans args := by
  rw [kp_base (by
    show (ps.any fun q => q.f == p.f) = true
    have := List.find?_some (p := fun q : Piece => q.f == p.f) hp
    exact List.any_eq_true.2 ⟨p, List.mem_of_find?_eq_some hp, this⟩)]
  show ((ps.find? fun q => q.f == p.f).bind fun q => q.ans args) = _
  rw [hp]
  rfl
theorem VL_1 {S : Stab} {x : AV} {vals : List Value} (h : VL S [x] vals) : ∃ v, vals = [v] ∧ V S x v := by
  obtain ⟨h1, h2⟩ := h
  match vals, h1 with
  | [v], _ => exact ⟨v, rfl, h2 0 _ _ rfl rfl⟩
theorem VL_2 {S : Stab} {x y : AV} {vals : List Value} (h : VL S [x, y] vals) : ∃ v u, vals = [v, u] ∧ V S x v ∧ V S y u := by
  obtain ⟨h1, h2⟩ := h
  match vals, h1 with
  | [v, u], _ => exact ⟨v, u, rfl, h2 0 _ _ rfl rfl, h2 1 _ _ rfl rfl⟩
theorem VL_3 {S : Stab} {x y z : AV} {vals : List Value} (h : VL S [x, y, z] vals) : ∃ v u t, vals = [v, u, t] ∧ V S x v ∧ V S y u ∧ V S z t := by
  obtain ⟨h1, h2⟩ := h
  match vals, h1 with
  | [v, u, t], _ => exact ⟨v, u, t, rfl, h2 0 _ _ rfl rfl, h2 1 _ _ rfl rfl, h2 2 _ _ rfl rfl⟩
theorem V_str {S : Stab} {s : ByteArray} {v : Value} (h : V S (.str s) v) : v = .string s := by cases h; rfl
theorem V_int {S : Stab} {k : IntKind} {n : Int} {v : Value} (h : V S (.int k n) v) : v = .int k n := by cases h; rfl
theorem agree_below {S : Stab} {w w' : World} (h : Agree S w) (hb : Below w.heap.size w w') : Agree S w' := fun x v hx =>
  (World.cell?_of_block (hb.block _ (World.block_lt_of_cell? w x (h x v hx)))).trans (h x v hx)
/-- A result that is pure, and nothing that lay has turned. -/
theorem ok_pure {f : FuncId} {args : List AV} {res : AV} (hres : res.isTup = false ∧ res.isFresh = false) (h : ∀ (S : Stab) (w : World) (vals : List Value), Agree S w → GlobOk glob S w → VL S args vals → Calls Tryz.prog f vals.toArray w fun e w' => ∃ v, e = .returned v ∧ (∀ S', V S' res v) ∧ Below w.heap.size w w') (hr : (args.all fun c => !c.isRes) = true := by rfl) : Ok Tryz.prog glob f args res := by
  refine Ok.of_plain (fun c hc => by simpa using List.all_eq_true.1 hr c hc) fun S w vals hag hG hV => ?_
  refine (h S w vals hag hG hV).mono ?_
  rintro e w' ⟨v, rfl, hv, hb⟩
  refine ⟨v, S, rfl, fun _ _ h => h, agree_below hag hb, fun _ _ h => .inl h, hb, ?_⟩
  have := hv S
  cases res <;> first | (cases hres.1; done) | (cases hres.2; done) | exact this
end Go.Proofs.YtogfcfgfkggmlaaGreatDoor.Eng.U


/- The program's own data: pairs, times, heads, items: as structures, as abstract values, as a row hands them in. Printed by apigen.py. -/
set_option linter.unusedVariables false
namespace Go.Proofs.YtogfcfgfkggmlaaGreatDoor.Eng.U
open Go Go.Proofs Go.Proofs.YtogfcfgfkggmlaaGreatDoor.Eng
abbrev Tx := List UInt8
structure Pair where
  key : Tx
  val : Tx
  deriving DecidableEq, Inhabited
structure Time where
  sec : Int
  nano : Int
  deriving DecidableEq, Inhabited
structure Head where
  kind : Int
  name : Tx
  link : Tx
  mode : Int
  uid : Int
  gid : Int
  size : Int
  sec : Int
  nano : Int
  user : Tx
  group : Tx
  major : Int
  minor : Int
  extra : List Pair
  deriving DecidableEq, Inhabited
structure Item where
  head : Head
  data : Tx
  deriving DecidableEq, Inhabited
def bys (l : Tx) : List AV := l.map byteAV
def encPair (p : Pair) : List AV := [.str (str p.key), .str (str p.val)]
def elPair (p : Pair) : AV := .agg (encPair p)
def prs (l : List Pair) : List AV := l.map elPair
def encHead (h : Head) : List AV := [.int .i64 h.kind, .str (str h.name), .str (str h.link), .int .i64 h.mode, .int .i64 h.uid, .int .i64 h.gid, .int .i64 h.size, .int .i64 h.sec, .int .i64 h.nano, .str (str h.user), .str (str h.group), .int .i64 h.major, .int .i64 h.minor, .list 2 (prs h.extra)]
def encItem (x : Item) : List AV := [.int .i64 x.head.kind, .str (str x.head.name), .str (str x.head.link), .int .i64 x.head.mode, .int .i64 x.head.uid, .int .i64 x.head.gid, .int .i64 x.head.size, .int .i64 x.head.sec, .int .i64 x.head.nano, .str (str x.head.user), .str (str x.head.group), .int .i64 x.head.major, .int .i64 x.head.minor, .list 2 (prs x.head.extra), .list 1 (bys x.data)]
def elItem (x : Item) : AV := .agg (encItem x)
def its (l : List Item) : List AV := l.map elItem
theorem bys_len (l : Tx) : (bys l).length = l.length := by simp [bys]
theorem prs_len (l : List Pair) : (prs l).length = l.length := by simp [prs]
theorem cells_pair (p : Pair) : AV.cells (elPair p) = encPair p := (rfl)
section
variable {β : Type}
theorem prs_at (l : List Pair) (i : Nat) (h : i < l.length) (F : AV → Option β) : ((prs l)[i]?).bind F = F (elPair l[i]) := by unfold prs; rw [List.getElem?_map, List.getElem?_eq_getElem h]; rfl
theorem bys_at (l : Tx) (i : Nat) (h : i < l.length) (F : AV → Option β) : ((bys l)[i]?).bind F = F (byteAV l[i]) := by unfold bys; rw [List.getElem?_map, List.getElem?_eq_getElem h]; rfl
theorem prs_mid (a b : List Pair) (x : Pair) (F : AV → Option β) : ((prs (a ++ x :: b))[a.length]?).bind F = F (elPair x) := by rw [prs_at _ _ (by simp)]; simp
theorem bys_mid (a b : Tx) (x : UInt8) (F : AV → Option β) : ((bys (a ++ x :: b))[a.length]?).bind F = F (byteAV x) := by rw [bys_at _ _ (by simp)]; simp
theorem byte_c (c : UInt8) (K : Int → Option β) : cellI .u8 (AV.cells (byteAV c)) 0 K = K ((c.toNat : Nat) : Int) := cellI_0 _ _ _
theorem h_2 (x : Head) (K : ByteArray → Option β) : cellS (encHead x) 2 K = K (str x.link) := by first | exact (rfl) | (show cellS (encHead x) 2 K = _; simp [encHead, cellI, cellL, cellAt, atInt, atList])
theorem p_0 (x : Pair) (K : ByteArray → Option β) : cellS (encPair x) 0 K = K (str x.key) := by first | exact (rfl) | (show cellS (encPair x) 0 K = _; simp [encPair, cellI, cellL, cellAt, atInt, atList])
theorem p_1 (x : Pair) (K : ByteArray → Option β) : cellS (encPair x) 1 K = K (str x.val) := by first | exact (rfl) | (show cellS (encPair x) 1 K = _; simp [encPair, cellI, cellL, cellAt, atInt, atList])
end
end Go.Proofs.YtogfcfgfkggmlaaGreatDoor.Eng.U


/- slices.Insert and slices.Delete at pairs, walked: after the kit's walk of Insert at one cell. -/
set_option linter.unusedVariables false
set_option linter.unusedSimpArgs false
set_option linter.unusedSectionVars false
namespace Go.Proofs.YtogfcfgfkggmlaaGreatDoor.S08
open Go Go.RowKit Go.Shelf Go.Lib Go.Proofs Go.Proofs.YtogfcfgfkggmlaaGreatDoor.Eng Go.Proofs.YtogfcfgfkggmlaaGreatDoor.Eng.U Go.Proofs

theorem infoP : (Tryz.prog.info? 29).map (fun i => (i.zero, i.size, i.bytes)) = some (some (.agg #[.string ⟨#[]⟩, .string ⟨#[]⟩]), 2, 32) := by kernel_rfl
section
variable {P : Program}
/-- copy, at elements of any size. -/
theorem run_copy_sz (w : World) (dT sT ty elem : TypeId) (sz : Nat) (b o dLen dCap : Nat) (a : Addr) (sLen sCap : Nat) (cs : List Value)
    (hu : P.underlying dT = some (.slice elem)) (hs : (P.info? elem).map (·.size) = some sz) (hn : cs.length = Nat.min sLen dLen * sz)
    (hsrc : ∀ j v, cs[j]? = some v → w.cell? (a.add j) = some v) (hc : ∀ j, j < cs.length → (w.cell? ⟨b, o + j, none⟩).isSome = true) (hf : ∀ j, j < cs.length → w.frozen? ⟨b, o + j, none⟩ = false) (h1 : ∀ v ∈ cs, v.oneCell' = true) :
    (Builtin.copy_ #[dT, sT] ty #[.slice (some ⟨b, o, none⟩) dLen dCap, .slice (some a) sLen sCap]).run P w = .ok (goInt (Nat.min sLen dLen)) (w.setCells b o cs) := by
  have hl := run_loadCells_list (P := P) w a cs hsrc
  have hst := run_storeCells_cells (P := P) b o cs 0 w (by simpa using hc) (by simpa using hf) h1
  cases hq : P.info? elem with
  | none => simp [hq] at hs
  | some i =>
    have hi : i.size = sz := by simpa [hq] using hs
    simp [Builtin.copy_, run_underlying hu, Builtin.lenOf, Builtin.firstCells, sizeOf, typeInfo, hq, hi, ← hn, hl, hst]
theorem setCells_frame (b : Nat) : ∀ (vs : List Value) (o : Nat) (w : World), (w.setCells b o vs).os = w.os ∧ (w.setCells b o vs).tape = w.tape ∧ (w.setCells b o vs).output = w.output ∧ (w.setCells b o vs).heap.size = w.heap.size ∧ (∀ k, k ≠ b → (w.setCells b o vs).heap[k]? = w.heap[k]?)
  | [], o, w => ⟨rfl, rfl, rfl, rfl, fun _ _ => rfl⟩
  | v :: r, o, w => by
    obtain ⟨h1, h2, h3, h4, h5⟩ := setCells_frame b r (o + 1) (w.setCell ⟨b, o, none⟩ v)
    have e : w.setCells b o (v :: r) = (w.setCell ⟨b, o, none⟩ v).setCells b (o + 1) r := rfl
    rw [e]
    have hsz : (w.setCell ⟨b, o, none⟩ v).heap.size = w.heap.size := by unfold World.setCell; split <;> simp
    refine ⟨h1.trans ?_, h2.trans ?_, h3.trans ?_, h4.trans hsz, fun k hk => (h5 k hk).trans ?_⟩
    · unfold World.setCell; split <;> rfl
    · unfold World.setCell; split <;> rfl
    · unfold World.setCell; split <;> rfl
    · unfold World.setCell
      split <;> simp [Array.getElem?_modify, Ne.symm hk]
theorem setCells_row (b : Nat) (t : TypeId) : ∀ (vs : List Value) (o : Nat) (w : World) (cur : Array Value), w.heap[b]? = some (.cells cur t (0, 0)) → o + vs.length ≤ cur.size →
    (w.setCells b o vs).heap[b]? = some (.cells (cur.toList.take o ++ vs ++ cur.toList.drop (o + vs.length)).toArray t (0, 0))
  | [], o, w, cur, h, hl => by
    rw [show w.setCells b o [] = w from rfl, h]
    simp
  | v :: r, o, w, cur, h, hl => by
    have e : w.setCells b o (v :: r) = (w.setCell ⟨b, o, none⟩ v).setCells b (o + 1) r := rfl
    simp only [List.length_cons] at hl
    have hs : (w.setCell ⟨b, o, none⟩ v).heap[b]? = some (.cells (cur.setIfInBounds o v) t (0, 0)) := by
      rw [setCell_eq_setRow w b o cur t (0, 0) v h]
      exact setRow_heap w b cur _ t _ h
    rw [e, setCells_row b t r (o + 1) _ _ hs (by simp; omega)]
    have e2 := list_seg_step cur.toList o v r (by simp; omega)
    congr 3
    simpa [Array.toList_setIfInBounds, Nat.add_assoc, Nat.add_comm, Nat.add_left_comm] using e2
end
set_option maxHeartbeats 4000000 in
set_option maxRecDepth 1000000 in
/-- There is room, i < len(s): in place. -/
theorem insert_shift (b n c i vb vc : Nat) (cs vs : List Value) (w : World) (hi : i < n) (hroom : n + 1 ≤ c) (hc63 : c ≤ 9223372036854775807) (hvb : vb ≠ b)
    (hcl : cs.length = n * 2) (hvl : vs.length = 2)
    (hcs : ∀ j v, cs[j]? = some v → w.cell? ⟨b, j, none⟩ = some v) (hsp : ∀ j, j < (n + 1) * 2 → (w.cell? ⟨b, j, none⟩).isSome = true) (hfz : ∀ j, j < (n + 1) * 2 → w.frozen? ⟨b, j, none⟩ = false)
    (hvs : ∀ j v, vs[j]? = some v → w.cell? ⟨vb, j, none⟩ = some v) (h1c : ∀ v ∈ cs, v.oneCell' = true) (h1v : ∀ v ∈ vs, v.oneCell' = true)
    (tA tB : TypeId) (kA kB : Nat) (hsa : w.shape? vb = some (tA, kA)) (hsb : w.shape? b = some (tB, kB)) (hkB : kB ≠ 0) (hfa : w.frozen? ⟨vb, 0, none⟩ = false) (hfe : w.frozen? ⟨vb, kA, none⟩ = false) :
    Calls Tryz.prog 133 #[.slice (some ⟨b, 0, none⟩) n c, .int .i64 i, .slice (some ⟨vb, 0, none⟩) 1 vc] w fun e w' =>
      e = .returned (.slice (some ⟨b, 0, none⟩) (n + 1) c) ∧ w' = (w.drew.setCells b ((i + 1) * 2) (cs.drop (i * 2))).setCells b (i * 2) vs := by
  have mixed : Tryz.prog.follows .mixedOrders = true := by kernel_rfl
  have hz2 : ¬ ((i : Int) = (n : Int)) := by omega
  have hsz : (Tryz.prog.info? 29).map (·.size) = some 2 := by kernel_rfl
  have z2 : ∀ w, (Go.sizeOf 29).run Tryz.prog w = .ok 2 w := fun w => by
    obtain ⟨i0, hi, _, hz1, _⟩ := info_parts infoP
    simp [Go.sizeOf, typeInfo, hi, hz1]
  have hov : ∀ lb cb, (callFunc 206 #[.slice (some ⟨vb, 0, none⟩) 1 vc, .slice (some ⟨b, (i + 1) * 2, none⟩) lb cb]).run Tryz.prog w = .ok (.value (.bool false)) w := fun lb cb => by
    rw [run_callFunc_extern Tryz.func206 (by kernel_rfl) (by kernel_rfl) (by kernel_rfl) (e := Extern.SlicesOverlaps.overlaps #[22, 22] #[4]) (by kernel_rfl),
      Lib.run_overlaps_apart w 22 4 29 Tryz.underlying22 2 z2 ⟨vb, 0, none⟩ ⟨b, (i + 1) * 2, none⟩ 1 vc lb cb hvb tA tB kA kB hsa hsb hkB hfa hfe]
    rfl
  have hdl : (cs.drop (i * 2)).length = (n - i) * 2 := by rw [List.length_drop, hcl]; omega
  have hw1 : IntKind.i64.wrap ((i : Int) + 1) = (i : Int) + 1 := by rw [IntKind.wrap_i64]; omega
  have hw2 : IntKind.i64.wrap ((n : Int) + 1) = (n : Int) + 1 := by rw [IntKind.wrap_i64]; omega
  have hin : i ≤ n := by omega
  have hb1 : (0 : Int) ≤ (i : Int) + 1 := by omega
  have hb3 : (i : Int) ≤ (n : Int) + 1 := by omega
  have htn : ((i : Int) + 1).toNat = i + 1 := by omega
  have hb2 : ¬ (c = i + 1) := by omega
  have hb4 : ¬ (c = i) := by omega
  have hcp1 : ∀ ty dc sc, (Builtin.copy_ #[22, 22] ty #[.slice (some ⟨b, (i + 1) * 2, none⟩) (n - i) dc, .slice (some ⟨b, i * 2, none⟩) (n + 1 - i) sc]).run Tryz.prog w.drew = .ok (goInt (Nat.min (n + 1 - i) (n - i))) (w.drew.setCells b ((i + 1) * 2) (cs.drop (i * 2))) := fun ty dc sc =>
    run_copy_sz w.drew _ _ ty 29 2 b ((i + 1) * 2) (n - i) dc ⟨b, i * 2, none⟩ (n + 1 - i) sc (cs.drop (i * 2)) Tryz.underlying22 hsz (by rw [hdl]; simp only [Nat.min_def]; split <;> omega)
      (fun j v hj => by rw [Addr.add_lit]; exact hcs (i * 2 + j) v (by rwa [List.getElem?_drop] at hj))
      (fun j hj => by exact hsp _ (by omega)) (fun j hj => by exact hfz _ (by omega)) (fun v hv => h1c v (List.mem_of_mem_drop hv))
  obtain ⟨W1, hW1⟩ : ∃ W1, W1 = w.drew.setCells b ((i + 1) * 2) (cs.drop (i * 2)) := ⟨_, rfl⟩
  have hsp1 : ∀ k, k < (n + 1) * 2 → (W1.cell? ⟨b, k, none⟩).isSome = true := fun k hk => by
    rw [hW1]
    exact isSome_setCells b _ _ _ (fun j hj => by exact hsp _ (by omega)) _ (hsp k hk)
  have hcp2 : ∀ (W : World), (∀ x, W.cell? x = W1.cell? x) → (∀ x, W.frozen? x = W1.frozen? x) → ∀ ty dc, (Builtin.copy_ #[22, 22] ty #[.slice (some ⟨b, i * 2, none⟩) (n + 1 - i) dc, .slice (some ⟨vb, 0, none⟩) 1 vc]).run Tryz.prog W = .ok (goInt (Nat.min 1 (n + 1 - i))) (W.setCells b (i * 2) vs) := fun W hWc hWf ty dc =>
    run_copy_sz W _ _ ty 29 2 b (i * 2) (n + 1 - i) dc ⟨vb, 0, none⟩ 1 vc vs Tryz.underlying22 hsz (by rw [hvl]; simp only [Nat.min_def]; split <;> omega)
      (fun j v hj => by
        rw [Addr.add_lit, Nat.zero_add, hWc, hW1, World.cell?_setCells_out b _ _ _ _ (fun h _ => absurd h hvb)]
        exact hvs j v hj)
      (fun j hj => by rw [hWc]; exact hsp1 _ (by omega)) (fun j hj => by rw [hWf, hW1, World.frozen?_setCells]; exact hfz _ (by omega)) h1v
  rw [← hW1] at hcp1
  go_enter Tryz.func133, Tryz.ntmps133
  go_wp2_with (simp only [hov])
  go_region_law_o (refine step_copy_runI rfl _ _ 22 22 rfl _ _ (by simp [Act.eval, Act.put]) (by simp [Act.eval, Act.put]) (hcp1 _ _ _) ?_)
  go_wp2_with (at_builtin; refine wpList_copy_runI _ rfl _ _ 22 22 rfl _ _ rfl rfl (hcp2 _ (fun _ => rfl) (fun _ => rfl) _ _) ?_)
  go_ret
  first | exact ⟨rfl, rfl⟩ | exact ⟨rfl, by rw [hW1]⟩
set_option maxHeartbeats 4000000 in
set_option maxRecDepth 1000000 in
/-- At the end: in place, or a new row. -/
theorem insert_end (v : Value) (n B vb vc : Nat) (us vs : List Value) (w : World) (hown : w.ownsRow B 29 2 v n us) (hvl : vs.length = 2) (hvs : ∀ j u, vs[j]? = some u → w.cell? ((⟨vb, 0, none⟩ : Addr).add j) = some u) (h1v : ∀ u ∈ vs, u.oneCell' = true) (hn : n ≤ 1000000000) (hB : B ≤ w.heap.size) :
    Calls Tryz.prog 133 #[v, .int .i64 n, .slice (some ⟨vb, 0, none⟩) 1 vc] w fun e w' =>
      ∃ v', e = .returned v' ∧ w'.ownsRow B 29 2 v' (n + 1) (us ++ vs) ∧ w.grownBy w' v.ownBlock ∧ (v'.ownBlock = v.ownBlock ∨ v'.ownBlock = some w.heap.size) := by
  have mixed : Tryz.prog.follows .mixedOrders = true := by kernel_rfl
  obtain ⟨i0, hi, hz0, hz1, hz2⟩ := info_parts infoP
  obtain ⟨v', w1, hr, h2, h3, _, h5⟩ := run_append_own_at (P := Tryz.prog) w B 22 22 29 i0 (.agg #[.string ⟨#[]⟩, .string ⟨#[]⟩]) 2 32 Tryz.underlying22 hi hz0 hz1 hz2 rfl (by decide) v n us hown ⟨vb, 0, none⟩ 1 vc vs (by rw [hvl]) hvs h1v (by simp only [maxLen]; omega) (by omega) hB
  have hin : n ≤ n := Nat.le_refl _
  rcases hown.2 with ⟨rfl, hn0⟩ | ⟨g, cap, cur, rfl, hbg, hg, hnc, hcm, hcs, htk⟩
  · subst hn0
    go_enter Tryz.func133, Tryz.ntmps133
    go_wp2_with (at_builtin; refine Lib.wpList_append_run _ rfl _ _ _ _ rfl _ _ rfl rfl _ _ hr ?_)
    go_ret
    exact ⟨_, rfl, h2, h3, h5⟩
  · have hc63 : cap ≤ 9223372036854775807 := by simp only [maxLen] at hcm; omega
    go_enter Tryz.func133, Tryz.ntmps133
    go_wp2_with (at_builtin; refine Lib.wpList_append_run _ rfl _ _ _ _ rfl _ _ rfl rfl _ _ hr ?_)
    all_goals (go_ret; exact ⟨_, rfl, h2, h3, h5⟩)
set_option maxHeartbeats 4000000 in
set_option maxRecDepth 1000000 in
/-- i < len(s), no room: a new row. -/
theorem insert_grow (b n c i vb vc : Nat) (cs vs : List Value) (w : World) (hi : i < n) (hnc : n ≤ c) (hroom : c < n + 1) (hbig : n ≤ 1000000000)
    (hcl : cs.length = n * 2) (hvl : vs.length = 2)
    (hcs : ∀ j v, cs[j]? = some v → w.cell? ⟨b, j, none⟩ = some v) (hvs : ∀ j v, vs[j]? = some v → w.cell? ⟨vb, j, none⟩ = some v) (h1c : ∀ v ∈ cs, v.oneCell' = true) (h1v : ∀ v ∈ vs, v.oneCell' = true) :
    Calls Tryz.prog 133 #[.slice (some ⟨b, 0, none⟩) n c, .int .i64 i, .slice (some ⟨vb, 0, none⟩) 1 vc] w fun e w' =>
      e = .returned (.slice (some ⟨w.heap.size, 0, none⟩) (n + 1) (grownCap w (n + 1) c 29)) ∧
      w' = (((w.alloc (.cells ((cs.take (i * 2)).toArray ++ Builtin.zeroCells (Value.agg #[.string ⟨#[]⟩, .string ⟨#[]⟩]).cells (n + 1 - i) ++ Builtin.zeroCells (Value.agg #[.string ⟨#[]⟩, .string ⟨#[]⟩]).cells (grownCap w (n + 1) c 29 - (n + 1))) 29)).drew.setCells w.heap.size (i * 2) vs).drew).setCells w.heap.size ((i + 1) * 2) (cs.drop (i * 2)) := by
  have mixed : Tryz.prog.follows .mixedOrders = true := by kernel_rfl
  obtain ⟨i0, hi0, hz0, hzs, hzb⟩ := info_parts infoP
  have hz2 : ¬ ((i : Int) = (n : Int)) := by omega
  have hz3 : (c : Int) < (n : Int) + 1 := by omega
  have hsz : (Tryz.prog.info? 29).map (·.size) = some 2 := by kernel_rfl
  have hbw : b < w.heap.size := block_lt_of_cell (hcs 0 _ (List.getElem?_eq_getElem (by omega)))
  have hvw : vb < w.heap.size := block_lt_of_cell (hvs 0 _ (List.getElem?_eq_getElem (by omega)))
  have hkk : (n : Int) + 1 - (i : Int) = ((n + 1 - i : Nat) : Int) := by omega
  have hik : i + (n + 1 - i) = n + 1 := by omega
  have hold : (Builtin.firstCells i0.size i (.slice (some ⟨b, 0, none⟩) i c)).run Tryz.prog w.drew = .ok (cs.take (i * 2)).toArray w.drew := by
    rw [hzs]
    exact run_firstCells_some w.drew 2 i ⟨b, 0, none⟩ i c (cs.take (i * 2)) (by rw [List.length_take]; omega) (fun j v hj => by
      rw [Addr.add_lit, Nat.zero_add]
      rw [List.getElem?_take] at hj
      split at hj
      · exact hcs j v hj
      · cases hj)
  have hrz : ∀ ty, (Builtin.append_ #[22, 3] ty #[.slice (some ⟨b, 0, none⟩) i c, .int .i64 ((n : Int) + 1 - (i : Int))]).run Tryz.prog w =
      .ok (.slice (some ⟨w.heap.size, 0, none⟩) (n + 1) (grownCap w (n + 1) c 29)) (w.drew.alloc (.cells ((cs.take (i * 2)).toArray ++ Builtin.zeroCells (Value.agg #[.string ⟨#[]⟩, .string ⟨#[]⟩]).cells (n + 1 - i) ++ Builtin.zeroCells (Value.agg #[.string ⟨#[]⟩, .string ⟨#[]⟩]).cells (grownCap w (n + 1) c 29 - (n + 1))) 29)) := fun ty => by
    have h := Lib.run_append_grow_zeros w 22 3 ty 29 i0 _ .i64 .i64 Tryz.underlying22 Tryz.underlying3 hi0 hz0 (some ⟨b, 0, none⟩) i c (cs.take (i * 2)) hold (n + 1 - i) (by omega) (by omega) (by omega) (by omega) (by rw [hzb]; omega) (by rw [hzb, hik]; exact growslice_fits hroom (by omega))
    rw [hik] at h
    rw [hkk]
    exact h
  obtain ⟨G, hG⟩ : ∃ G, G = grownCap w (n + 1) c 29 := ⟨_, rfl⟩
  obtain ⟨ROW, hROW⟩ : ∃ ROW : Array Value, ROW = (cs.take (i * 2)).toArray ++ Builtin.zeroCells (Value.agg #[.string ⟨#[]⟩, .string ⟨#[]⟩]).cells (n + 1 - i) ++ Builtin.zeroCells (Value.agg #[.string ⟨#[]⟩, .string ⟨#[]⟩]).cells (G - (n + 1)) := ⟨_, rfl⟩
  rw [← hG] at hrz ⊢
  rw [← hROW] at hrz ⊢
  have hRl : (n + 1) * 2 ≤ ROW.size := by
    rw [hROW]
    simp [Builtin.zeroCells, Value.cells]
    omega
  obtain ⟨W1, hW1⟩ : ∃ W1, W1 = w.drew.alloc (.cells ROW 29) := ⟨_, rfl⟩
  rw [← hW1] at hrz
  have hN : ∀ j, j < (n + 1) * 2 → (W1.cell? ⟨w.heap.size, j, none⟩).isSome = true := fun j hj => by
    rw [hW1, World.cell?_alloc_at (w := w.drew) ROW _ w.heap.size j rfl, Array.getElem?_eq_getElem (by omega)]; rfl
  have hNf : ∀ j, W1.frozen? ⟨w.heap.size, j, none⟩ = false := fun j => by rw [hW1]; exact World.frozen?_alloc_at (w := w.drew) ROW _ w.heap.size j rfl
  have hOb : ∀ j v, w.cell? ⟨b, j, none⟩ = some v → W1.cell? ⟨b, j, none⟩ = some v := fun j v h => by rw [hW1, World.cell?_alloc_past (w := w.drew) _ b j hbw]; exact h
  have hOv : ∀ j v, w.cell? ⟨vb, j, none⟩ = some v → W1.cell? ⟨vb, j, none⟩ = some v := fun j v h => by rw [hW1, World.cell?_alloc_past (w := w.drew) _ vb j hvw]; exact h
  have hcpA : ∀ (W : World), (∀ x, W.cell? x = W1.cell? x) → (∀ x, W.frozen? x = W1.frozen? x) → ∀ ty dc, (Builtin.copy_ #[22, 22] ty #[.slice (some ⟨w.heap.size, i * 2, none⟩) (n + 1 - i) dc, .slice (some ⟨vb, 0, none⟩) 1 vc]).run Tryz.prog W = .ok (goInt (Nat.min 1 (n + 1 - i))) (W.setCells w.heap.size (i * 2) vs) := fun W hWc hWf ty dc =>
    run_copy_sz W _ _ ty 29 2 w.heap.size (i * 2) (n + 1 - i) dc ⟨vb, 0, none⟩ 1 vc vs Tryz.underlying22 hsz (by rw [hvl]; simp only [Nat.min_def]; split <;> omega)
      (fun j v hj => by rw [Addr.add_lit, Nat.zero_add, hWc]; exact hOv _ v (hvs j v hj))
      (fun j hj => by rw [hWc]; exact hN _ (by omega)) (fun j hj => by rw [hWf]; exact hNf _) h1v
  have hGn : n + 1 ≤ G := by rw [hG]; exact grownCap_ge w _ _ _
  have hG63 : G ≤ 9223372036854775807 := by
    have := grownCap_le_maxLen w (n + 1) c 29 (by unfold maxLen; omega)
    rw [← hG] at this
    unfold maxLen at this
    omega
  have hGi : ¬ (G = i) := by omega
  have hGim : ¬ (G = i + 1) := by omega
  have hci : ¬ (c = i) := by omega
  have hbN : b ≠ w.heap.size := by omega
  have hdl : (cs.drop (i * 2)).length = (n - i) * 2 := by rw [List.length_drop, hcl]; omega
  have hcpB : ∀ (W : World), (∀ x, W.cell? x = (W1.setCells w.heap.size (i * 2) vs).cell? x) → (∀ x, W.frozen? x = (W1.setCells w.heap.size (i * 2) vs).frozen? x) → ∀ ty dc sc, (Builtin.copy_ #[22, 22] ty #[.slice (some ⟨w.heap.size, (i + 1) * 2, none⟩) (n - i) dc, .slice (some ⟨b, i * 2, none⟩) (n - i) sc]).run Tryz.prog W = .ok (goInt (Nat.min (n - i) (n - i))) (W.setCells w.heap.size ((i + 1) * 2) (cs.drop (i * 2))) := fun W hWc hWf ty dc sc =>
    run_copy_sz W _ _ ty 29 2 w.heap.size ((i + 1) * 2) (n - i) dc ⟨b, i * 2, none⟩ (n - i) sc (cs.drop (i * 2)) Tryz.underlying22 hsz (by rw [hdl]; simp only [Nat.min_def]; split <;> omega)
      (fun j v hj => by
        rw [Addr.add_lit, hWc, World.cell?_setCells_out _ _ _ _ _ (fun h _ => absurd h hbN)]
        exact hOb _ v (hcs (i * 2 + j) v (by rwa [List.getElem?_drop] at hj)))
      (fun j hj => by rw [hWc]; exact isSome_setCells _ _ _ _ (fun t ht => hN _ (by omega)) _ (hN _ (by omega)))
      (fun j hj => by rw [hWf, World.frozen?_setCells]; exact hNf _) (fun v hv => h1c v (List.mem_of_mem_drop hv))
  subst hW1
  have hE1 : ∀ x, ((w.alloc (.cells ROW 29)).drew).cell? x = (w.drew.alloc (.cells ROW 29)).cell? x := fun x => rfl
  have hE2 : ∀ x, ((w.alloc (.cells ROW 29)).drew).frozen? x = (w.drew.alloc (.cells ROW 29)).frozen? x := fun x => rfl
  have hF1 : ∀ x, (((w.alloc (.cells ROW 29)).drew.setCells w.heap.size (i * 2) vs).drew).cell? x = ((w.drew.alloc (.cells ROW 29)).setCells w.heap.size (i * 2) vs).cell? x := fun x => rfl
  have hF2 : ∀ x, (((w.alloc (.cells ROW 29)).drew.setCells w.heap.size (i * 2) vs).drew).frozen? x = ((w.drew.alloc (.cells ROW 29)).setCells w.heap.size (i * 2) vs).frozen? x := fun x => rfl
  have hw1 : IntKind.i64.wrap ((i : Int) + 1) = (i : Int) + 1 := by rw [IntKind.wrap_i64]; omega
  have hw2 : IntKind.i64.wrap ((n : Int) + 1) = (n : Int) + 1 := by rw [IntKind.wrap_i64]; omega
  have hb1 : (0 : Int) ≤ (i : Int) + 1 := by omega
  have hin : i ≤ n := by omega
  have htn : ((i : Int) + 1).toNat = i + 1 := by omega
  have hb3 : (i : Int) ≤ (n : Int) := by omega
  have hb4 : (i : Int) ≤ (n : Int) + 1 := by omega
  clear hkk hik hold hROW hG hRl
  go_enter Tryz.func133, Tryz.ntmps133
  go_wp2_with (first
    | (at_builtin; refine Lib.wpList_append_run _ rfl _ _ _ _ rfl _ _ rfl rfl _ _ (hrz _) ?_)
    | (at_builtin; refine wpList_copy_runI _ rfl _ _ 22 22 rfl _ _ rfl rfl (hcpA _ hE1 hE2 _ _) ?_))
  go_region_law_o (refine step_copy_runI rfl _ _ 22 22 rfl (.slice (some ⟨w.heap.size, (i + 1) * 2, none⟩) (n - i) (G - (i + 1))) (.slice (some ⟨b, i * 2, none⟩) (n - i) (c - i)) (by simp [Act.eval, Act.put]) (by simp [Act.eval, Act.put]) (hcpB _ hF1 hF2 3 (G - (i + 1)) (c - i)) ?_)
  go_wp2
  go_ret
  exact ⟨rfl, rfl⟩
theorem run_clear_pair (w : World) (ty : TypeId) (b o c : Nat) (hc : ∀ j, j < 2 → (w.cell? ⟨b, o + j, none⟩).isSome = true) (hf : ∀ j, j < 2 → w.frozen? ⟨b, o + j, none⟩ = false) :
    (Builtin.clear_ #[22] ty #[.slice (some ⟨b, o, none⟩) 1 c]).run Tryz.prog w = .ok (.tuple #[]) (w.setCells b o [.string ⟨#[]⟩, .string ⟨#[]⟩]) := by
  obtain ⟨i0, hi0, hz0, hzs, hzb⟩ := info_parts infoP
  have hzc : (Builtin.zeroCells (Value.agg #[.string ⟨#[]⟩, .string ⟨#[]⟩]).cells 1).toList = [.string ⟨#[]⟩, .string ⟨#[]⟩] := by first | kernel_rfl | (simp [Builtin.zeroCells, Value.cells]; rfl)
  have hv : (zeroValue 29).run Tryz.prog w = .ok (.agg #[.string ⟨#[]⟩, .string ⟨#[]⟩]) w := by
    simp [zeroValue, typeInfo, hi0, hz0]
  have hst := run_storeCells_cells (P := Tryz.prog) b o [.string ⟨#[]⟩, .string ⟨#[]⟩] 0 w (by simpa using hc) (by simpa using hf) (by intro v hv'; simp at hv'; subst hv'; rfl)
  simp only [Nat.add_zero] at hst
  simp [Builtin.clear_, run_underlying Tryz.underlying22, hv, hzc, hst]
set_option maxHeartbeats 4000000 in
set_option maxRecDepth 1000000 in
/-- slices.Delete of one element. -/
theorem delete_one (b n c i j : Nat) (cs : List Value) (w : World) (hij : j = i + 1) (hi : i < n) (hnc : n ≤ c) (hm : c ≤ 9223372036854775807) (hcl : cs.length = n * 2)
    (hcs : ∀ j v, cs[j]? = some v → w.cell? ⟨b, j, none⟩ = some v) (hfz : ∀ j, j < n * 2 → w.frozen? ⟨b, j, none⟩ = false) (h1c : ∀ v ∈ cs, v.oneCell' = true) :
    Calls Tryz.prog 132 #[.slice (some ⟨b, 0, none⟩) n c, .int .i64 i, .int .i64 j] w fun e w' =>
      e = .returned (.slice (some ⟨b, 0, none⟩) (n - 1) c) ∧ w' = (w.drew.setCells b (i * 2) (cs.drop (j * 2))).setCells b ((n - 1) * 2) [.string ⟨#[]⟩, .string ⟨#[]⟩] := by
  have mixed : Tryz.prog.follows .mixedOrders = true := by kernel_rfl
  obtain ⟨i0, hi0, hz0, hz1, hz2⟩ := info_parts infoP
  have heq : ¬ ((i : Int) = (j : Int)) := by omega
  have hic : i ≤ c := by omega
  have hjc : j ≤ c := by omega
  have hij2 : i ≤ j := by omega
  have hj : j ≤ n := by omega
  have hsp : ∀ k, k < n * 2 → (w.cell? ⟨b, k, none⟩).isSome = true := fun k hk => by rw [hcs k _ (List.getElem?_eq_getElem (by omega))]; rfl
  obtain ⟨news, hnews⟩ : ∃ news, news = cs.drop (j * 2) := ⟨_, rfl⟩
  have hlen : news.length = (n - j) * 2 := by rw [hnews, List.length_drop]; omega
  have hget : ∀ t u, news[t]? = some u → w.cell? ⟨b, j * 2 + t, none⟩ = some u := fun t u hu => by
    rw [hnews, List.getElem?_drop] at hu
    exact hcs _ _ hu
  obtain ⟨A, hA, hsrc⟩ : ∃ A : Addr, (if c = j then some (⟨b, 0, none⟩ : Addr) else some ⟨b, j * 2, none⟩) = some A ∧ Hid (∀ t u, news[t]? = some u → w.drew.cell? (A.add t) = some u) := by
    by_cases h : c = j
    · refine ⟨⟨b, 0, none⟩, by simp [h], fun t u hu => ?_⟩
      have h0 : news.length = 0 := by rw [hlen]; omega
      rw [List.length_eq_zero_iff.1 h0] at hu
      simp at hu
    · refine ⟨⟨b, j * 2, none⟩, by simp [h], fun t u hu => ?_⟩
      rw [Addr.add_lit]
      exact hget t u hu
  have s1 : Hid (news.length = (n - j) * 2) := hlen
  have s2 : Hid (∀ u ∈ news, u.oneCell' = true) := fun u hu => by rw [hnews] at hu; exact h1c u (List.mem_of_mem_drop hu)
  have s3 : Hid (∀ t, t < news.length → (w.drew.cell? ⟨b, 0 + i * 2 + t, none⟩).isSome = true ∧ w.drew.frozen? ⟨b, 0 + i * 2 + t, none⟩ = false) := fun t ht => by
    rw [hlen] at ht
    rw [Nat.zero_add]
    exact ⟨hsp (i * 2 + t) (by omega), hfz (i * 2 + t) (by omega)⟩
  obtain ⟨W1, hW1⟩ : ∃ W1, W1 = w.drew.setCells b (0 + i * 2) news := ⟨_, rfl⟩
  have hclr : ∀ ty, (Builtin.clear_ #[22] ty #[.slice (some ⟨b, (i + (n - j)) * 2, none⟩) (n - (i + (n - j))) (c - (i + (n - j)))]).run Tryz.prog W1 = .ok (.tuple #[]) (W1.setCells b ((n - 1) * 2) [.string ⟨#[]⟩, .string ⟨#[]⟩]) := fun ty => by
    rw [show i + (n - j) = n - 1 by omega, show n - (n - 1) = 1 by omega]
    refine run_clear_pair W1 ty b ((n - 1) * 2) _ (fun k hk => ?_) (fun k hk => ?_)
    · rw [hW1]
      exact isSome_setCells b _ _ _ (fun t ht => (s3.out t ht).1) _ (hsp _ (by omega))
    · rw [hW1, World.frozen?_setCells]
      exact hfz _ (by omega)
  have hW : Hid (W1 = w.drew.setCells b (0 + i * 2) news) := hW1
  have X : Hid (n - 1 = i + (n - j)) := show n - 1 = i + (n - j) by omega
  have hj2 : (j : Int) ≤ (n : Int) := by omega
  have hne : ¬ (c = i + (n - j)) := by omega
  have hle : i + (n - j) ≤ n := by omega
  have N : Hid (news = cs.drop (j * 2)) := hnews
  clear hget hlen hij hnews hW1
  go_enter Tryz.func132, Tryz.ntmps132
  go_wp2_with fail
  go_region_law_o (refine step_append_room rfl (.tmp 22) (.tmp 25) 22 rfl 29 i0 2 Tryz.underlying22 hi0 hz1 b 0 i c (by simp [Act.eval, Act.put]) A (n - j) (c - j) news (by simp [Act.eval, Act.put]) s1.out hsrc.out s2.out (by omega) s3.out ?_; rw [← hW.out])
  go_wp2
  go_ret
  refine ⟨by rw [X.out]; rfl, ?_⟩
  rw [hW.out, Nat.zero_add, N.out]
end Go.Proofs.YtogfcfgfkggmlaaGreatDoor.S08


/- What functions answer, as the engine evaluates their code. Printed by gen2.py. -/
set_option linter.unusedVariables false
namespace Go.Proofs.YtogfcfgfkggmlaaGreatDoor.Eng.U
open Go Go.Proofs Go.Proofs.YtogfcfgfkggmlaaGreatDoor.Eng
/- oakum/oakumref04.Number -/
theorem ref04_Number_eq {E : Ext} [Core E] (k n : Nat) (a0 : ByteArray) : kp E k (n + 1) ref04_Number [(.str a0)] =
  (callT (kp E k n ref04_Below [(.str a0)]) fun vt2 => (tupI .i64 vt2 fun vn3 vt4 => (tupB vt4 fun vq5 vt6 => (atNil vt6 (bif (!vq5) then (some (.tup [(.int .i64 (0 : Int)), (.bool false)])) else (bif (decide (vn3 < (-9223372036854775807 : Int))) then (some (.tup [(.int .i64 (0 : Int)), (.bool false)])) else (some (.tup [(.int .i64 (IntKind.wrap .i64 (0 - vn3))), (.bool true)])))))))) := (kp_at (by kernel_rfl)).trans (by kernel_rfl)
/- oakum/oakumref04.Time -/
noncomputable def ref04_Time_bd : Code := Tryz.f67.body.getD .skip
noncomputable def ref04_Time_L0 (kap : FuncId → List AV → Option AV) (k : Nat) (k0 : Nat) (s0 : ByteArray) (s4 : Bool) (s5 : Int) (s6 : Int) (b2_0 : Int) (b2_1 : Int) : Option AV :=
  loop (fun fr K => code ((bs E0 k).cfg kap ref04_Time) (sel ref04_Time_bd [1, 1, 1, 1, 0, 1, 0, 0]) fr K) (canon ((bs E0 k).cfg kap ref04_Time) (firstReg (sel ref04_Time_bd [1, 1, 1, 1, 0, 1, 0, 0]))) k0 (mkFr 116 [(0, (.str s0)), (2, (.loc 2 0)), (4, (.bool s4)), (5, (.int .i64 s5)), (6, (.int .i64 s6))] [(2, (.box [(.int .i64 b2_0), (.int .i64 b2_1)]))]) (plug ((bs E0 k).cfg kap ref04_Time) (retK ((bs E0 k).cfg kap ref04_Time) [] Tryz.f67 [] some) [.blk 0, .seqR (sel ref04_Time_bd [1, 1, 1, 1, 1])])
noncomputable def ref04_Time_L1 (kap : FuncId → List AV → Option AV) (k : Nat) (k1 : Nat) (s4 : Bool) (s7 : Int) (s8 : Bool) (s9 : Int) (s10 : ByteArray) (s11 : Int) (b2_0 : Int) (b2_1 : Int) : Option AV :=
  loop (fun fr K => code ((bs E0 k).cfg kap ref04_Time) (sel ref04_Time_bd [1, 1, 1, 1, 1, 1, 1, 0, 1, 0, 1, 1, 1, 0, 0]) fr K) (canon ((bs E0 k).cfg kap ref04_Time) (firstReg (sel ref04_Time_bd [1, 1, 1, 1, 1, 1, 1, 0, 1, 0, 1, 1, 1, 0, 0]))) k1 (mkFr 116 [(2, (.loc 2 0)), (4, (.bool s4)), (7, (.int .i64 s7)), (8, (.bool s8)), (9, (.int .i64 s9)), (10, (.str s10)), (11, (.int .i64 s11))] [(2, (.box [(.int .i64 b2_0), (.int .i64 b2_1)]))]) (plug ((bs E0 k).cfg kap ref04_Time) (retK ((bs E0 k).cfg kap ref04_Time) [] Tryz.f67 [] some) [.blk 2, .seqR (sel ref04_Time_bd [1, 1, 1, 1, 1, 1, 1, 1])])
theorem ref04_Time_L0_s (kap : FuncId → List AV → Option AV) (k : Nat) (k0 : Nat) (s0 : ByteArray) (s4 : Bool) (s5 : Int) (s6 : Int) (b2_0 : Int) (b2_1 : Int) : ref04_Time_L0 kap k (k0 + 1) s0 s4 s5 s6 b2_0 b2_1 =
  (bif (decide (s6 ≥ (0 : Int))) then (bif ((decide ((0 : Int) ≤ s6)) && (decide (s6 < (((ByteArray.size s0) : Nat) : Int)))) then (bif (decide ((byteAt s0 (Int.toNat s6)) = (46 : Int))) then (ref04_Time_L0 kap k k0 s0 s4 s6 (IntKind.wrap .i64 (s6 - (1 : Int))) b2_0 b2_1) else (ref04_Time_L0 kap k k0 s0 s4 s5 (IntKind.wrap .i64 (s6 - (1 : Int))) b2_0 b2_1)) else none) else (bif ((decide ((0 : Int) ≤ s5)) && (decide (s5 ≤ (((ByteArray.size s0) : Nat) : Int)))) then (callT (kap ref04_Below [(.str (ByteArray.extract s0 0 (Int.toNat s5)))]) fun vt2 => (tupI .i64 vt2 fun vn3 vt4 => (tupB vt4 fun vq5 vt6 => (atNil vt6 (bif (decide (s5 < (((ByteArray.size s0) : Nat) : Int))) then (bif ((decide ((0 : Int) ≤ (IntKind.wrap .i64 (s5 + (1 : Int))))) && (decide ((IntKind.wrap .i64 (s5 + (1 : Int))) ≤ (((ByteArray.size s0) : Nat) : Int)))) then (callB (kap ref04_only [(.str (ByteArray.extract s0 (Int.toNat (IntKind.wrap .i64 (s5 + (1 : Int)))) (ByteArray.size s0)))]) fun vq8 => (bif (!vq8) then (some (.tup [(.agg [(.int .i64 (0 : Int)), (.int .i64 (0 : Int))]), (.bool false)])) else (bif (decide ((((ByteArray.size (ByteArray.extract s0 (Int.toNat (IntKind.wrap .i64 (s5 + (1 : Int)))) (ByteArray.size s0))) : Nat) : Int) > (9 : Int))) then (some (.tup [(.agg [(.int .i64 (0 : Int)), (.int .i64 (0 : Int))]), (.bool false)])) else (ref04_Time_L1 kap k k s4 vn3 vq5 (0 : Int) (ByteArray.extract s0 (Int.toNat (IntKind.wrap .i64 (s5 + (1 : Int)))) (ByteArray.size s0)) (0 : Int) b2_0 b2_1)))) else none) else (bif (!vq5) then (some (.tup [(.agg [(.int .i64 (0 : Int)), (.int .i64 (0 : Int))]), (.bool false)])) else (bif (!s4) then (bif (decide (vn3 = (-9223372036854775808 : Int))) then (some (.tup [(.agg [(.int .i64 (0 : Int)), (.int .i64 (0 : Int))]), (.bool false)])) else (bif s4 then (bif (decide (vn3 = (-9223372036854775808 : Int))) then (bif (!s4) then (some (.tup [(.agg [(.int .i64 (IntKind.wrap .i64 (0 - vn3))), (.int .i64 (0 : Int))]), (.bool true)])) else (some (.tup [(.agg [(.int .i64 vn3), (.int .i64 (0 : Int))]), (.bool true)]))) else (bif (!s4) then (some (.tup [(.agg [(.int .i64 (IntKind.wrap .i64 (0 - vn3))), (.int .i64 (0 : Int))]), (.bool true)])) else (some (.tup [(.agg [(.int .i64 vn3), (.int .i64 (0 : Int))]), (.bool true)])))) else (bif (!s4) then (some (.tup [(.agg [(.int .i64 (IntKind.wrap .i64 (0 - vn3))), (.int .i64 (0 : Int))]), (.bool true)])) else (some (.tup [(.agg [(.int .i64 vn3), (.int .i64 (0 : Int))]), (.bool true)]))))) else (bif s4 then (bif (decide (vn3 = (-9223372036854775808 : Int))) then (bif (!s4) then (some (.tup [(.agg [(.int .i64 (IntKind.wrap .i64 (0 - vn3))), (.int .i64 (0 : Int))]), (.bool true)])) else (some (.tup [(.agg [(.int .i64 vn3), (.int .i64 (0 : Int))]), (.bool true)]))) else (bif (!s4) then (some (.tup [(.agg [(.int .i64 (IntKind.wrap .i64 (0 - vn3))), (.int .i64 (0 : Int))]), (.bool true)])) else (some (.tup [(.agg [(.int .i64 vn3), (.int .i64 (0 : Int))]), (.bool true)])))) else (bif (!s4) then (some (.tup [(.agg [(.int .i64 (IntKind.wrap .i64 (0 - vn3))), (.int .i64 (0 : Int))]), (.bool true)])) else (some (.tup [(.agg [(.int .i64 vn3), (.int .i64 (0 : Int))]), (.bool true)]))))))))))) else none)) := by kernel_rfl
theorem ref04_Time_L1_s (kap : FuncId → List AV → Option AV) (k : Nat) (k1 : Nat) (s4 : Bool) (s7 : Int) (s8 : Bool) (s9 : Int) (s10 : ByteArray) (s11 : Int) (b2_0 : Int) (b2_1 : Int) : ref04_Time_L1 kap k (k1 + 1) s4 s7 s8 s9 s10 s11 b2_0 b2_1 =
  (bif (decide (s11 < (9 : Int))) then (bif (decide (s11 < (((ByteArray.size s10) : Nat) : Int))) then (bif ((decide ((0 : Int) ≤ s11)) && (decide (s11 < (((ByteArray.size s10) : Nat) : Int)))) then (ref04_Time_L1 kap k k1 s4 s7 s8 (IntKind.wrap .i64 ((IntKind.wrap .i64 ((IntKind.wrap .i64 ((10 : Int) * s9)) + (IntKind.wrap .i64 (byteAt s10 (Int.toNat s11))))) - (48 : Int))) s10 (IntKind.wrap .i64 (s11 + (1 : Int))) b2_0 b2_1) else none) else (ref04_Time_L1 kap k k1 s4 s7 s8 (IntKind.wrap .i64 ((10 : Int) * s9)) s10 (IntKind.wrap .i64 (s11 + (1 : Int))) b2_0 b2_1)) else (bif (!s8) then (some (.tup [(.agg [(.int .i64 (0 : Int)), (.int .i64 (0 : Int))]), (.bool false)])) else (bif (!s4) then (bif (decide (s7 = (-9223372036854775808 : Int))) then (some (.tup [(.agg [(.int .i64 (0 : Int)), (.int .i64 (0 : Int))]), (.bool false)])) else (bif s4 then (bif (decide (s7 = (-9223372036854775808 : Int))) then (bif (decide (s9 > (0 : Int))) then (some (.tup [(.agg [(.int .i64 (0 : Int)), (.int .i64 (0 : Int))]), (.bool false)])) else (bif (!s4) then (some (.tup [(.agg [(.int .i64 (IntKind.wrap .i64 (0 - s7))), (.int .i64 s9)]), (.bool true)])) else (bif (decide (s9 = (0 : Int))) then (some (.tup [(.agg [(.int .i64 s7), (.int .i64 (0 : Int))]), (.bool true)])) else (some (.tup [(.agg [(.int .i64 (IntKind.wrap .i64 (s7 - (1 : Int)))), (.int .i64 (IntKind.wrap .i64 ((1000000000 : Int) - s9)))]), (.bool true)]))))) else (bif (!s4) then (some (.tup [(.agg [(.int .i64 (IntKind.wrap .i64 (0 - s7))), (.int .i64 s9)]), (.bool true)])) else (bif (decide (s9 = (0 : Int))) then (some (.tup [(.agg [(.int .i64 s7), (.int .i64 (0 : Int))]), (.bool true)])) else (some (.tup [(.agg [(.int .i64 (IntKind.wrap .i64 (s7 - (1 : Int)))), (.int .i64 (IntKind.wrap .i64 ((1000000000 : Int) - s9)))]), (.bool true)]))))) else (bif (!s4) then (some (.tup [(.agg [(.int .i64 (IntKind.wrap .i64 (0 - s7))), (.int .i64 s9)]), (.bool true)])) else (bif (decide (s9 = (0 : Int))) then (some (.tup [(.agg [(.int .i64 s7), (.int .i64 (0 : Int))]), (.bool true)])) else (some (.tup [(.agg [(.int .i64 (IntKind.wrap .i64 (s7 - (1 : Int)))), (.int .i64 (IntKind.wrap .i64 ((1000000000 : Int) - s9)))]), (.bool true)])))))) else (bif s4 then (bif (decide (s7 = (-9223372036854775808 : Int))) then (bif (decide (s9 > (0 : Int))) then (some (.tup [(.agg [(.int .i64 (0 : Int)), (.int .i64 (0 : Int))]), (.bool false)])) else (bif (!s4) then (some (.tup [(.agg [(.int .i64 (IntKind.wrap .i64 (0 - s7))), (.int .i64 s9)]), (.bool true)])) else (bif (decide (s9 = (0 : Int))) then (some (.tup [(.agg [(.int .i64 s7), (.int .i64 (0 : Int))]), (.bool true)])) else (some (.tup [(.agg [(.int .i64 (IntKind.wrap .i64 (s7 - (1 : Int)))), (.int .i64 (IntKind.wrap .i64 ((1000000000 : Int) - s9)))]), (.bool true)]))))) else (bif (!s4) then (some (.tup [(.agg [(.int .i64 (IntKind.wrap .i64 (0 - s7))), (.int .i64 s9)]), (.bool true)])) else (bif (decide (s9 = (0 : Int))) then (some (.tup [(.agg [(.int .i64 s7), (.int .i64 (0 : Int))]), (.bool true)])) else (some (.tup [(.agg [(.int .i64 (IntKind.wrap .i64 (s7 - (1 : Int)))), (.int .i64 (IntKind.wrap .i64 ((1000000000 : Int) - s9)))]), (.bool true)]))))) else (bif (!s4) then (some (.tup [(.agg [(.int .i64 (IntKind.wrap .i64 (0 - s7))), (.int .i64 s9)]), (.bool true)])) else (bif (decide (s9 = (0 : Int))) then (some (.tup [(.agg [(.int .i64 s7), (.int .i64 (0 : Int))]), (.bool true)])) else (some (.tup [(.agg [(.int .i64 (IntKind.wrap .i64 (s7 - (1 : Int)))), (.int .i64 (IntKind.wrap .i64 ((1000000000 : Int) - s9)))]), (.bool true)])))))))) := by kernel_rfl
theorem ref04_Time_eq {E : Ext} [Core E] (k n : Nat) (a0 : ByteArray) : kp E k (n + 1) ref04_Time [(.str a0)] =
  (bif (decide ((((ByteArray.size a0) : Nat) : Int) > (0 : Int))) then (bif (decide ((0 : Int) < (((ByteArray.size a0) : Nat) : Int))) then (bif (decide ((byteAt a0 0) = (45 : Int))) then (bif (decide ((1 : Int) ≤ (((ByteArray.size a0) : Nat) : Int))) then (ref04_Time_L0 (kp E k n) k k (ByteArray.extract a0 1 (ByteArray.size a0)) (decide ((byteAt a0 0) = (45 : Int))) (((ByteArray.size (ByteArray.extract a0 1 (ByteArray.size a0))) : Nat) : Int) (IntKind.wrap .i64 ((((ByteArray.size (ByteArray.extract a0 1 (ByteArray.size a0))) : Nat) : Int) - (1 : Int))) (0 : Int) (0 : Int)) else none) else (ref04_Time_L0 (kp E k n) k k a0 (decide ((byteAt a0 0) = (45 : Int))) (((ByteArray.size a0) : Nat) : Int) (IntKind.wrap .i64 ((((ByteArray.size a0) : Nat) : Int) - (1 : Int))) (0 : Int) (0 : Int))) else none) else (ref04_Time_L0 (kp E k n) k k a0 false (((ByteArray.size a0) : Nat) : Int) (IntKind.wrap .i64 ((((ByteArray.size a0) : Nat) : Int) - (1 : Int))) (0 : Int) (0 : Int))) := (kp_at (by kernel_rfl)).trans (by kernel_rfl)
/- oakum/dec.Time -/
theorem dec_Time_eq {E : Ext} [Core E] (k n : Nat) (a0 : ByteArray) : kp E k (n + 1) dec_Time [(.str a0)] =
  (callT (kp E k n strings_CutPrefix [(.str a0), (.str (str [45]))]) fun vt2 => (tupS vt2 fun vs3 vt4 => (tupB vt4 fun vq5 vt6 => (atNil vt6 (callT (kp E k n strings_Cut [(.str vs3), (.str (str [46]))]) fun vt8 => (tupS vt8 fun vs9 vt10 => (tupS vt10 fun vs11 vt12 => (tupB vt12 fun vq13 vt14 => (atNil vt14 (callT (kp E k n dec_natural [(.str vs9)]) fun vt16 => (tupI .u64 vt16 fun vn17 vt18 => (tupB vt18 fun vq19 vt20 => (atNil vt20 (bif (!vq19) then (some (.tup [(.agg [(.int .i64 (0 : Int)), (.int .i64 (0 : Int))]), (.int .u8 (15 : Int))])) else (bif vq13 then (callB (kp E k n dec_digits [(.str vs11)]) fun vq22 => (bif (!vq22) then (some (.tup [(.agg [(.int .i64 (0 : Int)), (.int .i64 (0 : Int))]), (.int .u8 (15 : Int))])) else (bif (decide ((((ByteArray.size vs11) : Nat) : Int) > (9 : Int))) then (some (.tup [(.agg [(.int .i64 (0 : Int)), (.int .i64 (0 : Int))]), (.int .u8 (15 : Int))])) else (bif vq13 then (callS (kp E k n strings_Repeat [(.str (str [48])), (.int .i64 (IntKind.wrap .i64 ((9 : Int) - (((ByteArray.size vs11) : Nat) : Int))))]) fun vs24 => (bif (decide ((ByteArray.size vs11) + (ByteArray.size vs24) ≤ 9223372036854775807)) then (callT (kp E k n strconv_ParseInt [(.str (vs11 ++ vs24)), (.int .i64 (10 : Int)), (.int .i64 (64 : Int))]) fun vt26 => (tupI .i64 vt26 fun vn27 vt28 => (tupV vt28 fun vr29 vt30 => (atNil vt30 (bif (!vq5) then (bif (decide ((Int.fdiv vn17 (2 ^ (min (Int.toNat (63 : Int)) (IntKind.bits .u64)))) > (0 : Int))) then (some (.tup [(.agg [(.int .i64 (0 : Int)), (.int .i64 (0 : Int))]), (.int .u8 (15 : Int))])) else (bif (!vq5) then (some (.tup [(.agg [(.int .i64 (IntKind.wrap .i64 vn17)), (.int .i64 vn27)]), (.int .u8 (0 : Int))])) else (bif (decide (vn27 = (0 : Int))) then (some (.tup [(.agg [(.int .i64 (IntKind.wrap .i64 (IntKind.wrap .u64 (0 - vn17)))), (.int .i64 vn27)]), (.int .u8 (0 : Int))])) else (bif (decide ((Int.fdiv vn17 (2 ^ (min (Int.toNat (63 : Int)) (IntKind.bits .u64)))) > (0 : Int))) then (some (.tup [(.agg [(.int .i64 (0 : Int)), (.int .i64 (0 : Int))]), (.int .u8 (15 : Int))])) else (some (.tup [(.agg [(.int .i64 (IntKind.wrap .i64 ((IntKind.wrap .i64 (0 - (IntKind.wrap .i64 vn17))) - (1 : Int)))), (.int .i64 (IntKind.wrap .i64 ((1000000000 : Int) - vn27)))]), (.int .u8 (0 : Int))])))))) else (bif (!vq5) then (some (.tup [(.agg [(.int .i64 (IntKind.wrap .i64 vn17)), (.int .i64 vn27)]), (.int .u8 (0 : Int))])) else (bif (decide (vn27 = (0 : Int))) then (some (.tup [(.agg [(.int .i64 (IntKind.wrap .i64 (IntKind.wrap .u64 (0 - vn17)))), (.int .i64 vn27)]), (.int .u8 (0 : Int))])) else (bif (decide ((Int.fdiv vn17 (2 ^ (min (Int.toNat (63 : Int)) (IntKind.bits .u64)))) > (0 : Int))) then (some (.tup [(.agg [(.int .i64 (0 : Int)), (.int .i64 (0 : Int))]), (.int .u8 (15 : Int))])) else (some (.tup [(.agg [(.int .i64 (IntKind.wrap .i64 ((IntKind.wrap .i64 (0 - (IntKind.wrap .i64 vn17))) - (1 : Int)))), (.int .i64 (IntKind.wrap .i64 ((1000000000 : Int) - vn27)))]), (.int .u8 (0 : Int))])))))))))) else none)) else (bif (!vq5) then (bif (decide ((Int.fdiv vn17 (2 ^ (min (Int.toNat (63 : Int)) (IntKind.bits .u64)))) > (0 : Int))) then (some (.tup [(.agg [(.int .i64 (0 : Int)), (.int .i64 (0 : Int))]), (.int .u8 (15 : Int))])) else (bif (!vq5) then (some (.tup [(.agg [(.int .i64 (IntKind.wrap .i64 vn17)), (.int .i64 (0 : Int))]), (.int .u8 (0 : Int))])) else (some (.tup [(.agg [(.int .i64 (IntKind.wrap .i64 (IntKind.wrap .u64 (0 - vn17)))), (.int .i64 (0 : Int))]), (.int .u8 (0 : Int))])))) else (bif (!vq5) then (some (.tup [(.agg [(.int .i64 (IntKind.wrap .i64 vn17)), (.int .i64 (0 : Int))]), (.int .u8 (0 : Int))])) else (some (.tup [(.agg [(.int .i64 (IntKind.wrap .i64 (IntKind.wrap .u64 (0 - vn17)))), (.int .i64 (0 : Int))]), (.int .u8 (0 : Int))])))))))) else (bif vq13 then (callS (kp E k n strings_Repeat [(.str (str [48])), (.int .i64 (IntKind.wrap .i64 ((9 : Int) - (((ByteArray.size vs11) : Nat) : Int))))]) fun vs32 => (bif (decide ((ByteArray.size vs11) + (ByteArray.size vs32) ≤ 9223372036854775807)) then (callT (kp E k n strconv_ParseInt [(.str (vs11 ++ vs32)), (.int .i64 (10 : Int)), (.int .i64 (64 : Int))]) fun vt34 => (tupI .i64 vt34 fun vn35 vt36 => (tupV vt36 fun vr37 vt38 => (atNil vt38 (bif (!vq5) then (bif (decide ((Int.fdiv vn17 (2 ^ (min (Int.toNat (63 : Int)) (IntKind.bits .u64)))) > (0 : Int))) then (some (.tup [(.agg [(.int .i64 (0 : Int)), (.int .i64 (0 : Int))]), (.int .u8 (15 : Int))])) else (bif (!vq5) then (some (.tup [(.agg [(.int .i64 (IntKind.wrap .i64 vn17)), (.int .i64 vn35)]), (.int .u8 (0 : Int))])) else (bif (decide (vn35 = (0 : Int))) then (some (.tup [(.agg [(.int .i64 (IntKind.wrap .i64 (IntKind.wrap .u64 (0 - vn17)))), (.int .i64 vn35)]), (.int .u8 (0 : Int))])) else (bif (decide ((Int.fdiv vn17 (2 ^ (min (Int.toNat (63 : Int)) (IntKind.bits .u64)))) > (0 : Int))) then (some (.tup [(.agg [(.int .i64 (0 : Int)), (.int .i64 (0 : Int))]), (.int .u8 (15 : Int))])) else (some (.tup [(.agg [(.int .i64 (IntKind.wrap .i64 ((IntKind.wrap .i64 (0 - (IntKind.wrap .i64 vn17))) - (1 : Int)))), (.int .i64 (IntKind.wrap .i64 ((1000000000 : Int) - vn35)))]), (.int .u8 (0 : Int))])))))) else (bif (!vq5) then (some (.tup [(.agg [(.int .i64 (IntKind.wrap .i64 vn17)), (.int .i64 vn35)]), (.int .u8 (0 : Int))])) else (bif (decide (vn35 = (0 : Int))) then (some (.tup [(.agg [(.int .i64 (IntKind.wrap .i64 (IntKind.wrap .u64 (0 - vn17)))), (.int .i64 vn35)]), (.int .u8 (0 : Int))])) else (bif (decide ((Int.fdiv vn17 (2 ^ (min (Int.toNat (63 : Int)) (IntKind.bits .u64)))) > (0 : Int))) then (some (.tup [(.agg [(.int .i64 (0 : Int)), (.int .i64 (0 : Int))]), (.int .u8 (15 : Int))])) else (some (.tup [(.agg [(.int .i64 (IntKind.wrap .i64 ((IntKind.wrap .i64 (0 - (IntKind.wrap .i64 vn17))) - (1 : Int)))), (.int .i64 (IntKind.wrap .i64 ((1000000000 : Int) - vn35)))]), (.int .u8 (0 : Int))])))))))))) else none)) else (bif (!vq5) then (bif (decide ((Int.fdiv vn17 (2 ^ (min (Int.toNat (63 : Int)) (IntKind.bits .u64)))) > (0 : Int))) then (some (.tup [(.agg [(.int .i64 (0 : Int)), (.int .i64 (0 : Int))]), (.int .u8 (15 : Int))])) else (bif (!vq5) then (some (.tup [(.agg [(.int .i64 (IntKind.wrap .i64 vn17)), (.int .i64 (0 : Int))]), (.int .u8 (0 : Int))])) else (some (.tup [(.agg [(.int .i64 (IntKind.wrap .i64 (IntKind.wrap .u64 (0 - vn17)))), (.int .i64 (0 : Int))]), (.int .u8 (0 : Int))])))) else (bif (!vq5) then (some (.tup [(.agg [(.int .i64 (IntKind.wrap .i64 vn17)), (.int .i64 (0 : Int))]), (.int .u8 (0 : Int))])) else (some (.tup [(.agg [(.int .i64 (IntKind.wrap .i64 (IntKind.wrap .u64 (0 - vn17)))), (.int .i64 (0 : Int))]), (.int .u8 (0 : Int))])))))))))))))))))))) := (kp_at (by kernel_rfl)).trans (by kernel_rfl)
/- oakum/dec.Print -/
/- oakum/dec.Text -/
/- oakum/oakumref04.Print -/
/- oakum/oakumref04.Text -/
/- oakum/oakumref04.Below -/
noncomputable def ref04_Below_bd : Code := Tryz.f137.body.getD .skip
noncomputable def ref04_Below_L0 (kap : FuncId → List AV → Option AV) (k : Nat) (k0 : Nat) (s0 : ByteArray) (s4 : Int) (s5 : Int) : Option AV :=
  loop (fun fr K => code ((bs E0 k).cfg kap ref04_Below) (sel ref04_Below_bd [1, 1, 1, 0, 1, 0, 0]) fr K) (canon ((bs E0 k).cfg kap ref04_Below) (firstReg (sel ref04_Below_bd [1, 1, 1, 0, 1, 0, 0]))) k0 (mkFr 46 [(0, (.str s0)), (4, (.int .i64 s4)), (5, (.int .i64 s5))] []) (plug ((bs E0 k).cfg kap ref04_Below) (retK ((bs E0 k).cfg kap ref04_Below) [] Tryz.f137 [] some) [.blk 0, .seqR (sel ref04_Below_bd [1, 1, 1, 1])])
theorem ref04_Below_L0_s (kap : FuncId → List AV → Option AV) (k : Nat) (k0 : Nat) (s0 : ByteArray) (s4 : Int) (s5 : Int) : ref04_Below_L0 kap k (k0 + 1) s0 s4 s5 =
  (bif (decide (s5 < (((ByteArray.size s0) : Nat) : Int))) then (bif ((decide ((0 : Int) ≤ s5)) && (decide (s5 < (((ByteArray.size s0) : Nat) : Int)))) then (bif (decide (s4 < (-922337203685477580 : Int))) then (some (.tup [(.int .i64 (0 : Int)), (.bool false)])) else (bif (decide (s4 = (-922337203685477580 : Int))) then (bif (decide ((IntKind.wrap .i64 ((IntKind.wrap .i64 (byteAt s0 (Int.toNat s5))) - (48 : Int))) > (8 : Int))) then (some (.tup [(.int .i64 (0 : Int)), (.bool false)])) else (ref04_Below_L0 kap k k0 s0 (IntKind.wrap .i64 ((IntKind.wrap .i64 ((10 : Int) * s4)) - (IntKind.wrap .i64 ((IntKind.wrap .i64 (byteAt s0 (Int.toNat s5))) - (48 : Int))))) (IntKind.wrap .i64 (s5 + (1 : Int))))) else (ref04_Below_L0 kap k k0 s0 (IntKind.wrap .i64 ((IntKind.wrap .i64 ((10 : Int) * s4)) - (IntKind.wrap .i64 ((IntKind.wrap .i64 (byteAt s0 (Int.toNat s5))) - (48 : Int))))) (IntKind.wrap .i64 (s5 + (1 : Int)))))) else none) else (some (.tup [(.int .i64 s4), (.bool true)]))) := by kernel_rfl
theorem ref04_Below_eq {E : Ext} [Core E] (k n : Nat) (a0 : ByteArray) : kp E k (n + 1) ref04_Below [(.str a0)] =
  (callB (kp E k n ref04_only [(.str a0)]) fun vq2 => (bif (!vq2) then (some (.tup [(.int .i64 (0 : Int)), (.bool false)])) else (bif (decide ((0 : Int) < (((ByteArray.size a0) : Nat) : Int))) then (bif (decide ((byteAt a0 0) = (48 : Int))) then (bif (decide ((((ByteArray.size a0) : Nat) : Int) > (1 : Int))) then (some (.tup [(.int .i64 (0 : Int)), (.bool false)])) else (ref04_Below_L0 (kp E k n) k k a0 (0 : Int) (0 : Int))) else (ref04_Below_L0 (kp E k n) k k a0 (0 : Int) (0 : Int))) else none))) := (kp_at (by kernel_rfl)).trans (by kernel_rfl)
/- oakum/oakumref04.only -/
noncomputable def ref04_only_bd : Code := Tryz.f138.body.getD .skip
noncomputable def ref04_only_L0 (kap : FuncId → List AV → Option AV) (k : Nat) (k0 : Nat) (s0 : ByteArray) (s3 : Int) : Option AV :=
  loop (fun fr K => code ((bs E0 k).cfg kap ref04_only) (sel ref04_only_bd [1, 0, 1, 0, 0]) fr K) (canon ((bs E0 k).cfg kap ref04_only) (firstReg (sel ref04_only_bd [1, 0, 1, 0, 0]))) k0 (mkFr 23 [(0, (.str s0)), (3, (.int .i64 s3))] []) (plug ((bs E0 k).cfg kap ref04_only) (retK ((bs E0 k).cfg kap ref04_only) [] Tryz.f138 [] some) [.blk 0, .seqR (sel ref04_only_bd [1, 1])])
theorem ref04_only_L0_s (kap : FuncId → List AV → Option AV) (k : Nat) (k0 : Nat) (s0 : ByteArray) (s3 : Int) : ref04_only_L0 kap k (k0 + 1) s0 s3 =
  (bif (decide (s3 < (((ByteArray.size s0) : Nat) : Int))) then (bif ((decide ((0 : Int) ≤ s3)) && (decide (s3 < (((ByteArray.size s0) : Nat) : Int)))) then (bif (decide ((byteAt s0 (Int.toNat s3)) < (48 : Int))) then (some (.bool false)) else (bif ((decide ((0 : Int) ≤ s3)) && (decide (s3 < (((ByteArray.size s0) : Nat) : Int)))) then (bif (decide ((byteAt s0 (Int.toNat s3)) > (57 : Int))) then (some (.bool false)) else (ref04_only_L0 kap k k0 s0 (IntKind.wrap .i64 (s3 + (1 : Int))))) else none)) else none) else (some (.bool (decide ((((ByteArray.size s0) : Nat) : Int) > (0 : Int)))))) := by kernel_rfl
theorem ref04_only_eq {E : Ext} [Core E] (k n : Nat) (a0 : ByteArray) : kp E k (n + 1) ref04_only [(.str a0)] =
  (ref04_only_L0 (kp E k n) k k a0 (0 : Int)) := (kp_at (by kernel_rfl)).trans (by kernel_rfl)
/- oakum/dec.Number -/
theorem dec_Number_eq {E : Ext} [Core E] (k n : Nat) (a0 : ByteArray) : kp E k (n + 1) dec_Number [(.str a0)] =
  (callT (kp E k n dec_natural [(.str a0)]) fun vt2 => (tupI .u64 vt2 fun vn3 vt4 => (tupB vt4 fun vq5 vt6 => (atNil vt6 (bif (!vq5) then (some (.tup [(.int .i64 (0 : Int)), (.int .u8 (15 : Int))])) else (bif (decide ((Int.fdiv vn3 (2 ^ (min (Int.toNat (63 : Int)) (IntKind.bits .u64)))) > (0 : Int))) then (some (.tup [(.int .i64 (0 : Int)), (.int .u8 (15 : Int))])) else (some (.tup [(.int .i64 (IntKind.wrap .i64 vn3)), (.int .u8 (0 : Int))])))))))) := (kp_at (by kernel_rfl)).trans (by kernel_rfl)
/- strings.Cut -/
theorem strings_Cut_eq {E : Ext} [Core E] (k n : Nat) (a0 : ByteArray) (a1 : ByteArray) : kp E k (n + 1) strings_Cut [(.str a0), (.str a1)] =
  (callT (kp E k n stringslite_Cut [(.str a0), (.str a1)]) fun vt2 => (tupS vt2 fun vs3 vt4 => (tupS vt4 fun vs5 vt6 => (tupB vt6 fun vq7 vt8 => (atNil vt8 (some (.tup [(.str vs3), (.str vs5), (.bool vq7)]))))))) := (kp_at (by kernel_rfl)).trans (by kernel_rfl)
/- oakum/dec.natural -/
theorem dec_natural_eq {E : Ext} [Core E] (k n : Nat) (a0 : ByteArray) : kp E k (n + 1) dec_natural [(.str a0)] =
  (callB (kp E k n dec_digits [(.str a0)]) fun vq2 => (bif (!vq2) then (some (.tup [(.int .u64 (0 : Int)), (.bool false)])) else (bif (decide ((0 : Int) < (((ByteArray.size a0) : Nat) : Int))) then (bif (decide ((byteAt a0 0) = (48 : Int))) then (bif (decide ((((ByteArray.size a0) : Nat) : Int) > (1 : Int))) then (some (.tup [(.int .u64 (0 : Int)), (.bool false)])) else (callT (kp E k n strconv_ParseUint [(.str a0), (.int .i64 (10 : Int)), (.int .i64 (64 : Int))]) fun vt4 => (tupI .u64 vt4 fun vn5 vt6 => (tupV vt6 fun vr7 vt8 => (atNil vt8 (nilB vr7 fun q9 => (bif q9 then (some (.tup [(.int .u64 vn5), (.bool (decide (vn5 ≤ (9223372036854775808 : Int))))])) else (some (.tup [(.int .u64 vn5), (.bool false)]))))))))) else (callT (kp E k n strconv_ParseUint [(.str a0), (.int .i64 (10 : Int)), (.int .i64 (64 : Int))]) fun vt11 => (tupI .u64 vt11 fun vn12 vt13 => (tupV vt13 fun vr14 vt15 => (atNil vt15 (nilB vr14 fun q16 => (bif q16 then (some (.tup [(.int .u64 vn12), (.bool (decide (vn12 ≤ (9223372036854775808 : Int))))])) else (some (.tup [(.int .u64 vn12), (.bool false)]))))))))) else none))) := (kp_at (by kernel_rfl)).trans (by kernel_rfl)
/- oakum/dec.digits -/
noncomputable def dec_digits_bd : Code := Tryz.f170.body.getD .skip
noncomputable def dec_digits_L0 (kap : FuncId → List AV → Option AV) (k : Nat) (k0 : Nat) (s0 : ByteArray) (s5 : Int) (s6 : Int) : Option AV :=
  loop (fun fr K => code ((bs E0 k).cfg kap dec_digits) (sel dec_digits_bd [1, 0, 1, 0, 0]) fr K) (canon ((bs E0 k).cfg kap dec_digits) (firstReg (sel dec_digits_bd [1, 0, 1, 0, 0]))) k0 (mkFr 22 [(0, (.str s0)), (5, (.int .i64 s5)), (6, (.int .i64 s6))] []) (plug ((bs E0 k).cfg kap dec_digits) (retK ((bs E0 k).cfg kap dec_digits) [] Tryz.f170 [] some) [.blk 0, .seqR (sel dec_digits_bd [1, 1])])
theorem dec_digits_L0_s (kap : FuncId → List AV → Option AV) (k : Nat) (k0 : Nat) (s0 : ByteArray) (s5 : Int) (s6 : Int) : dec_digits_L0 kap k (k0 + 1) s0 s5 s6 =
  (bif (decide (s6 < s5)) then (bif ((decide ((0 : Int) ≤ s6)) && (decide (s6 < (((ByteArray.size s0) : Nat) : Int)))) then (bif (decide ((byteAt s0 (Int.toNat s6)) < (48 : Int))) then (some (.bool false)) else (bif ((decide ((0 : Int) ≤ s6)) && (decide (s6 < (((ByteArray.size s0) : Nat) : Int)))) then (bif (decide ((byteAt s0 (Int.toNat s6)) > (57 : Int))) then (some (.bool false)) else (dec_digits_L0 kap k k0 s0 s5 (IntKind.wrap .i64 (s6 + (1 : Int))))) else none)) else none) else (some (.bool (!(decide (s0 = (str []))))))) := by kernel_rfl
theorem dec_digits_eq {E : Ext} [Core E] (k n : Nat) (a0 : ByteArray) : kp E k (n + 1) dec_digits [(.str a0)] =
  (dec_digits_L0 (kp E k n) k k a0 (((ByteArray.size a0) : Nat) : Int) (0 : Int)) := (kp_at (by kernel_rfl)).trans (by kernel_rfl)
/- oakum/dec.Right -/
/- oakum/oakumref04.Right -/
/- oakum/oakumref04.Digits -/
/- internal/stringslite.CutPrefix -/
/- internal/stringslite.Cut -/
theorem stringslite_Cut_eq {E : Ext} [Core E] (k n : Nat) (a0 : ByteArray) (a1 : ByteArray) : kp E k (n + 1) stringslite_Cut [(.str a0), (.str a1)] =
  (callI .i64 (kp E k n stringslite_Index [(.str a0), (.str a1)]) fun vn2 => (bif (decide (vn2 ≥ (0 : Int))) then (bif ((decide ((0 : Int) ≤ vn2)) && (decide (vn2 ≤ (((ByteArray.size a0) : Nat) : Int)))) then (bif ((decide ((0 : Int) ≤ (IntKind.wrap .i64 (vn2 + (((ByteArray.size a1) : Nat) : Int))))) && (decide ((IntKind.wrap .i64 (vn2 + (((ByteArray.size a1) : Nat) : Int))) ≤ (((ByteArray.size a0) : Nat) : Int)))) then (some (.tup [(.str (ByteArray.extract a0 0 (Int.toNat vn2))), (.str (ByteArray.extract a0 (Int.toNat (IntKind.wrap .i64 (vn2 + (((ByteArray.size a1) : Nat) : Int)))) (ByteArray.size a0))), (.bool true)])) else none) else none) else (some (.tup [(.str a0), (.str (str [])), (.bool false)])))) := (kp_at (by kernel_rfl)).trans (by kernel_rfl)
end Go.Proofs.YtogfcfgfkggmlaaGreatDoor.Eng.U


/- Numbers as texts, in plain Lean. -/
set_option linter.unusedVariables false
set_option linter.unusedSimpArgs false
namespace Go.Proofs.YtogfcfgfkggmlaaGreatDoor.P04
open Go

def isDig (c : UInt8) : Bool := decide (48 ≤ c.toNat) && decide (c.toNat ≤ 57)
def digs (l : List UInt8) : Bool := l.all isDig && !l.isEmpty
def valA (acc : Nat) (l : List UInt8) : Nat := l.foldl (fun a c => a * 10 + (c.toNat - 48)) acc
def lead (l : List UInt8) : Bool := decide (l.headD 0 = 48) && decide (1 < l.length)
def natOk (l : List UInt8) : Bool := digs l && !lead l && decide (valA 0 l ≤ 9223372036854775808)
theorem valA_ge : ∀ (l : List UInt8) (acc : Nat), acc ≤ valA acc l
  | [], acc => Nat.le_refl _
  | c :: l, acc => by
    have := valA_ge l (acc * 10 + (c.toNat - 48))
    simp only [valA, List.foldl_cons] at this ⊢
    omega
theorem valA_cons (c : UInt8) (l : List UInt8) (acc : Nat) : valA acc (c :: l) = valA (acc * 10 + (c.toNat - 48)) l := by
  unfold valA
  rw [List.foldl_cons]
theorem dig_iff {c : UInt8} : isDig c = true ↔ 48 ≤ c.toNat ∧ c.toNat ≤ 57 := by simp [isDig]
theorem parse_eq {M : Nat} (hM : M = 18446744073709551615) (l : List UInt8) : ∀ (acc : Nat), l.all isDig = true → acc ≤ M → Lib.parseUintM M acc l = if valA acc l ≤ M then .ok (valA acc l) else .range := by
  induction l with
  | nil =>
    intro acc _ h
    have e : valA acc [] = acc := rfl
    rw [e, if_pos h]
    rfl
  | cons c l ih =>
    intro acc hd h
    rw [List.all_cons, Bool.and_eq_true] at hd
    have hc := dig_iff.1 hd.1
    have hg := valA_ge l (acc * 10 + (c.toNat - 48))
    have e : Lib.parseUintM M acc (c :: l) = if 48 ≤ c.toNat ∧ c.toNat ≤ 57 then (if 1844674407370955162 ≤ acc then .range else if M < acc * 10 + (c.toNat - 48) then .range else Lib.parseUintM M (acc * 10 + (c.toNat - 48)) l) else Lib.parseUintM M 0 [47] := rfl
    rw [e, if_pos hc, valA_cons]
    by_cases h1 : 1844674407370955162 ≤ acc
    · rw [if_pos h1, if_neg (by omega)]
    · rw [if_neg h1]
      by_cases h2 : M < acc * 10 + (c.toNat - 48)
      · rw [if_pos h2, if_neg (by omega)]
      · rw [if_neg h2, ih _ hd.2 (by omega)]
theorem parseB_eq {l : List UInt8} (hd : digs l = true) : Lib.parseUintB 64 l = if valA 0 l ≤ 18446744073709551615 then .ok (valA 0 l) else .range := by
  simp only [digs, Bool.and_eq_true, Bool.not_eq_true', List.isEmpty_eq_false_iff] at hd
  rw [Lib.parseUintB, if_neg hd.2]
  exact parse_eq (by decide) l 0 hd.1 (by omega)
/-- Where the first point stands; the length, where there is none. -/
def dot (l : List UInt8) : Nat := l.findIdx (· == 46)
theorem index_dot : ∀ l : List UInt8, Lib.indexByte l 46 = if dot l < l.length then (dot l : Int) else -1
  | [] => rfl
  | c :: l => by
    have ih := index_dot l
    unfold Lib.indexByte dot
    rw [List.findIdx_cons]
    by_cases hc : (c == 46) = true
    · simp [hc]
    · rw [if_neg hc, Bool.eq_false_iff.2 hc, cond_false, ih]
      unfold dot
      have : List.findIdx (· == 46) l ≤ l.length := List.findIdx_le_length
      simp only [List.length_cons]
      by_cases h : List.findIdx (· == 46) l < l.length
      · rw [if_pos h, if_pos (show List.findIdx (· == 46) l + 1 < l.length + 1 by omega)]
        rw [if_neg (by simp)]
        omega
      · rw [if_neg h, if_neg (show ¬ List.findIdx (· == 46) l + 1 < l.length + 1 by omega)]
        rfl
/-- The time that a text is, behind its sign. -/
def timeB (minus : Bool) (t : List UInt8) : Option (Int × Int) :=
  let a := t.take (dot t)
  let b := t.drop (dot t + 1)
  let nano := if dot t < t.length then valA 0 (b ++ List.replicate (9 - b.length) 48) else 0
  let v := valA 0 a
  if natOk a = false then none
  else if dot t < t.length ∧ ¬ (digs b = true ∧ b.length ≤ 9) then none
  else if minus = false then (if 9223372036854775807 < v then none else some ((v : Int), (nano : Int)))
  else if nano = 0 then some (-(v : Int), 0)
  else if 9223372036854775807 < v then none
  else some (-(v : Int) - 1, 1000000000 - (nano : Int))
def timeL (s : List UInt8) : Option (Int × Int) := timeB (decide (s.head? = some 45)) (if s.head? = some 45 then s.drop 1 else s)
theorem valA_lt : ∀ (l : List UInt8) (acc m : Nat), l.all isDig = true → acc < 10 ^ m → valA acc l < 10 ^ (m + l.length)
  | [], acc, m, _, h => h
  | c :: l, acc, m, hd, h => by
    rw [List.all_cons, Bool.and_eq_true] at hd
    have hc := dig_iff.1 hd.1
    have := valA_lt l (acc * 10 + (c.toNat - 48)) (m + 1) hd.2 (by rw [Nat.pow_succ]; omega)
    rw [valA_cons, List.length_cons, show m + (l.length + 1) = m + 1 + l.length from by omega]
    exact this
theorem valA_app (a b : List UInt8) (acc : Nat) : valA acc (a ++ b) = valA (valA acc a) b := by simp [valA, List.foldl_append]
/-! Printing. -/
end Go.Proofs.YtogfcfgfkggmlaaGreatDoor.P04


/- The functions of the Dec laws in plain words. -/
set_option linter.unusedVariables false
set_option linter.unusedSectionVars false
set_option linter.unusedSimpArgs false
namespace Go.Proofs.YtogfcfgfkggmlaaGreatDoor.Eng.U
open Go Go.Proofs Go.Proofs.YtogfcfgfkggmlaaGreatDoor.Eng Go.Proofs.YtogfcfgfkggmlaaGreatDoor.P04
variable {E : Ext} [Core E] {k n : Nat}

def endI : Lib.NumEnd Int → Int → AV
  | .ok v, _ => .tup [.int .i64 v, .nili]
  | .range, d => .tup [.int .i64 d, .ifc]
  | _, _ => .tup [.int .i64 0, .ifc]
def endU : Lib.NumEnd Nat → AV
  | .ok v => .tup [.int .u64 v, .nili]
  | .range => .tup [.int .u64 18446744073709551615, .ifc]
  | _ => .tup [.int .u64 0, .ifc]
class HasNum (E : Ext) : Prop where
  fmt : ∀ (k n : Nat) (v : Int), -9223372036854775808 ≤ v → v ≤ 9223372036854775807 → kp E k n strconv_FormatInt [.int .i64 v, .int .i64 10] = some (.str (str (Lib.itoa v)))
  itoa : ∀ (k n : Nat) (v : Int), -9223372036854775808 ≤ v → v ≤ 9223372036854775807 → kp E k n strconv_Itoa [.int .i64 v] = some (.str (str (Lib.itoa v)))
  cutP : ∀ (k n : Nat) (s p : List UInt8), kp E k n strings_CutPrefix [.str (str s), .str (str p)] = some (.tup [.str (str (Lib.trimPrefix s p)), .bool (Lib.hasPrefix s p)])
  trimR : ∀ (k n : Nat) (s : List UInt8) (x : UInt8), x.toNat < 128 → s.length ≤ 9223372036854775807 → kp E k n strings_TrimRight [.str (str s), .str (str [x])] = some (.str (str (Lib.trimRightB s x)))
  index : ∀ (k n : Nat) (s : List UInt8) (x : UInt8), kp E k n stringslite_Index [.str (str s), .str (str [x])] = some (.int .i64 (Lib.indexByte s x))
  indexB : ∀ (k n : Nat) (s : List UInt8) (c : Int), kp E k n strings_IndexByte [.str (str s), .int .u8 c] = some (.int .i64 (Lib.indexByte s c.toNat.toUInt8))
  rep : ∀ (k n : Nat) (s : List UInt8) (c : Nat), c ≤ 9223372036854775807 → s.length * c ≤ 140737488355328 → kp E k n strings_Repeat [.str (str s), .int .i64 c] = some (.str (str (Lib.repeatL s c)))
  pint : ∀ (k n : Nat) (s : List UInt8), s.length ≤ 281474976710656 → kp E k n strconv_ParseInt [.str (str s), .int .i64 10, .int .i64 64] = some (endI (Lib.parseIntB 64 s) (Lib.intSat 64 s))
  puint : ∀ (k n : Nat) (s : List UInt8), s.length ≤ 281474976710656 → kp E k n strconv_ParseUint [.str (str s), .int .i64 10, .int .i64 64] = some (endU (Lib.parseUintB 64 s))

theorem digits_loop (kap : FuncId → List AV → Option AV) : ∀ (suf pre : List UInt8) (k0 : Nat), suf.length < k0 → (pre ++ suf).length < 1000000000000000 →
    dec_digits_L0 kap k k0 (str (pre ++ suf)) (((pre ++ suf).length : Nat) : Int) ((pre.length : Nat) : Int) = some (.bool (suf.all isDig && !(pre ++ suf).isEmpty))
  | [], pre, k0 + 1, h, hb => by
    rw [dec_digits_L0_s, nlt, decide_eq_false (by simp), cond_false, str_dec]
    cases pre <;> simp
  | c :: suf, pre, k0 + 1, h, hb => by
    rw [dec_digits_L0_s]
    rw [mid_len] at hb
    have hg : (pre ++ c :: suf).getD pre.length 0 = c := mid_byte _ _ _
    rw [str_size, mid_len, dec0, nlt, decide_eq_true (by omega), Bool.true_and, cond_true, cond_true, cond_true, Int.toNat_natCast, str_byte, hg, List.all_cons]
    by_cases h1 : 48 ≤ c.toNat
    · rw [bif_f (by omega)]
      by_cases h2 : c.toNat ≤ 57
      · rw [bif_f (by omega), wrap1 (by omega)]
        have := digits_loop kap suf (pre ++ [c]) k0 (by simpa using h) (by simp; omega)
        rw [List.append_assoc, List.singleton_append, mid_len, List.length_append, List.length_singleton] at this
        rw [this, dig_iff.2 ⟨h1, h2⟩, Bool.true_and]
      · rw [bif_t (by omega), show isDig c = false from by simp [isDig]; omega]
        rfl
    · rw [bif_t (by omega), show isDig c = false from by simp [isDig]; omega]
      rfl
theorem digits_k (l : List UInt8) (hb : l.length < 1000000000000000) (hk : l.length < k) : kp E k (n + 1) dec_digits [.str (str l)] = some (.bool (digs l)) := by
  rw [dec_digits_eq, str_size]
  exact digits_loop _ l [] k hk hb
theorem only_loop (kap : FuncId → List AV → Option AV) : ∀ (suf pre : List UInt8) (k0 : Nat), suf.length < k0 → (pre ++ suf).length < 1000000000000000 →
    ref04_only_L0 kap k k0 (str (pre ++ suf)) ((pre.length : Nat) : Int) = some (.bool (suf.all isDig && !(pre ++ suf).isEmpty))
  | [], pre, k0 + 1, h, hb => by
    rw [ref04_only_L0_s, str_size, nlt, decide_eq_false (by simp), cond_false]
    cases pre with
    | nil => rfl
    | cons c l => rw [decide_eq_true (by simp)]; simp
  | c :: suf, pre, k0 + 1, h, hb => by
    rw [ref04_only_L0_s]
    rw [mid_len] at hb
    have hg : (pre ++ c :: suf).getD pre.length 0 = c := mid_byte _ _ _
    rw [str_size, mid_len, dec0, nlt, decide_eq_true (by omega), Bool.true_and, cond_true, cond_true, cond_true, Int.toNat_natCast, str_byte, hg, List.all_cons]
    by_cases h1 : 48 ≤ c.toNat
    · rw [bif_f (by omega)]
      by_cases h2 : c.toNat ≤ 57
      · rw [bif_f (by omega), wrap1 (by omega)]
        have := only_loop kap suf (pre ++ [c]) k0 (by simpa using h) (by simp; omega)
        rw [List.append_assoc, List.singleton_append, List.length_append, List.length_singleton] at this
        rw [this, dig_iff.2 ⟨h1, h2⟩, Bool.true_and]
      · rw [bif_t (by omega), show isDig c = false from by simp [isDig]; omega]
        rfl
    · rw [bif_t (by omega), show isDig c = false from by simp [isDig]; omega]
      rfl
theorem only_k (l : List UInt8) (hb : l.length < 1000000000000000) (hk : l.length < k) : kp E k (n + 1) ref04_only [.str (str l)] = some (.bool (digs l)) := by
  rw [ref04_only_eq]
  exact only_loop _ l [] k hk hb
theorem below_loop (kap : FuncId → List AV → Option AV) : ∀ (suf pre : List UInt8) (k0 acc : Nat), suf.length < k0 → (pre ++ suf).length < 1000000000000000 → suf.all isDig = true → acc ≤ 9223372036854775808 →
    ref04_Below_L0 kap k k0 (str (pre ++ suf)) (-(acc : Int)) ((pre.length : Nat) : Int) = some (if valA acc suf ≤ 9223372036854775808 then .tup [.int .i64 (-(valA acc suf : Int)), .bool true] else .tup [.int .i64 0, .bool false])
  | [], pre, k0 + 1, acc, h, hb, hd, ha => by
    rw [ref04_Below_L0_s, str_size, nlt, decide_eq_false (by simp), cond_false]
    have e : valA acc [] = acc := rfl
    rw [e, if_pos ha]
  | c :: suf, pre, k0 + 1, acc, h, hb, hd, ha => by
    rw [ref04_Below_L0_s]
    rw [mid_len] at hb
    rw [List.all_cons, Bool.and_eq_true] at hd
    have hc := dig_iff.1 hd.1
    have hg : (pre ++ c :: suf).getD pre.length 0 = c := mid_byte _ _ _
    rw [str_size, mid_len, dec0, nlt, decide_eq_true (by omega), Bool.true_and, cond_true, cond_true, Int.toNat_natCast, str_byte, hg, i64w (x := ((c.toNat : Nat) : Int)) (by omega), i64w (x := ((c.toNat : Nat) : Int) - 48) (by omega), valA_cons]
    have hge := valA_ge suf (acc * 10 + (c.toNat - 48))
    have next : acc * 10 + (c.toNat - 48) ≤ 9223372036854775808 → ref04_Below_L0 kap k k0 (str (pre ++ c :: suf)) (IntKind.wrap .i64 ((IntKind.wrap .i64 ((10 : Int) * -(acc : Int))) - (((c.toNat : Nat) : Int) - 48))) (IntKind.wrap .i64 (((pre.length : Nat) : Int) + 1)) = some (if valA (acc * 10 + (c.toNat - 48)) suf ≤ 9223372036854775808 then .tup [.int .i64 (-(valA (acc * 10 + (c.toNat - 48)) suf : Int)), .bool true] else .tup [.int .i64 0, .bool false]) := by
      intro hle
      have := below_loop kap suf (pre ++ [c]) k0 (acc * 10 + (c.toNat - 48)) (by simpa using h) (by simp; omega) hd.2 hle
      rw [List.append_assoc, List.singleton_append, List.length_append, List.length_singleton] at this
      rw [← this, wrap1 (by omega), i64w (x := 10 * -(acc : Int)) (by omega), i64w (by omega)]
      congr 1
      omega
    by_cases h1 : 922337203685477580 < acc
    · rw [bif_t (by omega), if_neg (by omega)]
    · rw [bif_f (by omega)]
      by_cases h2 : acc = 922337203685477580
      · rw [bif_t (by omega)]
        by_cases h3 : 8 < c.toNat - 48
        · rw [bif_t (by omega), if_neg (by omega)]
        · rw [bif_f (by omega)]
          exact next (by omega)
      · rw [bif_f (by omega)]
        exact next (by omega)
theorem head_lead (l : List UInt8) (hl : l ≠ []) : decide (l.getD 0 0 = 48) = decide (l.headD 0 = 48) := by cases l <;> simp at hl ⊢
theorem digs_ne {l : List UInt8} (h : digs l = true) : l ≠ [] := by
  intro e
  subst e
  simp [digs] at h
theorem digs_all {l : List UInt8} (h : digs l = true) : l.all isDig = true := by
  unfold digs at h
  rw [Bool.and_eq_true] at h
  exact h.1
theorem byte48 (c : UInt8) : decide (((c.toNat : Nat) : Int) = (48 : Int)) = decide (c = 48) := byte_is c 48 (by omega)
theorem below_k (l : List UInt8) (hb : l.length < 1000000000000000) (hk : l.length < k) : kp E k (n + 2) ref04_Below [.str (str l)] = some (.tup [.int .i64 (if natOk l then -(valA 0 l : Int) else 0), .bool (natOk l)]) := by
  rw [ref04_Below_eq, only_k l hb hk, callB_ok]
  unfold natOk
  cases hd : digs l with
  | false => rfl
  | true =>
    have hne := digs_ne hd
    have hpos : 0 < l.length := List.length_pos_iff.2 hne
    have hloop := below_loop (k := k) (kp E k (n + 1)) l [] k 0 hk hb (digs_all hd) (by omega)
    rw [List.nil_append] at hloop
    have e0 : (-((0 : Nat) : Int)) = 0 := rfl
    have e1 : ((([] : List UInt8).length : Nat) : Int) = 0 := rfl
    rw [e0, e1] at hloop
    rw [Bool.not_true, cond_false, str_size, bif_t (by omega), str_byte, byte48, head_lead l hne, hloop]
    unfold lead
    by_cases h1 : l.headD 0 = 48
    · rw [decide_eq_true h1, cond_true]
      by_cases h2 : 1 < l.length
      · rw [bif_t (by omega), decide_eq_true h2]
        rfl
      · rw [bif_f (by omega), decide_eq_false h2]
        simp only [Bool.and_false, Bool.not_false, Bool.and_true, Bool.true_and]
        by_cases h3 : valA 0 l ≤ 9223372036854775808
        · rw [if_pos h3, decide_eq_true h3]; rfl
        · rw [if_neg h3, decide_eq_false h3]; rfl
    · rw [decide_eq_false h1, cond_false]
      simp only [Bool.false_and, Bool.not_false, Bool.and_true, Bool.true_and]
      by_cases h3 : valA 0 l ≤ 9223372036854775808
      · rw [if_pos h3, decide_eq_true h3]; rfl
      · rw [if_neg h3, decide_eq_false h3]; rfl
theorem natural_k [HasNum E] (l : List UInt8) (hb : l.length < 100000000000000) (hk : l.length < k) : ∃ m : Int, kp E k (n + 2) dec_natural [.str (str l)] = some (.tup [.int .u64 m, .bool (natOk l)]) ∧ (natOk l = true → m = (valA 0 l : Int)) := by
  rw [dec_natural_eq, digits_k l (by omega) hk, callB_ok]
  unfold natOk
  cases hd : digs l with
  | false => exact ⟨0, rfl, fun h => by cases h⟩
  | true =>
    have hne := digs_ne hd
    have hpos : 0 < l.length := List.length_pos_iff.2 hne
    rw [Bool.not_true, cond_false, str_size, bif_t (by omega), str_byte, byte48, head_lead l hne, HasNum.puint k (n + 1) l (by omega), parseB_eq hd]
    have go : ∃ m : Int, (callT (β := AV) (some (endU (if valA 0 l ≤ 18446744073709551615 then Lib.NumEnd.ok (valA 0 l) else .range))) fun vt11 => (tupI .u64 vt11 fun vn12 vt13 => (tupV vt13 fun vr14 vt15 => (atNil vt15 (nilB vr14 fun q16 => (bif q16 then (some (.tup [(.int .u64 vn12), (.bool (decide (vn12 ≤ (9223372036854775808 : Int))))])) else (some (.tup [(.int .u64 vn12), (.bool false)])))))))) = some (.tup [.int .u64 m, .bool (decide (valA 0 l ≤ 9223372036854775808))]) ∧ (valA 0 l ≤ 9223372036854775808 → m = (valA 0 l : Int)) := by
      by_cases h3 : valA 0 l ≤ 18446744073709551615
      · rw [if_pos h3]
        refine ⟨(valA 0 l : Int), ?_, fun _ => rfl⟩
        have : decide (((valA 0 l : Nat) : Int) ≤ 9223372036854775808) = decide (valA 0 l ≤ 9223372036854775808) := by rw [decide_eq_decide]; omega
        rw [← this]
        rfl
      · rw [if_neg h3]
        refine ⟨18446744073709551615, ?_, fun h => by omega⟩
        rw [decide_eq_false (by omega)]
        rfl
    obtain ⟨m, g1, g2⟩ := go
    unfold lead
    by_cases h1 : l.headD 0 = 48
    · rw [decide_eq_true h1, cond_true]
      by_cases h2 : 1 < l.length
      · rw [bif_t (by omega), decide_eq_true h2]
        exact ⟨0, rfl, fun h => by simp at h⟩
      · rw [bif_f (by omega), decide_eq_false h2, g1]
        exact ⟨m, by simp, fun h => g2 (by simpa using h)⟩
    · rw [decide_eq_false h1, cond_false, g1]
      exact ⟨m, by simp, fun h => g2 (by simpa using h)⟩
end Go.Proofs.YtogfcfgfkggmlaaGreatDoor.Eng.U


/- The functions of the Dec laws in plain words, part 2: printing. -/
set_option linter.unusedVariables false
set_option linter.unusedSectionVars false
set_option linter.unusedSimpArgs false
namespace Go.Proofs.YtogfcfgfkggmlaaGreatDoor.Eng.U
open Go Go.Proofs Go.Proofs.YtogfcfgfkggmlaaGreatDoor.Eng Go.Proofs.YtogfcfgfkggmlaaGreatDoor.P04
variable {E : Ext} [Core E] [HasNum E] {k n : Nat}

def rightT (t : Int) : Bool := decide (0 ≤ t) && decide (t < 1000000000)
theorem ext_one (c : UInt8) (l : List UInt8) : ByteArray.extract (str (c :: l)) 1 (l.length + 1) = str l := by
  rw [str_ext]
  simp
end Go.Proofs.YtogfcfgfkggmlaaGreatDoor.Eng.U


/- The functions of the Dec laws in plain words, part 3: reading. -/
set_option linter.unusedVariables false
set_option linter.unusedSectionVars false
set_option linter.unusedSimpArgs false
namespace Go.Proofs.YtogfcfgfkggmlaaGreatDoor.Eng.U
open Go Go.Proofs Go.Proofs.YtogfcfgfkggmlaaGreatDoor.Eng Go.Proofs.YtogfcfgfkggmlaaGreatDoor.P04
variable {E : Ext} [Core E] [HasNum E] {k n : Nat}

theorem dot_le (t : List UInt8) : dot t ≤ t.length := List.findIdx_le_length
theorem cut_k (t : List UInt8) (ht : t.length < 1000000000000) : kp E k (n + 2) strings_Cut [.str (str t), .str (str [46])] = some (.tup [.str (str (t.take (dot t))), .str (str (t.drop (dot t + 1))), .bool (decide (dot t < t.length))]) := by
  have hd := dot_le t
  rw [strings_Cut_eq, stringslite_Cut_eq, HasNum.index k n t 46, callI_ok, index_dot]
  by_cases h : dot t < t.length
  · rw [if_pos h, decide_eq_true h, bif_t (by omega), str_size, str_size, List.length_singleton, wrapP (by omega) (by omega), bif_a, bif_t (by omega), bif_t (by omega), bif_a, bif_t (by omega), bif_t (by omega), Int.toNat_natCast, Int.toNat_natCast, str_ext, str_ext, List.take_length, List.drop_zero]
    rfl
  · rw [if_neg h, decide_eq_false h, bif_f (by omega), List.take_of_length_le (by omega), List.drop_of_length_le (by omega)]
    rfl
theorem trim_minus (s : List UInt8) : Lib.trimPrefix s [45] = (if s.head? = some 45 then s.drop 1 else s) ∧ Lib.hasPrefix s [45] = decide (s.head? = some 45) := by
  have h : Lib.hasPrefix s [45] = decide (s.head? = some 45) := by
    unfold Lib.hasPrefix
    cases s with
    | nil => rfl
    | cons c s =>
      simp only [List.isPrefixOf, List.head?_cons, Option.some.injEq, Bool.and_true]
      rw [Bool.eq_iff_iff, beq_iff_eq, decide_eq_true_eq]
      exact eq_comm
  refine ⟨?_, h⟩
  unfold Lib.trimPrefix
  rw [h]
  by_cases hs : s.head? = some 45
  · rw [if_pos hs, if_pos (decide_eq_true hs)]; rfl
  · rw [if_neg hs, if_neg (by simpa using hs)]
theorem repeat48 : ∀ c, Lib.repeatL [48] c = List.replicate c (48 : UInt8)
  | 0 => rfl
  | c + 1 => by rw [Lib.repeatL, repeat48 c]; rfl
theorem zeros_dig (c : Nat) : (List.replicate c (48 : UInt8)).all isDig = true := by
  rw [List.all_eq_true]
  intro x hx
  rw [List.eq_of_mem_replicate hx]
  rfl
theorem parseI_eq {l : List UInt8} (hd : digs l = true) (h9 : l.length ≤ 9) : Lib.parseIntB 64 l = .ok (valA 0 l : Int) ∧ valA 0 l < 1000000000 := by
  have hall := digs_all hd
  have hv : valA 0 l < 10 ^ (0 + l.length) := valA_lt l 0 0 hall (by omega)
  have hp : 10 ^ (0 + l.length) ≤ 10 ^ 9 := Nat.pow_le_pow_right (by omega) (by omega)
  have hlt : valA 0 l < 1000000000 := by omega
  refine ⟨?_, hlt⟩
  have hB := parseB_eq hd
  rw [if_pos (by omega)] at hB
  cases l with
  | nil => simp [digs] at hd
  | cons c r =>
    rw [List.all_cons, Bool.and_eq_true] at hall
    have hc := dig_iff.1 hall.1
    unfold Lib.parseIntB
    dsimp only
    rw [if_neg (show ¬ (c.toNat = 43 ∨ c.toNat = 45) by omega), hB]
    dsimp only
    have h1 : ¬ (2 : Nat) ^ (64 - 1) ≤ valA 0 (c :: r) := by
      have : (2 : Nat) ^ (64 - 1) = 9223372036854775808 := rfl
      omega
    rw [if_neg (fun h => h1 h.2), if_neg (fun h => by omega), if_neg (by omega)]
theorem nano_digs {b : List UInt8} (hd : digs b = true) (h9 : b.length ≤ 9) : digs (b ++ List.replicate (9 - b.length) 48) = true ∧ (b ++ List.replicate (9 - b.length) (48 : UInt8)).length = 9 := by
  constructor
  · unfold digs
    rw [List.all_append, digs_all hd, zeros_dig, Bool.true_and, Bool.true_and]
    have := digs_ne hd
    cases b with
    | nil => exact absurd rfl this
    | cons c b => rfl
  · rw [List.length_append, List.length_replicate]; omega
theorem half {v : Nat} : decide (Int.fdiv (v : Int) (2 ^ (min (Int.toNat (63 : Int)) (IntKind.bits .u64))) > (0 : Int)) = decide (9223372036854775807 < v) := by
  have e : ((2 : Int) ^ (min (Int.toNat (63 : Int)) (IntKind.bits .u64))) = 9223372036854775808 := rfl
  rw [e, decide_eq_decide, Int.fdiv_eq_ediv_of_nonneg _ (by omega)]
  omega
theorem negW {v : Nat} (h : v ≤ 9223372036854775808) : IntKind.wrap .i64 (IntKind.wrap .u64 (0 - (v : Int))) = -(v : Int) := by
  rw [IntKind.wrap_u64, IntKind.wrap_i64]
  omega
def timeAV : Option (Int × Int) → AV
  | some (a, b) => .tup [.agg [.int .i64 a, .int .i64 b], .int .u8 0]
  | none => .tup [.agg [.int .i64 0, .int .i64 0], .int .u8 15]
theorem number_k (l : List UInt8) (hb : l.length < 1000000000000) (hk : l.length < k) : kp E k (n + 3) dec_Number [.str (str l)] = some (bif natOk l && decide (valA 0 l ≤ 9223372036854775807) then .tup [.int .i64 (valA 0 l : Int), .int .u8 0] else .tup [.int .i64 0, .int .u8 15]) := by
  obtain ⟨m, h1, h2⟩ := natural_k (E := E) (k := k) (n := n) l (by omega) hk
  rw [dec_Number_eq, h1]
  simp (disch := first | omega | (simp only [List.length_append, List.length_cons, List.length_nil, List.length_take, List.length_drop]; done) | (simp only [List.length_append, List.length_cons, List.length_nil, List.length_take, List.length_drop]; omega) | fail) only [bif_t, bif_f, bif_n, bif_a, callB_ok, callI_ok, callS_ok, callL_ok, callF_ok, callT_ok, tupB_ok, tupI_ok, tupS_ok, tupL_ok, tupF_ok, atNil_ok, wrap1, wrapM, wrapP, Int.toNat_natCast, svs_len, ivs_len, bvs_len, str_size, svs_mid, ivs_mid, str_dec, str_ext, str_byte, mid_byte, mid_cut, List.length_nil, List.length_singleton, svs_snoc, ivs_snoc, svs_take, svs_drop, str_app, List.take_length, List.drop_zero, List.nil_append, cond_true, cond_false, Option.bind_some, Bool.not_true, Bool.not_false, Bool.true_and, Bool.and_true]
  cases ho : natOk l with
  | false => rfl
  | true =>
    rw [h2 ho]
    simp only [Bool.not_true, cond_false, Bool.true_and, half]
    by_cases hv : 9223372036854775807 < valA 0 l
    · rw [bif_t hv, decide_eq_false (by omega)]; rfl
    · rw [bif_f hv, decide_eq_true (by omega), i64w (by omega)]; rfl
theorem refNumber_k (l : List UInt8) (hb : l.length < 1000000000000) (hk : l.length < k) : kp E k (n + 3) ref04_Number [.str (str l)] = some (bif natOk l && decide (valA 0 l ≤ 9223372036854775807) then .tup [.int .i64 (valA 0 l : Int), .bool true] else .tup [.int .i64 0, .bool false]) := by
  rw [ref04_Number_eq, below_k l (by omega) hk]
  simp (disch := first | omega | (simp only [List.length_append, List.length_cons, List.length_nil, List.length_take, List.length_drop]; done) | (simp only [List.length_append, List.length_cons, List.length_nil, List.length_take, List.length_drop]; omega) | fail) only [bif_t, bif_f, bif_n, bif_a, callB_ok, callI_ok, callS_ok, callL_ok, callF_ok, callT_ok, tupB_ok, tupI_ok, tupS_ok, tupL_ok, tupF_ok, atNil_ok, wrap1, wrapM, wrapP, Int.toNat_natCast, svs_len, ivs_len, bvs_len, str_size, svs_mid, ivs_mid, str_dec, str_ext, str_byte, mid_byte, mid_cut, List.length_nil, List.length_singleton, svs_snoc, ivs_snoc, svs_take, svs_drop, str_app, List.take_length, List.drop_zero, List.nil_append, cond_true, cond_false, Option.bind_some, Bool.not_true, Bool.not_false, Bool.true_and, Bool.and_true]
  cases ho : natOk l with
  | false => rfl
  | true =>
    have hv : valA 0 l ≤ 9223372036854775808 := by
      unfold natOk at ho
      rw [Bool.and_eq_true, decide_eq_true_eq] at ho
      exact ho.2
    simp only [if_true, Bool.not_true, cond_false, Bool.true_and]
    by_cases hv : 9223372036854775807 < valA 0 l
    · rw [bif_t (by omega), decide_eq_false (by omega)]; rfl
    · rw [bif_f (by omega), decide_eq_true (by omega), i64w (by omega), show (0 : Int) - -(valA 0 l : Int) = (valA 0 l : Int) from by omega]; rfl
theorem natOk_le {l : List UInt8} (ho : natOk l = true) : valA 0 l ≤ 9223372036854775808 := by
  unfold natOk at ho
  rw [Bool.and_eq_true, decide_eq_true_eq] at ho
  exact ho.2
theorem time_k (s : List UInt8) (hs : s.length < 100000000000) (hk : s.length < k) : kp E k (n + 3) dec_Time [.str (str s)] = some (timeAV (timeL s)) := by
  obtain ⟨t1, t2⟩ := trim_minus s
  rw [dec_Time_eq, HasNum.cutP, t1, t2]
  unfold timeL
  have hle : (if s.head? = some 45 then s.drop 1 else s).length ≤ s.length := by split <;> simp
  generalize (if s.head? = some 45 then s.drop 1 else s) = t at hle
  generalize decide (s.head? = some 45) = minus
  simp (disch := first | omega | (simp only [List.length_append, List.length_cons, List.length_nil, List.length_take, List.length_drop]; done) | (simp only [List.length_append, List.length_cons, List.length_nil, List.length_take, List.length_drop]; omega) | fail) only [bif_t, bif_f, bif_n, bif_a, callB_ok, callI_ok, callS_ok, callL_ok, callF_ok, callT_ok, tupB_ok, tupI_ok, tupS_ok, tupL_ok, tupF_ok, atNil_ok, wrap1, wrapM, wrapP, Int.toNat_natCast, svs_len, ivs_len, bvs_len, str_size, svs_mid, ivs_mid, str_dec, str_ext, str_byte, mid_byte, mid_cut, List.length_nil, List.length_singleton, svs_snoc, ivs_snoc, svs_take, svs_drop, str_app, List.take_length, List.drop_zero, List.nil_append, cond_true, cond_false, Option.bind_some, Bool.not_true, Bool.not_false, Bool.true_and, Bool.and_true]
  rw [cut_k t (by omega)]
  simp (disch := first | omega | (simp only [List.length_append, List.length_cons, List.length_nil, List.length_take, List.length_drop]; done) | (simp only [List.length_append, List.length_cons, List.length_nil, List.length_take, List.length_drop]; omega) | fail) only [bif_t, bif_f, bif_n, bif_a, callB_ok, callI_ok, callS_ok, callL_ok, callF_ok, callT_ok, tupB_ok, tupI_ok, tupS_ok, tupL_ok, tupF_ok, atNil_ok, wrap1, wrapM, wrapP, Int.toNat_natCast, svs_len, ivs_len, bvs_len, str_size, svs_mid, ivs_mid, str_dec, str_ext, str_byte, mid_byte, mid_cut, List.length_nil, List.length_singleton, svs_snoc, ivs_snoc, svs_take, svs_drop, str_app, List.take_length, List.drop_zero, List.nil_append, cond_true, cond_false, Option.bind_some, Bool.not_true, Bool.not_false, Bool.true_and, Bool.and_true]
  obtain ⟨m, h1, h2⟩ := natural_k (E := E) (k := k) (n := n) (t.take (dot t)) (by rw [List.length_take]; omega) (by rw [List.length_take]; omega)
  rw [h1]
  simp (disch := first | omega | (simp only [List.length_append, List.length_cons, List.length_nil, List.length_take, List.length_drop]; done) | (simp only [List.length_append, List.length_cons, List.length_nil, List.length_take, List.length_drop]; omega) | fail) only [bif_t, bif_f, bif_n, bif_a, callB_ok, callI_ok, callS_ok, callL_ok, callF_ok, callT_ok, tupB_ok, tupI_ok, tupS_ok, tupL_ok, tupF_ok, atNil_ok, wrap1, wrapM, wrapP, Int.toNat_natCast, svs_len, ivs_len, bvs_len, str_size, svs_mid, ivs_mid, str_dec, str_ext, str_byte, mid_byte, mid_cut, List.length_nil, List.length_singleton, svs_snoc, ivs_snoc, svs_take, svs_drop, str_app, List.take_length, List.drop_zero, List.nil_append, cond_true, cond_false, Option.bind_some, Bool.not_true, Bool.not_false, Bool.true_and, Bool.and_true]
  unfold timeB
  dsimp only
  cases ho : natOk (t.take (dot t)) with
  | false => rfl
  | true =>
    obtain rfl := h2 ho
    have hv := natOk_le ho
    generalize valA 0 (t.take (dot t)) = v at hv
    rw [if_neg (by simp)]
    simp only [half, cond_true, cond_false, Bool.not_true, Bool.not_false]
    by_cases hp : dot t < t.length
    · have hbl : (t.drop (dot t + 1)).length ≤ t.length := by rw [List.length_drop]; omega
      rw [decide_eq_true hp]
      generalize hbe : t.drop (dot t + 1) = b at hbl
      rw [if_pos hp]
      simp only [cond_true, cond_false, Bool.not_true, Bool.not_false]
      rw [digits_k b (by omega) (by omega)]
      simp (disch := first | omega | (simp only [List.length_append, List.length_cons, List.length_nil, List.length_take, List.length_drop]; done) | (simp only [List.length_append, List.length_cons, List.length_nil, List.length_take, List.length_drop]; omega) | fail) only [bif_t, bif_f, bif_n, bif_a, callB_ok, callI_ok, callS_ok, callL_ok, callF_ok, callT_ok, tupB_ok, tupI_ok, tupS_ok, tupL_ok, tupF_ok, atNil_ok, wrap1, wrapM, wrapP, Int.toNat_natCast, svs_len, ivs_len, bvs_len, str_size, svs_mid, ivs_mid, str_dec, str_ext, str_byte, mid_byte, mid_cut, List.length_nil, List.length_singleton, svs_snoc, ivs_snoc, svs_take, svs_drop, str_app, List.take_length, List.drop_zero, List.nil_append, cond_true, cond_false, Option.bind_some, Bool.not_true, Bool.not_false, Bool.true_and, Bool.and_true]
      cases hd : digs b with
      | false => rw [if_pos ⟨hp, fun h => by simp at h⟩]; rfl
      | true =>
        simp only [cond_true, cond_false, Bool.not_true, Bool.not_false]
        by_cases h9 : b.length ≤ 9
        · obtain ⟨q1, q2⟩ := nano_digs hd h9
          obtain ⟨q3, q4⟩ := parseI_eq q1 (by omega)
          rw [if_neg (fun h => h.2 ⟨trivial, h9⟩), bif_f (by omega), i64w (x := 9 - ((b.length : Nat) : Int)) (by omega), show (9 : Int) - ((b.length : Nat) : Int) = ((9 - b.length : Nat) : Int) from by omega, HasNum.rep k (n + 2) _ _ (by omega) (by rw [List.length_singleton]; omega), repeat48]
          simp (disch := first | omega | (simp only [List.length_append, List.length_cons, List.length_nil, List.length_take, List.length_drop]; done) | (simp only [List.length_append, List.length_cons, List.length_nil, List.length_take, List.length_drop]; omega) | fail) only [bif_t, bif_f, bif_n, bif_a, callB_ok, callI_ok, callS_ok, callL_ok, callF_ok, callT_ok, tupB_ok, tupI_ok, tupS_ok, tupL_ok, tupF_ok, atNil_ok, wrap1, wrapM, wrapP, Int.toNat_natCast, svs_len, ivs_len, bvs_len, str_size, svs_mid, ivs_mid, str_dec, str_ext, str_byte, mid_byte, mid_cut, List.length_nil, List.length_singleton, svs_snoc, ivs_snoc, svs_take, svs_drop, str_app, List.take_length, List.drop_zero, List.nil_append, cond_true, cond_false, Option.bind_some, Bool.not_true, Bool.not_false, Bool.true_and, Bool.and_true]
          rw [List.length_replicate, bif_t (by omega), HasNum.pint k (n + 2) _ (by omega), q3]
          generalize valA 0 (b ++ List.replicate (9 - b.length) 48) = w at q4
          unfold endI
          simp (disch := first | omega | (simp only [List.length_append, List.length_cons, List.length_nil, List.length_take, List.length_drop]; done) | (simp only [List.length_append, List.length_cons, List.length_nil, List.length_take, List.length_drop]; omega) | fail) only [bif_t, bif_f, bif_n, bif_a, callB_ok, callI_ok, callS_ok, callL_ok, callF_ok, callT_ok, tupB_ok, tupI_ok, tupS_ok, tupL_ok, tupF_ok, atNil_ok, wrap1, wrapM, wrapP, Int.toNat_natCast, svs_len, ivs_len, bvs_len, str_size, svs_mid, ivs_mid, str_dec, str_ext, str_byte, mid_byte, mid_cut, List.length_nil, List.length_singleton, svs_snoc, ivs_snoc, svs_take, svs_drop, str_app, List.take_length, List.drop_zero, List.nil_append, cond_true, cond_false, Option.bind_some, Bool.not_true, Bool.not_false, Bool.true_and, Bool.and_true]
          have e0 : ∀ K : AV → List AV → Option AV, tupV [AV.nili] K = K .nili [] := fun K => rfl
          rw [e0]
          simp (disch := first | omega | (simp only [List.length_append, List.length_cons, List.length_nil, List.length_take, List.length_drop]; done) | (simp only [List.length_append, List.length_cons, List.length_nil, List.length_take, List.length_drop]; omega) | fail) only [bif_t, bif_f, bif_n, bif_a, callB_ok, callI_ok, callS_ok, callL_ok, callF_ok, callT_ok, tupB_ok, tupI_ok, tupS_ok, tupL_ok, tupF_ok, atNil_ok, wrap1, wrapM, wrapP, Int.toNat_natCast, svs_len, ivs_len, bvs_len, str_size, svs_mid, ivs_mid, str_dec, str_ext, str_byte, mid_byte, mid_cut, List.length_nil, List.length_singleton, svs_snoc, ivs_snoc, svs_take, svs_drop, str_app, List.take_length, List.drop_zero, List.nil_append, cond_true, cond_false, Option.bind_some, Bool.not_true, Bool.not_false, Bool.true_and, Bool.and_true]
          cases minus with
          | false =>
            simp only [cond_true, cond_false, Bool.not_true, Bool.not_false, if_true]
            by_cases h3 : 9223372036854775807 < v
            · rw [bif_t h3, if_pos h3]; rfl
            · rw [bif_f h3, if_neg h3, i64w (by omega)]; rfl
          | true =>
            simp only [cond_true, cond_false, Bool.not_true, Bool.not_false, if_neg (show ¬ true = false by decide)]
            by_cases h4 : w = 0
            · subst h4
              rw [bif_t (by omega), if_pos rfl, negW (by omega)]; rfl
            · rw [bif_f (by omega), if_neg h4]
              by_cases h3 : 9223372036854775807 < v
              · rw [bif_t h3, if_pos h3]; rfl
              · rw [bif_f h3, if_neg h3, i64w (x := (v : Int)) (by omega), i64w (x := 0 - (v : Int)) (by omega), i64w (x := 0 - (v : Int) - 1) (by omega), i64w (by omega), show (0 : Int) - (v : Int) - 1 = -(v : Int) - 1 from by omega]; rfl
        · rw [if_pos ⟨hp, fun h => h9 h.2⟩, bif_t (by omega)]
          rfl
    · rw [decide_eq_false hp, if_neg (fun h => hp h.1), if_neg hp]
      simp only [cond_true, cond_false, Bool.not_true, Bool.not_false]
      cases minus with
      | false =>
        simp only [cond_true, cond_false, Bool.not_true, Bool.not_false, if_true]
        by_cases h3 : 9223372036854775807 < v
        · rw [bif_t h3, if_pos h3]; rfl
        · rw [bif_f h3, if_neg h3, i64w (by omega)]; rfl
      | true =>
        simp only [cond_true, cond_false, Bool.not_true, Bool.not_false, if_neg (show ¬ true = false by decide), if_true]
        rw [negW (by omega)]; rfl
end Go.Proofs.YtogfcfgfkggmlaaGreatDoor.Eng.U


/- The Dec laws answer true. -/
set_option linter.unusedVariables false
set_option linter.unusedSectionVars false
set_option linter.unusedSimpArgs false
namespace Go.Proofs.YtogfcfgfkggmlaaGreatDoor.Eng.U
open Go Go.Proofs Go.Proofs.YtogfcfgfkggmlaaGreatDoor.Eng Go.Proofs.YtogfcfgfkggmlaaGreatDoor.P04
variable {E : Ext} [Core E] [HasNum E] {k n : Nat}

end Go.Proofs.YtogfcfgfkggmlaaGreatDoor.Eng.U


/- The program's own data as a row hands them in: what is read is some item, with bounds. -/
set_option linter.unusedVariables false
set_option linter.unusedSimpArgs false
namespace Go.Proofs.YtogfcfgfkggmlaaGreatDoor.Eng.U
open Go Go.Proofs Go.Proofs.YtogfcfgfkggmlaaGreatDoor.Eng Go.Proofs.YtogfcfgfkggmlaaGreatDoor.Eng.Rdv

def InR (n : Int) : Prop := -9223372036854775808 ≤ n ∧ n ≤ 9223372036854775807
structure G_apiPair (p : Pair) : Prop where
  key : p.key.length ≤ 140737488351232
  val : p.val.length ≤ 140737488351232
structure G_apiTime (t : Time) : Prop where
  sec : InR t.sec
  nano : InR t.nano
structure G_apiHead (h : Head) : Prop where
  kind : InR h.kind
  name : h.name.length ≤ 140737488351232
  link : h.link.length ≤ 140737488351232
  mode : InR h.mode
  uid : InR h.uid
  gid : InR h.gid
  size : InR h.size
  sec : InR h.sec
  nano : InR h.nano
  user : h.user.length ≤ 140737488351232
  group : h.group.length ≤ 140737488351232
  major : InR h.major
  minor : InR h.minor
  extra : h.extra.length * 32 ≤ 140737488351232
  pairs : ∀ p ∈ h.extra, G_apiPair p
structure G_apiItem (x : Item) : Prop where
  head : G_apiHead x.head
  data : x.data.length ≤ 140737488351232
def G_LapiPair (l : List Pair) : Prop := l.length * 32 ≤ 140737488351232 ∧ ∀ x ∈ l, G_apiPair x
theorem rds {t : TypeId} (hu : Tryz.prog.underlying t = some .string) (hc : Tryz.prog.cellsOf t = 1) : Rd Tryz.prog t (fun s : Tx => [.str (str s)]) (fun s => s.length ≤ 140737488351232) := string hu hc
theorem rd_pair : Rd Tryz.prog 29 encPair G_apiPair :=
  weaken (struct (P := Tryz.prog) (t := 29) Tryz.underlying29 rfl (by kernel_rfl) (by kernel_rfl)
    (iso encPair (fun p : Pair => (p.key, p.val)) (fun y => ⟨y.1, y.2⟩) (fun _ => rfl) (fun _ => rfl)
      (cons (rds (by kernel_rfl) (by kernel_rfl)) (one (rds (by kernel_rfl) (by kernel_rfl)))))) (fun _ h => ⟨h.1, h.2⟩)
theorem rd_pairs : Rd Tryz.prog 22 (fun l : List Pair => [.list 2 (prs l)]) G_LapiPair :=
  weaken (sliceAt (B := 32) elPair (fun _ => rfl) Tryz.underlying22 (by kernel_rfl) (by kernel_rfl) (by kernel_rfl) rd_pair) (fun _ h => h)
end Go.Proofs.YtogfcfgfkggmlaaGreatDoor.Eng.U


/- The library's functions that the Dec laws call, in pieces: numbers to text and back, texts cut. -/
set_option linter.unusedVariables false
set_option linter.unusedSectionVars false
set_option linter.unusedSimpArgs false
namespace Go.Proofs.YtogfcfgfkggmlaaGreatDoor.Eng.U
open Go Go.Proofs Go.Proofs.YtogfcfgfkggmlaaGreatDoor.Eng Go.RowKit

theorem str_self (s : ByteArray) : str s.data.toList = s := by cases s; simp [str]
theorem ok_tup {f : FuncId} {args rs : List AV} (hr : rs.all (fun r => !r.isFresh && r.leaf) = true) (h : ∀ (S : Stab) (w : World) (vals : List Value), Agree S w → GlobOk glob S w → VL S args vals → Calls Tryz.prog f vals.toArray w fun e w' => ∃ vs : List Value, e = .returned (.tuple vs.toArray) ∧ rs.length = vs.length ∧ (∀ (S' : Stab) (j : Nat) (c : AV) (u : Value), rs[j]? = some c → vs[j]? = some u → V S' c u) ∧ Below w.heap.size w w') (hr2 : (args.all fun c => !c.isRes) = true := by rfl) : Ok Tryz.prog glob f args (.tup rs) := by
  refine Ok.of_plain (fun c hc => by simpa using List.all_eq_true.1 hr2 c hc) fun S w vals hag hG hV => ?_
  have key : ∀ (j : Nat) (c : AV), rs[j]? = some c → c.isFresh = false ∧ c.leaf = true := by
    intro j c hc
    have := List.all_eq_true.1 hr c (List.mem_of_getElem? hc)
    simpa using this
  refine (h S w vals hag hG hV).mono ?_
  rintro e w' ⟨vs, rfl, hl, hv, hb⟩
  refine ⟨_, S, rfl, fun _ _ h => h, agree_below hag hb, fun _ _ h => .inl h, hb, vs, rfl, hl, fun j c u hc hu => ?_, fun i j c d u v g hc hd hf => ?_⟩
  · have h1 := hv S j c u hc hu
    obtain ⟨h2, h3⟩ := key j c hc
    cases c <;> first | (cases h2; done) | (cases h3; done) | exact h1
  · rw [(key i c hc).1] at hf; cases hf
theorem V2 {S : Stab} {a b : AV} {u v : Value} (ha : V S a u) (hb : V S b v) : ∀ (j : Nat) (c : AV) (x : Value), [a, b][j]? = some c → [u, v][j]? = some x → V S c x := by
  intro j c x hc hx
  match j with
  | 0 => cases hc; cases hx; exact ha
  | 1 => cases hc; cases hx; exact hb
  | j + 2 => simp at hc
theorem eptr_inv {S : Stab} {cs : List AV} {off : Nat} {p : Value} (h : V S (.eptr cs off) p) : ∃ (a : Addr) (f : Nat → Value), p = .pointer (some (a.add off)) ∧ (∀ (j : Nat) (c : AV), cs[j]? = some c → S (a.add j) = some (f j)) ∧ (∀ (j : Nat) (c : AV), cs[j]? = some c → V S c (f j)) := by
  cases h with
  | eptr cs off a f g2 g3 g4 => exact ⟨a, f, rfl, g3, g4⟩
theorem glob_cell {S : Stab} {w : World} {g : Nat} {cs : List AV} (hag : Agree S w) (hG : GlobOk glob S w) (hg : glob g = some cs) (j : Nat) (c : AV) (hj : cs[j]? = some c) : ∃ u, w.cell? ⟨g, j, none⟩ = some u ∧ V S c u := by
  obtain ⟨h1, arr, t, f, h2, h3⟩ := hG g _ hg
  obtain ⟨a, fv, he, g3, g4⟩ := eptr_inv h1
  have ha : a.add j = ⟨g, j, none⟩ := by
    have he' : (⟨g, 0, none⟩ : Addr) = a.add 0 := by injection he with e; injection e
    obtain ⟨b, o, s⟩ := a
    cases s with
    | none => rw [add_lit', Nat.add_zero] at he'; cases he'; rw [add_lit', Nat.zero_add]
    | some s => simp [Addr.add] at he'
  have := hag _ _ (g3 j c hj)
  rw [ha] at this
  exact ⟨_, this, g4 j c hj⟩
theorem tab_of {S : Stab} {w : World} {g : Nat} {name : String} {k : IntKind} {zs : List Int} (hag : Agree S w) (hG : GlobOk glob S w) (hg : glob g = some (zs.map fun z => .int k z)) (hn : Tryz.prog.globalNamed name = some g) : Lib.TabIs Tryz.prog w name k zs := by
  obtain ⟨h1, arr, t, f, h2, h3⟩ := hG g _ hg
  unfold Lib.TabIs World.var?
  rw [hn]
  simp only [Option.bind_some, h2, Option.some.injEq]
  rw [List.length_map] at h3
  refine Array.ext' ?_
  refine List.ext_getElem? fun j => ?_
  by_cases hj : j < zs.length
  · obtain ⟨u, hu, hv⟩ := glob_cell hag hG hg j (.int k zs[j]) (by rw [List.getElem?_map, List.getElem?_eq_getElem hj]; rfl)
    rw [V_int hv] at hu
    have e : w.cell? ⟨g, j, none⟩ = arr[j]? := by simp [World.cell?, h2]
    rw [e] at hu
    rw [List.toList_toArray, List.getElem?_map, List.getElem?_eq_getElem hj]
    simpa using hu
  · rw [List.toList_toArray, List.getElem?_eq_none (by simp; omega), List.getElem?_eq_none (by simp; omega)]
theorem iface_of {S : Stab} {w : World} {g : Nat} (hag : Agree S w) (hG : GlobOk glob S w) (hg : glob g = some [.ifc]) : ∃ t v, w.cell? ⟨g, 0, none⟩ = some (.iface t v) := by
  obtain ⟨u, hu, hv⟩ := glob_cell hag hG hg 0 .ifc rfl
  cases hv
  exact ⟨_, _, hu⟩
theorem below_grow (w : World) (n : Nat) (os : Array Obj) : Below w.heap.size w (Sort.grow (w.drewN n) os) :=
  ⟨rfl, rfl, rfl, by simp [Sort.grow, World.drewN], fun k hk => by
    show (w.heap ++ os)[k]? = _
    rw [Array.getElem?_append_left hk]⟩

def pFmt : Piece := { f := strconv_FormatInt, ans := fun args => match args with
  | [.int .i64 n, .int .i64 b] => bif decide (b = 10) && decide (-9223372036854775808 ≤ n) && decide (n ≤ 9223372036854775807) then some (.str (str (Lib.itoa n))) else none
  | _ => none }
def pItoa : Piece := { f := strconv_Itoa, ans := fun args => match args with
  | [.int .i64 n] => bif decide (-9223372036854775808 ≤ n) && decide (n ≤ 9223372036854775807) then some (.str (str (Lib.itoa n))) else none
  | _ => none }
def pCutP : Piece := { f := strings_CutPrefix, ans := fun args => match args with
  | [.str s, .str p] => some (.tup [.str (str (Lib.trimPrefix s.data.toList p.data.toList)), .bool (Lib.hasPrefix s.data.toList p.data.toList)])
  | _ => none }
def one (c : ByteArray) : Option UInt8 := match c.data.toList with | [x] => some x | _ => none
theorem one_some {c : ByteArray} {x : UInt8} (h : one c = some x) : c = ⟨#[x]⟩ := by
  unfold one at h
  split at h
  · rename_i y e
    cases h
    obtain ⟨⟨l⟩⟩ := c
    simp at e
    rw [e]
  · cases h
def pTrimR : Piece := { f := strings_TrimRight, ans := fun args => match args with
  | [.str s, .str c] => (one c).bind fun x => bif decide (x.toNat < 128) && decide (s.size ≤ 9223372036854775807) then some (.str (str (Lib.trimRightB s.data.toList x))) else none
  | _ => none }
def pIndex : Piece := { f := stringslite_Index, ans := fun args => match args with
  | [.str s, .str c] => (one c).bind fun x => some (.int .i64 (Lib.indexByte s.data.toList x))
  | _ => none }
def pIndexByte : Piece := { f := strings_IndexByte, ans := fun args => match args with
  | [.str s, .int .u8 c] => some (.int .i64 (Lib.indexByte s.data.toList c.toNat.toUInt8))
  | _ => none }
def pRepeat : Piece := { f := strings_Repeat, ans := fun args => match args with
  | [.str s, .int .i64 c] => bif decide (0 ≤ c) && decide (c ≤ 9223372036854775807) && decide (s.size * c.toNat ≤ 140737488355328) then some (.str (str (Lib.repeatL s.data.toList c.toNat))) else none
  | _ => none }
def pPInt : Piece := { f := strconv_ParseInt, ans := fun args => match args with
  | [.str s, .int .i64 b, .int .i64 z] => bif decide (b = 10) && decide (z = 64) && decide (s.size ≤ 281474976710656) then some (endI (Lib.parseIntB 64 s.data.toList) (Lib.intSat 64 s.data.toList)) else none
  | _ => none }
def pPUint : Piece := { f := strconv_ParseUint, ans := fun args => match args with
  | [.str s, .int .i64 b, .int .i64 z] => bif decide (b = 10) && decide (z = 64) && decide (s.size ≤ 281474976710656) then some (endU (Lib.parseUintB 64 s.data.toList)) else none
  | _ => none }
theorem fmt_right : pFmt.Right := by
  refine ⟨⟨Tryz.f182, Tryz.func182, by kernel_rfl, by kernel_rfl⟩, fun args res h => ?_⟩
  unfold pFmt at h
  dsimp only at h
  split at h
  · rename_i n b
    obtain ⟨hc, h'⟩ := some_of_bif h
    clear h
    simp only [Bool.and_eq_true, decide_eq_true_eq] at hc
    obtain ⟨⟨rfl, h1⟩, h2⟩ := hc
    obtain rfl := Option.some.inj h'
    refine ok_pure ⟨rfl, rfl⟩ fun S w vals hag hG hV => ?_
    obtain ⟨v, u, rfl, hv, hu⟩ := VL_2 hV
    obtain rfl := V_int hv
    obtain rfl := V_int hu
    refine (Tryz.strconv_FormatInt_10 n h1 h2 w (tab_of hag hG (g := 4) (zs := Lib.pow10Tab) rfl (by kernel_rfl))).mono ?_
    rintro e w' ⟨rfl, k, os, rfl⟩
    exact ⟨_, rfl, fun S' => V.str _, below_grow _ _ _⟩
  · cases h
theorem itoa_right : pItoa.Right := by
  refine ⟨⟨Tryz.f114, Tryz.func114, by kernel_rfl, by kernel_rfl⟩, fun args res h => ?_⟩
  unfold pItoa at h
  dsimp only at h
  split at h
  · rename_i n
    obtain ⟨hc, h'⟩ := some_of_bif h
    clear h
    simp only [Bool.and_eq_true, decide_eq_true_eq] at hc
    obtain ⟨h1, h2⟩ := hc
    obtain rfl := Option.some.inj h'
    refine ok_pure ⟨rfl, rfl⟩ fun S w vals hag hG hV => ?_
    obtain ⟨v, rfl, hv⟩ := VL_1 hV
    obtain rfl := V_int hv
    refine (Tryz.strconv_Itoa n h1 h2 w (tab_of hag hG (g := 4) (zs := Lib.pow10Tab) rfl (by kernel_rfl))).mono ?_
    rintro e w' ⟨rfl, k, os, rfl⟩
    exact ⟨_, rfl, fun S' => V.str _, below_grow _ _ _⟩
  · cases h
theorem cutP_right : pCutP.Right := by
  refine ⟨⟨Tryz.f167, Tryz.func167, by kernel_rfl, by kernel_rfl⟩, fun args res h => ?_⟩
  unfold pCutP at h
  dsimp only at h
  split at h
  · rename_i s p
    obtain rfl := Option.some.inj h
    refine ok_tup rfl fun S w vals hag hG hV => ?_
    obtain ⟨v, u, rfl, hv, hu⟩ := VL_2 hV
    obtain rfl := V_str hv
    obtain rfl := V_str hu
    refine (Tryz.strings_CutPrefix s p w).mono ?_
    rintro e w' ⟨rfl, rfl⟩
    exact ⟨[_, _], rfl, rfl, fun S' => V2 (V.str _) (V.bool _), Below.refl _ _⟩
  · cases h
theorem trimR_right : pTrimR.Right := by
  refine ⟨⟨Tryz.f183, Tryz.func183, by kernel_rfl, by kernel_rfl⟩, fun args res h => ?_⟩
  unfold pTrimR at h
  dsimp only at h
  split at h
  · rename_i s c
    obtain ⟨x, hx, h⟩ := Option.bind_eq_some_iff.1 h
    obtain rfl := one_some hx
    obtain ⟨hc, h'⟩ := some_of_bif h
    clear h
    simp only [Bool.and_eq_true, decide_eq_true_eq] at hc
    obtain rfl := Option.some.inj h'
    refine ok_pure ⟨rfl, rfl⟩ fun S w vals hag hG hV => ?_
    obtain ⟨v, u, rfl, hv, hu⟩ := VL_2 hV
    obtain rfl := V_str hv
    obtain rfl := V_str hu
    refine (Tryz.strings_TrimRight_one s x hc.1 w hc.2).mono ?_
    rintro e w' ⟨rfl, rfl⟩
    exact ⟨_, rfl, fun S' => V.str _, Below.refl _ _⟩
  · cases h
theorem index_right : pIndex.Right := by
  refine ⟨⟨Tryz.f273, Tryz.func273, by kernel_rfl, by kernel_rfl⟩, fun args res h => ?_⟩
  unfold pIndex at h
  dsimp only at h
  split at h
  · rename_i s c
    obtain ⟨x, hx, h⟩ := Option.bind_eq_some_iff.1 h
    obtain rfl := one_some hx
    obtain rfl := Option.some.inj h
    refine ok_pure ⟨rfl, rfl⟩ fun S w vals hag hG hV => ?_
    obtain ⟨v, u, rfl, hv, hu⟩ := VL_2 hV
    obtain rfl := V_str hv
    obtain rfl := V_str hu
    refine (Tryz.stringslite_Index_one s x w).mono ?_
    rintro e w' ⟨rfl, rfl⟩
    exact ⟨_, rfl, fun S' => V.int _ _, Below.refl _ _⟩
  · cases h
theorem indexByte_right : pIndexByte.Right := by
  refine ⟨⟨Tryz.f258, Tryz.func258, by kernel_rfl, by kernel_rfl⟩, fun args res h => ?_⟩
  unfold pIndexByte at h
  dsimp only at h
  split at h
  · rename_i s c
    obtain rfl := Option.some.inj h
    refine ok_pure ⟨rfl, rfl⟩ fun S w vals hag hG hV => ?_
    obtain ⟨v, u, rfl, hv, hu⟩ := VL_2 hV
    obtain rfl := V_str hv
    obtain rfl := V_int hu
    refine (Tryz.strings_IndexByte s c w).mono ?_
    rintro e w' ⟨rfl, rfl⟩
    exact ⟨_, rfl, fun S' => V.int _ _, Below.refl _ _⟩
  · cases h
theorem repeat_right : pRepeat.Right := by
  refine ⟨⟨Tryz.f172, Tryz.func172, by kernel_rfl, by kernel_rfl⟩, fun args res h => ?_⟩
  unfold pRepeat at h
  dsimp only at h
  split at h
  · rename_i s c
    obtain ⟨hc, h'⟩ := some_of_bif h
    clear h
    simp only [Bool.and_eq_true, decide_eq_true_eq] at hc
    obtain ⟨⟨h1, h2⟩, h3⟩ := hc
    obtain rfl := Option.some.inj h'
    refine ok_pure ⟨rfl, rfl⟩ fun S w vals hag hG hV => ?_
    obtain ⟨v, u, rfl, hv, hu⟩ := VL_2 hV
    obtain rfl := V_str hv
    obtain rfl := V_int hu
    obtain ⟨n, rfl⟩ := Int.eq_ofNat_of_zero_le h1
    rw [Int.toNat_natCast] at h3 ⊢
    refine (Tryz.strings_Repeat s n w (by omega) h3).mono ?_
    rintro e w' ⟨rfl, hb⟩
    exact ⟨_, rfl, fun S' => V.str _, hb⟩
  · cases h
theorem pInt_right : pPInt.Right := by
  refine ⟨⟨Tryz.f171, Tryz.func171, by kernel_rfl, by kernel_rfl⟩, fun args res h => ?_⟩
  unfold pPInt at h
  dsimp only at h
  split at h
  · rename_i s b z
    obtain ⟨hc, h'⟩ := some_of_bif h
    clear h
    simp only [Bool.and_eq_true, decide_eq_true_eq] at hc
    obtain ⟨⟨rfl, rfl⟩, h3⟩ := hc
    obtain rfl := Option.some.inj h'
    cases he : Lib.parseIntB 64 s.data.toList with
    | ok v =>
      refine ok_tup rfl fun S w vals hag hG hV => ?_
      obtain ⟨v1, v2, v3, rfl, g1, g2, g3⟩ := VL_3 hV
      obtain rfl := V_str g1
      obtain rfl := V_int g2
      obtain rfl := V_int g3
      refine (Tryz.strconv_ParseInt_10_at64_ok s (by omega) v he w).mono ?_
      rintro e w' ⟨rfl, hw⟩
      refine ⟨[_, _], rfl, rfl, fun S' => V2 (V.int _ _) V.nili, ?_⟩
      rcases hw with rfl | ⟨t, rfl⟩
      · exact Below.refl _ _
      · exact Lib.bytesWorld_below _ _ _
    | range =>
      refine ok_tup rfl fun S w vals hag hG hV => ?_
      obtain ⟨v1, v2, v3, rfl, g1, g2, g3⟩ := VL_3 hV
      obtain rfl := V_str g1
      obtain rfl := V_int g2
      obtain rfl := V_int g3
      obtain ⟨t, v, hi⟩ := iface_of (g := 3) hag hG rfl
      refine (Tryz.strconv_ParseInt_10_at64_range s h3 he _ w hi (.inr ⟨_, _, rfl⟩)).mono ?_
      rintro e w' ⟨N, rfl, _, _, hb⟩
      exact ⟨[_, _], rfl, rfl, fun S' => V2 (V.int _ _) (V.ifc _ _), hb⟩
    | _ =>
      refine ok_tup rfl fun S w vals hag hG hV => ?_
      obtain ⟨v1, v2, v3, rfl, g1, g2, g3⟩ := VL_3 hV
      obtain rfl := V_str g1
      obtain rfl := V_int g2
      obtain rfl := V_int g3
      obtain ⟨t, v, hi⟩ := iface_of (g := 2) hag hG rfl
      refine (Tryz.strconv_ParseInt_10_at64_syntax s h3 he _ w hi (.inr ⟨_, _, rfl⟩)).mono ?_
      rintro e w' ⟨N, rfl, _, _, hb⟩
      exact ⟨[_, _], rfl, rfl, fun S' => V2 (V.int _ _) (V.ifc _ _), hb⟩
  · cases h
theorem pUint_right : pPUint.Right := by
  refine ⟨⟨Tryz.f146, Tryz.func146, by kernel_rfl, by kernel_rfl⟩, fun args res h => ?_⟩
  unfold pPUint at h
  dsimp only at h
  split at h
  · rename_i s b z
    obtain ⟨hc, h'⟩ := some_of_bif h
    clear h
    simp only [Bool.and_eq_true, decide_eq_true_eq] at hc
    obtain ⟨⟨rfl, rfl⟩, h3⟩ := hc
    obtain rfl := Option.some.inj h'
    cases he : Lib.parseUintB 64 s.data.toList with
    | ok v =>
      refine ok_tup rfl fun S w vals hag hG hV => ?_
      obtain ⟨v1, v2, v3, rfl, g1, g2, g3⟩ := VL_3 hV
      obtain rfl := V_str g1
      obtain rfl := V_int g2
      obtain rfl := V_int g3
      refine (Tryz.strconv_ParseUint_10_at64_ok s (by omega) v he w).mono ?_
      rintro e w' ⟨rfl, hw⟩
      refine ⟨[_, _], rfl, rfl, fun S' => V2 (V.int _ _) V.nili, ?_⟩
      rcases hw with rfl | rfl
      · exact Below.refl _ _
      · exact Lib.bytesWorld_below _ _ _
    | range =>
      refine ok_tup rfl fun S w vals hag hG hV => ?_
      obtain ⟨v1, v2, v3, rfl, g1, g2, g3⟩ := VL_3 hV
      obtain rfl := V_str g1
      obtain rfl := V_int g2
      obtain rfl := V_int g3
      obtain ⟨t, v, hi⟩ := iface_of (g := 3) hag hG rfl
      refine (Tryz.strconv_ParseUint_10_at64_range s h3 he _ w hi (.inr ⟨_, _, rfl⟩)).mono ?_
      rintro e w' ⟨N, rfl, _, _, hb⟩
      exact ⟨[_, _], rfl, rfl, fun S' => V2 (V.int _ _) (V.ifc _ _), hb⟩
    | _ =>
      refine ok_tup rfl fun S w vals hag hG hV => ?_
      obtain ⟨v1, v2, v3, rfl, g1, g2, g3⟩ := VL_3 hV
      obtain rfl := V_str g1
      obtain rfl := V_int g2
      obtain rfl := V_int g3
      obtain ⟨t, v, hi⟩ := iface_of (g := 2) hag hG rfl
      refine (Tryz.strconv_ParseUint_10_at64_syntax s h3 he _ w hi (.inr ⟨_, _, rfl⟩)).mono ?_
      rintro e w' ⟨N, rfl, _, _, hb⟩
      exact ⟨[_, _], rfl, rfl, fun S' => V2 (V.int _ _) (V.ifc _ _), hb⟩
  · cases h
def ps04 : List Piece := [pFmt, pItoa, pCutP, pTrimR, pIndex, pIndexByte, pRepeat, pPInt, pPUint]
def ext04 : Ext := extOf ps04
instance core04 : Core ext04 := core_of (by kernel_rfl)
theorem num_of {ps : List Piece} (h1 : ps.find? (fun q => q.f == pFmt.f) = some pFmt) (h2 : ps.find? (fun q => q.f == pItoa.f) = some pItoa) (h3 : ps.find? (fun q => q.f == pCutP.f) = some pCutP) (h4 : ps.find? (fun q => q.f == pTrimR.f) = some pTrimR) (h5 : ps.find? (fun q => q.f == pIndex.f) = some pIndex) (h6 : ps.find? (fun q => q.f == pIndexByte.f) = some pIndexByte) (h7 : ps.find? (fun q => q.f == pRepeat.f) = some pRepeat) (h8 : ps.find? (fun q => q.f == pPInt.f) = some pPInt) (h9 : ps.find? (fun q => q.f == pPUint.f) = some pPUint) : HasNum (extOf ps) where
  fmt k n v g0 g1 := (kp_piece (k := k) (n := n) h1).trans (by
    show (bif decide ((10 : Int) = 10) && decide (-9223372036854775808 ≤ v) && decide (v ≤ 9223372036854775807) then _ else none) = _
    rw [decide_eq_true g0, decide_eq_true g1]
    rfl)
  itoa k n v g0 g1 := (kp_piece (k := k) (n := n) h2).trans (by
    show (bif decide (-9223372036854775808 ≤ v) && decide (v ≤ 9223372036854775807) then _ else none) = _
    rw [decide_eq_true g0, decide_eq_true g1]
    rfl)
  cutP k n s p := (kp_piece (k := k) (n := n) h3).trans rfl
  trimR k n s x g0 g1 := (kp_piece (k := k) (n := n) h4).trans (by
    show (bif decide (x.toNat < 128) && decide ((str s).size ≤ 9223372036854775807) then _ else none) = _
    rw [str_size, decide_eq_true g0, decide_eq_true g1]
    rfl)
  index k n s x := (kp_piece (k := k) (n := n) h5).trans rfl
  indexB k n s c := (kp_piece (k := k) (n := n) h6).trans rfl
  rep k n s c g0 g1 := (kp_piece (k := k) (n := n) h7).trans (by
    show (bif decide ((0 : Int) ≤ (c : Int)) && decide ((c : Int) ≤ 9223372036854775807) && decide ((str s).size * (Int.toNat (c : Int)) ≤ 140737488355328) then some (AV.str (str (Lib.repeatL s (Int.toNat (c : Int))))) else none) = _
    rw [str_size, Int.toNat_natCast, decide_eq_true (show (0 : Int) ≤ (c : Int) by omega), decide_eq_true (show (c : Int) ≤ 9223372036854775807 by omega), decide_eq_true g1]
    rfl)
  pint k n s g0 := (kp_piece (k := k) (n := n) h8).trans (by
    show (bif decide ((10 : Int) = 10) && decide ((64 : Int) = 64) && decide ((str s).size ≤ 281474976710656) then _ else none) = _
    rw [str_size, decide_eq_true g0]
    rfl)
  puint k n s g0 := (kp_piece (k := k) (n := n) h9).trans (by
    show (bif decide ((10 : Int) = 10) && decide ((64 : Int) = 64) && decide ((str s).size ≤ 281474976710656) then _ else none) = _
    rw [str_size, decide_eq_true g0]
    rfl)
instance num04 : HasNum ext04 := num_of rfl rfl rfl rfl rfl rfl rfl rfl rfl
end Go.Proofs.YtogfcfgfkggmlaaGreatDoor.Eng.U


/- Pairs out of abstract values; answers that are a row and a number; what a list is in memory. -/
set_option linter.unusedVariables false
set_option linter.unusedSectionVars false
set_option linter.unusedSimpArgs false
namespace Go.Proofs.YtogfcfgfkggmlaaGreatDoor.Eng.U
open Go Go.RowKit Go.Proofs Go.Proofs.YtogfcfgfkggmlaaGreatDoor.Eng Go.Proofs.YtogfcfgfkggmlaaGreatDoor.Eng.Rdv

def toPrs : List AV → Option (List Pair)
  | [] => some []
  | .agg [.str x, .str y] :: l => (toPrs l).map fun r => ⟨x.data.toList, y.data.toList⟩ :: r
  | _ => none
theorem toPrs_prs : ∀ l : List Pair, toPrs (prs l) = some l
  | [] => rfl
  | p :: l => by
    show (toPrs (prs l)).map (fun r => (⟨(str p.key).data.toList, (str p.val).data.toList⟩ : Pair) :: r) = _
    rw [toPrs_prs l]; rfl
theorem toPrs_some : ∀ {xs : List AV} {l : List Pair}, toPrs xs = some l → xs = prs l
  | [], l, h => by cases h; rfl
  | x :: xs, l, h => by
    unfold toPrs at h
    split at h
    · rename_i e; cases e
    · rename_i a b l' e
      cases e
      obtain ⟨r, hr, he⟩ := Option.map_eq_some_iff.1 h
      cases he
      rw [toPrs_some hr]
      have : ∀ s : ByteArray, str s.data.toList = s := str_self
      show AV.agg [.str a, .str b] :: prs r = AV.agg [.str (str a.data.toList), .str (str b.data.toList)] :: prs r
      rw [this, this]
    · cases h
theorem list_inv {S : Stab} {sz : Nat} {xs : List AV} {v : Value} (h : V S (.list sz xs) v) : ∃ (ao : Option Addr) (cap : Nat), v = .slice ao xs.length cap ∧ ∀ (i : Nat) (x : AV), xs[i]? = some x → ∃ (a : Addr) (f : Nat → Value), ao = some a ∧ ∀ (j : Nat) (c : AV), x.cells[j]? = some c → S (a.add (i * sz + j)) = some (f j) ∧ V S c (f j) := by
  cases h with
  | list0 a b c => exact ⟨some _, _, rfl, fun i x h => by simp at h⟩
  | listn a => exact ⟨none, 0, rfl, fun i x h => by simp at h⟩
  | list a b ad cap f h0 h1 h2 h3 h4 => exact ⟨some ad, cap, rfl, fun i x hx => ⟨ad, f i, rfl, fun j c hc => ⟨h3 i x j c hx hc, h4 i x j c hx hc⟩⟩⟩
end Go.Proofs.YtogfcfgfkggmlaaGreatDoor.Eng.U


/- What functions answer, as the engine evaluates their code. Printed by gen2.py. -/
set_option linter.unusedVariables false
namespace Go.Proofs.YtogfcfgfkggmlaaGreatDoor.Eng.U
open Go Go.Proofs Go.Proofs.YtogfcfgfkggmlaaGreatDoor.Eng
/- oakum/over.Lay -/
noncomputable def over_Lay_bd : Code := Tryz.f17.body.getD .skip
noncomputable def over_Lay_L0 (kap : FuncId → List AV → Option AV) (k : Nat) (k0 : Nat) (s1 : List AV) (s10 : List AV) (s11 : Int) (s12 : Int) (x5 : List AV) : Option AV :=
  loop (fun fr K => code ((bs E0 k).cfg kap over_Lay) (sel over_Lay_bd [1, 1, 0, 1, 0, 0]) fr K) (canon ((bs E0 k).cfg kap over_Lay) (firstReg (sel over_Lay_bd [1, 1, 0, 1, 0, 0]))) k0 (mkFr 31 [(1, (.list 2 s1)), (5, (.own 5)), (10, (.list 2 s10)), (11, (.int .i64 s11)), (12, (.int .i64 s12))] [(5, (.row 29 x5 false))]) (plug ((bs E0 k).cfg kap over_Lay) (retK ((bs E0 k).cfg kap over_Lay) [] Tryz.f17 [] some) [.blk 0, .seqR (sel over_Lay_bd [1, 1, 1])])
noncomputable def over_Lay_L1 (kap : FuncId → List AV → Option AV) (k : Nat) (k1 : Nat) (s20 : List AV) (s21 : Int) (s22 : Int) (x5 : List AV) : Option AV :=
  loop (fun fr K => code ((bs E0 k).cfg kap over_Lay) (sel over_Lay_bd [1, 1, 1, 0, 1, 0, 0]) fr K) (canon ((bs E0 k).cfg kap over_Lay) (firstReg (sel over_Lay_bd [1, 1, 1, 0, 1, 0, 0]))) k1 (mkFr 31 [(5, (.own 5)), (20, (.list 2 s20)), (21, (.int .i64 s21)), (22, (.int .i64 s22))] [(5, (.row 29 x5 false))]) (plug ((bs E0 k).cfg kap over_Lay) (retK ((bs E0 k).cfg kap over_Lay) [] Tryz.f17 [] some) [.blk 2, .seqR (sel over_Lay_bd [1, 1, 1, 1])])
theorem over_Lay_L0_s (kap : FuncId → List AV → Option AV) (k : Nat) (k0 : Nat) (s1 : List AV) (s10 : List AV) (s11 : Int) (s12 : Int) (x5 : List AV) : over_Lay_L0 kap k (k0 + 1) s1 s10 s11 s12 x5 =
  (bif (decide (s12 < s11)) then (bif ((decide ((0 : Int) ≤ s12)) && (decide (s12 < (((List.length s10) : Nat) : Int)))) then ((s10[(Int.toNat s12)]?).bind fun vy1 => (cellS (AV.cells vy1) 0 fun vs2 => (cellS (AV.cells vy1) 1 fun vs3 => (callX (kap over_lay [(.fresh 29 x5), (.agg [(.str vs2), (.str vs3)])]) fun vb4 vz5 => (atNil vz5 (callF 29 (some vb4) fun vw6 => (over_Lay_L0 kap k k0 s1 s10 s11 (IntKind.wrap .i64 (s12 + (1 : Int))) vw6))))))) else none) else (over_Lay_L1 kap k k s1 (((List.length s1) : Nat) : Int) (0 : Int) x5)) := by kernel_rfl
theorem over_Lay_L1_s (kap : FuncId → List AV → Option AV) (k : Nat) (k1 : Nat) (s20 : List AV) (s21 : Int) (s22 : Int) (x5 : List AV) : over_Lay_L1 kap k (k1 + 1) s20 s21 s22 x5 =
  (bif (decide (s22 < s21)) then (bif ((decide ((0 : Int) ≤ s22)) && (decide (s22 < (((List.length s20) : Nat) : Int)))) then ((s20[(Int.toNat s22)]?).bind fun vy7 => (cellS (AV.cells vy7) 0 fun vs8 => (cellS (AV.cells vy7) 1 fun vs9 => (callX (kap over_lay [(.fresh 29 x5), (.agg [(.str vs8), (.str vs9)])]) fun vb10 vz11 => (atNil vz11 (callF 29 (some vb10) fun vw12 => (over_Lay_L1 kap k k1 s20 s21 (IntKind.wrap .i64 (s22 + (1 : Int))) vw12))))))) else none) else (some (.list 2 x5))) := by kernel_rfl
theorem over_Lay_eq {E : Ext} [Core E] (k n : Nat) (a0 : List AV) (a1 : List AV) : kp E k (n + 1) over_Lay [(.list 2 a0), (.list 2 a1)] =
  (over_Lay_L0 (kp E k n) k k a1 a0 (((List.length a0) : Nat) : Int) (0 : Int) []) := (kp_at (by kernel_rfl)).trans (by kernel_rfl)
/- oakum/over.Right -/
noncomputable def over_Right_bd : Code := Tryz.f20.body.getD .skip
noncomputable def over_Right_L0 (kap : FuncId → List AV → Option AV) (k : Nat) (k0 : Nat) (s0 : List AV) (s5 : List AV) (s6 : Int) (s7 : Int) : Option AV :=
  loop (fun fr K => code ((bs E0 k).cfg kap over_Right) (sel over_Right_bd [1, 0, 1, 0, 0]) fr K) (canon ((bs E0 k).cfg kap over_Right) (firstReg (sel over_Right_bd [1, 0, 1, 0, 0]))) k0 (mkFr 36 [(0, (.list 2 s0)), (5, (.list 2 s5)), (6, (.int .i64 s6)), (7, (.int .i64 s7))] []) (plug ((bs E0 k).cfg kap over_Right) (retK ((bs E0 k).cfg kap over_Right) [] Tryz.f20 [] some) [.blk 0, .seqR (sel over_Right_bd [1, 1])])
theorem over_Right_L0_s (kap : FuncId → List AV → Option AV) (k : Nat) (k0 : Nat) (s0 : List AV) (s5 : List AV) (s6 : Int) (s7 : Int) : over_Right_L0 kap k (k0 + 1) s0 s5 s6 s7 =
  (bif (decide (s7 < s6)) then (bif ((decide ((0 : Int) ≤ s7)) && (decide (s7 < (((List.length s5) : Nat) : Int)))) then ((s5[(Int.toNat s7)]?).bind fun vy1 => (cellS (AV.cells vy1) 0 fun vs2 => (cellS (AV.cells vy1) 1 fun vs3 => (bif (decide (vs3 = (str []))) then (some (.bool false)) else (callB (kap pax_Right [(.agg [(.str vs2), (.str vs3)])]) fun vq5 => (bif (!vq5) then (some (.bool false)) else (bif (decide (s7 > (0 : Int))) then (bif ((decide ((0 : Int) ≤ (IntKind.wrap .i64 (s7 - (1 : Int))))) && (decide ((IntKind.wrap .i64 (s7 - (1 : Int))) < (((List.length s0) : Nat) : Int)))) then ((s0[(Int.toNat (IntKind.wrap .i64 (s7 - (1 : Int))))]?).bind fun vy6 => (cellS (AV.cells vy6) 0 fun vs7 => (bif (!(Op.bytesLess (ByteArray.toList vs7) (ByteArray.toList vs2))) then (some (.bool false)) else (over_Right_L0 kap k k0 s0 s5 s6 (IntKind.wrap .i64 (s7 + (1 : Int))))))) else none) else (over_Right_L0 kap k k0 s0 s5 s6 (IntKind.wrap .i64 (s7 + (1 : Int))))))))))) else none) else (some (.bool true))) := by kernel_rfl
theorem over_Right_eq {E : Ext} [Core E] (k n : Nat) (a0 : List AV) : kp E k (n + 1) over_Right [(.list 2 a0)] =
  (over_Right_L0 (kp E k n) k k a0 a0 (((List.length a0) : Nat) : Int) (0 : Int)) := (kp_at (by kernel_rfl)).trans (by kernel_rfl)
/- oakum/over.Bytes -/
/- oakum/over.Apply -/
noncomputable def over_Apply_bd : Code := Tryz.f61.body.getD .skip
noncomputable def over_Apply_L0 (kap : FuncId → List AV → Option AV) (k : Nat) (k0 : Nat) (s13 : List AV) (s14 : Int) (s15 : Int) (b2_0 : Int) (b2_1 : ByteArray) (b2_2 : ByteArray) (b2_3 : Int) (b2_4 : Int) (b2_5 : Int) (b2_6 : Int) (b2_7 : Int) (b2_8 : Int) (b2_9 : ByteArray) (b2_10 : ByteArray) (b2_11 : Int) (b2_12 : Int) (b4_0 : Int) (b4_1 : ByteArray) (b4_2 : ByteArray) (b4_3 : Int) (b4_4 : Int) (b4_5 : Int) (b4_6 : Int) (b4_7 : Int) (b4_8 : Int) (b4_9 : ByteArray) (b4_10 : ByteArray) (b4_11 : Int) (b4_12 : Int) (x66 : List AV) (x68 : List AV) : Option AV :=
  loop (fun fr K => code ((bs E0 k).cfg kap over_Apply) (sel over_Apply_bd [1, 1, 1, 0, 1, 0, 0]) fr K) (canon ((bs E0 k).cfg kap over_Apply) (firstReg (sel over_Apply_bd [1, 1, 1, 0, 1, 0, 0]))) k0 (mkFr 32 [(2, (.loc 2 0)), (4, (.loc 4 0)), (13, (.list 2 s13)), (14, (.int .i64 s14)), (15, (.int .i64 s15))] [(2, (.box [(.int .i64 b2_0), (.str b2_1), (.str b2_2), (.int .i64 b2_3), (.int .i64 b2_4), (.int .i64 b2_5), (.int .i64 b2_6), (.int .i64 b2_7), (.int .i64 b2_8), (.str b2_9), (.str b2_10), (.int .i64 b2_11), (.int .i64 b2_12), (.own 66)])), (4, (.box [(.int .i64 b4_0), (.str b4_1), (.str b4_2), (.int .i64 b4_3), (.int .i64 b4_4), (.int .i64 b4_5), (.int .i64 b4_6), (.int .i64 b4_7), (.int .i64 b4_8), (.str b4_9), (.str b4_10), (.int .i64 b4_11), (.int .i64 b4_12), (.own 68)])), (66, (.row 29 x66 false)), (68, (.row 29 x68 false))]) (plug ((bs E0 k).cfg kap over_Apply) (retK ((bs E0 k).cfg kap over_Apply) [] Tryz.f61 [] some) [.blk 0, .seqR (sel over_Apply_bd [1, 1, 1, 1])])
theorem over_Apply_L0_s (kap : FuncId → List AV → Option AV) (k : Nat) (k0 : Nat) (s13 : List AV) (s14 : Int) (s15 : Int) (b2_0 : Int) (b2_1 : ByteArray) (b2_2 : ByteArray) (b2_3 : Int) (b2_4 : Int) (b2_5 : Int) (b2_6 : Int) (b2_7 : Int) (b2_8 : Int) (b2_9 : ByteArray) (b2_10 : ByteArray) (b2_11 : Int) (b2_12 : Int) (b4_0 : Int) (b4_1 : ByteArray) (b4_2 : ByteArray) (b4_3 : Int) (b4_4 : Int) (b4_5 : Int) (b4_6 : Int) (b4_7 : Int) (b4_8 : Int) (b4_9 : ByteArray) (b4_10 : ByteArray) (b4_11 : Int) (b4_12 : Int) (x66 : List AV) (x68 : List AV) : over_Apply_L0 kap k (k0 + 1) s13 s14 s15 b2_0 b2_1 b2_2 b2_3 b2_4 b2_5 b2_6 b2_7 b2_8 b2_9 b2_10 b2_11 b2_12 b4_0 b4_1 b4_2 b4_3 b4_4 b4_5 b4_6 b4_7 b4_8 b4_9 b4_10 b4_11 b4_12 x66 x68 =
  (bif (decide (s15 < s14)) then (bif ((decide ((0 : Int) ≤ s15)) && (decide (s15 < (((List.length s13) : Nat) : Int)))) then ((s13[(Int.toNat s15)]?).bind fun vy3 => (cellS (AV.cells vy3) 0 fun vs4 => (cellS (AV.cells vy3) 1 fun vs5 => (callB (kap pax_Known [(.str vs4)]) fun vq7 => (bif vq7 then (callX (kap over_say [(.lent [(.int .i64 b2_0), (.str b2_1), (.str b2_2), (.int .i64 b2_3), (.int .i64 b2_4), (.int .i64 b2_5), (.int .i64 b2_6), (.int .i64 b2_7), (.int .i64 b2_8), (.str b2_9), (.str b2_10), (.int .i64 b2_11), (.int .i64 b2_12), .hold]), (.agg [(.str vs4), (.str vs5)])]) fun vb8 vz9 => (nxX vz9 fun vx11 vz10 => (nxI .i64 vx11 fun vn13 vx12 => (nxS vx12 fun vs15 vx14 => (nxS vx14 fun vs17 vx16 => (nxI .i64 vx16 fun vn19 vx18 => (nxI .i64 vx18 fun vn21 vx20 => (nxI .i64 vx20 fun vn23 vx22 => (nxI .i64 vx22 fun vn25 vx24 => (nxI .i64 vx24 fun vn27 vx26 => (nxI .i64 vx26 fun vn29 vx28 => (nxS vx28 fun vs31 vx30 => (nxS vx30 fun vs33 vx32 => (nxI .i64 vx32 fun vn35 vx34 => (nxI .i64 vx34 fun vn37 vx36 => (nxH vx36 fun vx38 => (atNil vx38 (atNil vz10 (callT (some vb8) fun vt39 => (atNil vt39 (over_Apply_L0 kap k k0 s13 s14 (IntKind.wrap .i64 (s15 + (1 : Int))) vn13 vs15 vs17 vn19 vn21 vn23 vn25 vn27 vn29 vs31 vs33 vn35 vn37 b4_0 b4_1 b4_2 b4_3 b4_4 b4_5 b4_6 b4_7 b4_8 b4_9 b4_10 b4_11 b4_12 x66 x68))))))))))))))))))))) else (bif (decide (((List.length x66) + 1) * 32 ≤ 140737488355328) && decide (((List.length x66) + 1) ≤ 9223372036854775807)) then (over_Apply_L0 kap k k0 s13 s14 (IntKind.wrap .i64 (s15 + (1 : Int))) b2_0 b2_1 b2_2 b2_3 b2_4 b2_5 b2_6 b2_7 b2_8 b2_9 b2_10 b2_11 b2_12 b4_0 b4_1 b4_2 b4_3 b4_4 b4_5 b4_6 b4_7 b4_8 b4_9 b4_10 b4_11 b4_12 (x66 ++ [(.agg [(.str vs4), (.str vs5)])]) x68) else none)))))) else none) else (some (.tup [(.agg [(.int .i64 b2_0), (.str b2_1), (.str b2_2), (.int .i64 b2_3), (.int .i64 b2_4), (.int .i64 b2_5), (.int .i64 b2_6), (.int .i64 b2_7), (.int .i64 b2_8), (.str b2_9), (.str b2_10), (.int .i64 b2_11), (.int .i64 b2_12), (.list 2 x66)]), (.int .u8 (0 : Int))]))) := by kernel_rfl
theorem over_Apply_eq {E : Ext} [Core E] (k n : Nat) (a0_0 : Int) (a0_1 : ByteArray) (a0_2 : ByteArray) (a0_3 : Int) (a0_4 : Int) (a0_5 : Int) (a0_6 : Int) (a0_7 : Int) (a0_8 : Int) (a0_9 : ByteArray) (a0_10 : ByteArray) (a0_11 : Int) (a0_12 : Int) (a0_13 : List AV) (a1 : List AV) : kp E k (n + 1) over_Apply [(.agg [(.int .i64 a0_0), (.str a0_1), (.str a0_2), (.int .i64 a0_3), (.int .i64 a0_4), (.int .i64 a0_5), (.int .i64 a0_6), (.int .i64 a0_7), (.int .i64 a0_8), (.str a0_9), (.str a0_10), (.int .i64 a0_11), (.int .i64 a0_12), (.list 2 a0_13)]), (.list 2 a1)] =
  (callB (kp E k n over_Right [(.list 2 a1)]) fun vq2 => (bif (!vq2) then (some (.tup [(.agg [(.int .i64 (0 : Int)), (.str (str [])), (.str (str [])), (.int .i64 (0 : Int)), (.int .i64 (0 : Int)), (.int .i64 (0 : Int)), (.int .i64 (0 : Int)), (.int .i64 (0 : Int)), (.int .i64 (0 : Int)), (.str (str [])), (.str (str [])), (.int .i64 (0 : Int)), (.int .i64 (0 : Int)), (.list 2 [])]), (.int .u8 (15 : Int))])) else (over_Apply_L0 (kp E k n) k k a1 (((List.length a1) : Nat) : Int) (0 : Int) a0_0 a0_1 a0_2 a0_3 a0_4 a0_5 a0_6 a0_7 a0_8 a0_9 a0_10 a0_11 a0_12 (0 : Int) (str []) (str []) (0 : Int) (0 : Int) (0 : Int) (0 : Int) (0 : Int) (0 : Int) (str []) (str []) (0 : Int) (0 : Int) [] []))) := (kp_at (by kernel_rfl)).trans (by kernel_rfl)
/- oakum/over.lay -/
theorem over_lay_eq {E : Ext} [Core E] (k n : Nat) (a0 : List AV) (a1_0 : ByteArray) (a1_1 : ByteArray) : kp E k (n + 1) over_lay [(.fresh 29 a0), (.agg [(.str a1_0), (.str a1_1)])] =
  (callX (kp E k n over_byKey [(.lrow 29 a0), (.str a1_0)]) fun vb1 vz2 => (nxR 29 vz2 fun vw4 vz3 => (bif List.length vw4 == (List.length a0) then (atNil vz3 (callT (some vb1) fun vt5 => (tupI .i64 vt5 fun vn6 vt7 => (tupB vt7 fun vq8 vt9 => (atNil vt9 (bif (decide (a1_1 = (str []))) then (bif vq8 then (callX (kp E k n slices_Delete_api_Pair [(.fresh 29 vw4), (.int .i64 vn6), (.int .i64 (IntKind.wrap .i64 (vn6 + (1 : Int))))]) fun vb10 vz11 => (atNil vz11 (callF 29 (some vb10) fun vw12 => (some (.lback (.fresh 29 vw12) []))))) else (bif (decide (a1_1 = (str []))) then (some (.lback (.fresh 29 vw4) [])) else (bif vq8 then (bif ((decide ((0 : Int) ≤ vn6)) && (decide (vn6 < (((List.length vw4) : Nat) : Int)))) then ((vw4[(Int.toNat vn6)]?).bind fun vy13 => (bif (decide (0 + 2 ≤ (AV.cells vy13).length) && true) then (some (.lback (.fresh 29 (List.set vw4 (Int.toNat vn6) (mkElem 2 (splice (AV.cells vy13) 0 [(.str a1_0), (.str a1_1)]) vy13))) [])) else none)) else none) else (callX (kp E k n slices_Insert_api_Pair [(.fresh 29 vw4), (.int .i64 vn6), (.fresh 29 [(.agg [(.str a1_0), (.str a1_1)])])]) fun vb14 vz15 => (atNil vz15 (callF 29 (some vb14) fun vw16 => (some (.lback (.fresh 29 vw16) [])))))))) else (bif (decide (a1_1 = (str []))) then (some (.lback (.fresh 29 vw4) [])) else (bif vq8 then (bif ((decide ((0 : Int) ≤ vn6)) && (decide (vn6 < (((List.length vw4) : Nat) : Int)))) then ((vw4[(Int.toNat vn6)]?).bind fun vy17 => (bif (decide (0 + 2 ≤ (AV.cells vy17).length) && true) then (some (.lback (.fresh 29 (List.set vw4 (Int.toNat vn6) (mkElem 2 (splice (AV.cells vy17) 0 [(.str a1_0), (.str a1_1)]) vy17))) [])) else none)) else none) else (callX (kp E k n slices_Insert_api_Pair [(.fresh 29 vw4), (.int .i64 vn6), (.fresh 29 [(.agg [(.str a1_0), (.str a1_1)])])]) fun vb18 vz19 => (atNil vz19 (callF 29 (some vb18) fun vw20 => (some (.lback (.fresh 29 vw20) []))))))))))))) else none))) := (kp_at (by kernel_rfl)).trans (by kernel_rfl)
/- oakum/pax.Right -/
theorem pax_Right_eq {E : Ext} [Core E] (k n : Nat) (a0_0 : ByteArray) (a0_1 : ByteArray) : kp E k (n + 1) pax_Right [(.agg [(.str a0_0), (.str a0_1)])] =
  (bif (!(decide (a0_0 = (str [])))) then (callB (kp E k n utf_Right [(.str a0_0)]) fun vq2 => (bif vq2 then (callB (kp E k n strings_ContainsAny [(.str a0_0), (.str (str [61, 0]))]) fun vq4 => (bif (!vq4) then (callB (kp E k n pax_value [(.str a0_0), (.str a0_1)]) fun vq6 => (some (.bool vq6))) else (some (.bool false)))) else (some (.bool false)))) else (some (.bool false))) := (kp_at (by kernel_rfl)).trans (by kernel_rfl)
/- slices.IndexFunc[[]oakum/api.Pair,oakum/api.Pair] -/
/- oakum/item.Right -/
/- slices.Contains[[]int,int] -/
/- oakum/item.Copy -/
/- slices.Index[[]string,string] -/
/- oakum/item.Wrong -/
/- oakum/pax.Known -/
theorem pax_Known_eq {E : Ext} [Core E] (k n : Nat) (a0 : ByteArray) : kp E k (n + 1) pax_Known [(.str a0)] =
  (bif (decide (a0 = (str [112, 97, 116, 104]))) then (bif (decide (a0 = (str [112, 97, 116, 104]))) then (some (.bool true)) else (some (.bool false))) else (bif (decide (a0 = (str [108, 105, 110, 107, 112, 97, 116, 104]))) then (bif (decide (a0 = (str [108, 105, 110, 107, 112, 97, 116, 104]))) then (some (.bool true)) else (some (.bool false))) else (bif (decide (a0 = (str [117, 110, 97, 109, 101]))) then (bif (decide (a0 = (str [117, 110, 97, 109, 101]))) then (some (.bool true)) else (some (.bool false))) else (bif (decide (a0 = (str [103, 110, 97, 109, 101]))) then (bif (decide (a0 = (str [103, 110, 97, 109, 101]))) then (some (.bool true)) else (some (.bool false))) else (bif (decide (a0 = (str [117, 105, 100]))) then (bif (decide (a0 = (str [117, 105, 100]))) then (some (.bool true)) else (some (.bool false))) else (bif (decide (a0 = (str [103, 105, 100]))) then (bif (decide (a0 = (str [103, 105, 100]))) then (some (.bool true)) else (some (.bool false))) else (bif (decide (a0 = (str [115, 105, 122, 101]))) then (bif (decide (a0 = (str [115, 105, 122, 101]))) then (some (.bool true)) else (some (.bool false))) else (bif (decide (a0 = (str [109, 116, 105, 109, 101]))) then (some (.bool true)) else (some (.bool false)))))))))) := (kp_at (by kernel_rfl)).trans (by kernel_rfl)
/- oakum/over.say -/
theorem over_say_eq {E : Ext} [Core E] (k n : Nat) (a0_0 : Int) (a0_1 : ByteArray) (a0_2 : ByteArray) (a0_3 : Int) (a0_4 : Int) (a0_5 : Int) (a0_6 : Int) (a0_7 : Int) (a0_8 : Int) (a0_9 : ByteArray) (a0_10 : ByteArray) (a0_11 : Int) (a0_12 : Int) (a1_0 : ByteArray) (a1_1 : ByteArray) : kp E k (n + 1) over_say [(.lent [(.int .i64 a0_0), (.str a0_1), (.str a0_2), (.int .i64 a0_3), (.int .i64 a0_4), (.int .i64 a0_5), (.int .i64 a0_6), (.int .i64 a0_7), (.int .i64 a0_8), (.str a0_9), (.str a0_10), (.int .i64 a0_11), (.int .i64 a0_12), .hold]), (.agg [(.str a1_0), (.str a1_1)])] =
  (bif (decide (a1_0 = (str [112, 97, 116, 104]))) then (some (.lback (.tup []) [(.lent [(.int .i64 a0_0), (.str a1_1), (.str a0_2), (.int .i64 a0_3), (.int .i64 a0_4), (.int .i64 a0_5), (.int .i64 a0_6), (.int .i64 a0_7), (.int .i64 a0_8), (.str a0_9), (.str a0_10), (.int .i64 a0_11), (.int .i64 a0_12), .hold])])) else (bif (decide (a1_0 = (str [108, 105, 110, 107, 112, 97, 116, 104]))) then (some (.lback (.tup []) [(.lent [(.int .i64 a0_0), (.str a0_1), (.str a1_1), (.int .i64 a0_3), (.int .i64 a0_4), (.int .i64 a0_5), (.int .i64 a0_6), (.int .i64 a0_7), (.int .i64 a0_8), (.str a0_9), (.str a0_10), (.int .i64 a0_11), (.int .i64 a0_12), .hold])])) else (bif (decide (a1_0 = (str [117, 110, 97, 109, 101]))) then (some (.lback (.tup []) [(.lent [(.int .i64 a0_0), (.str a0_1), (.str a0_2), (.int .i64 a0_3), (.int .i64 a0_4), (.int .i64 a0_5), (.int .i64 a0_6), (.int .i64 a0_7), (.int .i64 a0_8), (.str a1_1), (.str a0_10), (.int .i64 a0_11), (.int .i64 a0_12), .hold])])) else (bif (decide (a1_0 = (str [103, 110, 97, 109, 101]))) then (some (.lback (.tup []) [(.lent [(.int .i64 a0_0), (.str a0_1), (.str a0_2), (.int .i64 a0_3), (.int .i64 a0_4), (.int .i64 a0_5), (.int .i64 a0_6), (.int .i64 a0_7), (.int .i64 a0_8), (.str a0_9), (.str a1_1), (.int .i64 a0_11), (.int .i64 a0_12), .hold])])) else (bif (decide (a1_0 = (str [117, 105, 100]))) then (callT (kp E k n dec_Number [(.str a1_1)]) fun vt2 => (tupI .i64 vt2 fun vn3 vt4 => (tupI .u8 vt4 fun vn5 vt6 => (atNil vt6 (some (.lback (.tup []) [(.lent [(.int .i64 a0_0), (.str a0_1), (.str a0_2), (.int .i64 a0_3), (.int .i64 vn3), (.int .i64 a0_5), (.int .i64 a0_6), (.int .i64 a0_7), (.int .i64 a0_8), (.str a0_9), (.str a0_10), (.int .i64 a0_11), (.int .i64 a0_12), .hold])])))))) else (bif (decide (a1_0 = (str [103, 105, 100]))) then (callT (kp E k n dec_Number [(.str a1_1)]) fun vt8 => (tupI .i64 vt8 fun vn9 vt10 => (tupI .u8 vt10 fun vn11 vt12 => (atNil vt12 (some (.lback (.tup []) [(.lent [(.int .i64 a0_0), (.str a0_1), (.str a0_2), (.int .i64 a0_3), (.int .i64 a0_4), (.int .i64 vn9), (.int .i64 a0_6), (.int .i64 a0_7), (.int .i64 a0_8), (.str a0_9), (.str a0_10), (.int .i64 a0_11), (.int .i64 a0_12), .hold])])))))) else (bif (decide (a1_0 = (str [115, 105, 122, 101]))) then (callT (kp E k n dec_Number [(.str a1_1)]) fun vt14 => (tupI .i64 vt14 fun vn15 vt16 => (tupI .u8 vt16 fun vn17 vt18 => (atNil vt18 (some (.lback (.tup []) [(.lent [(.int .i64 a0_0), (.str a0_1), (.str a0_2), (.int .i64 a0_3), (.int .i64 a0_4), (.int .i64 a0_5), (.int .i64 vn15), (.int .i64 a0_7), (.int .i64 a0_8), (.str a0_9), (.str a0_10), (.int .i64 a0_11), (.int .i64 a0_12), .hold])])))))) else (bif (decide (a1_0 = (str [109, 116, 105, 109, 101]))) then (callT (kp E k n dec_Time [(.str a1_1)]) fun vt20 => (tupG 2 vt20 fun vg21 vt22 => (cellI .i64 vg21 0 fun vn23 => (cellI .i64 vg21 1 fun vn24 => (tupI .u8 vt22 fun vn25 vt26 => (atNil vt26 (some (.lback (.tup []) [(.lent [(.int .i64 a0_0), (.str a0_1), (.str a0_2), (.int .i64 a0_3), (.int .i64 a0_4), (.int .i64 a0_5), (.int .i64 a0_6), (.int .i64 vn23), (.int .i64 vn24), (.str a0_9), (.str a0_10), (.int .i64 a0_11), (.int .i64 a0_12), .hold])])))))))) else (some (.lback (.tup []) [(.lent [(.int .i64 a0_0), (.str a0_1), (.str a0_2), (.int .i64 a0_3), (.int .i64 a0_4), (.int .i64 a0_5), (.int .i64 a0_6), (.int .i64 a0_7), (.int .i64 a0_8), (.str a0_9), (.str a0_10), (.int .i64 a0_11), (.int .i64 a0_12), .hold])])))))))))) := (kp_at (by kernel_rfl)).trans (by kernel_rfl)
/- oakum/over.byKey -/
theorem over_byKey_eq {E : Ext} [Core E] (k n : Nat) (a0 : List AV) (a1 : ByteArray) : kp E k (n + 1) over_byKey [(.lrow 29 a0), (.str a1)] =
  (callX (kp E k n slices_BinarySearchFunc_string [(.lrow 29 a0), (.str a1), (.func (.func over_byKey_1) [] [])]) fun vb1 vz2 => (nxR 29 vz2 fun vw4 vz3 => (bif List.length vw4 == (List.length a0) then (atNil vz3 (callT (some vb1) fun vt5 => (tupI .i64 vt5 fun vn6 vt7 => (tupB vt7 fun vq8 vt9 => (atNil vt9 (some (.lback (.tup [(.int .i64 vn6), (.bool vq8)]) [(.lrow 29 vw4)]))))))) else none))) := (kp_at (by kernel_rfl)).trans (by kernel_rfl)
/- oakum/utf.Right -/
theorem utf_Right_eq {E : Ext} [Core E] (k n : Nat) (a0 : ByteArray) : kp E k (n + 1) utf_Right [(.str a0)] =
  (callI .i64 (kp E k n utf_First [(.str a0)]) fun vn2 => (some (.bool (decide (vn2 < (0 : Int)))))) := (kp_at (by kernel_rfl)).trans (by kernel_rfl)
/- oakum/pax.value -/
theorem pax_value_eq {E : Ext} [Core E] (k n : Nat) (a0 : ByteArray) (a1 : ByteArray) : kp E k (n + 1) pax_value [(.str a0), (.str a1)] =
  (callB (kp E k n utf_Right [(.str a1)]) fun vq2 => (bif (!vq2) then (some (.bool false)) else (bif (decide (a1 = (str []))) then (some (.bool true)) else (bif (decide (a0 = (str [112, 97, 116, 104]))) then (bif (decide (a0 = (str [112, 97, 116, 104]))) then (callB (kp E k n pax_clean [(.str a1)]) fun vq4 => (some (.bool vq4))) else (bif (decide (a0 = (str [117, 105, 100]))) then (bif (decide (a0 = (str [117, 105, 100]))) then (callT (kp E k n dec_Number [(.str a1)]) fun vt6 => (tupI .i64 vt6 fun vn7 vt8 => (tupI .u8 vt8 fun vn9 vt10 => (atNil vt10 (some (.bool (decide (vn9 = (0 : Int))))))))) else (bif (decide (a0 = (str [109, 116, 105, 109, 101]))) then (callT (kp E k n dec_Time [(.str a1)]) fun vt12 => (tupG 2 vt12 fun vg13 vt14 => (cellI .i64 vg13 0 fun vn15 => (cellI .i64 vg13 1 fun vn16 => (tupI .u8 vt14 fun vn17 vt18 => (atNil vt18 (some (.bool (decide (vn17 = (0 : Int))))))))))) else (some (.bool true)))) else (bif (decide (a0 = (str [103, 105, 100]))) then (bif (decide (a0 = (str [103, 105, 100]))) then (callT (kp E k n dec_Number [(.str a1)]) fun vt20 => (tupI .i64 vt20 fun vn21 vt22 => (tupI .u8 vt22 fun vn23 vt24 => (atNil vt24 (some (.bool (decide (vn23 = (0 : Int))))))))) else (bif (decide (a0 = (str [109, 116, 105, 109, 101]))) then (callT (kp E k n dec_Time [(.str a1)]) fun vt26 => (tupG 2 vt26 fun vg27 vt28 => (cellI .i64 vg27 0 fun vn29 => (cellI .i64 vg27 1 fun vn30 => (tupI .u8 vt28 fun vn31 vt32 => (atNil vt32 (some (.bool (decide (vn31 = (0 : Int))))))))))) else (some (.bool true)))) else (bif (decide (a0 = (str [115, 105, 122, 101]))) then (callT (kp E k n dec_Number [(.str a1)]) fun vt34 => (tupI .i64 vt34 fun vn35 vt36 => (tupI .u8 vt36 fun vn37 vt38 => (atNil vt38 (some (.bool (decide (vn37 = (0 : Int))))))))) else (bif (decide (a0 = (str [109, 116, 105, 109, 101]))) then (callT (kp E k n dec_Time [(.str a1)]) fun vt40 => (tupG 2 vt40 fun vg41 vt42 => (cellI .i64 vg41 0 fun vn43 => (cellI .i64 vg41 1 fun vn44 => (tupI .u8 vt42 fun vn45 vt46 => (atNil vt46 (some (.bool (decide (vn45 = (0 : Int))))))))))) else (some (.bool true))))))) else (bif (decide (a0 = (str [108, 105, 110, 107, 112, 97, 116, 104]))) then (bif (decide (a0 = (str [108, 105, 110, 107, 112, 97, 116, 104]))) then (callB (kp E k n pax_clean [(.str a1)]) fun vq48 => (some (.bool vq48))) else (bif (decide (a0 = (str [117, 105, 100]))) then (bif (decide (a0 = (str [117, 105, 100]))) then (callT (kp E k n dec_Number [(.str a1)]) fun vt50 => (tupI .i64 vt50 fun vn51 vt52 => (tupI .u8 vt52 fun vn53 vt54 => (atNil vt54 (some (.bool (decide (vn53 = (0 : Int))))))))) else (bif (decide (a0 = (str [109, 116, 105, 109, 101]))) then (callT (kp E k n dec_Time [(.str a1)]) fun vt56 => (tupG 2 vt56 fun vg57 vt58 => (cellI .i64 vg57 0 fun vn59 => (cellI .i64 vg57 1 fun vn60 => (tupI .u8 vt58 fun vn61 vt62 => (atNil vt62 (some (.bool (decide (vn61 = (0 : Int))))))))))) else (some (.bool true)))) else (bif (decide (a0 = (str [103, 105, 100]))) then (bif (decide (a0 = (str [103, 105, 100]))) then (callT (kp E k n dec_Number [(.str a1)]) fun vt64 => (tupI .i64 vt64 fun vn65 vt66 => (tupI .u8 vt66 fun vn67 vt68 => (atNil vt68 (some (.bool (decide (vn67 = (0 : Int))))))))) else (bif (decide (a0 = (str [109, 116, 105, 109, 101]))) then (callT (kp E k n dec_Time [(.str a1)]) fun vt70 => (tupG 2 vt70 fun vg71 vt72 => (cellI .i64 vg71 0 fun vn73 => (cellI .i64 vg71 1 fun vn74 => (tupI .u8 vt72 fun vn75 vt76 => (atNil vt76 (some (.bool (decide (vn75 = (0 : Int))))))))))) else (some (.bool true)))) else (bif (decide (a0 = (str [115, 105, 122, 101]))) then (callT (kp E k n dec_Number [(.str a1)]) fun vt78 => (tupI .i64 vt78 fun vn79 vt80 => (tupI .u8 vt80 fun vn81 vt82 => (atNil vt82 (some (.bool (decide (vn81 = (0 : Int))))))))) else (bif (decide (a0 = (str [109, 116, 105, 109, 101]))) then (callT (kp E k n dec_Time [(.str a1)]) fun vt84 => (tupG 2 vt84 fun vg85 vt86 => (cellI .i64 vg85 0 fun vn87 => (cellI .i64 vg85 1 fun vn88 => (tupI .u8 vt86 fun vn89 vt90 => (atNil vt90 (some (.bool (decide (vn89 = (0 : Int))))))))))) else (some (.bool true))))))) else (bif (decide (a0 = (str [117, 110, 97, 109, 101]))) then (bif (decide (a0 = (str [117, 110, 97, 109, 101]))) then (callB (kp E k n pax_clean [(.str a1)]) fun vq92 => (some (.bool vq92))) else (bif (decide (a0 = (str [117, 105, 100]))) then (bif (decide (a0 = (str [117, 105, 100]))) then (callT (kp E k n dec_Number [(.str a1)]) fun vt94 => (tupI .i64 vt94 fun vn95 vt96 => (tupI .u8 vt96 fun vn97 vt98 => (atNil vt98 (some (.bool (decide (vn97 = (0 : Int))))))))) else (bif (decide (a0 = (str [109, 116, 105, 109, 101]))) then (callT (kp E k n dec_Time [(.str a1)]) fun vt100 => (tupG 2 vt100 fun vg101 vt102 => (cellI .i64 vg101 0 fun vn103 => (cellI .i64 vg101 1 fun vn104 => (tupI .u8 vt102 fun vn105 vt106 => (atNil vt106 (some (.bool (decide (vn105 = (0 : Int))))))))))) else (some (.bool true)))) else (bif (decide (a0 = (str [103, 105, 100]))) then (bif (decide (a0 = (str [103, 105, 100]))) then (callT (kp E k n dec_Number [(.str a1)]) fun vt108 => (tupI .i64 vt108 fun vn109 vt110 => (tupI .u8 vt110 fun vn111 vt112 => (atNil vt112 (some (.bool (decide (vn111 = (0 : Int))))))))) else (bif (decide (a0 = (str [109, 116, 105, 109, 101]))) then (callT (kp E k n dec_Time [(.str a1)]) fun vt114 => (tupG 2 vt114 fun vg115 vt116 => (cellI .i64 vg115 0 fun vn117 => (cellI .i64 vg115 1 fun vn118 => (tupI .u8 vt116 fun vn119 vt120 => (atNil vt120 (some (.bool (decide (vn119 = (0 : Int))))))))))) else (some (.bool true)))) else (bif (decide (a0 = (str [115, 105, 122, 101]))) then (callT (kp E k n dec_Number [(.str a1)]) fun vt122 => (tupI .i64 vt122 fun vn123 vt124 => (tupI .u8 vt124 fun vn125 vt126 => (atNil vt126 (some (.bool (decide (vn125 = (0 : Int))))))))) else (bif (decide (a0 = (str [109, 116, 105, 109, 101]))) then (callT (kp E k n dec_Time [(.str a1)]) fun vt128 => (tupG 2 vt128 fun vg129 vt130 => (cellI .i64 vg129 0 fun vn131 => (cellI .i64 vg129 1 fun vn132 => (tupI .u8 vt130 fun vn133 vt134 => (atNil vt134 (some (.bool (decide (vn133 = (0 : Int))))))))))) else (some (.bool true))))))) else (bif (decide (a0 = (str [103, 110, 97, 109, 101]))) then (callB (kp E k n pax_clean [(.str a1)]) fun vq136 => (some (.bool vq136))) else (bif (decide (a0 = (str [117, 105, 100]))) then (bif (decide (a0 = (str [117, 105, 100]))) then (callT (kp E k n dec_Number [(.str a1)]) fun vt138 => (tupI .i64 vt138 fun vn139 vt140 => (tupI .u8 vt140 fun vn141 vt142 => (atNil vt142 (some (.bool (decide (vn141 = (0 : Int))))))))) else (bif (decide (a0 = (str [109, 116, 105, 109, 101]))) then (callT (kp E k n dec_Time [(.str a1)]) fun vt144 => (tupG 2 vt144 fun vg145 vt146 => (cellI .i64 vg145 0 fun vn147 => (cellI .i64 vg145 1 fun vn148 => (tupI .u8 vt146 fun vn149 vt150 => (atNil vt150 (some (.bool (decide (vn149 = (0 : Int))))))))))) else (some (.bool true)))) else (bif (decide (a0 = (str [103, 105, 100]))) then (bif (decide (a0 = (str [103, 105, 100]))) then (callT (kp E k n dec_Number [(.str a1)]) fun vt152 => (tupI .i64 vt152 fun vn153 vt154 => (tupI .u8 vt154 fun vn155 vt156 => (atNil vt156 (some (.bool (decide (vn155 = (0 : Int))))))))) else (bif (decide (a0 = (str [109, 116, 105, 109, 101]))) then (callT (kp E k n dec_Time [(.str a1)]) fun vt158 => (tupG 2 vt158 fun vg159 vt160 => (cellI .i64 vg159 0 fun vn161 => (cellI .i64 vg159 1 fun vn162 => (tupI .u8 vt160 fun vn163 vt164 => (atNil vt164 (some (.bool (decide (vn163 = (0 : Int))))))))))) else (some (.bool true)))) else (bif (decide (a0 = (str [115, 105, 122, 101]))) then (callT (kp E k n dec_Number [(.str a1)]) fun vt166 => (tupI .i64 vt166 fun vn167 vt168 => (tupI .u8 vt168 fun vn169 vt170 => (atNil vt170 (some (.bool (decide (vn169 = (0 : Int))))))))) else (bif (decide (a0 = (str [109, 116, 105, 109, 101]))) then (callT (kp E k n dec_Time [(.str a1)]) fun vt172 => (tupG 2 vt172 fun vg173 vt174 => (cellI .i64 vg173 0 fun vn175 => (cellI .i64 vg173 1 fun vn176 => (tupI .u8 vt174 fun vn177 vt178 => (atNil vt178 (some (.bool (decide (vn177 = (0 : Int))))))))))) else (some (.bool true))))))))))))) := (kp_at (by kernel_rfl)).trans (by kernel_rfl)
/- slices.Index[[]int,int] -/
/- oakum/item.Flag -/
/- oakum/item.named -/
/- strings.HasSuffix -/
/- oakum/item.link -/
/- oakum/item.plain -/
/- oakum/item.device -/
/- oakum/item.extra -/
/- slices.ContainsFunc[[]oakum/api.Pair,oakum/api.Pair] -/
/- slices.BinarySearchFunc[[]oakum/api.Pair,oakum/api.Pair,string] -/
noncomputable def slices_BinarySearchFunc_string_bd : Code := Tryz.f203.body.getD .skip
noncomputable def slices_BinarySearchFunc_string_L0 (kap : FuncId → List AV → Option AV) (k : Nat) (k0 : Nat) (s1 : ByteArray) (s8 : Int) (s9 : Int) (s10 : Int) (x0 : List AV) : Option AV :=
  loop (fun fr K => code ({ (bs E0 k).cfg kap slices_BinarySearchFunc_string with rs := [0] } : Cfg) (sel slices_BinarySearchFunc_string_bd [1, 1, 1, 0, 0, 0]) fr K) (canon ({ (bs E0 k).cfg kap slices_BinarySearchFunc_string with rs := [0] } : Cfg) (firstReg (sel slices_BinarySearchFunc_string_bd [1, 1, 1, 0, 0, 0]))) k0 (mkFr 49 [(0, (.own 0)), (1, (.str s1)), (2, (.func (.func over_byKey_1) [] [])), (8, (.int .i64 s8)), (9, (.int .i64 s9)), (10, (.int .i64 s10))] [(0, (.row 29 x0 false))]) (plug ({ (bs E0 k).cfg kap slices_BinarySearchFunc_string with rs := [0] } : Cfg) (retK ({ (bs E0 k).cfg kap slices_BinarySearchFunc_string with rs := [0] } : Cfg) [] Tryz.f203 [.lrow 0 [], .junk, .junk] some) [.blk 0, .seqR (sel slices_BinarySearchFunc_string_bd [1, 1, 1, 1])])
theorem slices_BinarySearchFunc_string_L0_s (kap : FuncId → List AV → Option AV) (k : Nat) (k0 : Nat) (s1 : ByteArray) (s8 : Int) (s9 : Int) (s10 : Int) (x0 : List AV) : slices_BinarySearchFunc_string_L0 kap k (k0 + 1) s1 s8 s9 s10 x0 =
  (bif (decide (s9 < s10)) then (bif ((decide ((0 : Int) ≤ (IntKind.wrap .i64 (Int.fdiv (IntKind.wrap .u64 (IntKind.wrap .i64 (s9 + s10))) (2 ^ (min (Int.toNat (1 : Int)) (IntKind.bits .u64))))))) && (decide ((IntKind.wrap .i64 (Int.fdiv (IntKind.wrap .u64 (IntKind.wrap .i64 (s9 + s10))) (2 ^ (min (Int.toNat (1 : Int)) (IntKind.bits .u64))))) < (((List.length x0) : Nat) : Int)))) then ((x0[(Int.toNat (IntKind.wrap .i64 (Int.fdiv (IntKind.wrap .u64 (IntKind.wrap .i64 (s9 + s10))) (2 ^ (min (Int.toNat (1 : Int)) (IntKind.bits .u64))))))]?).bind fun vy1 => (cellS (AV.cells vy1) 0 fun vs2 => (cellS (AV.cells vy1) 1 fun vs3 => (callI .i64 (kap over_byKey_1 [(.agg [(.str vs2), (.str vs3)]), (.str s1)]) fun vn5 => (bif (decide (vn5 < (0 : Int))) then (slices_BinarySearchFunc_string_L0 kap k k0 s1 s8 (IntKind.wrap .i64 ((IntKind.wrap .i64 (Int.fdiv (IntKind.wrap .u64 (IntKind.wrap .i64 (s9 + s10))) (2 ^ (min (Int.toNat (1 : Int)) (IntKind.bits .u64))))) + (1 : Int))) s10 x0) else (slices_BinarySearchFunc_string_L0 kap k k0 s1 s8 s9 (IntKind.wrap .i64 (Int.fdiv (IntKind.wrap .u64 (IntKind.wrap .i64 (s9 + s10))) (2 ^ (min (Int.toNat (1 : Int)) (IntKind.bits .u64))))) x0)))))) else none) else (bif (decide (s9 < s8)) then (bif ((decide ((0 : Int) ≤ s9)) && (decide (s9 < (((List.length x0) : Nat) : Int)))) then ((x0[(Int.toNat s9)]?).bind fun vy6 => (cellS (AV.cells vy6) 0 fun vs7 => (cellS (AV.cells vy6) 1 fun vs8 => (callI .i64 (kap over_byKey_1 [(.agg [(.str vs7), (.str vs8)]), (.str s1)]) fun vn10 => (some (.lback (.tup [(.int .i64 s9), (.bool (decide (vn10 = (0 : Int))))]) [(.lrow 29 x0)])))))) else none) else (some (.lback (.tup [(.int .i64 s9), (.bool false)]) [(.lrow 29 x0)])))) := by kernel_rfl
theorem slices_BinarySearchFunc_string_eq {E : Ext} [Core E] (k n : Nat) (a0 : List AV) (a1 : ByteArray) : kp E k (n + 1) slices_BinarySearchFunc_string [(.lrow 29 a0), (.str a1), (.func (.func over_byKey_1) [] [])] =
  (slices_BinarySearchFunc_string_L0 (kp E k n) k k a1 (((List.length a0) : Nat) : Int) (0 : Int) (((List.length a0) : Nat) : Int) a0) := (kp_at (by kernel_rfl)).trans (by kernel_rfl)
/- oakum/over.byKey$1 -/
theorem over_byKey_1_eq {E : Ext} [Core E] (k n : Nat) (a0_0 : ByteArray) (a0_1 : ByteArray) (a1 : ByteArray) : kp E k (n + 1) over_byKey_1 [(.agg [(.str a0_0), (.str a0_1)]), (.str a1)] =
  (callI .i64 (kp E k n strings_Compare [(.str a0_0), (.str a1)]) fun vn2 => (some (.int .i64 vn2))) := (kp_at (by kernel_rfl)).trans (by kernel_rfl)
/- slices.rotateRight[oakum/api.Pair] -/
/- oakum/utf.First -/
noncomputable def utf_First_bd : Code := Tryz.f209.body.getD .skip
noncomputable def utf_First_L0 (kap : FuncId → List AV → Option AV) (k : Nat) (k0 : Nat) (s0 : ByteArray) (i6s : ByteArray) (i6p : Nat) : Option AV :=
  loop (fun fr K => code ((bs E0 k).cfg kap utf_First) (sel utf_First_bd [1, 0, 1, 0, 0]) fr K) (canon ((bs E0 k).cfg kap utf_First) (firstReg (sel utf_First_bd [1, 0, 1, 0, 0]))) k0 (mkFr 16 [(0, (.str s0)), (6, (.itr 6))] [(6, (.it i6s i6p))]) (plug ((bs E0 k).cfg kap utf_First) (retK ((bs E0 k).cfg kap utf_First) [] Tryz.f209 [] some) [.blk 0, .seqR (sel utf_First_bd [1, 1])])
theorem utf_First_L0_s (kap : FuncId → List AV → Option AV) (k : Nat) (k0 : Nat) (s0 : ByteArray) (i6s : ByteArray) (i6p : Nat) : utf_First_L0 kap k (k0 + 1) s0 i6s i6p =
  (bif (decide (i6p < (ByteArray.size i6s))) then (callB (kap utf_wrong [(.str s0), (.int .i64 ((i6p : Nat) : Int)), (.int .i32 (((Utf8.decode i6s i6p).1 : Nat) : Int))]) fun vq2 => (bif vq2 then (some (.int .i64 ((i6p : Nat) : Int))) else (utf_First_L0 kap k k0 s0 i6s (i6p + (Utf8.decode i6s i6p).2)))) else (some (.int .i64 (-1 : Int)))) := by kernel_rfl
theorem utf_First_eq {E : Ext} [Core E] (k n : Nat) (a0 : ByteArray) : kp E k (n + 1) utf_First [(.str a0)] =
  (utf_First_L0 (kp E k n) k k a0 a0 0) := (kp_at (by kernel_rfl)).trans (by kernel_rfl)
/- oakum/pax.clean -/
theorem pax_clean_eq {E : Ext} [Core E] (k n : Nat) (a0 : ByteArray) : kp E k (n + 1) pax_clean [(.str a0)] =
  (callI .i64 (kp E k n strings_IndexByte [(.str a0), (.int .u8 (0 : Int))]) fun vn2 => (some (.bool (decide (vn2 < (0 : Int)))))) := (kp_at (by kernel_rfl)).trans (by kernel_rfl)
/- slices.Contains[[]string,string] -/
/- oakum/text.Clean -/
/- internal/stringslite.HasSuffix -/
/- oakum/item.extra$1 -/
/- slices.rotateLeft[oakum/api.Pair] -/
/- oakum/utf.wrong -/
theorem utf_wrong_eq {E : Ext} [Core E] (k n : Nat) (a0 : ByteArray) (a1 : Int) (a2 : Int) : kp E k (n + 1) utf_wrong [(.str a0), (.int .i64 a1), (.int .i32 a2)] =
  (bif (!(decide (a2 = (65533 : Int)))) then (some (.bool false)) else (bif ((decide ((0 : Int) ≤ a1)) && (decide (a1 ≤ (((ByteArray.size a0) : Nat) : Int)))) then (callT (kp E k n unicode_utf8_DecodeRuneInString [(.str (ByteArray.extract a0 (Int.toNat a1) (ByteArray.size a0)))]) fun vt2 => (tupI .i32 vt2 fun vn3 vt4 => (tupI .i64 vt4 fun vn5 vt6 => (atNil vt6 (some (.bool (decide (vn5 = (1 : Int))))))))) else none)) := (kp_at (by kernel_rfl)).trans (by kernel_rfl)
/- slices.Equal[[]string,string] -/
end Go.Proofs.YtogfcfgfkggmlaaGreatDoor.Eng.U


/- Items' names in plain words: what a full name tells, a head's full names, how much a head is. -/
set_option linter.unusedVariables false
set_option linter.unusedSectionVars false
set_option linter.unusedSimpArgs false
namespace Go.Proofs.YtogfcfgfkggmlaaGreatDoor.Eng.U
open Go Go.Proofs Go.Proofs.YtogfcfgfkggmlaaGreatDoor.Eng
variable {E : Ext} [Core E] {k n : Nat}

/-- Does a text end in a slash? -/
def sl (s : List UInt8) : Bool := decide (s.getLast? = some 47)
def told (kind : Int) (s : List UInt8) : Int × List UInt8 :=
  if kind = 1 ∧ sl s = true then (if 1 < s.length then (6, s.dropLast) else (6, s))
  else if kind = 6 ∧ sl s = true ∧ 1 < s.length then (6, s.dropLast) else (kind, s)
end Go.Proofs.YtogfcfgfkggmlaaGreatDoor.Eng.U


/- ItemFulls, but for whether any field is wrong. -/
set_option linter.unusedVariables false
set_option linter.unusedSectionVars false
set_option linter.unusedSimpArgs false
namespace Go.Proofs.YtogfcfgfkggmlaaGreatDoor.Eng.U
open Go Go.Proofs Go.Proofs.YtogfcfgfkggmlaaGreatDoor.Eng
variable {E : Ext} [Core E] {k n : Nat}

end Go.Proofs.YtogfcfgfkggmlaaGreatDoor.Eng.U

