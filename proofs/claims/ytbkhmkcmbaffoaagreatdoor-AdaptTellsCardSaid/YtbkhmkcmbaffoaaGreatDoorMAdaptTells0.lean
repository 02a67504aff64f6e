/- Several texts of this proof in one file: Core, Shelf, RowT, R09, Api, U09, U09b, R04, Q04, U04, U04b, U04c, V04, RS, U09c, U09e, R7, Z05a, Z05b, Z05c, U09f. -/
import Derived.Test.YtbkhmkcmbaffoaaGreatDoorMEAdaptTells2
import Derived.Test.YtbkhmkcmbaffoaaGreatDoorProg
import Derived.Lib.DecodeN
import Derived.Lib.ItoaNum
import Derived.Shelf.Strings.Builder1
import Derived.Shelf.Strings.Builder2
import Derived.Shelf.Strings.OnBuilder
import Derived.Shelf.Strings.Trim
import Derived.Shelf.Small.Utf8
import Derived.Shelf.Small.Bits
import Derived.Shelf.Small.Strs
import Derived.Shelf.Small.Wraps
import Derived.Shelf.Strings.BuilderF
import Derived.Shelf.Strings.BuilderK
import Derived.Shelf.Strings.BuilderRune
import Derived.Shelf.Utf8.AppendRune
import Derived.Shelf.Utf8.AppendRunePlain
import Derived.Shelf.Strings.Builder2Cap
import Derived.Shelf.Strconv.Itoa0
import Derived.Shelf.Strconv.Itoa1
import Derived.Shelf.LaysM
import Derived.Shelf.Strconv.Itoa2
import Derived.Shelf.Strconv.Itoa3
import Derived.Shelf.Strconv.Itoa4
import Derived.Shelf.Bytes.Len
import Derived.Shelf.Bytes.TryGrow
import Derived.Shelf.Bytes.GrowSliceCatch
import Derived.Shelf.Bytes.GrowSlice
import Derived.Shelf.Bytes.GrowRow0
import Derived.Shelf.Bytes.GrowRow
import Derived.Shelf.Bytes.GrowNil
import Derived.Shelf.Bytes.Grow
import Derived.Shelf.Bytes.WriteString
import Derived.Shelf.Bytes.Reset
import Derived.Shelf.Bytes.Bytes
import Derived.Shelf.Strconv.ParseIntEmpty
import Derived.Shelf.Strconv.Clone
import Derived.Shelf.Strconv.SyntaxError
import Derived.Shelf.LaysC
import Derived.Shelf.Strconv.ToError
import Derived.Shelf.Strconv.Lower
import Derived.Shelf.Strconv.ParseUint10
import Derived.Shelf.Strconv.ParseUint10Empty
import Derived.Shelf.Strconv.ParseUint10Any
import Derived.Shelf.Strconv.ParseInt10
import Derived.Shelf.Strconv.RangeError
import Derived.Shelf.Strconv.ToErrorRange
import Derived.Shelf.Strconv.ParseUintEmpty
import Derived.Shelf.Strconv.ParseUint10b64
import Derived.Shelf.Strconv.ParseUint10b32
import Derived.Shelf.Strconv.ParseUint10b16
import Derived.Shelf.Strconv.ParseUint10b8
import Derived.Shelf.Strconv.ParseUint10At
import Derived.Shelf.Strconv.ParseInt10At64
import Derived.Shelf.Strconv.ParseInt10At32
import Derived.Shelf.Strconv.ParseInt10At16
import Derived.Shelf.Strconv.ParseInt10At8
import Derived.Shelf.Strconv.ParseInt10All
import Derived.Shelf.Strconv.ParseIntPublic10
import Derived.Shelf.Strconv.ErrVarParseInt
import Derived.Ground.MpProg
import Derived.Shelf.Pu.ParseUintPublic10
import Derived.Shelf.Pu.ErrVarParseUint
import Derived.Shelf.Strings.Search1
import Derived.Shelf.Bytes.GrowRow0Kept
import Derived.Shelf.Strings.Search2
import Derived.Shelf.Bytes.GrowRowKept
import Derived.Shelf.Strings.Search3
import Derived.Shelf.Bytes.GrowNilKept
import Derived.Shelf.Strings.Cut
import Derived.Shelf.Bytes.GrowKept
import Derived.Shelf.Strings.Shaped
import Derived.Shelf.Bytes.WriteStringKept
import Derived.Shelf.Bytes.ResetKept
import Derived.Shelf.Strings.LastIndex
import Derived.Shelf.Bytes.BufferK
import Derived.Shelf.Bytes.GrowRow0Own
import Derived.Shelf.Bytes.GrowRowOwn
import Derived.Shelf.Bytes.GrowNilOwn
import Derived.Shelf.Bytes.GrowOwn
import Derived.Shelf.Bytes.LenAt
import Derived.Shelf.Bytes.TryGrowAt
import Derived.Shelf.Bytes.GrowRow0At
import Derived.Shelf.Bytes.GrowRowAt
import Derived.Shelf.Bytes.GrowNilAt
import Derived.Shelf.Bytes.GrowAt
import Derived.Shelf.Bytes.WriteStringAt
import Derived.Shelf.Strings.Prefix
import Derived.Shelf.Unicode.Decode
import Derived.Shelf.Strings.Runes
import Derived.Shelf.Strings.IndexAny
import Derived.Shelf.Strings.AsciiSet
import Derived.Shelf.Strings.IndexAnyAll
import Derived.Shelf.Bits.Mul64
import Derived.Shelf.Strings.Repeat
import Derived.Shelf.Unicode.DecodeSlow
import Derived.Shelf.Unicode.DecodeAny
import Derived.Shelf.Unicode.DecodeLast
import Derived.Shelf.Strings.BuilderCap
import Derived.Ground.PaProg
import Derived.Shelf.Path.Small
import Derived.Test.YtbkhmkcmbaffoaaGreatDoorCards
import Derived.Test.YtbkhmkcmbaffoaaGreatDoorTie
import Derived.Lib.LaidIn
import Derived.Lib.LaidU8
import Derived.PinnedBridge
import Derived.Deep.DeepHandedRow
import Derived.ChangeSlices
import Derived.WalkKit
import Derived.ProofKit
import Derived.OpenShut
import Derived.ShutString
import Derived.ChangeOld
import Derived.ChangeSame
import Derived.Below
import Derived.Lib.ParseIntB
import Derived.Lib.Bytealg
import Derived.Lib.TrimByte
import Derived.Lib.Strings
import Derived.Lib.Repeat
import Derived.Lib.ItoaMem
import Derived.Lib.ItoaLen
import Derived.IntWalk
import Derived.Lib.RuneCountTail
import Derived.Lib.IndexAny
/- The functions of a seat, by their names; what each loop keeps; a base open at its given functions. Printed by gen2.py. -/
set_option linter.unusedVariables false
namespace Go.Proofs.YtbkhmkcmbaffoaaGreatDoor.Eng.U
open Go Go.Proofs Go.Proofs.YtbkhmkcmbaffoaaGreatDoor.Eng
def law34_AdaptTells : FuncId := 8
def item_Wrong : FuncId := 12
def rep_First : FuncId := 13
def rep_Records : FuncId := 14
def over_Right : FuncId := 15
def rep_Can : FuncId := 16
def rep_Dialect : FuncId := 18
def ref07_Same : FuncId := 24
def law34_alive : FuncId := 31
def law17_Many : FuncId := 32
def adapt_Head : FuncId := 33
def ref08_SameHead : FuncId := 35
def item_Flag : FuncId := 39
def item_named : FuncId := 40
def strings_HasSuffix : FuncId := 41
def item_link : FuncId := 42
def dec_Right : FuncId := 43
def item_plain : FuncId := 44
def item_device : FuncId := 45
def item_extra : FuncId := 46
def rep_can : FuncId := 47
def slices_Clone_api_Pair : FuncId := 48
def dec_Print : FuncId := 50
def item_Fulls : FuncId := 51
def dec_Text : FuncId := 52
def strings_Compare : FuncId := 55
def pax_Right : FuncId := 56
def rep_full : FuncId := 61
def pax_Known : FuncId := 69
def slices_IndexFunc_api_Pair : FuncId := 71
def strconv_Itoa : FuncId := 74
def pax_Len : FuncId := 75
def strings_Clone : FuncId := 79
def adapt_can : FuncId := 80
def adapt_field : FuncId := 81
def slices_Clone_byte : FuncId := 88
def text_Clean : FuncId := 89
def stringslite_HasSuffix : FuncId := 90
def slices_ContainsFunc_api_Pair : FuncId := 91
def item_extra_1 : FuncId := 92
def rep_kind : FuncId := 93
def rep_text : FuncId := 94
def rep_small : FuncId := 95
def rep_owner : FuncId := 96
def rep_great : FuncId := 97
def rep_when : FuncId := 98
def rep_people : FuncId := 99
def rep_fits : FuncId := 100
def strconv_FormatInt : FuncId := 101
def strings_TrimRight : FuncId := 102
def utf_Right : FuncId := 106
def strings_ContainsAny : FuncId := 107
def pax_value : FuncId := 108
def rep_splits : FuncId := 114
def rep_full_1 : FuncId := 115
def rep_full_2 : FuncId := 116
def slices_IndexFunc_string : FuncId := 117
def dec_Number : FuncId := 121
def dec_Time : FuncId := 122
def strings_Cut : FuncId := 127
def stringslite_Clone : FuncId := 128
def adapt_name : FuncId := 129
def adapt_text : FuncId := 130
def adapt_when : FuncId := 131
def adapt_people : FuncId := 132
def strings_IndexByte : FuncId := 138
def num_Most : FuncId := 139
def utf_First : FuncId := 156
def strings_IndexAny : FuncId := 157
def pax_clean : FuncId := 158
def split_Split : FuncId := 162
def dec_natural : FuncId := 164
def strings_CutPrefix : FuncId := 165
def dec_digits : FuncId := 166
def strconv_ParseInt : FuncId := 167
def strings_Repeat : FuncId := 168
def stringslite_Cut : FuncId := 172
def adapt_named : FuncId := 173
def utf_Mend : FuncId := 174
def path_Up : FuncId := 175
def utf_Cut : FuncId := 176
def utf_wrong : FuncId := 193
def strings_IndexRune : FuncId := 194
def strings_shouldUseASCIISet : FuncId := 195
def split_Most : FuncId := 199
def strings_LastIndexByte : FuncId := 200
def split_cut : FuncId := 201
def strconv_ParseUint : FuncId := 202
def strings_HasPrefix : FuncId := 207
def stringslite_Index : FuncId := 213
def path_stack : FuncId := 215
def path_Clean : FuncId := 216
def path_form : FuncId := 217
def path_absolute : FuncId := 218
def unicode_utf8_DecodeRuneInString : FuncId := 225
def unicode_utf8_ValidRune : FuncId := 227
def bytealg_LastIndexByteString : FuncId := 232
def stringslite_HasPrefix : FuncId := 234
def path_Parts : FuncId := 245
def strings_Join : FuncId := 246
def dirs : FuncId → Nat → Option Dir
  | 6, 10 => some { slots := [(1, .keep), (3, .keep), (5, .keep), (6, .keep)], boxes := [1, 5] }
  | 8, 14 => some { slots := [(3, .keep), (5, .keep), (6, .keep), (15, .keep)], boxes := [3, 5] }
  | 9, 8 => some { slots := [(0, .keep), (1, .keep), (5, .keep), (6, .keep), (7, .keep), (8, .keep), (9, .keep), (10, .keep)], boxes := [] }
  | 9, 19 => some { slots := [(0, .keep), (1, .keep), (5, .keep), (6, .keep), (7, .keep), (8, .keep), (11, .keep), (12, .keep), (13, .own 3 false), (14, .keep)], boxes := [] }
  | 11, 3 => some { slots := [(1, .keep), (3, .keep), (4, .keep)], boxes := [1] }
  | 13, 6 => some { slots := [(0, .keep), (3, .keep), (6, .keep)], boxes := [3] }
  | 15, 2 => some { slots := [(0, .keep), (5, .keep), (6, .keep), (7, .keep)], boxes := [] }
  | 17, 3 => some { slots := [(3, .keep), (4, .keep)], boxes := [3] }
  | 19, 5 => some { slots := [(0, .keep), (7, .keep), (8, .keep), (9, .keep), (10, .keep)], boxes := [] }
  | 20, 2 => some { slots := [(0, .keep), (3, .keep), (5, .keep)], boxes := [3] }
  | 22, 3 => some { slots := [(0, .keep), (3, .keep), (6, .keep), (7, .keep)], boxes := [3] }
  | 23, 8 => some { slots := [(1, .keep), (4, .own 9 false), (5, .own 3 false), (6, .own 9 false), (7, .own 50 false), (8, .keep)], boxes := [1] }
  | 24, 4 => some { slots := [(0, .keep), (1, .keep), (5, .keep)], boxes := [] }
  | 25, 5 => some { slots := [(2, .keep), (4, .keep), (13, .keep), (14, .keep), (15, .keep)], boxes := [2, 4, 66, 68], rows := [⟨2, 13, 50, 66⟩, ⟨4, 13, 50, 68⟩] }
  | 29, 2 => some { slots := [(0, .keep), (4, .own 50 false)], boxes := [] }
  | 32, 3 => some { slots := [(0, .keep), (3, .keep), (4, .keep)], boxes := [] }
  | 32, 8 => some { slots := [(0, .keep), (3, .keep), (4, .keep), (5, .keep), (6, .keep)], boxes := [5] }
  | 33, 8 => some { slots := [(0, .keep), (3, .keep), (4, .keep), (9, .own 3 false), (10, .keep)], boxes := [3, 4] }
  | 36, 4 => some { slots := [(0, .keep), (1, .keep), (5, .keep)], boxes := [] }
  | 37, 9 => some { slots := [(0, .keep), (8, .own 62 false), (9, .own 77 false), (10, .own 3 false), (21, .keep), (22, .keep), (23, .keep)], boxes := [] }
  | 57, 2 => some { slots := [(1, .keep), (2, .keep), (3, .keep)], boxes := [1, 2], gate := true }
  | 57, 3 => some { slots := [(1, .keep), (2, .keep), (3, .keep), (4, .keep)], boxes := [1, 2], gate := true }
  | 57, 5 => some { slots := [(1, .keep), (2, .keep), (3, .keep), (4, .keep), (5, .keep)], boxes := [1, 2, 5], gate := true }
  | 57, 6 => some { slots := [(1, .keep), (2, .keep), (3, .keep), (4, .keep), (5, .keep)], boxes := [1, 2, 5], gate := true }
  | 57, 7 => some { slots := [(1, .keep), (2, .keep), (4, .keep), (5, .keep)], boxes := [1, 2, 5], gate := true }
  | 57, 11 => some { slots := [(1, .keep), (2, .keep), (4, .keep), (5, .keep)], boxes := [1, 2, 5], gate := true }
  | 57, 13 => some { slots := [(1, .keep), (2, .keep), (4, .keep), (5, .keep)], boxes := [1, 2, 5], gate := true }
  | 57, 14 => some { slots := [(1, .keep), (2, .keep), (4, .keep), (5, .keep)], boxes := [1, 2, 5], gate := true }
  | 57, 15 => some { slots := [(1, .keep), (2, .keep), (4, .keep), (5, .keep)], boxes := [1, 2, 5], gate := true }
  | 57, 16 => some { slots := [(1, .keep), (2, .keep), (5, .keep)], boxes := [1, 2, 5], gate := true }
  | 57, 18 => some { slots := [(1, .keep), (2, .keep), (5, .keep), (6, .keep)], boxes := [1, 2, 5] }
  | 58, 3 => some { slots := [(1, .keep), (3, .keep)], boxes := [1] }
  | 65, 3 => some { slots := [(3, .keep), (4, .keep)], boxes := [] }
  | 67, 9 => some { slots := [(4, .keep), (5, .keep)], boxes := [] }
  | 68, 4 => some { slots := [(5, .own 50 true), (6, .own 50 false), (7, .keep), (8, .keep)], boxes := [] }
  | 68, 6 => some { slots := [(5, .own 50 true), (6, .own 50 false), (7, .keep), (8, .keep), (9, .keep), (10, .keep), (11, .keep)], boxes := [] }
  | 71, 2 => some { slots := [(0, .keep), (1, .keep), (7, .keep), (8, .keep)], boxes := [] }
  | 75, 3 => some { slots := [(3, .keep), (4, .keep)], boxes := [] }
  | 81, 26 => some { slots := [(0, .keep), (2, .keep), (4, .keep), (6, .keep)], boxes := [4, 6] }
  | 82, 6 => some { slots := [(0, .keep), (3, .keep), (6, .keep), (7, .keep)], boxes := [3] }
  | 100, 4 => some { slots := [(4, .keep), (5, .keep), (13, .keep), (14, .keep), (15, .keep)], boxes := [] }
  | 111, 2 => some { slots := [(0, .keep), (3, .keep)], boxes := [] }
  | 112, 3 => some { slots := [(0, .keep), (3, .keep), (4, .keep)], boxes := [] }
  | 117, 2 => some { slots := [(0, .keep), (1, .keep), (7, .keep), (8, .keep)], boxes := [] }
  | 118, 3 => some { slots := [(0, .keep), (3, .own 3 false), (4, .keep)], boxes := [] }
  | 119, 3 => some { slots := [(0, .keep), (3, .own 3 false), (4, .keep)], boxes := [] }
  | 120, 2 => some { slots := [(0, .keep), (1, .keep), (6, .keep)], boxes := [] }
  | 126, 3 => some { slots := [(0, .keep), (5, .keep), (8, .keep), (9, .keep), (10, .keep)], boxes := [] }
  | 129, 5 => some { slots := [(0, .keep), (3, .keep), (4, .keep), (23, .keep), (24, .keep)], boxes := [3, 4] }
  | 133, 5 => some { slots := [(0, .keep), (3, .keep), (4, .keep), (5, .keep), (6, .keep)], boxes := [] }
  | 134, 2 => some { slots := [(0, .keep), (3, .frz)], boxes := [] }
  | 134, 4 => some { slots := [(0, .keep), (3, .frz), (4, .keep), (5, .keep)], boxes := [] }
  | 134, 10 => some { slots := [(0, .keep), (3, .frz)], boxes := [] }
  | 136, 4 => some { slots := [(0, .keep), (1, .keep), (5, .keep), (6, .keep), (7, .keep)], boxes := [] }
  | 137, 2 => some { slots := [(0, .keep), (1, .keep), (7, .keep), (8, .keep)], boxes := [] }
  | 141, 1 => some { slots := [(0, .keep), (1, .keep)], boxes := [] }
  | 144, 1 => some { slots := [(0, .keep), (1, .keep)], boxes := [] }
  | 156, 2 => some { slots := [(0, .keep), (6, .keep)], boxes := [6] }
  | 157, 12 => some { slots := [(0, .keep), (6, .keep), (8, .keep)], boxes := [6] }
  | 157, 18 => some { slots := [(1, .keep), (45, .keep)], boxes := [45] }
  | 160, 4 => some { slots := [(1, .keep), (3, .keep)], boxes := [1] }
  | 163, 15 => some { slots := [(0, .keep), (1, .keep), (6, .keep), (7, .keep), (8, .keep)], boxes := [] }
  | 166, 2 => some { slots := [(0, .keep), (5, .keep), (6, .keep)], boxes := [] }
  | 176, 5 => some { slots := [(0, .keep), (1, .keep), (5, .keep), (13, .keep)], boxes := [13] }
  | 177, 4 => some { slots := [(0, .keep), (3, .own 9 false), (4, .keep), (5, .keep)], boxes := [] }
  | 179, 3 => some { slots := [(0, .keep), (1, .keep), (5, .keep), (6, .keep)], boxes := [] }
  | 186, 10 => some { slots := [(0, .keep), (4, .keep), (5, .keep), (6, .keep)], boxes := [] }
  | 194, 5 => some { slots := [(0, .keep), (7, .keep), (8, .keep), (9, .keep)], boxes := [] }
  | 194, 12 => some { slots := [(0, .keep), (7, .keep), (8, .keep), (9, .keep), (12, .keep)], boxes := [] }
  | 194, 25 => some { slots := [(0, .keep), (7, .keep), (8, .keep), (9, .keep), (14, .keep), (15, .keep)], boxes := [] }
  | 194, 29 => some { slots := [(0, .keep), (7, .keep), (8, .keep), (9, .keep), (14, .keep), (15, .keep), (16, .keep)], boxes := [] }
  | 194, 38 => some { slots := [(175, .keep)], boxes := [175] }
  | 196, 3 => some { slots := [(0, .keep), (3, .own 5 false), (4, .keep)], boxes := [] }
  | 198, 6 => some { slots := [(0, .keep), (2, .keep), (4, .keep), (5, .keep), (6, .keep)], boxes := [2] }
  | 198, 17 => some { slots := [(2, .keep), (4, .keep), (7, .keep), (8, .keep), (9, .keep), (10, .keep), (11, .keep)], boxes := [2] }
  | 215, 3 => some { slots := [(0, .keep), (3, .own 9 false), (7, .keep), (8, .keep), (9, .keep)], boxes := [] }
  | 230, 5 => some { slots := [(0, .keep), (4, .keep), (5, .keep)], boxes := [] }
  | 231, 2 => some { slots := [(0, .keep), (3, .keep)], boxes := [] }
  | 232, 2 => some { slots := [(0, .keep), (1, .keep), (5, .keep)], boxes := [] }
  | 243, 5 => some { slots := [(0, .keep), (1, .keep), (5, .keep), (6, .keep), (7, .keep), (8, .keep), (9, .keep)], boxes := [] }
  | 243, 11 => some { slots := [(0, .keep), (1, .keep), (5, .keep), (6, .keep), (7, .keep), (8, .keep), (10, .keep)], boxes := [] }
  | 251, 10 => some { slots := [(0, .keep), (3, .keep), (4, .keep), (5, .keep)], boxes := [] }
  | 255, 3 => some { slots := [(0, .keep), (4, .keep), (5, .keep)], boxes := [] }
  | 255, 8 => some { slots := [(4, .keep), (6, .keep), (7, .keep), (8, .keep)], boxes := [] }
  | _, _ => none
def fl : FuncId → List Bool
  | _ => []
def ln : FuncId → List Nat
  | 70 => [1, 0]
  | _ => []
def hd : FuncId → List Nat
  | 70 => [13]
  | _ => []
def glob (g : Nat) : Option (List AV) :=
  if g = 7 then some ((List.range 256).map fun c => .int .u8 (Lib.firstT c : Int)) else if g = 8 then some ((List.range 32).map fun i => .int .u8 ((if i % 2 = 0 then Lib.accLo (i / 2) else Lib.accHi (i / 2) : Nat) : Int)) else if g = 2 then some (Lib.pow10Tab.map fun z => .int .u64 z) else if g = 3 then some [.ifc] else if g = 4 then some [.ifc] else if g = 6 then some (([0, 1, 56, 2, 57, 49, 28, 3, 61, 58, 42, 50, 38, 29, 17, 4, 62, 47, 59, 36, 45, 43, 51, 22, 53, 39, 33, 30, 24, 18, 12, 5, 63, 55, 48, 27, 60, 41, 37, 16, 46, 35, 44, 21, 52, 32, 23, 11, 54, 26, 40, 15, 34, 20, 31, 10, 25, 14, 19, 9, 13, 8, 7, 6] : List Int).map fun z => .int .u8 z) else none
def coreFs : List FuncId := [3, 4, 5, 6, 7, 8, 9, 10, 11, 12, 13, 15, 16, 17, 18, 19, 20, 21, 22, 23, 24, 25, 27, 29, 30, 31, 32, 33, 35, 36, 37, 38, 39, 40, 41, 42, 43, 44, 45, 46, 47, 50, 51, 52, 54, 56, 57, 58, 59, 60, 61, 62, 63, 64, 65, 66, 67, 68, 69, 70, 71, 72, 75, 77, 78, 79, 80, 81, 82, 83, 84, 85, 86, 87, 89, 90, 91, 92, 93, 94, 95, 96, 97, 98, 99, 100, 104, 105, 106, 107, 108, 109, 110, 111, 112, 113, 114, 115, 116, 117, 118, 119, 120, 121, 122, 125, 126, 127, 129, 130, 131, 132, 133, 134, 135, 136, 137, 139, 141, 144, 153, 154, 156, 158, 159, 160, 161, 162, 163, 164, 166, 172, 173, 175, 176, 177, 178, 179, 180, 181, 186, 187, 189, 193, 194, 195, 196, 197, 198, 199, 200, 201, 203, 206, 207, 215, 216, 217, 218, 220, 221, 222, 223, 224, 227, 228, 230, 231, 232, 234, 239, 240, 243, 250, 251, 255, 258, 260]
noncomputable def bs (E : Ext) (k : Nat) : Base := { P := Tryz.prog, fs := E.fs, isBase := E.isBase, base := E.base, fl := fl, ln := ln, hd := hd, glob := glob, dirs := dirs, k := k }
/-- An extension that has no given functions: for what doesn't look at them. -/
def E0 : Ext := { fs := [], isBase := fun _ => false, base := fun _ _ => none }
class Core (E : Ext) : Prop where
  isB : ∀ f, coreFs.contains f = true → E.isBase f = false
  has : ∀ f, coreFs.contains f = true → E.fs.contains f = true
/-- What a function answers, calls nested n deep, k rounds of each loop. -/
noncomputable def kp (E : Ext) (k n : Nat) : FuncId → List AV → Option AV := (bs E k).kap n
theorem kp_at {E : Ext} [h : Core E] {k n : Nat} {f : FuncId} {args : List AV} (hf : coreFs.contains f = true) : kp E k (n + 1) f args = (bs E k).at (kp E k n) f args := Base.kap_at (h.isB f hf) (h.has f hf) args
theorem kp_base {E : Ext} {k n : Nat} {f : FuncId} {args : List AV} (hf : E.isBase f = true) : kp E k n f args = E.base f args := Base.kap_base (B := bs E k) hf args
end Go.Proofs.YtbkhmkcmbaffoaaGreatDoor.Eng.U


/-
  DERIVED: THE SHELF's CONTRACTS AT THIS DUMP, IN PLAIN WORDS (tools/lay-plain.mjs out of 'TryzShelf.lean', which tools/lay-shelf.mjs wrote): THE SAME DECLARATIONS UNDER THE SAME NAMES: 'import', 'namespace', 'open', 'def', 'theorem' AND NOTHING ELSE: no command of the shelf's: FOR A HAND-IN. Each laying: the table of numbers ('.._ren') and one theorem, a field a fact of the dump's own or the kernel's comparison; each contract: ONE APPLICATION.
-/
namespace Go.Proofs
open Go.Shelf
def Tryz.lays169_ren : Go.Shelf.Ren := ⟨fun | 169 => 211 | n => n, fun | 70 => 216 | 9 => 9 | 0 => 0 | 72 => 218 | 37 => 56 | 127 => 184 | 3 => 3 | 5 => 5 | n => n, fun | n => n⟩
theorem Tryz.lays169 : Go.Proofs.Lays.n169 Tryz.prog Tryz.lays169_ren := {
  mixed := by kernel_rfl
  f169 := Tryz.func211.trans (congrArg some (by kernel_rfl))
  t0 := Tryz.underlying0
  a0 := Tryz.isAgg0
  z0 := Tryz.sizeOf0
  v0 := Tryz.zeroValue0
  t3 := Tryz.underlying3
  a3 := Tryz.isAgg3
  z3 := Tryz.sizeOf3
  v3 := Tryz.zeroValue3
  t9 := Tryz.underlying9
  a9 := Tryz.isAgg9
  z9 := Tryz.sizeOf9
  v9 := Tryz.zeroValue9
  t37 := Tryz.underlying56
  a37 := Tryz.isAgg56
  z37 := Tryz.sizeOf56
  v37 := Tryz.zeroValue56
  t70 := Tryz.underlying216
  a70 := Tryz.isAgg216
  z70 := Tryz.sizeOf216
  v70 := Tryz.zeroValue216
  t72 := Tryz.underlying218
  a72 := Tryz.isAgg218
  z72 := Tryz.sizeOf218
  v72 := Tryz.zeroValue218
  t127 := Tryz.underlying184
  a127 := Tryz.isAgg184
  z127 := Tryz.sizeOf184
  v127 := Tryz.zeroValue184 }
theorem Tryz.Builder_Extra_169 : Builder.Extra Tryz.prog Tryz.lays169_ren := {
  sizeBuilder := by kernel_rfl
  liesBuilder := by kernel_rfl
  t5 := Tryz.underlying5
  a5 := Tryz.isAgg5
  z5 := Tryz.sizeOf5
  v5 := Tryz.zeroValue5
  infoByte := by kernel_rfl
  cellsByte := by kernel_rfl
  sizeByte := by kernel_rfl
  neB5 := by decide }
def Tryz.lays156_ren : Go.Shelf.Ren := ⟨fun | 156 => 246 | 165 => 208 | 166 => 209 | 169 => 211 | 240 => 241 | 241 => 242 | 276 => 253 | 277 => 254 | n => n, fun | 31 => 88 | 9 => 9 | 3 => 3 | 4 => 4 | 0 => 0 | 20 => 20 | 72 => 218 | 76 => 112 | 70 => 216 | 37 => 56 | 75 => 111 | 127 => 184 | 164 => 243 | 5 => 5 | 80 => 220 | n => n, fun | n => n⟩
theorem Tryz.lays156 : Go.Proofs.Lays.n156 Tryz.prog Tryz.lays156_ren := {
  mixed := by kernel_rfl
  f156 := Tryz.func246.trans (congrArg some (by kernel_rfl))
  f165 := Tryz.func208.trans (congrArg some (by kernel_rfl))
  f166 := Tryz.func209.trans (congrArg some (by kernel_rfl))
  f169 := Tryz.func211.trans (congrArg some (by kernel_rfl))
  f240 := Tryz.func241.trans (congrArg some (by kernel_rfl))
  f241 := Tryz.func242.trans (congrArg some (by kernel_rfl))
  f276 := Tryz.func253.trans (congrArg some (by kernel_rfl))
  f277 := Tryz.func254.trans (congrArg some (by kernel_rfl))
  t0 := Tryz.underlying0
  a0 := Tryz.isAgg0
  z0 := Tryz.sizeOf0
  v0 := Tryz.zeroValue0
  t3 := Tryz.underlying3
  a3 := Tryz.isAgg3
  z3 := Tryz.sizeOf3
  v3 := Tryz.zeroValue3
  t4 := Tryz.underlying4
  a4 := Tryz.isAgg4
  z4 := Tryz.sizeOf4
  v4 := Tryz.zeroValue4
  t9 := Tryz.underlying9
  a9 := Tryz.isAgg9
  z9 := Tryz.sizeOf9
  v9 := Tryz.zeroValue9
  t20 := Tryz.underlying20
  a20 := Tryz.isAgg20
  z20 := Tryz.sizeOf20
  v20 := Tryz.zeroValue20
  t31 := Tryz.underlying88
  a31 := Tryz.isAgg88
  z31 := Tryz.sizeOf88
  v31 := Tryz.zeroValue88
  t37 := Tryz.underlying56
  a37 := Tryz.isAgg56
  z37 := Tryz.sizeOf56
  v37 := Tryz.zeroValue56
  t70 := Tryz.underlying216
  a70 := Tryz.isAgg216
  z70 := Tryz.sizeOf216
  v70 := Tryz.zeroValue216
  t72 := Tryz.underlying218
  a72 := Tryz.isAgg218
  z72 := Tryz.sizeOf218
  v72 := Tryz.zeroValue218
  t75 := Tryz.underlying111
  a75 := Tryz.isAgg111
  z75 := Tryz.sizeOf111
  v75 := Tryz.zeroValue111
  t76 := Tryz.underlying112
  a76 := Tryz.isAgg112
  z76 := Tryz.sizeOf112
  v76 := Tryz.zeroValue112
  t127 := Tryz.underlying184
  a127 := Tryz.isAgg184
  z127 := Tryz.sizeOf184
  v127 := Tryz.zeroValue184
  t164 := Tryz.underlying243
  a164 := Tryz.isAgg243
  z164 := Tryz.sizeOf243
  v164 := Tryz.zeroValue243 }
theorem Tryz.Builder_Extra_156 : Builder.Extra Tryz.prog Tryz.lays156_ren := {
  sizeBuilder := by kernel_rfl
  liesBuilder := by kernel_rfl
  t5 := Tryz.underlying5
  a5 := Tryz.isAgg5
  z5 := Tryz.sizeOf5
  v5 := Tryz.zeroValue5
  infoByte := by kernel_rfl
  cellsByte := by kernel_rfl
  sizeByte := by kernel_rfl
  neB5 := by decide }
open Go.RowKit in
/-- No element: the empty string; the world is as it was. (Whatever the slice's address and capacity: a nil slice too.) (LAID: no walk: one application.) -/
theorem Tryz.strings_Join_none (a : Option Addr) (c : Nat) (sep : ByteArray) (w : World) :
    Calls Tryz.prog 246 #[.slice a 0 c, .string sep] w fun e w' => e = .returned (.string ⟨#[]⟩) ∧ w' = w := Any.strings_Join_none Tryz.lays156 Tryz.Builder_Extra_156 a c sep w
open Go.RowKit in
/-- strings.Join: "Join concatenates the elements of its first argument to create a single string. The separator string sep is placed between elements in the resulting string.": HOWEVER MANY ELEMENTS. Below the heap's end the world is as it was. (LAID: no walk: one application.) -/
theorem Tryz.strings_Join (bk o c : Nat) (xs : List ByteArray) (sep : ByteArray) (w : World) (hcells : ∀ (j : Nat) x, xs[j]? = some x → w.cell? ⟨bk, o + j, none⟩ = some (.string x)) (hbk : bk < w.heap.size) (hN : xs.length ≤ 140737488355328) (hcap : xs.length ≤ c) (hlen : (Lib.join (xs.map (·.data.toList)) sep.data.toList).length ≤ 140737488355328) :
    Calls Tryz.prog 246 #[.slice (some ⟨bk, o, none⟩) xs.length c, .string sep] w fun e w' => e = .returned (.string ⟨(Lib.join (xs.map (·.data.toList)) sep.data.toList).toArray⟩) ∧ Below w.heap.size w w' := Any.strings_Join Tryz.lays156 Tryz.Builder_Extra_156 bk o c xs sep w hcells hbk hN hcap hlen
def Tryz.lays162_ren : Go.Shelf.Ren := ⟨fun | 162 => 102 | 232 => 141 | 227 => 142 | 234 => 143 | 236 => 144 | 228 => 185 | 271 => 186 | 151 => 187 | 120 => 224 | 197 => 225 | 152 => 194 | 260 => 249 | 137 => 138 | 119 => 227 | 224 => 228 | 225 => 229 | 217 => 180 | 266 => 219 | n => n, fun | 9 => 9 | 4 => 4 | 3 => 3 | 5 => 5 | 117 => 160 | 116 => 159 | 0 => 0 | 124 => 163 | 21 => 21 | 105 => 194 | 46 => 135 | 119 => 252 | 139 => 255 | 138 => 254 | n => n, fun | 3 => 7 | 4 => 8 | n => n⟩
theorem Tryz.lays162 : Go.Proofs.Lays.n162 Tryz.prog Tryz.lays162_ren := {
  mixed := by kernel_rfl
  f119 := Tryz.func227.trans (congrArg some (by kernel_rfl))
  f120 := Tryz.func224.trans (congrArg some (by kernel_rfl))
  f137 := Tryz.func138.trans (congrArg some (by kernel_rfl))
  f151 := Tryz.func187.trans (congrArg some (by kernel_rfl))
  f152 := Tryz.func194.trans (congrArg some (by kernel_rfl))
  f162 := Tryz.func102.trans (congrArg some (by kernel_rfl))
  f197 := Tryz.func225.trans (congrArg some (by kernel_rfl))
  f217 := Tryz.func180.trans (congrArg some (by kernel_rfl))
  f224 := Tryz.func228.trans (congrArg some (by kernel_rfl))
  f225 := Tryz.func229.trans (congrArg some (by kernel_rfl))
  f227 := Tryz.func142.trans (congrArg some (by kernel_rfl))
  f228 := Tryz.func185.trans (congrArg some (by kernel_rfl))
  f232 := Tryz.func141.trans (congrArg some (by kernel_rfl))
  f234 := Tryz.func143.trans (congrArg some (by kernel_rfl))
  f236 := Tryz.func144.trans (congrArg some (by kernel_rfl))
  f260 := Tryz.func249.trans (congrArg some (by kernel_rfl))
  f266 := Tryz.func219.trans (congrArg some (by kernel_rfl))
  f271 := Tryz.func186.trans (congrArg some (by kernel_rfl))
  t0 := Tryz.underlying0
  a0 := Tryz.isAgg0
  z0 := Tryz.sizeOf0
  v0 := Tryz.zeroValue0
  t3 := Tryz.underlying3
  a3 := Tryz.isAgg3
  z3 := Tryz.sizeOf3
  v3 := Tryz.zeroValue3
  t4 := Tryz.underlying4
  a4 := Tryz.isAgg4
  z4 := Tryz.sizeOf4
  v4 := Tryz.zeroValue4
  t5 := Tryz.underlying5
  a5 := Tryz.isAgg5
  z5 := Tryz.sizeOf5
  v5 := Tryz.zeroValue5
  t9 := Tryz.underlying9
  a9 := Tryz.isAgg9
  z9 := Tryz.sizeOf9
  v9 := Tryz.zeroValue9
  t21 := Tryz.underlying21
  a21 := Tryz.isAgg21
  z21 := Tryz.sizeOf21
  v21 := Tryz.zeroValue21
  t46 := Tryz.underlying135
  a46 := Tryz.isAgg135
  z46 := Tryz.sizeOf135
  v46 := Tryz.zeroValue135
  t105 := Tryz.underlying194
  a105 := Tryz.isAgg194
  z105 := Tryz.sizeOf194
  v105 := Tryz.zeroValue194
  t116 := Tryz.underlying159
  a116 := Tryz.isAgg159
  z116 := Tryz.sizeOf159
  t117 := Tryz.underlying160
  a117 := Tryz.isAgg160
  z117 := Tryz.sizeOf160
  v117 := Tryz.zeroValue160
  t119 := Tryz.underlying252
  a119 := Tryz.isAgg252
  z119 := Tryz.sizeOf252
  t124 := Tryz.underlying163
  a124 := Tryz.isAgg163
  z124 := Tryz.sizeOf163
  v124 := Tryz.zeroValue163
  t138 := Tryz.underlying254
  a138 := Tryz.isAgg254
  z138 := Tryz.sizeOf254
  v138 := Tryz.zeroValue254
  t139 := Tryz.underlying255
  a139 := Tryz.isAgg255
  z139 := Tryz.sizeOf255
  v139 := Tryz.zeroValue255
  g3 := by kernel_rfl
  g4 := by kernel_rfl }
open Go.RowKit in
/-- strings.TrimRight: "TrimRight returns a slice of the string s, with all trailing Unicode code points contained in cutset removed.": AT A cutset OF ONE ASCII BYTE. The world is as it was. (LAID: no walk: one application.) -/
theorem Tryz.strings_TrimRight_one (s : ByteArray) (c : UInt8) (hc : c.toNat < 128) (w : World) (hs : s.size ≤ 9223372036854775807) :
    Calls Tryz.prog 102 #[.string s, .string ⟨#[c]⟩] w fun e w' => e = .returned (.string ⟨(Lib.trimRightB s.data.toList c).toArray⟩) ∧ w' = w := Any.strings_TrimRight_one Tryz.lays162 s c hc w hs
def Tryz.lays106_ren : Go.Shelf.Ren := ⟨fun | 106 => 55 | 213 => 105 | 265 => 155 | n => n, fun | 9 => 9 | 3 => 3 | n => n, fun | n => n⟩
theorem Tryz.lays106 : Go.Proofs.Lays.n106 Tryz.prog Tryz.lays106_ren := {
  mixed := by kernel_rfl
  f106 := Tryz.func55.trans (congrArg some (by kernel_rfl))
  f213 := Tryz.func105.trans (congrArg some (by kernel_rfl))
  f265 := Tryz.func155.trans (congrArg some (by kernel_rfl))
  t3 := Tryz.underlying3
  a3 := Tryz.isAgg3
  z3 := Tryz.sizeOf3
  v3 := Tryz.zeroValue3
  t9 := Tryz.underlying9
  a9 := Tryz.isAgg9
  z9 := Tryz.sizeOf9
  v9 := Tryz.zeroValue9 }
open Go.RowKit in
/-- strings.Compare: "Compare returns an integer comparing two strings lexicographically. The result will be 0 if a == b, -1 if a < b, and +1 if a > b.": IT RETURNS 'Lib.compareBytes a b'; the world is as it was. (LAID: no walk: one application.) -/
theorem Tryz.strings_Compare (a b : ByteArray) (w : World) :
    Calls Tryz.prog 55 #[.string a, .string b] w fun e w' => e = .returned (.int .i64 (Lib.compareBytes a.data.toList b.data.toList)) ∧ w' = w := Any.strings_Compare Tryz.lays106 a b w
def Tryz.lays137_ren : Go.Shelf.Ren := ⟨fun | 137 => 138 | 217 => 180 | 266 => 219 | n => n, fun | 9 => 9 | 5 => 5 | 3 => 3 | n => n, fun | n => n⟩
theorem Tryz.lays137 : Go.Proofs.Lays.n137 Tryz.prog Tryz.lays137_ren := {
  mixed := by kernel_rfl
  f137 := Tryz.func138.trans (congrArg some (by kernel_rfl))
  f217 := Tryz.func180.trans (congrArg some (by kernel_rfl))
  f266 := Tryz.func219.trans (congrArg some (by kernel_rfl))
  t3 := Tryz.underlying3
  a3 := Tryz.isAgg3
  z3 := Tryz.sizeOf3
  v3 := Tryz.zeroValue3
  t5 := Tryz.underlying5
  a5 := Tryz.isAgg5
  z5 := Tryz.sizeOf5
  v5 := Tryz.zeroValue5
  t9 := Tryz.underlying9
  a9 := Tryz.isAgg9
  z9 := Tryz.sizeOf9
  v9 := Tryz.zeroValue9 }
open Go.RowKit in
/-- strings.IndexByte: "IndexByte returns the index of the first instance of c in s, or -1 if c is not present in s.": IT RETURNS 'Lib.indexByte s c'; the world is as it was. (LAID: no walk: one application.) -/
theorem Tryz.strings_IndexByte (s : ByteArray) (c : Int) (w : World) :
    Calls Tryz.prog 138 #[.string s, .int .u8 c] w fun e w' => e = .returned (.int .i64 (Lib.indexByte s.data.toList c.toNat.toUInt8)) ∧ w' = w := Any.strings_IndexByte Tryz.lays137 s c w
def Tryz.lays103_ren : Go.Shelf.Ren := ⟨fun | 103 => 165 | 210 => 203 | 206 => 234 | n => n, fun | 9 => 9 | 4 => 4 | 24 => 43 | 3 => 3 | n => n, fun | n => n⟩
theorem Tryz.lays103 : Go.Proofs.Lays.n103 Tryz.prog Tryz.lays103_ren := {
  mixed := by kernel_rfl
  f103 := Tryz.func165.trans (congrArg some (by kernel_rfl))
  f206 := Tryz.func234.trans (congrArg some (by kernel_rfl))
  f210 := Tryz.func203.trans (congrArg some (by kernel_rfl))
  t3 := Tryz.underlying3
  a3 := Tryz.isAgg3
  z3 := Tryz.sizeOf3
  v3 := Tryz.zeroValue3
  t4 := Tryz.underlying4
  a4 := Tryz.isAgg4
  z4 := Tryz.sizeOf4
  v4 := Tryz.zeroValue4
  t9 := Tryz.underlying9
  a9 := Tryz.isAgg9
  z9 := Tryz.sizeOf9
  v9 := Tryz.zeroValue9
  t24 := Tryz.underlying43
  a24 := Tryz.isAgg43
  z24 := Tryz.sizeOf43
  v24 := Tryz.zeroValue43 }
open Go.RowKit in
/-- strings.CutPrefix: "CutPrefix returns s without the provided leading prefix string and reports whether it found the prefix. If s doesn't start with prefix, CutPrefix returns s, false. If prefix is the empty string, CutPrefix returns s, true.": IT RETURNS '(Lib.trimPrefix s p, Lib.hasPrefix s p)'; the world is as it was. (LAID: no walk: one application.) -/
theorem Tryz.strings_CutPrefix (s p : ByteArray) (w : World) :
    Calls Tryz.prog 165 #[.string s, .string p] w fun e w' => e = .returned (.tuple #[.string ⟨(Lib.trimPrefix s.data.toList p.data.toList).toArray⟩, .bool (Lib.hasPrefix s.data.toList p.data.toList)]) ∧ w' = w := Any.strings_CutPrefix Tryz.lays103 s p w
open Go.RowKit in
/-- (*strings.Builder).String: "String returns the accumulated string.": WHATEVER THE BUILDER HOLDS; THE FORM '_k': OVER 'Lib.IsBuilderF' (a builder that 'String()' may have read), AND WITH THE FRAME THAT REACHES ABOVE THE BUILDER: 'Lib.OthersKept': every block that is not b and is no row of uint8's stands as it stood: the iterator of a range among them. (LAID: no walk: one application.) -/
theorem Tryz.Builder_String_any_k (B b : Nat) (l : List UInt8) (w : World) (h : Lib.IsBuilderF 218 5 B b (Lib.byteCells l) w) (hBw : B ≤ w.heap.size) :
    Calls Tryz.prog 211 #[.pointer (some ⟨b, 0, none⟩)] w fun e w' => e = .returned (.string ⟨l.toArray⟩) ∧ (Lib.IsBuilderF 218 5 B b (Lib.byteCells l) w' ∧ Below B w w' ∧ Lib.OthersKept 5 (some b) w w') := Any.Builder_String_any_k Tryz.lays169 Tryz.Builder_Extra_169 B b l w h hBw
def Tryz.lays242_ren : Go.Shelf.Ren := ⟨fun | 242 => 244 | 278 => 256 | n => n, fun | 37 => 56 | 21 => 21 | 51 => 172 | 4 => 4 | 5 => 5 | 46 => 135 | n => n, fun | n => n⟩
theorem Tryz.lays242 : Go.Proofs.Lays.n242 Tryz.prog Tryz.lays242_ren := {
  mixed := by kernel_rfl
  f242 := Tryz.func244.trans (congrArg some (by kernel_rfl))
  f278 := Tryz.func256.trans (congrArg some (by kernel_rfl))
  t4 := Tryz.underlying4
  a4 := Tryz.isAgg4
  z4 := Tryz.sizeOf4
  v4 := Tryz.zeroValue4
  t5 := Tryz.underlying5
  a5 := Tryz.isAgg5
  z5 := Tryz.sizeOf5
  v5 := Tryz.zeroValue5
  t21 := Tryz.underlying21
  a21 := Tryz.isAgg21
  z21 := Tryz.sizeOf21
  v21 := Tryz.zeroValue21
  t37 := Tryz.underlying56
  a37 := Tryz.isAgg56
  z37 := Tryz.sizeOf56
  v37 := Tryz.zeroValue56
  t46 := Tryz.underlying135
  a46 := Tryz.isAgg135
  z46 := Tryz.sizeOf135
  v46 := Tryz.zeroValue135
  t51 := Tryz.underlying172
  a51 := Tryz.isAgg172
  z51 := Tryz.sizeOf172
  v51 := Tryz.zeroValue172 }
open Go.RowKit in
/-- unicode/utf8.AppendRune: "AppendRune appends the UTF-8 encoding of r to the end of p and returns the extended buffer. If the rune is out of range, it appends the encoding of RuneError.": ONTO A ROW OF BYTES THAT THE CALL OWNS (its head frozen or not): EVERY int32: 'Lib.runeCells r' goes in behind what the row holds; the world: one new block (the bytes as the call's variadic argument), then what 'append' does to the row. (LAID: no walk: one application.) -/
theorem Tryz.utf8_AppendRune_row (B : Nat) (v : Value) (n : Nat) (xs : List Value) (r : Int) (hr0 : -2147483648 ≤ r) (hr1 : r ≤ 2147483647) (w : World) (hown : w.ownsRowF B 5 1 v n xs) (hlen : n + 4 ≤ 140737488355328) (hBw : B ≤ w.heap.size) :
    Calls Tryz.prog 244 #[v, .int .i32 r] w fun e w' => ∃ v', e = .returned v' ∧ w'.ownsRowF B 5 1 v' (n + (Lib.runeCells r).length) (xs ++ Lib.runeCells r) ∧ ∃ o, (w.alloc o).grownBy w' v.ownBlock := Any.utf8_AppendRune_row Tryz.lays242 (by kernel_rfl) B v n xs r hr0 hr1 w hown hlen hBw
def Tryz.laysM171_ren : Go.Shelf.Ren := ⟨fun | 171 => 74 | 243 => 125 | 246 => 140 | 283 => 181 | 284 => 182 | 285 => 183 | 286 => 184 | 129 => 154 | 317 => 220 | 318 => 221 | 319 => 222 | 320 => 223 | 337 => 247 | 338 => 248 | n => n, fun | 3 => 3 | 9 => 9 | 2 => 2 | 4 => 4 | 171 => 189 | 0 => 0 | 53 => 174 | 37 => 56 | 5 => 5 | 173 => 191 | 212 => 223 | 51 => 172 | 20 => 20 | 213 => 224 | 46 => 135 | 232 => 250 | 233 => 251 | n => n, fun | 17 => 2 | 18 => 5 | 19 => 6 | n => n⟩
theorem Tryz.laysM171 : Go.Proofs.LaysM.n171 Tryz.prog Tryz.laysM171_ren := {
  mixed := by kernel_rfl
  f129 := Tryz.func154.trans (congrArg some (by kernel_rfl))
  f171 := Tryz.func74.trans (congrArg some (by kernel_rfl))
  f243 := Tryz.func125.trans (congrArg some (by kernel_rfl))
  f246 := Tryz.func140.trans (congrArg some (by kernel_rfl))
  f283 := Tryz.func181.trans (congrArg some (by kernel_rfl))
  f284 := Tryz.func182.trans (congrArg some (by kernel_rfl))
  f285 := Tryz.func183.trans (congrArg some (by kernel_rfl))
  f286 := Tryz.func184.trans (congrArg some (by kernel_rfl))
  f317 := Tryz.func220.trans (congrArg some (by kernel_rfl))
  f318 := Tryz.func221.trans (congrArg some (by kernel_rfl))
  f319 := Tryz.func222.trans (congrArg some (by kernel_rfl))
  f320 := Tryz.func223.trans (congrArg some (by kernel_rfl))
  f337 := Tryz.func247.trans (congrArg some (by kernel_rfl))
  f338 := Tryz.func248.trans (congrArg some (by kernel_rfl))
  t0 := Tryz.underlying0
  a0 := Tryz.isAgg0
  z0 := Tryz.sizeOf0
  v0 := Tryz.zeroValue0
  t2 := Tryz.underlying2
  a2 := Tryz.isAgg2
  z2 := Tryz.sizeOf2
  v2 := Tryz.zeroValue2
  t3 := Tryz.underlying3
  a3 := Tryz.isAgg3
  z3 := Tryz.sizeOf3
  v3 := Tryz.zeroValue3
  t4 := Tryz.underlying4
  a4 := Tryz.isAgg4
  z4 := Tryz.sizeOf4
  v4 := Tryz.zeroValue4
  t5 := Tryz.underlying5
  a5 := Tryz.isAgg5
  z5 := Tryz.sizeOf5
  v5 := Tryz.zeroValue5
  t9 := Tryz.underlying9
  a9 := Tryz.isAgg9
  z9 := Tryz.sizeOf9
  v9 := Tryz.zeroValue9
  t20 := Tryz.underlying20
  a20 := Tryz.isAgg20
  z20 := Tryz.sizeOf20
  v20 := Tryz.zeroValue20
  t37 := Tryz.underlying56
  a37 := Tryz.isAgg56
  z37 := Tryz.sizeOf56
  v37 := Tryz.zeroValue56
  t46 := Tryz.underlying135
  a46 := Tryz.isAgg135
  z46 := Tryz.sizeOf135
  v46 := Tryz.zeroValue135
  t51 := Tryz.underlying172
  a51 := Tryz.isAgg172
  z51 := Tryz.sizeOf172
  v51 := Tryz.zeroValue172
  t53 := Tryz.underlying174
  a53 := Tryz.isAgg174
  z53 := Tryz.sizeOf174
  v53 := Tryz.zeroValue174
  t171 := Tryz.underlying189
  a171 := Tryz.isAgg189
  z171 := Tryz.sizeOf189
  v171 := Tryz.zeroValue189
  t173 := Tryz.underlying191
  a173 := Tryz.isAgg191
  z173 := Tryz.sizeOf191
  v173 := Tryz.zeroValue191
  t212 := Tryz.underlying223
  a212 := Tryz.isAgg223
  z212 := Tryz.sizeOf223
  v212 := Tryz.zeroValue223
  t213 := Tryz.underlying224
  a213 := Tryz.isAgg224
  z213 := Tryz.sizeOf224
  t232 := Tryz.underlying250
  a232 := Tryz.isAgg250
  z232 := Tryz.sizeOf250
  v232 := Tryz.zeroValue250
  t233 := Tryz.underlying251
  a233 := Tryz.isAgg251
  z233 := Tryz.sizeOf251
  v233 := Tryz.zeroValue251
  g17 := by kernel_rfl
  g18 := by kernel_rfl
  g19 := by kernel_rfl
  i0 := by kernel_rfl
  i2 := by kernel_rfl
  i3 := by kernel_rfl
  i4 := by kernel_rfl
  i5 := by kernel_rfl
  i9 := by kernel_rfl
  i20 := by kernel_rfl
  i37 := by kernel_rfl
  i46 := by kernel_rfl
  i51 := by kernel_rfl
  i53 := by kernel_rfl
  i171 := by kernel_rfl
  i173 := by kernel_rfl
  i212 := by kernel_rfl
  i232 := by kernel_rfl
  i233 := by kernel_rfl
  m17 := by kernel_rfl
  m18 := by kernel_rfl
  m19 := by kernel_rfl }
open Go.RowKit Go.Sort Go.Lib in
/-- strconv.Itoa: "Itoa is equivalent to FormatInt(int64(i), 10).": i's DECIMAL NUMERAL ('Lib.itoa': a '-' where i is negative, then the digits), FOR EVERY int. The world behind the call: the world before it, new blocks behind the heap (the library's 'var a [24]byte'), draws. (LAID: no walk: one application.) -/
theorem Tryz.strconv_Itoa (n : Int) (h0 : -9223372036854775808 ≤ n) (h1 : n ≤ 9223372036854775807) (w : World) (htab : Lib.TabIs Tryz.prog w "internal/strconv.uint64pow10" .u64 Lib.pow10Tab) :
    Calls Tryz.prog 74 #[.int .i64 n] w fun e w' => e = .returned (.string ⟨(Lib.itoa n).toArray⟩) ∧ ∃ k os, w' = grow (w.drewN k) os := Any.strconv_Itoa Tryz.laysM171 n h0 h1 w htab
def Tryz.laysM173_ren : Go.Shelf.Ren := ⟨fun | 173 => 101 | 246 => 140 | 283 => 181 | 284 => 182 | 285 => 183 | 286 => 184 | 129 => 154 | 317 => 220 | 318 => 221 | 319 => 222 | 320 => 223 | 337 => 247 | 338 => 248 | n => n, fun | 2 => 2 | 3 => 3 | 9 => 9 | 4 => 4 | 171 => 189 | 0 => 0 | 53 => 174 | 37 => 56 | 5 => 5 | 173 => 191 | 212 => 223 | 51 => 172 | 20 => 20 | 213 => 224 | 46 => 135 | 232 => 250 | 233 => 251 | n => n, fun | 17 => 2 | 18 => 5 | 19 => 6 | n => n⟩
theorem Tryz.laysM173 : Go.Proofs.LaysM.n173 Tryz.prog Tryz.laysM173_ren := {
  mixed := by kernel_rfl
  f129 := Tryz.func154.trans (congrArg some (by kernel_rfl))
  f173 := Tryz.func101.trans (congrArg some (by kernel_rfl))
  f246 := Tryz.func140.trans (congrArg some (by kernel_rfl))
  f283 := Tryz.func181.trans (congrArg some (by kernel_rfl))
  f284 := Tryz.func182.trans (congrArg some (by kernel_rfl))
  f285 := Tryz.func183.trans (congrArg some (by kernel_rfl))
  f286 := Tryz.func184.trans (congrArg some (by kernel_rfl))
  f317 := Tryz.func220.trans (congrArg some (by kernel_rfl))
  f318 := Tryz.func221.trans (congrArg some (by kernel_rfl))
  f319 := Tryz.func222.trans (congrArg some (by kernel_rfl))
  f320 := Tryz.func223.trans (congrArg some (by kernel_rfl))
  f337 := Tryz.func247.trans (congrArg some (by kernel_rfl))
  f338 := Tryz.func248.trans (congrArg some (by kernel_rfl))
  t0 := Tryz.underlying0
  a0 := Tryz.isAgg0
  z0 := Tryz.sizeOf0
  v0 := Tryz.zeroValue0
  t2 := Tryz.underlying2
  a2 := Tryz.isAgg2
  z2 := Tryz.sizeOf2
  v2 := Tryz.zeroValue2
  t3 := Tryz.underlying3
  a3 := Tryz.isAgg3
  z3 := Tryz.sizeOf3
  v3 := Tryz.zeroValue3
  t4 := Tryz.underlying4
  a4 := Tryz.isAgg4
  z4 := Tryz.sizeOf4
  v4 := Tryz.zeroValue4
  t5 := Tryz.underlying5
  a5 := Tryz.isAgg5
  z5 := Tryz.sizeOf5
  v5 := Tryz.zeroValue5
  t9 := Tryz.underlying9
  a9 := Tryz.isAgg9
  z9 := Tryz.sizeOf9
  v9 := Tryz.zeroValue9
  t20 := Tryz.underlying20
  a20 := Tryz.isAgg20
  z20 := Tryz.sizeOf20
  v20 := Tryz.zeroValue20
  t37 := Tryz.underlying56
  a37 := Tryz.isAgg56
  z37 := Tryz.sizeOf56
  v37 := Tryz.zeroValue56
  t46 := Tryz.underlying135
  a46 := Tryz.isAgg135
  z46 := Tryz.sizeOf135
  v46 := Tryz.zeroValue135
  t51 := Tryz.underlying172
  a51 := Tryz.isAgg172
  z51 := Tryz.sizeOf172
  v51 := Tryz.zeroValue172
  t53 := Tryz.underlying174
  a53 := Tryz.isAgg174
  z53 := Tryz.sizeOf174
  v53 := Tryz.zeroValue174
  t171 := Tryz.underlying189
  a171 := Tryz.isAgg189
  z171 := Tryz.sizeOf189
  v171 := Tryz.zeroValue189
  t173 := Tryz.underlying191
  a173 := Tryz.isAgg191
  z173 := Tryz.sizeOf191
  v173 := Tryz.zeroValue191
  t212 := Tryz.underlying223
  a212 := Tryz.isAgg223
  z212 := Tryz.sizeOf223
  v212 := Tryz.zeroValue223
  t213 := Tryz.underlying224
  a213 := Tryz.isAgg224
  z213 := Tryz.sizeOf224
  t232 := Tryz.underlying250
  a232 := Tryz.isAgg250
  z232 := Tryz.sizeOf250
  v232 := Tryz.zeroValue250
  t233 := Tryz.underlying251
  a233 := Tryz.isAgg251
  z233 := Tryz.sizeOf251
  v233 := Tryz.zeroValue251
  g17 := by kernel_rfl
  g18 := by kernel_rfl
  g19 := by kernel_rfl
  i0 := by kernel_rfl
  i2 := by kernel_rfl
  i3 := by kernel_rfl
  i4 := by kernel_rfl
  i5 := by kernel_rfl
  i9 := by kernel_rfl
  i20 := by kernel_rfl
  i37 := by kernel_rfl
  i46 := by kernel_rfl
  i51 := by kernel_rfl
  i53 := by kernel_rfl
  i171 := by kernel_rfl
  i173 := by kernel_rfl
  i212 := by kernel_rfl
  i232 := by kernel_rfl
  i233 := by kernel_rfl
  m17 := by kernel_rfl
  m18 := by kernel_rfl
  m19 := by kernel_rfl }
open Go.RowKit Go.Sort Go.Lib in
/-- strconv.FormatInt: "FormatInt returns the string representation of i in the given base": AT BASE 10: i's decimal numeral, for every int64. (LAID: no walk: one application.) -/
theorem Tryz.strconv_FormatInt_10 (n : Int) (h0 : -9223372036854775808 ≤ n) (h1 : n ≤ 9223372036854775807) (w : World) (htab : Lib.TabIs Tryz.prog w "internal/strconv.uint64pow10" .u64 Lib.pow10Tab) :
    Calls Tryz.prog 101 #[.int .i64 n, .int .i64 10] w fun e w' => e = .returned (.string ⟨(Lib.itoa n).toArray⟩) ∧ ∃ k os, w' = grow (w.drewN k) os := Any.strconv_FormatInt_10 Tryz.laysM173 n h0 h1 w htab
def Tryz.laysM316_ren : Go.Shelf.Ren := ⟨fun | 316 => 128 | n => n, fun | 9 => 9 | 3 => 3 | 4 => 4 | 37 => 56 | 0 => 0 | 127 => 184 | 5 => 5 | n => n, fun | n => n⟩
theorem Tryz.laysM316 : Go.Proofs.LaysM.n316 Tryz.prog Tryz.laysM316_ren := {
  mixed := by kernel_rfl
  f316 := Tryz.func128.trans (congrArg some (by kernel_rfl))
  t0 := Tryz.underlying0
  a0 := Tryz.isAgg0
  z0 := Tryz.sizeOf0
  v0 := Tryz.zeroValue0
  t3 := Tryz.underlying3
  a3 := Tryz.isAgg3
  z3 := Tryz.sizeOf3
  v3 := Tryz.zeroValue3
  t4 := Tryz.underlying4
  a4 := Tryz.isAgg4
  z4 := Tryz.sizeOf4
  v4 := Tryz.zeroValue4
  t9 := Tryz.underlying9
  a9 := Tryz.isAgg9
  z9 := Tryz.sizeOf9
  v9 := Tryz.zeroValue9
  t37 := Tryz.underlying56
  a37 := Tryz.isAgg56
  z37 := Tryz.sizeOf56
  v37 := Tryz.zeroValue56
  t127 := Tryz.underlying184
  a127 := Tryz.isAgg184
  z127 := Tryz.sizeOf184
  v127 := Tryz.zeroValue184
  t5 := Tryz.underlying5
  a5 := Tryz.isAgg5
  z5 := Tryz.sizeOf5
  v5 := Tryz.zeroValue5
  i0 := by kernel_rfl
  i3 := by kernel_rfl
  i4 := by kernel_rfl
  i5 := by kernel_rfl
  i9 := by kernel_rfl
  i37 := by kernel_rfl
  i127 := by kernel_rfl }
open Go.RowKit in
/-- internal/stringslite.Clone (what strings.Clone calls): "Clone returns a fresh copy of s.": THE SAME BYTES. Of what was there nothing has turned (a new row is laid, and frozen, where s is not empty). (LAID: no walk: one application.) -/
theorem Tryz.stringslite_Clone (s : ByteArray) (w : World) (hlim : s.size ≤ 281474976710656) :
    Calls Tryz.prog 128 #[.string s] w fun e w' => e = .returned (.string s) ∧ Below w.heap.size w w' := Any.stringslite_Clone Tryz.laysM316 s w hlim
def Tryz.laysC174_ren : Go.Shelf.Ren := ⟨fun | 174 => 167 | 247 => 204 | 245 => 205 | 287 => 233 | 279 => 235 | 280 => 236 | 281 => 237 | 282 => 238 | 321 => 250 | 322 => 251 | 316 => 128 | 171 => 74 | 205 => 252 | 243 => 125 | 246 => 140 | 283 => 181 | 284 => 182 | 285 => 183 | 286 => 184 | 129 => 154 | 317 => 220 | 318 => 221 | 319 => 222 | 320 => 223 | 337 => 247 | 338 => 248 | n => n, fun | 9 => 9 | 3 => 3 | 2 => 2 | 75 => 111 | 85 => 180 | 4 => 4 | 167 => 229 | 5 => 5 | 53 => 174 | 175 => 211 | 46 => 135 | 168 => 230 | 37 => 56 | 0 => 0 | 210 => 241 | 21 => 21 | 127 => 184 | 145 => 258 | 143 => 256 | 171 => 189 | 173 => 191 | 212 => 223 | 51 => 172 | 20 => 20 | 213 => 224 | 232 => 250 | 233 => 251 | 80 => 220 | n => n, fun | 15 => 3 | 16 => 4 | 17 => 2 | 18 => 5 | 19 => 6 | n => n⟩
theorem Tryz.laysC174 : Go.Proofs.LaysC.n174 Tryz.prog Tryz.laysC174_ren := {
  mixed := by kernel_rfl
  f129 := Tryz.func154.trans (congrArg some (by kernel_rfl))
  f171 := Tryz.func74.trans (congrArg some (by kernel_rfl))
  f174 := Tryz.func167.trans (congrArg some (by kernel_rfl))
  f205 := Tryz.func252.trans (congrArg some (by kernel_rfl))
  f243 := Tryz.func125.trans (congrArg some (by kernel_rfl))
  f245 := Tryz.func205.trans (congrArg some (by kernel_rfl))
  f246 := Tryz.func140.trans (congrArg some (by kernel_rfl))
  f247 := Tryz.func204.trans (congrArg some (by kernel_rfl))
  f279 := Tryz.func235.trans (congrArg some (by kernel_rfl))
  f280 := Tryz.func236.trans (congrArg some (by kernel_rfl))
  f281 := Tryz.func237.trans (congrArg some (by kernel_rfl))
  f282 := Tryz.func238.trans (congrArg some (by kernel_rfl))
  f283 := Tryz.func181.trans (congrArg some (by kernel_rfl))
  f284 := Tryz.func182.trans (congrArg some (by kernel_rfl))
  f285 := Tryz.func183.trans (congrArg some (by kernel_rfl))
  f286 := Tryz.func184.trans (congrArg some (by kernel_rfl))
  f287 := Tryz.func233.trans (congrArg some (by kernel_rfl))
  f316 := Tryz.func128.trans (congrArg some (by kernel_rfl))
  f317 := Tryz.func220.trans (congrArg some (by kernel_rfl))
  f318 := Tryz.func221.trans (congrArg some (by kernel_rfl))
  f319 := Tryz.func222.trans (congrArg some (by kernel_rfl))
  f320 := Tryz.func223.trans (congrArg some (by kernel_rfl))
  f321 := Tryz.func250.trans (congrArg some (by kernel_rfl))
  f322 := Tryz.func251.trans (congrArg some (by kernel_rfl))
  f337 := Tryz.func247.trans (congrArg some (by kernel_rfl))
  f338 := Tryz.func248.trans (congrArg some (by kernel_rfl))
  t0 := Tryz.underlying0
  a0 := Tryz.isAgg0
  z0 := Tryz.sizeOf0
  v0 := Tryz.zeroValue0
  t2 := Tryz.underlying2
  a2 := Tryz.isAgg2
  z2 := Tryz.sizeOf2
  v2 := Tryz.zeroValue2
  t3 := Tryz.underlying3
  a3 := Tryz.isAgg3
  z3 := Tryz.sizeOf3
  v3 := Tryz.zeroValue3
  t4 := Tryz.underlying4
  a4 := Tryz.isAgg4
  z4 := Tryz.sizeOf4
  v4 := Tryz.zeroValue4
  t5 := Tryz.underlying5
  a5 := Tryz.isAgg5
  z5 := Tryz.sizeOf5
  v5 := Tryz.zeroValue5
  t9 := Tryz.underlying9
  a9 := Tryz.isAgg9
  z9 := Tryz.sizeOf9
  v9 := Tryz.zeroValue9
  t20 := Tryz.underlying20
  a20 := Tryz.isAgg20
  z20 := Tryz.sizeOf20
  v20 := Tryz.zeroValue20
  t21 := Tryz.underlying21
  a21 := Tryz.isAgg21
  z21 := Tryz.sizeOf21
  v21 := Tryz.zeroValue21
  t37 := Tryz.underlying56
  a37 := Tryz.isAgg56
  z37 := Tryz.sizeOf56
  v37 := Tryz.zeroValue56
  t46 := Tryz.underlying135
  a46 := Tryz.isAgg135
  z46 := Tryz.sizeOf135
  v46 := Tryz.zeroValue135
  t51 := Tryz.underlying172
  a51 := Tryz.isAgg172
  z51 := Tryz.sizeOf172
  v51 := Tryz.zeroValue172
  t53 := Tryz.underlying174
  a53 := Tryz.isAgg174
  z53 := Tryz.sizeOf174
  v53 := Tryz.zeroValue174
  t75 := Tryz.underlying111
  a75 := Tryz.isAgg111
  z75 := Tryz.sizeOf111
  v75 := Tryz.zeroValue111
  t85 := Tryz.underlying180
  a85 := Tryz.isAgg180
  z85 := Tryz.sizeOf180
  v85 := Tryz.zeroValue180
  t127 := Tryz.underlying184
  a127 := Tryz.isAgg184
  z127 := Tryz.sizeOf184
  v127 := Tryz.zeroValue184
  t143 := Tryz.underlying256
  a143 := Tryz.isAgg256
  z143 := Tryz.sizeOf256
  v143 := Tryz.zeroValue256
  t145 := Tryz.underlying258
  a145 := Tryz.isAgg258
  z145 := Tryz.sizeOf258
  v145 := Tryz.zeroValue258
  t167 := Tryz.underlying229
  a167 := Tryz.isAgg229
  z167 := Tryz.sizeOf229
  v167 := Tryz.zeroValue229
  t168 := Tryz.underlying230
  a168 := Tryz.isAgg230
  z168 := Tryz.sizeOf230
  v168 := Tryz.zeroValue230
  t171 := Tryz.underlying189
  a171 := Tryz.isAgg189
  z171 := Tryz.sizeOf189
  v171 := Tryz.zeroValue189
  t173 := Tryz.underlying191
  a173 := Tryz.isAgg191
  z173 := Tryz.sizeOf191
  v173 := Tryz.zeroValue191
  t175 := Tryz.underlying211
  a175 := Tryz.isAgg211
  z175 := Tryz.sizeOf211
  v175 := Tryz.zeroValue211
  t210 := Tryz.underlying241
  a210 := Tryz.isAgg241
  z210 := Tryz.sizeOf241
  v210 := Tryz.zeroValue241
  t212 := Tryz.underlying223
  a212 := Tryz.isAgg223
  z212 := Tryz.sizeOf223
  v212 := Tryz.zeroValue223
  t213 := Tryz.underlying224
  a213 := Tryz.isAgg224
  z213 := Tryz.sizeOf224
  t232 := Tryz.underlying250
  a232 := Tryz.isAgg250
  z232 := Tryz.sizeOf250
  v232 := Tryz.zeroValue250
  t233 := Tryz.underlying251
  a233 := Tryz.isAgg251
  z233 := Tryz.sizeOf251
  v233 := Tryz.zeroValue251
  g15 := by kernel_rfl
  g16 := by kernel_rfl
  g17 := by kernel_rfl
  g18 := by kernel_rfl
  g19 := by kernel_rfl
  t80 := Tryz.underlying220
  a80 := Tryz.isAgg220
  z80 := Tryz.sizeOf220
  v80 := Tryz.zeroValue220
  i0 := by kernel_rfl
  i2 := by kernel_rfl
  i3 := by kernel_rfl
  i4 := by kernel_rfl
  i5 := by kernel_rfl
  i9 := by kernel_rfl
  i20 := by kernel_rfl
  i21 := by kernel_rfl
  i37 := by kernel_rfl
  i46 := by kernel_rfl
  i51 := by kernel_rfl
  i53 := by kernel_rfl
  i75 := by kernel_rfl
  i80 := by kernel_rfl
  i85 := by kernel_rfl
  i127 := by kernel_rfl
  i143 := by kernel_rfl
  i145 := by kernel_rfl
  i167 := by kernel_rfl
  i168 := by kernel_rfl
  i171 := by kernel_rfl
  i173 := by kernel_rfl
  i175 := by kernel_rfl
  i210 := by kernel_rfl
  i212 := by kernel_rfl
  i232 := by kernel_rfl
  i233 := by kernel_rfl
  m15 := by kernel_rfl
  m16 := by kernel_rfl
  m17 := by kernel_rfl
  m18 := by kernel_rfl
  m19 := by kernel_rfl
  c0 := by kernel_rfl
  c2 := by kernel_rfl
  c3 := by kernel_rfl
  c4 := by kernel_rfl
  c5 := by kernel_rfl
  c9 := by kernel_rfl
  c20 := by kernel_rfl
  c21 := by kernel_rfl
  c37 := by kernel_rfl
  c46 := by kernel_rfl
  c51 := by kernel_rfl
  c53 := by kernel_rfl
  c75 := by kernel_rfl
  c80 := by kernel_rfl
  c85 := by kernel_rfl
  c127 := by kernel_rfl
  c143 := by kernel_rfl
  c145 := by kernel_rfl
  c167 := by kernel_rfl
  c168 := by kernel_rfl
  c171 := by kernel_rfl
  c173 := by kernel_rfl
  c175 := by kernel_rfl
  c210 := by kernel_rfl
  c212 := by kernel_rfl
  c213 := by kernel_rfl
  c232 := by kernel_rfl
  c233 := by kernel_rfl }
open Go.RowKit in
/-- strconv.ParseInt(s, 10, 64), AT EVERY STRING THAT SPELLS AN int64 ('Lib.parseIntB 64 s.data.toList = .ok v'): v, AND NO ERROR. (LAID: no walk: one application.) -/
theorem Tryz.strconv_ParseInt_10_at64_ok (s : ByteArray) (hmax : s.size ≤ 9223372036854775806) (v : Int) (h : Lib.parseIntB 64 s.data.toList = .ok v) (w : World) :
    Calls Tryz.prog 167 #[.string s, .int .i64 10, .int .i64 64] w fun e w' => e = .returned (.tuple #[.int .i64 v, .nilIface]) ∧ (w' = w ∨ ∃ t, w' = Lib.bytesWorld w 5 t) := Any.strconv_ParseInt_10_at64_ok Tryz.laysC174 s hmax v h w
open Go.RowKit in
/-- strconv.ParseInt(s, 10, 64), AT EVERY STRING THAT IS NO DECIMAL NUMERAL: 0, AND AN ERROR THAT IS NOT nil: a *NumError in a new block N: {Func: "ParseInt", Num: s's bytes, Err: what the variable ErrSyntax holds}. Of what was there nothing has turned. (LAID: no walk: one application.) -/
theorem Tryz.strconv_ParseInt_10_at64_syntax (s : ByteArray) (hlim : s.size ≤ 281474976710656) (h : Lib.parseIntB 64 s.data.toList = Lib.parseIntB 64 []) (ev : Value) (w : World) (hv : w.cell? ⟨3, 0, none⟩ = some ev) (hev : ev = .nilIface ∨ ∃ te pe, ev = .iface te pe) :
    Calls Tryz.prog 167 #[.string s, .int .i64 10, .int .i64 64] w fun e w' => ∃ N, e = .returned (.tuple #[.int .i64 (0), .iface 230 (.pointer (some ⟨N, 0, none⟩))]) ∧ w.heap.size ≤ N ∧ w'.heap[N]? = some (.cells #[.string ⟨#[80, 97, 114, 115, 101, 73, 110, 116]⟩, .string s, ev] 241 (0, 0)) ∧ Below w.heap.size w w' := Any.strconv_ParseInt_10_at64_syntax Tryz.laysC174 s hlim h ev w hv hev
open Go.RowKit in
/-- strconv.ParseInt(s, 10, 64), AT EVERY NUMERAL THAT NO int64 HOLDS: THE GREATEST OR THE LEAST int64, BY THE SIGN ('Lib.intSat 64'), AND AN ERROR THAT IS NOT nil: a *NumError in a new block N: {Func: "ParseInt", Num: s's bytes, Err: what the variable ErrRange holds}. Of what was there nothing has turned. (LAID: no walk: one application.) -/
theorem Tryz.strconv_ParseInt_10_at64_range (s : ByteArray) (hlim : s.size ≤ 281474976710656) (h : Lib.parseIntB 64 s.data.toList = .range) (ev : Value) (w : World) (hv : w.cell? ⟨4, 0, none⟩ = some ev) (hev : ev = .nilIface ∨ ∃ te pe, ev = .iface te pe) :
    Calls Tryz.prog 167 #[.string s, .int .i64 10, .int .i64 64] w fun e w' => ∃ N, e = .returned (.tuple #[.int .i64 (Lib.intSat 64 s.data.toList), .iface 230 (.pointer (some ⟨N, 0, none⟩))]) ∧ w.heap.size ≤ N ∧ w'.heap[N]? = some (.cells #[.string ⟨#[80, 97, 114, 115, 101, 73, 110, 116]⟩, .string s, ev] 241 (0, 0)) ∧ Below w.heap.size w w' := Any.strconv_ParseInt_10_at64_range Tryz.laysC174 s hlim h ev w hv hev
def Tryz.laysPu14_ren : Go.Shelf.Ren := ⟨fun | 14 => 202 | 16 => 233 | 17 => 205 | 19 => 250 | 20 => 251 | 21 => 235 | 22 => 236 | 23 => 237 | 24 => 238 | 25 => 128 | 27 => 74 | 26 => 252 | 28 => 125 | 29 => 140 | 30 => 181 | 31 => 182 | 32 => 183 | 33 => 184 | 35 => 154 | 34 => 220 | 36 => 221 | 37 => 222 | 38 => 223 | 39 => 247 | 40 => 248 | n => n, fun | 9 => 9 | 3 => 3 | 22 => 174 | 24 => 111 | 25 => 211 | 4 => 4 | 34 => 229 | 5 => 5 | 36 => 135 | 37 => 56 | 0 => 0 | 39 => 230 | 21 => 21 | 44 => 241 | 47 => 184 | 50 => 258 | 48 => 256 | 2 => 2 | 52 => 189 | 55 => 191 | 59 => 223 | 60 => 172 | 20 => 20 | 61 => 224 | 65 => 250 | 66 => 251 | 67 => 220 | n => n, fun | 0 => 3 | 1 => 4 | 2 => 2 | 3 => 5 | 4 => 6 | n => n⟩
theorem Tryz.laysPu14 : Go.Proofs.LaysPu.n14 Tryz.prog Tryz.laysPu14_ren := {
  mixed := by kernel_rfl
  f14 := Tryz.func202.trans (congrArg some (by kernel_rfl))
  f16 := Tryz.func233.trans (congrArg some (by kernel_rfl))
  f17 := Tryz.func205.trans (congrArg some (by kernel_rfl))
  f19 := Tryz.func250.trans (congrArg some (by kernel_rfl))
  f20 := Tryz.func251.trans (congrArg some (by kernel_rfl))
  f21 := Tryz.func235.trans (congrArg some (by kernel_rfl))
  f22 := Tryz.func236.trans (congrArg some (by kernel_rfl))
  f23 := Tryz.func237.trans (congrArg some (by kernel_rfl))
  f24 := Tryz.func238.trans (congrArg some (by kernel_rfl))
  f25 := Tryz.func128.trans (congrArg some (by kernel_rfl))
  f26 := Tryz.func252.trans (congrArg some (by kernel_rfl))
  f27 := Tryz.func74.trans (congrArg some (by kernel_rfl))
  f28 := Tryz.func125.trans (congrArg some (by kernel_rfl))
  f29 := Tryz.func140.trans (congrArg some (by kernel_rfl))
  f30 := Tryz.func181.trans (congrArg some (by kernel_rfl))
  f31 := Tryz.func182.trans (congrArg some (by kernel_rfl))
  f32 := Tryz.func183.trans (congrArg some (by kernel_rfl))
  f33 := Tryz.func184.trans (congrArg some (by kernel_rfl))
  f34 := Tryz.func220.trans (congrArg some (by kernel_rfl))
  f35 := Tryz.func154.trans (congrArg some (by kernel_rfl))
  f36 := Tryz.func221.trans (congrArg some (by kernel_rfl))
  f37 := Tryz.func222.trans (congrArg some (by kernel_rfl))
  f38 := Tryz.func223.trans (congrArg some (by kernel_rfl))
  f39 := Tryz.func247.trans (congrArg some (by kernel_rfl))
  f40 := Tryz.func248.trans (congrArg some (by kernel_rfl))
  t0 := Tryz.underlying0
  a0 := Tryz.isAgg0
  z0 := Tryz.sizeOf0
  v0 := Tryz.zeroValue0
  i0 := by kernel_rfl
  t2 := Tryz.underlying2
  a2 := Tryz.isAgg2
  z2 := Tryz.sizeOf2
  v2 := Tryz.zeroValue2
  i2 := by kernel_rfl
  t3 := Tryz.underlying3
  a3 := Tryz.isAgg3
  z3 := Tryz.sizeOf3
  v3 := Tryz.zeroValue3
  i3 := by kernel_rfl
  t4 := Tryz.underlying4
  a4 := Tryz.isAgg4
  z4 := Tryz.sizeOf4
  v4 := Tryz.zeroValue4
  i4 := by kernel_rfl
  t5 := Tryz.underlying5
  a5 := Tryz.isAgg5
  z5 := Tryz.sizeOf5
  v5 := Tryz.zeroValue5
  i5 := by kernel_rfl
  t9 := Tryz.underlying9
  a9 := Tryz.isAgg9
  z9 := Tryz.sizeOf9
  v9 := Tryz.zeroValue9
  i9 := by kernel_rfl
  t20 := Tryz.underlying20
  a20 := Tryz.isAgg20
  z20 := Tryz.sizeOf20
  v20 := Tryz.zeroValue20
  i20 := by kernel_rfl
  t21 := Tryz.underlying21
  a21 := Tryz.isAgg21
  z21 := Tryz.sizeOf21
  v21 := Tryz.zeroValue21
  i21 := by kernel_rfl
  t22 := Tryz.underlying174
  a22 := Tryz.isAgg174
  z22 := Tryz.sizeOf174
  v22 := Tryz.zeroValue174
  i22 := by kernel_rfl
  t24 := Tryz.underlying111
  a24 := Tryz.isAgg111
  z24 := Tryz.sizeOf111
  v24 := Tryz.zeroValue111
  i24 := by kernel_rfl
  t25 := Tryz.underlying211
  a25 := Tryz.isAgg211
  z25 := Tryz.sizeOf211
  v25 := Tryz.zeroValue211
  i25 := by kernel_rfl
  t34 := Tryz.underlying229
  a34 := Tryz.isAgg229
  z34 := Tryz.sizeOf229
  v34 := Tryz.zeroValue229
  i34 := by kernel_rfl
  c34 := by kernel_rfl
  t36 := Tryz.underlying135
  a36 := Tryz.isAgg135
  z36 := Tryz.sizeOf135
  v36 := Tryz.zeroValue135
  i36 := by kernel_rfl
  t37 := Tryz.underlying56
  a37 := Tryz.isAgg56
  z37 := Tryz.sizeOf56
  v37 := Tryz.zeroValue56
  i37 := by kernel_rfl
  t39 := Tryz.underlying230
  a39 := Tryz.isAgg230
  z39 := Tryz.sizeOf230
  v39 := Tryz.zeroValue230
  i39 := by kernel_rfl
  t44 := Tryz.underlying241
  a44 := Tryz.isAgg241
  z44 := Tryz.sizeOf241
  v44 := Tryz.zeroValue241
  i44 := by kernel_rfl
  t47 := Tryz.underlying184
  a47 := Tryz.isAgg184
  z47 := Tryz.sizeOf184
  v47 := Tryz.zeroValue184
  i47 := by kernel_rfl
  t48 := Tryz.underlying256
  a48 := Tryz.isAgg256
  z48 := Tryz.sizeOf256
  v48 := Tryz.zeroValue256
  i48 := by kernel_rfl
  t50 := Tryz.underlying258
  a50 := Tryz.isAgg258
  z50 := Tryz.sizeOf258
  v50 := Tryz.zeroValue258
  i50 := by kernel_rfl
  t52 := Tryz.underlying189
  a52 := Tryz.isAgg189
  z52 := Tryz.sizeOf189
  v52 := Tryz.zeroValue189
  i52 := by kernel_rfl
  t55 := Tryz.underlying191
  a55 := Tryz.isAgg191
  z55 := Tryz.sizeOf191
  v55 := Tryz.zeroValue191
  i55 := by kernel_rfl
  t59 := Tryz.underlying223
  a59 := Tryz.isAgg223
  z59 := Tryz.sizeOf223
  v59 := Tryz.zeroValue223
  i59 := by kernel_rfl
  t60 := Tryz.underlying172
  a60 := Tryz.isAgg172
  z60 := Tryz.sizeOf172
  v60 := Tryz.zeroValue172
  i60 := by kernel_rfl
  t61 := Tryz.underlying224
  a61 := Tryz.isAgg224
  z61 := Tryz.sizeOf224
  t65 := Tryz.underlying250
  a65 := Tryz.isAgg250
  z65 := Tryz.sizeOf250
  v65 := Tryz.zeroValue250
  i65 := by kernel_rfl
  t66 := Tryz.underlying251
  a66 := Tryz.isAgg251
  z66 := Tryz.sizeOf251
  v66 := Tryz.zeroValue251
  i66 := by kernel_rfl
  t67 := Tryz.underlying220
  a67 := Tryz.isAgg220
  z67 := Tryz.sizeOf220
  v67 := Tryz.zeroValue220
  i67 := by kernel_rfl
  g0 := by kernel_rfl
  m0 := by kernel_rfl
  g1 := by kernel_rfl
  m1 := by kernel_rfl
  g2 := by kernel_rfl
  m2 := by kernel_rfl
  g3 := by kernel_rfl
  m3 := by kernel_rfl
  g4 := by kernel_rfl
  m4 := by kernel_rfl }
open Go.RowKit in
/-- strconv.ParseUint(s, 10, 64), AT EVERY STRING THAT SPELLS A uint64 ('Lib.parseUintB 64 s.data.toList = .ok u'): u, AND NO ERROR. (LAID: no walk: one application.) -/
theorem Tryz.strconv_ParseUint_10_at64_ok (s : ByteArray) (hmax : s.size ≤ 9223372036854775806) (u : Nat) (h : Lib.parseUintB 64 s.data.toList = .ok u) (w : World) :
    Calls Tryz.prog 202 #[.string s, .int .i64 10, .int .i64 64] w fun e w' => e = .returned (.tuple #[.int .u64 u, .nilIface]) ∧ (w' = w ∨ w' = Lib.bytesWorld w 5 s) := Any.strconv_ParseUint_10_at64_ok Tryz.laysPu14 s hmax u h w
open Go.RowKit in
/-- strconv.ParseUint(s, 10, 64), AT EVERY STRING THAT IS NO ROW OF DECIMAL DIGITS (a sign is a fault): 0, AND AN ERROR THAT IS NOT nil: a *NumError in a new block N: {Func: "ParseUint", Num: s's bytes, Err: what the variable ErrSyntax holds}. Of what was there nothing has turned. (LAID: no walk: one application.) -/
theorem Tryz.strconv_ParseUint_10_at64_syntax (s : ByteArray) (hlim : s.size ≤ 281474976710656) (h : Lib.parseUintB 64 s.data.toList = Lib.parseUintB 64 []) (ev : Value) (w : World) (hv : w.cell? ⟨3, 0, none⟩ = some ev) (hev : ev = .nilIface ∨ ∃ te pe, ev = .iface te pe) :
    Calls Tryz.prog 202 #[.string s, .int .i64 10, .int .i64 64] w fun e w' => ∃ N, e = .returned (.tuple #[.int .u64 0, .iface 230 (.pointer (some ⟨N, 0, none⟩))]) ∧ w.heap.size ≤ N ∧ w'.heap[N]? = some (.cells #[.string ⟨#[80, 97, 114, 115, 101, 85, 105, 110, 116]⟩, .string s, ev] 241 (0, 0)) ∧ Below w.heap.size w w' := Any.strconv_ParseUint_10_at64_syntax Tryz.laysPu14 s hlim h ev w hv hev
open Go.RowKit in
/-- strconv.ParseUint(s, 10, 64), AT EVERY NUMERAL THAT NO uint64 HOLDS: THE GREATEST uint64, AND AN ERROR THAT IS NOT nil: a *NumError in a new block N: {Func: "ParseUint", Num: s's bytes, Err: what the variable ErrRange holds}. Of what was there nothing has turned. (LAID: no walk: one application.) -/
theorem Tryz.strconv_ParseUint_10_at64_range (s : ByteArray) (hlim : s.size ≤ 281474976710656) (h : Lib.parseUintB 64 s.data.toList = .range) (ev : Value) (w : World) (hv : w.cell? ⟨4, 0, none⟩ = some ev) (hev : ev = .nilIface ∨ ∃ te pe, ev = .iface te pe) :
    Calls Tryz.prog 202 #[.string s, .int .i64 10, .int .i64 64] w fun e w' => ∃ N, e = .returned (.tuple #[.int .u64 18446744073709551615, .iface 230 (.pointer (some ⟨N, 0, none⟩))]) ∧ w.heap.size ≤ N ∧ w'.heap[N]? = some (.cells #[.string ⟨#[80, 97, 114, 115, 101, 85, 105, 110, 116]⟩, .string s, ev] 241 (0, 0)) ∧ Below w.heap.size w w' := Any.strconv_ParseUint_10_at64_range Tryz.laysPu14 s hlim h ev w hv hev
def Tryz.lays219_ren : Go.Shelf.Ren := ⟨fun | 219 => 213 | 217 => 180 | 225 => 229 | 224 => 228 | 267 => 243 | 266 => 219 | 314 => 255 | n => n, fun | 9 => 9 | 3 => 3 | 4 => 4 | 5 => 5 | 46 => 135 | 146 => 233 | 51 => 172 | n => n, fun | 1 => 0 | n => n⟩
theorem Tryz.lays219 : Go.Proofs.Lays.n219 Tryz.prog Tryz.lays219_ren := {
  mixed := by kernel_rfl
  f217 := Tryz.func180.trans (congrArg some (by kernel_rfl))
  f219 := Tryz.func213.trans (congrArg some (by kernel_rfl))
  f224 := Tryz.func228.trans (congrArg some (by kernel_rfl))
  f225 := Tryz.func229.trans (congrArg some (by kernel_rfl))
  f266 := Tryz.func219.trans (congrArg some (by kernel_rfl))
  f267 := Tryz.func243.trans (congrArg some (by kernel_rfl))
  f314 := Tryz.func255.trans (congrArg some (by kernel_rfl))
  t3 := Tryz.underlying3
  a3 := Tryz.isAgg3
  z3 := Tryz.sizeOf3
  v3 := Tryz.zeroValue3
  t4 := Tryz.underlying4
  a4 := Tryz.isAgg4
  z4 := Tryz.sizeOf4
  v4 := Tryz.zeroValue4
  t5 := Tryz.underlying5
  a5 := Tryz.isAgg5
  z5 := Tryz.sizeOf5
  v5 := Tryz.zeroValue5
  t9 := Tryz.underlying9
  a9 := Tryz.isAgg9
  z9 := Tryz.sizeOf9
  v9 := Tryz.zeroValue9
  t46 := Tryz.underlying135
  a46 := Tryz.isAgg135
  z46 := Tryz.sizeOf135
  v46 := Tryz.zeroValue135
  t51 := Tryz.underlying172
  a51 := Tryz.isAgg172
  z51 := Tryz.sizeOf172
  v51 := Tryz.zeroValue172
  t146 := Tryz.underlying233
  a146 := Tryz.isAgg233
  z146 := Tryz.sizeOf233
  v146 := Tryz.zeroValue233
  g1 := by kernel_rfl }
open Go.RowKit Go.Lib in
/-- internal/stringslite.Index (what strings.Index calls) AT A substr OF ONE BYTE c: IT RETURNS 'Lib.indexByte s c'; the world is as it was. (LAID: no walk: one application.) -/
theorem Tryz.stringslite_Index_one (s : ByteArray) (c : UInt8) (w : World) :
    Calls Tryz.prog 213 #[.string s, .string ⟨#[c]⟩] w fun e w' => e = .returned (.int .i64 (Lib.indexByte s.data.toList c)) ∧ w' = w := Any.stringslite_Index_one Tryz.lays219 s c w
open Go.RowKit Go.Lib in
/-- internal/stringslite.Index (what strings.Index calls) AT A substr OF WHATEVER LENGTH: IT RETURNS 'Lib.index s substr'; the world is as it was. 'm': what internal/bytealg.MaxLen holds: whatever. (LAID: no walk: one application.) -/
theorem Tryz.stringslite_Index (s sub : ByteArray) (m : Int) (w : World) (hs : s.size < 4294967281) (hm : w.cell? ⟨0, 0, none⟩ = some (.int .i64 m)) :
    Calls Tryz.prog 213 #[.string s, .string sub] w fun e w' => e = .returned (.int .i64 (Lib.index s.data.toList sub.data.toList)) ∧ w' = w := Any.stringslite_Index Tryz.lays219 s sub m w hs hm
def Tryz.lays143_ren : Go.Shelf.Ren := ⟨fun | 143 => 260 | 219 => 213 | 217 => 180 | 225 => 229 | 224 => 228 | 267 => 243 | 266 => 219 | 314 => 255 | n => n, fun | 9 => 9 | 3 => 3 | 4 => 4 | 5 => 5 | 46 => 135 | 146 => 233 | 51 => 172 | n => n, fun | 1 => 0 | n => n⟩
theorem Tryz.lays143 : Go.Proofs.Lays.n143 Tryz.prog Tryz.lays143_ren := {
  mixed := by kernel_rfl
  f143 := Tryz.func260.trans (congrArg some (by kernel_rfl))
  f217 := Tryz.func180.trans (congrArg some (by kernel_rfl))
  f219 := Tryz.func213.trans (congrArg some (by kernel_rfl))
  f224 := Tryz.func228.trans (congrArg some (by kernel_rfl))
  f225 := Tryz.func229.trans (congrArg some (by kernel_rfl))
  f266 := Tryz.func219.trans (congrArg some (by kernel_rfl))
  f267 := Tryz.func243.trans (congrArg some (by kernel_rfl))
  f314 := Tryz.func255.trans (congrArg some (by kernel_rfl))
  t3 := Tryz.underlying3
  a3 := Tryz.isAgg3
  z3 := Tryz.sizeOf3
  v3 := Tryz.zeroValue3
  t4 := Tryz.underlying4
  a4 := Tryz.isAgg4
  z4 := Tryz.sizeOf4
  v4 := Tryz.zeroValue4
  t5 := Tryz.underlying5
  a5 := Tryz.isAgg5
  z5 := Tryz.sizeOf5
  v5 := Tryz.zeroValue5
  t9 := Tryz.underlying9
  a9 := Tryz.isAgg9
  z9 := Tryz.sizeOf9
  v9 := Tryz.zeroValue9
  t46 := Tryz.underlying135
  a46 := Tryz.isAgg135
  z46 := Tryz.sizeOf135
  v46 := Tryz.zeroValue135
  t51 := Tryz.underlying172
  a51 := Tryz.isAgg172
  z51 := Tryz.sizeOf172
  v51 := Tryz.zeroValue172
  t146 := Tryz.underlying233
  a146 := Tryz.isAgg233
  z146 := Tryz.sizeOf233
  v146 := Tryz.zeroValue233
  g1 := by kernel_rfl }
open Go.RowKit Go.Lib in
/-- strings.Index: "Index returns the index of the first instance of substr in s, or -1 if substr is not present in s.": AT A substr OF ONE BYTE c: IT RETURNS 'Lib.indexByte s c'; the world is as it was. (LAID: no walk: one application.) -/
theorem Tryz.strings_Index_one (s : ByteArray) (c : UInt8) (w : World) :
    Calls Tryz.prog 260 #[.string s, .string ⟨#[c]⟩] w fun e w' => e = .returned (.int .i64 (Lib.indexByte s.data.toList c)) ∧ w' = w := Any.strings_Index_one Tryz.lays143 s c w
def Tryz.lays220_ren : Go.Shelf.Ren := ⟨fun | 220 => 172 | 219 => 213 | 217 => 180 | 225 => 229 | 224 => 228 | 267 => 243 | 266 => 219 | 314 => 255 | n => n, fun | 9 => 9 | 4 => 4 | 3 => 3 | 5 => 5 | 46 => 135 | 146 => 233 | 51 => 172 | n => n, fun | 1 => 0 | n => n⟩
theorem Tryz.lays220 : Go.Proofs.Lays.n220 Tryz.prog Tryz.lays220_ren := {
  mixed := by kernel_rfl
  f217 := Tryz.func180.trans (congrArg some (by kernel_rfl))
  f219 := Tryz.func213.trans (congrArg some (by kernel_rfl))
  f220 := Tryz.func172.trans (congrArg some (by kernel_rfl))
  f224 := Tryz.func228.trans (congrArg some (by kernel_rfl))
  f225 := Tryz.func229.trans (congrArg some (by kernel_rfl))
  f266 := Tryz.func219.trans (congrArg some (by kernel_rfl))
  f267 := Tryz.func243.trans (congrArg some (by kernel_rfl))
  f314 := Tryz.func255.trans (congrArg some (by kernel_rfl))
  t3 := Tryz.underlying3
  a3 := Tryz.isAgg3
  z3 := Tryz.sizeOf3
  v3 := Tryz.zeroValue3
  t4 := Tryz.underlying4
  a4 := Tryz.isAgg4
  z4 := Tryz.sizeOf4
  v4 := Tryz.zeroValue4
  t5 := Tryz.underlying5
  a5 := Tryz.isAgg5
  z5 := Tryz.sizeOf5
  v5 := Tryz.zeroValue5
  t9 := Tryz.underlying9
  a9 := Tryz.isAgg9
  z9 := Tryz.sizeOf9
  v9 := Tryz.zeroValue9
  t46 := Tryz.underlying135
  a46 := Tryz.isAgg135
  z46 := Tryz.sizeOf135
  v46 := Tryz.zeroValue135
  t51 := Tryz.underlying172
  a51 := Tryz.isAgg172
  z51 := Tryz.sizeOf172
  v51 := Tryz.zeroValue172
  t146 := Tryz.underlying233
  a146 := Tryz.isAgg233
  z146 := Tryz.sizeOf233
  v146 := Tryz.zeroValue233
  g1 := by kernel_rfl }
open Go.RowKit Go.Lib in
/-- internal/stringslite.Cut (what strings.Cut calls): IT RETURNS 'Lib.cut s sep'; the world is as it was but for the count of draws. (LAID: no walk: one application.) -/
theorem Tryz.stringslite_Cut (s sep : ByteArray) (m : Int) (w : World) (hs : s.size < 4294967281) (hm : w.cell? ⟨0, 0, none⟩ = some (.int .i64 m)) :
    Calls Tryz.prog 172 #[.string s, .string sep] w fun e w' => e = .returned (.tuple #[.string ⟨(Lib.cut s.data.toList sep.data.toList).1.toArray⟩, .string ⟨(Lib.cut s.data.toList sep.data.toList).2.1.toArray⟩, .bool (Lib.cut s.data.toList sep.data.toList).2.2]) ∧ ∃ n, w' = w.drewN n := Any.stringslite_Cut Tryz.lays220 s sep m w hs hm
def Tryz.lays145_ren : Go.Shelf.Ren := ⟨fun | 145 => 127 | 220 => 172 | 219 => 213 | 217 => 180 | 225 => 229 | 224 => 228 | 267 => 243 | 266 => 219 | 314 => 255 | n => n, fun | 9 => 9 | 4 => 4 | 59 => 98 | 3 => 3 | 5 => 5 | 46 => 135 | 146 => 233 | 51 => 172 | n => n, fun | 1 => 0 | n => n⟩
theorem Tryz.lays145 : Go.Proofs.Lays.n145 Tryz.prog Tryz.lays145_ren := {
  mixed := by kernel_rfl
  f145 := Tryz.func127.trans (congrArg some (by kernel_rfl))
  f217 := Tryz.func180.trans (congrArg some (by kernel_rfl))
  f219 := Tryz.func213.trans (congrArg some (by kernel_rfl))
  f220 := Tryz.func172.trans (congrArg some (by kernel_rfl))
  f224 := Tryz.func228.trans (congrArg some (by kernel_rfl))
  f225 := Tryz.func229.trans (congrArg some (by kernel_rfl))
  f266 := Tryz.func219.trans (congrArg some (by kernel_rfl))
  f267 := Tryz.func243.trans (congrArg some (by kernel_rfl))
  f314 := Tryz.func255.trans (congrArg some (by kernel_rfl))
  t3 := Tryz.underlying3
  a3 := Tryz.isAgg3
  z3 := Tryz.sizeOf3
  v3 := Tryz.zeroValue3
  t4 := Tryz.underlying4
  a4 := Tryz.isAgg4
  z4 := Tryz.sizeOf4
  v4 := Tryz.zeroValue4
  t5 := Tryz.underlying5
  a5 := Tryz.isAgg5
  z5 := Tryz.sizeOf5
  v5 := Tryz.zeroValue5
  t9 := Tryz.underlying9
  a9 := Tryz.isAgg9
  z9 := Tryz.sizeOf9
  v9 := Tryz.zeroValue9
  t46 := Tryz.underlying135
  a46 := Tryz.isAgg135
  z46 := Tryz.sizeOf135
  v46 := Tryz.zeroValue135
  t51 := Tryz.underlying172
  a51 := Tryz.isAgg172
  z51 := Tryz.sizeOf172
  v51 := Tryz.zeroValue172
  t59 := Tryz.underlying98
  a59 := Tryz.isAgg98
  z59 := Tryz.sizeOf98
  v59 := Tryz.zeroValue98
  t146 := Tryz.underlying233
  a146 := Tryz.isAgg233
  z146 := Tryz.sizeOf233
  v146 := Tryz.zeroValue233
  g1 := by kernel_rfl }
open Go.RowKit Go.Lib in
/-- strings.Cut: "Cut slices s around the first instance of sep, returning the text before and after sep. The found result reports whether sep appears in s. If sep does not appear in s, cut returns s, "", false.": IT RETURNS 'Lib.cut s sep'; the world is as it was but for the count of draws. (LAID: no walk: one application.) -/
theorem Tryz.strings_Cut (s sep : ByteArray) (m : Int) (w : World) (hs : s.size < 4294967281) (hm : w.cell? ⟨0, 0, none⟩ = some (.int .i64 m)) :
    Calls Tryz.prog 127 #[.string s, .string sep] w fun e w' => e = .returned (.tuple #[.string ⟨(Lib.cut s.data.toList sep.data.toList).1.toArray⟩, .string ⟨(Lib.cut s.data.toList sep.data.toList).2.1.toArray⟩, .bool (Lib.cut s.data.toList sep.data.toList).2.2]) ∧ ∃ n, w' = w.drewN n := Any.strings_Cut Tryz.lays145 s sep m w hs hm
def Tryz.lays149_ren : Go.Shelf.Ren := ⟨fun | 149 => 200 | 222 => 232 | n => n, fun | 9 => 9 | 5 => 5 | 3 => 3 | 4 => 4 | n => n, fun | n => n⟩
theorem Tryz.lays149 : Go.Proofs.Lays.n149 Tryz.prog Tryz.lays149_ren := {
  mixed := by kernel_rfl
  f149 := Tryz.func200.trans (congrArg some (by kernel_rfl))
  f222 := Tryz.func232.trans (congrArg some (by kernel_rfl))
  t3 := Tryz.underlying3
  a3 := Tryz.isAgg3
  z3 := Tryz.sizeOf3
  v3 := Tryz.zeroValue3
  t4 := Tryz.underlying4
  a4 := Tryz.isAgg4
  z4 := Tryz.sizeOf4
  v4 := Tryz.zeroValue4
  t5 := Tryz.underlying5
  a5 := Tryz.isAgg5
  z5 := Tryz.sizeOf5
  v5 := Tryz.zeroValue5
  t9 := Tryz.underlying9
  a9 := Tryz.isAgg9
  z9 := Tryz.sizeOf9
  v9 := Tryz.zeroValue9 }
open Go.RowKit Go.Lib in
/-- strings.LastIndexByte: "LastIndexByte returns the index of the last instance of c in s, or -1 if c is not present in s." (LAID: no walk: one application.) -/
theorem Tryz.strings_LastIndexByte (s : ByteArray) (c : Int) (hs : s.size < 4611686018427387904) (w : World) :
    Calls Tryz.prog 200 #[.string s, .int .u8 c] w fun e w' => e = .returned (.int .i64 (Lib.lastIndexByte s c)) ∧ w' = w := Any.strings_LastIndexByte Tryz.lays149 s c hs w
def Tryz.lays206_ren : Go.Shelf.Ren := ⟨fun | 206 => 234 | n => n, fun | 9 => 9 | 4 => 4 | 3 => 3 | n => n, fun | n => n⟩
theorem Tryz.lays206 : Go.Proofs.Lays.n206 Tryz.prog Tryz.lays206_ren := {
  mixed := by kernel_rfl
  f206 := Tryz.func234.trans (congrArg some (by kernel_rfl))
  t3 := Tryz.underlying3
  a3 := Tryz.isAgg3
  z3 := Tryz.sizeOf3
  v3 := Tryz.zeroValue3
  t4 := Tryz.underlying4
  a4 := Tryz.isAgg4
  z4 := Tryz.sizeOf4
  v4 := Tryz.zeroValue4
  t9 := Tryz.underlying9
  a9 := Tryz.isAgg9
  z9 := Tryz.sizeOf9
  v9 := Tryz.zeroValue9 }
open Go.RowKit Go.Lib in
/-- internal/stringslite.HasPrefix (what strings.HasPrefix calls). (LAID: no walk: one application.) -/
theorem Tryz.stringslite_HasPrefix (s p : ByteArray) (w : World) :
    Calls Tryz.prog 234 #[.string s, .string p] w fun e w' => e = .returned (.bool (Lib.hasPrefix s.data.toList p.data.toList)) ∧ w' = w := Any.stringslite_HasPrefix Tryz.lays206 s p w
def Tryz.lays99_ren : Go.Shelf.Ren := ⟨fun | 99 => 207 | 206 => 234 | n => n, fun | 9 => 9 | 4 => 4 | 3 => 3 | n => n, fun | n => n⟩
theorem Tryz.lays99 : Go.Proofs.Lays.n99 Tryz.prog Tryz.lays99_ren := {
  mixed := by kernel_rfl
  f99 := Tryz.func207.trans (congrArg some (by kernel_rfl))
  f206 := Tryz.func234.trans (congrArg some (by kernel_rfl))
  t3 := Tryz.underlying3
  a3 := Tryz.isAgg3
  z3 := Tryz.sizeOf3
  v3 := Tryz.zeroValue3
  t4 := Tryz.underlying4
  a4 := Tryz.isAgg4
  z4 := Tryz.sizeOf4
  v4 := Tryz.zeroValue4
  t9 := Tryz.underlying9
  a9 := Tryz.isAgg9
  z9 := Tryz.sizeOf9
  v9 := Tryz.zeroValue9 }
open Go.RowKit Go.Lib in
/-- strings.HasPrefix: "HasPrefix reports whether the string s begins with prefix.": IT RETURNS 'Lib.hasPrefix s prefix'; the world is as it was. (LAID: no walk: one application.) -/
theorem Tryz.strings_HasPrefix (s p : ByteArray) (w : World) :
    Calls Tryz.prog 207 #[.string s, .string p] w fun e w' => e = .returned (.bool (Lib.hasPrefix s.data.toList p.data.toList)) ∧ w' = w := Any.strings_HasPrefix Tryz.lays99 s p w
def Tryz.lays207_ren : Go.Shelf.Ren := ⟨fun | 207 => 90 | n => n, fun | 9 => 9 | 4 => 4 | 3 => 3 | n => n, fun | n => n⟩
theorem Tryz.lays207 : Go.Proofs.Lays.n207 Tryz.prog Tryz.lays207_ren := {
  mixed := by kernel_rfl
  f207 := Tryz.func90.trans (congrArg some (by kernel_rfl))
  t3 := Tryz.underlying3
  a3 := Tryz.isAgg3
  z3 := Tryz.sizeOf3
  v3 := Tryz.zeroValue3
  t4 := Tryz.underlying4
  a4 := Tryz.isAgg4
  z4 := Tryz.sizeOf4
  v4 := Tryz.zeroValue4
  t9 := Tryz.underlying9
  a9 := Tryz.isAgg9
  z9 := Tryz.sizeOf9
  v9 := Tryz.zeroValue9 }
open Go.RowKit Go.Lib in
/-- internal/stringslite.HasSuffix (what strings.HasSuffix calls). (LAID: no walk: one application.) -/
theorem Tryz.stringslite_HasSuffix (s p : ByteArray) (w : World) (hs : s.size ≤ 9223372036854775807) :
    Calls Tryz.prog 90 #[.string s, .string p] w fun e w' => e = .returned (.bool (Lib.hasSuffix s.data.toList p.data.toList)) ∧ w' = w := Any.stringslite_HasSuffix Tryz.lays207 s p w hs
def Tryz.lays100_ren : Go.Shelf.Ren := ⟨fun | 100 => 41 | 207 => 90 | n => n, fun | 9 => 9 | 4 => 4 | 3 => 3 | n => n, fun | n => n⟩
theorem Tryz.lays100 : Go.Proofs.Lays.n100 Tryz.prog Tryz.lays100_ren := {
  mixed := by kernel_rfl
  f100 := Tryz.func41.trans (congrArg some (by kernel_rfl))
  f207 := Tryz.func90.trans (congrArg some (by kernel_rfl))
  t3 := Tryz.underlying3
  a3 := Tryz.isAgg3
  z3 := Tryz.sizeOf3
  v3 := Tryz.zeroValue3
  t4 := Tryz.underlying4
  a4 := Tryz.isAgg4
  z4 := Tryz.sizeOf4
  v4 := Tryz.zeroValue4
  t9 := Tryz.underlying9
  a9 := Tryz.isAgg9
  z9 := Tryz.sizeOf9
  v9 := Tryz.zeroValue9 }
open Go.RowKit Go.Lib in
/-- strings.HasSuffix: "HasSuffix reports whether the string s ends with suffix.": IT RETURNS 'Lib.hasSuffix s suffix'; the world is as it was. ('hs': no Go string is longer: a caller has it of every string that it was handed.) (LAID: no walk: one application.) -/
theorem Tryz.strings_HasSuffix (s p : ByteArray) (w : World) (hs : s.size ≤ 9223372036854775807) :
    Calls Tryz.prog 41 #[.string s, .string p] w fun e w' => e = .returned (.bool (Lib.hasSuffix s.data.toList p.data.toList)) ∧ w' = w := Any.strings_HasSuffix Tryz.lays100 s p w hs
def Tryz.lays197_ren : Go.Shelf.Ren := ⟨fun | 197 => 225 | 260 => 249 | n => n, fun | 9 => 9 | 21 => 21 | 3 => 3 | 4 => 4 | 5 => 5 | 105 => 194 | 119 => 252 | 0 => 0 | 46 => 135 | 139 => 255 | 138 => 254 | n => n, fun | 3 => 7 | 4 => 8 | n => n⟩
theorem Tryz.lays197 : Go.Proofs.Lays.n197 Tryz.prog Tryz.lays197_ren := {
  mixed := by kernel_rfl
  f197 := Tryz.func225.trans (congrArg some (by kernel_rfl))
  f260 := Tryz.func249.trans (congrArg some (by kernel_rfl))
  t0 := Tryz.underlying0
  a0 := Tryz.isAgg0
  z0 := Tryz.sizeOf0
  v0 := Tryz.zeroValue0
  t3 := Tryz.underlying3
  a3 := Tryz.isAgg3
  z3 := Tryz.sizeOf3
  v3 := Tryz.zeroValue3
  t4 := Tryz.underlying4
  a4 := Tryz.isAgg4
  z4 := Tryz.sizeOf4
  v4 := Tryz.zeroValue4
  t5 := Tryz.underlying5
  a5 := Tryz.isAgg5
  z5 := Tryz.sizeOf5
  v5 := Tryz.zeroValue5
  t9 := Tryz.underlying9
  a9 := Tryz.isAgg9
  z9 := Tryz.sizeOf9
  v9 := Tryz.zeroValue9
  t21 := Tryz.underlying21
  a21 := Tryz.isAgg21
  z21 := Tryz.sizeOf21
  v21 := Tryz.zeroValue21
  t46 := Tryz.underlying135
  a46 := Tryz.isAgg135
  z46 := Tryz.sizeOf135
  v46 := Tryz.zeroValue135
  t105 := Tryz.underlying194
  a105 := Tryz.isAgg194
  z105 := Tryz.sizeOf194
  v105 := Tryz.zeroValue194
  t119 := Tryz.underlying252
  a119 := Tryz.isAgg252
  z119 := Tryz.sizeOf252
  t138 := Tryz.underlying254
  a138 := Tryz.isAgg254
  z138 := Tryz.sizeOf254
  v138 := Tryz.zeroValue254
  t139 := Tryz.underlying255
  a139 := Tryz.isAgg255
  z139 := Tryz.sizeOf255
  v139 := Tryz.zeroValue255
  g3 := by kernel_rfl
  g4 := by kernel_rfl }
def Tryz.lays226_ren : Go.Shelf.Ren := ⟨fun | 226 => 195 | n => n, fun | 3 => 3 | 4 => 4 | n => n, fun | n => n⟩
theorem Tryz.lays226 : Go.Proofs.Lays.n226 Tryz.prog Tryz.lays226_ren := {
  mixed := by kernel_rfl
  f226 := Tryz.func195.trans (congrArg some (by kernel_rfl))
  t3 := Tryz.underlying3
  a3 := Tryz.isAgg3
  z3 := Tryz.sizeOf3
  v3 := Tryz.zeroValue3
  t4 := Tryz.underlying4
  a4 := Tryz.isAgg4
  z4 := Tryz.sizeOf4
  v4 := Tryz.zeroValue4 }
open Go.RowKit Go.Lib in
theorem Tryz.strings_shouldUseASCIISet (n : Int) (w : World) :
    Calls Tryz.prog 195 #[.int .i64 n] w fun e w' => e = .returned (.bool (decide (8 < n))) ∧ w' = w := Any.strings_shouldUseASCIISet Tryz.lays226 n w
def Tryz.lays153_ren : Go.Shelf.Ren := ⟨fun | 153 => 157 | 152 => 194 | 226 => 195 | 227 => 142 | 228 => 185 | 137 => 138 | 119 => 227 | 224 => 228 | 225 => 229 | 217 => 180 | 266 => 219 | n => n, fun | 9 => 9 | 3 => 3 | 4 => 4 | 5 => 5 | 21 => 21 | 117 => 160 | 116 => 159 | 0 => 0 | 46 => 135 | 124 => 163 | n => n, fun | n => n⟩
theorem Tryz.lays153 : Go.Proofs.Lays.n153 Tryz.prog Tryz.lays153_ren := {
  mixed := by kernel_rfl
  f119 := Tryz.func227.trans (congrArg some (by kernel_rfl))
  f137 := Tryz.func138.trans (congrArg some (by kernel_rfl))
  f152 := Tryz.func194.trans (congrArg some (by kernel_rfl))
  f153 := Tryz.func157.trans (congrArg some (by kernel_rfl))
  f217 := Tryz.func180.trans (congrArg some (by kernel_rfl))
  f224 := Tryz.func228.trans (congrArg some (by kernel_rfl))
  f225 := Tryz.func229.trans (congrArg some (by kernel_rfl))
  f226 := Tryz.func195.trans (congrArg some (by kernel_rfl))
  f227 := Tryz.func142.trans (congrArg some (by kernel_rfl))
  f228 := Tryz.func185.trans (congrArg some (by kernel_rfl))
  f266 := Tryz.func219.trans (congrArg some (by kernel_rfl))
  t0 := Tryz.underlying0
  a0 := Tryz.isAgg0
  z0 := Tryz.sizeOf0
  v0 := Tryz.zeroValue0
  t3 := Tryz.underlying3
  a3 := Tryz.isAgg3
  z3 := Tryz.sizeOf3
  v3 := Tryz.zeroValue3
  t4 := Tryz.underlying4
  a4 := Tryz.isAgg4
  z4 := Tryz.sizeOf4
  v4 := Tryz.zeroValue4
  t5 := Tryz.underlying5
  a5 := Tryz.isAgg5
  z5 := Tryz.sizeOf5
  v5 := Tryz.zeroValue5
  t9 := Tryz.underlying9
  a9 := Tryz.isAgg9
  z9 := Tryz.sizeOf9
  v9 := Tryz.zeroValue9
  t21 := Tryz.underlying21
  a21 := Tryz.isAgg21
  z21 := Tryz.sizeOf21
  v21 := Tryz.zeroValue21
  t46 := Tryz.underlying135
  a46 := Tryz.isAgg135
  z46 := Tryz.sizeOf135
  v46 := Tryz.zeroValue135
  t116 := Tryz.underlying159
  a116 := Tryz.isAgg159
  z116 := Tryz.sizeOf159
  t117 := Tryz.underlying160
  a117 := Tryz.isAgg160
  z117 := Tryz.sizeOf160
  v117 := Tryz.zeroValue160
  t124 := Tryz.underlying163
  a124 := Tryz.isAgg163
  z124 := Tryz.sizeOf163
  v124 := Tryz.zeroValue163 }
open Go.RowKit Go.Lib in
theorem Tryz.strings_IndexAny_long (hv116 : ∀ w, (zeroValue 159).run Tryz.prog w = .ok (.agg (Array.replicate 256 (.bool false))) w) (s chars : ByteArray) (w : World) (h2 : 2 ≤ chars.size) (h8 : 8 < s.size) (hs : s.size < 4294967281) (hcs : chars.size < 4294967281) (hascii : ∀ (j : Nat) b, chars.data.toList[j]? = some b → b.toNat < 128) :
    Calls Tryz.prog 157 #[.string s, .string chars] w fun e w' => e = .returned (.int .i64 (Lib.indexAny s.data.toList chars.data.toList)) ∧ w' = ((w.alloc (.cells (Lib.setCells chars.data.toList) 159)).alloc (.cells (Lib.setCells chars.data.toList) 159)) := Any.strings_IndexAny_long Tryz.lays153 hv116 (by kernel_rfl) s chars w h2 h8 hs hcs hascii
open Go.RowKit Go.Lib in
/-- strings.IndexAny ON ASCII BYTES: the four roads under one statement. (LAID: no walk: one application.) -/
theorem Tryz.strings_IndexAny (hv116 : ∀ w, (zeroValue 159).run Tryz.prog w = .ok (.agg (Array.replicate 256 (.bool false))) w) (s chars : ByteArray) (w : World) (hs : s.size < 4294967281) (hcs : chars.size < 4294967281) (has : ∀ (j : Nat) b, s.data.toList[j]? = some b → b.toNat < 128) (hac : ∀ (j : Nat) b, chars.data.toList[j]? = some b → b.toNat < 128) :
    Calls Tryz.prog 157 #[.string s, .string chars] w fun e w' => e = .returned (.int .i64 (Lib.indexAny s.data.toList chars.data.toList)) ∧ Below w.heap.size w w' := Any.strings_IndexAny Tryz.lays153 hv116 (by kernel_rfl) s chars w hs hcs has hac
def Tryz.lays150_ren : Go.Shelf.Ren := ⟨fun | 150 => 107 | 153 => 157 | 152 => 194 | 226 => 195 | 227 => 142 | 228 => 185 | 137 => 138 | 119 => 227 | 224 => 228 | 225 => 229 | 217 => 180 | 266 => 219 | n => n, fun | 9 => 9 | 4 => 4 | 3 => 3 | 5 => 5 | 21 => 21 | 117 => 160 | 116 => 159 | 0 => 0 | 46 => 135 | 124 => 163 | n => n, fun | n => n⟩
theorem Tryz.lays150 : Go.Proofs.Lays.n150 Tryz.prog Tryz.lays150_ren := {
  mixed := by kernel_rfl
  f119 := Tryz.func227.trans (congrArg some (by kernel_rfl))
  f137 := Tryz.func138.trans (congrArg some (by kernel_rfl))
  f150 := Tryz.func107.trans (congrArg some (by kernel_rfl))
  f152 := Tryz.func194.trans (congrArg some (by kernel_rfl))
  f153 := Tryz.func157.trans (congrArg some (by kernel_rfl))
  f217 := Tryz.func180.trans (congrArg some (by kernel_rfl))
  f224 := Tryz.func228.trans (congrArg some (by kernel_rfl))
  f225 := Tryz.func229.trans (congrArg some (by kernel_rfl))
  f226 := Tryz.func195.trans (congrArg some (by kernel_rfl))
  f227 := Tryz.func142.trans (congrArg some (by kernel_rfl))
  f228 := Tryz.func185.trans (congrArg some (by kernel_rfl))
  f266 := Tryz.func219.trans (congrArg some (by kernel_rfl))
  t0 := Tryz.underlying0
  a0 := Tryz.isAgg0
  z0 := Tryz.sizeOf0
  v0 := Tryz.zeroValue0
  t3 := Tryz.underlying3
  a3 := Tryz.isAgg3
  z3 := Tryz.sizeOf3
  v3 := Tryz.zeroValue3
  t4 := Tryz.underlying4
  a4 := Tryz.isAgg4
  z4 := Tryz.sizeOf4
  v4 := Tryz.zeroValue4
  t5 := Tryz.underlying5
  a5 := Tryz.isAgg5
  z5 := Tryz.sizeOf5
  v5 := Tryz.zeroValue5
  t9 := Tryz.underlying9
  a9 := Tryz.isAgg9
  z9 := Tryz.sizeOf9
  v9 := Tryz.zeroValue9
  t21 := Tryz.underlying21
  a21 := Tryz.isAgg21
  z21 := Tryz.sizeOf21
  v21 := Tryz.zeroValue21
  t46 := Tryz.underlying135
  a46 := Tryz.isAgg135
  z46 := Tryz.sizeOf135
  v46 := Tryz.zeroValue135
  t116 := Tryz.underlying159
  a116 := Tryz.isAgg159
  z116 := Tryz.sizeOf159
  t117 := Tryz.underlying160
  a117 := Tryz.isAgg160
  z117 := Tryz.sizeOf160
  v117 := Tryz.zeroValue160
  t124 := Tryz.underlying163
  a124 := Tryz.isAgg163
  z124 := Tryz.sizeOf163
  v124 := Tryz.zeroValue163 }
open Go.RowKit Go.Lib in
/-- strings.ContainsAny ON ASCII BYTES. (LAID: no walk: one application.) -/
theorem Tryz.strings_ContainsAny (hv116 : ∀ w, (zeroValue 159).run Tryz.prog w = .ok (.agg (Array.replicate 256 (.bool false))) w) (s chars : ByteArray) (w : World) (hs : s.size < 4294967281) (hcs : chars.size < 4294967281) (has : ∀ (j : Nat) b, s.data.toList[j]? = some b → b.toNat < 128) (hac : ∀ (j : Nat) b, chars.data.toList[j]? = some b → b.toNat < 128) :
    Calls Tryz.prog 107 #[.string s, .string chars] w fun e w' => e = .returned (.bool (Lib.containsAny s.data.toList chars.data.toList)) ∧ Below w.heap.size w w' := Any.strings_ContainsAny Tryz.lays150 hv116 (by kernel_rfl) s chars w hs hcs has hac
def Tryz.lays105_ren : Go.Shelf.Ren := ⟨fun | 105 => 168 | 212 => 206 | 99 => 207 | 165 => 208 | 166 => 209 | 170 => 210 | 169 => 211 | 263 => 239 | 264 => 240 | 206 => 234 | 240 => 241 | 241 => 242 | 276 => 253 | 277 => 254 | n => n, fun | 9 => 9 | 3 => 3 | 4 => 4 | 20 => 20 | 0 => 0 | 46 => 135 | 109 => 214 | 5 => 5 | 72 => 218 | 76 => 112 | 51 => 172 | 146 => 233 | 53 => 174 | 148 => 235 | 70 => 216 | 37 => 56 | 75 => 111 | 127 => 184 | 164 => 243 | 80 => 220 | n => n, fun | n => n⟩
theorem Tryz.lays105 : Go.Proofs.Lays.n105 Tryz.prog Tryz.lays105_ren := {
  mixed := by kernel_rfl
  f99 := Tryz.func207.trans (congrArg some (by kernel_rfl))
  f105 := Tryz.func168.trans (congrArg some (by kernel_rfl))
  f165 := Tryz.func208.trans (congrArg some (by kernel_rfl))
  f166 := Tryz.func209.trans (congrArg some (by kernel_rfl))
  f169 := Tryz.func211.trans (congrArg some (by kernel_rfl))
  f170 := Tryz.func210.trans (congrArg some (by kernel_rfl))
  f206 := Tryz.func234.trans (congrArg some (by kernel_rfl))
  f212 := Tryz.func206.trans (congrArg some (by kernel_rfl))
  f240 := Tryz.func241.trans (congrArg some (by kernel_rfl))
  f241 := Tryz.func242.trans (congrArg some (by kernel_rfl))
  f263 := Tryz.func239.trans (congrArg some (by kernel_rfl))
  f264 := Tryz.func240.trans (congrArg some (by kernel_rfl))
  f276 := Tryz.func253.trans (congrArg some (by kernel_rfl))
  f277 := Tryz.func254.trans (congrArg some (by kernel_rfl))
  t0 := Tryz.underlying0
  a0 := Tryz.isAgg0
  z0 := Tryz.sizeOf0
  v0 := Tryz.zeroValue0
  t3 := Tryz.underlying3
  a3 := Tryz.isAgg3
  z3 := Tryz.sizeOf3
  v3 := Tryz.zeroValue3
  t4 := Tryz.underlying4
  a4 := Tryz.isAgg4
  z4 := Tryz.sizeOf4
  v4 := Tryz.zeroValue4
  t5 := Tryz.underlying5
  a5 := Tryz.isAgg5
  z5 := Tryz.sizeOf5
  v5 := Tryz.zeroValue5
  t9 := Tryz.underlying9
  a9 := Tryz.isAgg9
  z9 := Tryz.sizeOf9
  v9 := Tryz.zeroValue9
  t20 := Tryz.underlying20
  a20 := Tryz.isAgg20
  z20 := Tryz.sizeOf20
  v20 := Tryz.zeroValue20
  t37 := Tryz.underlying56
  a37 := Tryz.isAgg56
  z37 := Tryz.sizeOf56
  v37 := Tryz.zeroValue56
  t46 := Tryz.underlying135
  a46 := Tryz.isAgg135
  z46 := Tryz.sizeOf135
  v46 := Tryz.zeroValue135
  t51 := Tryz.underlying172
  a51 := Tryz.isAgg172
  z51 := Tryz.sizeOf172
  v51 := Tryz.zeroValue172
  t53 := Tryz.underlying174
  a53 := Tryz.isAgg174
  z53 := Tryz.sizeOf174
  v53 := Tryz.zeroValue174
  t70 := Tryz.underlying216
  a70 := Tryz.isAgg216
  z70 := Tryz.sizeOf216
  v70 := Tryz.zeroValue216
  t72 := Tryz.underlying218
  a72 := Tryz.isAgg218
  z72 := Tryz.sizeOf218
  v72 := Tryz.zeroValue218
  t75 := Tryz.underlying111
  a75 := Tryz.isAgg111
  z75 := Tryz.sizeOf111
  v75 := Tryz.zeroValue111
  t76 := Tryz.underlying112
  a76 := Tryz.isAgg112
  z76 := Tryz.sizeOf112
  v76 := Tryz.zeroValue112
  t109 := Tryz.underlying214
  a109 := Tryz.isAgg214
  z109 := Tryz.sizeOf214
  v109 := Tryz.zeroValue214
  t127 := Tryz.underlying184
  a127 := Tryz.isAgg184
  z127 := Tryz.sizeOf184
  v127 := Tryz.zeroValue184
  t146 := Tryz.underlying233
  a146 := Tryz.isAgg233
  z146 := Tryz.sizeOf233
  v146 := Tryz.zeroValue233
  t148 := Tryz.underlying235
  a148 := Tryz.isAgg235
  z148 := Tryz.sizeOf235
  v148 := Tryz.zeroValue235
  t164 := Tryz.underlying243
  a164 := Tryz.isAgg243
  z164 := Tryz.sizeOf243
  v164 := Tryz.zeroValue243 }
theorem Tryz.Builder_Extra_105 : Builder.Extra Tryz.prog Tryz.lays105_ren := {
  sizeBuilder := by kernel_rfl
  liesBuilder := by kernel_rfl
  t5 := Tryz.underlying5
  a5 := Tryz.isAgg5
  z5 := Tryz.sizeOf5
  v5 := Tryz.zeroValue5
  infoByte := by kernel_rfl
  cellsByte := by kernel_rfl
  sizeByte := by kernel_rfl
  neB5 := by decide }
open Go.RowKit Go.Lib in
/-- **strings.Repeat: count ≥ 0, the result within one allocation: count copies of s.** (LAID: no walk: one application.) -/
theorem Tryz.strings_Repeat (s : ByteArray) (c : Nat) (w : World) (hc : c ≤ 9223372036854775807) (hlen : s.size * c ≤ 140737488355328) :
    Calls Tryz.prog 168 #[.string s, .int .i64 c] w fun e w' => e = .returned (.string ⟨(Lib.repeatL s.data.toList c).toArray⟩) ∧ Below w.heap.size w w' := Any.strings_Repeat Tryz.lays105 Tryz.Builder_Extra_105 s c w hc hlen
def Tryz.lays260_ren : Go.Shelf.Ren := ⟨fun | 260 => 249 | n => n, fun | 9 => 9 | 21 => 21 | 3 => 3 | 4 => 4 | 5 => 5 | 119 => 252 | 0 => 0 | 46 => 135 | 139 => 255 | 138 => 254 | n => n, fun | 3 => 7 | 4 => 8 | n => n⟩
theorem Tryz.lays260 : Go.Proofs.Lays.n260 Tryz.prog Tryz.lays260_ren := {
  mixed := by kernel_rfl
  f260 := Tryz.func249.trans (congrArg some (by kernel_rfl))
  t0 := Tryz.underlying0
  a0 := Tryz.isAgg0
  z0 := Tryz.sizeOf0
  v0 := Tryz.zeroValue0
  t3 := Tryz.underlying3
  a3 := Tryz.isAgg3
  z3 := Tryz.sizeOf3
  v3 := Tryz.zeroValue3
  t4 := Tryz.underlying4
  a4 := Tryz.isAgg4
  z4 := Tryz.sizeOf4
  v4 := Tryz.zeroValue4
  t5 := Tryz.underlying5
  a5 := Tryz.isAgg5
  z5 := Tryz.sizeOf5
  v5 := Tryz.zeroValue5
  t9 := Tryz.underlying9
  a9 := Tryz.isAgg9
  z9 := Tryz.sizeOf9
  v9 := Tryz.zeroValue9
  t21 := Tryz.underlying21
  a21 := Tryz.isAgg21
  z21 := Tryz.sizeOf21
  v21 := Tryz.zeroValue21
  t46 := Tryz.underlying135
  a46 := Tryz.isAgg135
  z46 := Tryz.sizeOf135
  v46 := Tryz.zeroValue135
  t119 := Tryz.underlying252
  a119 := Tryz.isAgg252
  z119 := Tryz.sizeOf252
  t138 := Tryz.underlying254
  a138 := Tryz.isAgg254
  z138 := Tryz.sizeOf254
  v138 := Tryz.zeroValue254
  t139 := Tryz.underlying255
  a139 := Tryz.isAgg255
  z139 := Tryz.sizeOf255
  v139 := Tryz.zeroValue255
  g3 := by kernel_rfl
  g4 := by kernel_rfl }
open Go.RowKit Go.Lib in
/-- **unicode/utf8.DecodeRuneInString AT EVERY STRING.** (LAID: no walk: one application.) -/
theorem Tryz.utf8_DecodeRuneInString (s : ByteArray) (w : World) (hT : Lib.Utf8Tabs 7 8 w) :
    Calls Tryz.prog 225 #[.string s] w fun e w' => e = .returned (.tuple #[.int .i32 (Lib.decodeGo s).1, .int .i64 (Lib.decodeGo s).2]) ∧ Below w.heap.size w w' := Any.utf8_DecodeRuneInString Tryz.lays197 s w hT
def Tryz.laysPa45_ren : Go.Shelf.Ren := ⟨fun | 45 => 232 | n => n, fun | 9 => 9 | 5 => 5 | 3 => 3 | 4 => 4 | n => n, fun | n => n⟩
theorem Tryz.laysPa45 : Go.Proofs.Lays.p45 Tryz.prog Tryz.laysPa45_ren := {
  mixed := by kernel_rfl
  f45 := Tryz.func232.trans (congrArg some (by kernel_rfl))
  t3 := Tryz.underlying3
  a3 := Tryz.isAgg3
  z3 := Tryz.sizeOf3
  v3 := Tryz.zeroValue3
  t4 := Tryz.underlying4
  a4 := Tryz.isAgg4
  z4 := Tryz.sizeOf4
  v4 := Tryz.zeroValue4
  t5 := Tryz.underlying5
  a5 := Tryz.isAgg5
  z5 := Tryz.sizeOf5
  v5 := Tryz.zeroValue5
  t9 := Tryz.underlying9
  a9 := Tryz.isAgg9
  z9 := Tryz.sizeOf9
  v9 := Tryz.zeroValue9 }
open Go.RowKit Go.Lib in
/-- internal/bytealg.LastIndexByteString (what strings.LastIndexByte calls: "LastIndexByte returns the index of the last instance of c in s, or -1 if c is not present in s."): IT RETURNS 'Pa.lastIndexByte s c'; the world is as it was. (LAID: no walk: one application.) -/
theorem Tryz.bytealg_LastIndexByteString (s : ByteArray) (c : UInt8) (w : World) (hs : s.size ≤ 9223372036854775807) :
    Calls Tryz.prog 232 #[.string s, .int .u8 c.toNat] w fun e w' => e = .returned (.int .i64 (Pa.lastIndexByte s.data.toList c)) ∧ w' = w := Any.bytealg_LastIndexByteString Tryz.laysPa45 s c w hs
end Go.Proofs


/- What the rows of a seat with laid tables and sentinels share: the tables, the witness. -/
set_option linter.unusedVariables false
set_option linter.unusedSimpArgs false
namespace Go.Proofs.YtbkhmkcmbaffoaaGreatDoor.row
open Go Go.ChangeShapes Go.WideShapes Go.ChangeAt Go.RowKit Go.Proofs Go.Shelf Go.Proofs.YtbkhmkcmbaffoaaGreatDoor.Eng Go.Proofs.YtbkhmkcmbaffoaaGreatDoor.Eng.Rdv

theorem own : ownKnob Tryz.prog.godebug = none := by kernel_rfl
theorem laidOut : laidOutB Tryz.prog = true := by kernel_rfl
section
variable {H : Type} {enc : TypeId × Value → H} {P : Program} {w : World} {base : Nat} {sp : Nat → Bool} {held : Bool}
theorem arr_len {fuel : Nat} {t e : TypeId} {n : Nat} {cs : List Value} {d : DataW H} {p : List MemPlace} (ht : P.underlying t = some (.array n e)) (h : DataW.trod enc P w base sp held fuel t cs = some (d, p)) : cs.length = P.cellsOf t := by
  cases fuel with
  | zero => simp [DataW.trod] at h
  | succ fuel =>
    simp only [DataW.trod, ht] at h
    split at h
    · assumption
    · cases h
theorem iface_only {fuel : Nat} {t : TypeId} {ms : Array (String × TypeId)} {cs : List Value} {nm : String} {d : DataW H} {p : List MemPlace} (ht : P.underlying t = some (.interface ms)) (h : DataW.trod enc P w base sp held fuel t cs = some (.iface nm d, p)) : ∃ u v, cs = [.iface u v] := by
  cases fuel with
  | zero => simp [DataW.trod] at h
  | succ fuel =>
    simp only [DataW.trod, ht] at h
    split at h <;> first | exact ⟨_, _, rfl⟩ | (cases h; done) | simp_all
end
theorem add0 (g j : Nat) : (⟨g, 0, none⟩ : Addr).add j = ⟨g, j, none⟩ := by rw [add_lit', Nat.zero_add]
/-- A variable of so many leaves, cell by cell. -/
theorem glob_one {W : World} {g : Nat} {arr : Array Value} {name : String} (hn : Tryz.prog.globalNamed name = some g) (hv : W.var? Tryz.prog name = some arr) (cs : List AV) (f : Nat → Value) (hl : arr.size = cs.length) (hleaf : ∀ (j : Nat) (c : AV), cs[j]? = some c → c.leaf = true ∧ arr[j]? = some (f j) ∧ V (stab W) c (f j)) :
    V (stab W) (.eptr cs 0) (.pointer (some ⟨g, 0, none⟩)) ∧ ∃ arr t f, W.heap[g]? = some (.cells arr t f) ∧ arr.size = cs.length := by
  refine ⟨?_, ?_⟩
  · have := V.eptr (S := stab W) cs 0 ⟨g, 0, none⟩ f (fun j c h => (hleaf j c h).1) (fun j c h => by
      rw [add0]
      show W.cell? ⟨g, j, none⟩ = _
      rw [World.var?_cell hn hv j]
      exact (hleaf j c h).2.1) (fun j c h => (hleaf j c h).2.2)
    rwa [add0] at this
  · unfold World.var? at hv
    rw [hn, Option.bind_some] at hv
    split at hv
    · rename_i cs' t f' he
      obtain rfl := Option.some.inj hv
      exact ⟨_, _, _, he, hl⟩
    · cases hv
theorem ints_one {W : World} {g : Nat} {name : String} {k : IntKind} {zs : List Int} (hn : Tryz.prog.globalNamed name = some g) (hv : W.var? Tryz.prog name = some (zs.map fun z => Value.int k z).toArray) :
    V (stab W) (.eptr (zs.map fun z => .int k z) 0) (.pointer (some ⟨g, 0, none⟩)) ∧ ∃ arr t f, W.heap[g]? = some (.cells arr t f) ∧ arr.size = (zs.map fun z => AV.int k z).length := by
  refine glob_one hn hv _ (fun j => .int k (zs.getD j 0)) (by simp) fun j c hc => ?_
  rw [List.getElem?_map] at hc
  obtain ⟨z, hz, rfl⟩ := Option.map_eq_some_iff.1 hc
  refine ⟨rfl, ?_, ?_⟩
  · simp [List.getD_eq_getElem?_getD, hz]
  · rw [List.getD_eq_getElem?_getD, hz]; exact V.int _ _
theorem iface_one {W : World} {g : Nat} {name : String} {nm : String} {d : DataW Unit} {t : TypeId} {ms : Array (String × TypeId)} (hn : Tryz.prog.globalNamed name = some g) (hy : (Tryz.prog.globals[g]?).map (·.type) = some t) (hi : Tryz.prog.underlying t = some (.interface ms)) (h : Lib.VarReads Tryz.prog W name (.iface nm d)) :
    V (stab W) (.eptr [.ifc] 0) (.pointer (some ⟨g, 0, none⟩)) ∧ ∃ arr t f, W.heap[g]? = some (.cells arr t f) ∧ arr.size = [AV.ifc].length := by
  obtain ⟨g', t', cs, fuel, p, hg, hty, hvar, hd⟩ := h
  obtain rfl := Option.some.inj (hn.symm.trans hg)
  obtain rfl := Option.some.inj (hy.symm.trans hty)
  obtain ⟨u, v, e⟩ := iface_only hi hd
  obtain ⟨cs⟩ := cs
  obtain rfl : cs = [.iface u v] := e
  refine glob_one hn hvar _ (fun _ => .iface u v) rfl fun j c hc => ?_
  match j with
  | 0 => cases hc; exact ⟨rfl, rfl, V.ifc _ _⟩
  | j + 1 => simp at hc
theorem tab_var {W : World} {g : Nat} {name : String} {k : IntKind} {zs : List Int} {t e : TypeId} {n : Nat} (hn : Tryz.prog.globalNamed name = some g) (hy : (Tryz.prog.globals[g]?).map (·.type) = some t) (ht : Tryz.prog.underlying t = some (.array n e)) (he : Tryz.prog.underlying e = some (.int k)) (hce : Tryz.prog.cellsOf e = 1) (hct : Tryz.prog.cellsOf t = n) (h : Lib.VarReads Tryz.prog W name (Lib.tabData k zs)) : W.var? Tryz.prog name = some (zs.map fun z => Value.int k z).toArray := by
  obtain ⟨g', t', cs, fuel, p, hg, hty, hvar, hd⟩ := h
  obtain rfl := Option.some.inj (hn.symm.trans hg)
  obtain rfl := Option.some.inj (hy.symm.trans hty)
  rw [hvar, ← Lib.cells_of_tab ht he hce hct hd]
/-- What the row's laid variables give. -/
theorem tables {W : World} {l : List (String × DataW Unit)} (hl : l = [("math/bits.deBruijn32tab", Rows.laid_math_bits_deBruijn32tab), ("math/bits.deBruijn64tab", Rows.laid_math_bits_deBruijn64tab), ("internal/strconv.uint64pow10", Rows.laid_internal_strconv_uint64pow10), ("unicode/utf8.acceptRanges", Rows.laid_unicode_utf8_acceptRanges), ("strconv.ErrRange", Rows.laid_strconv_ErrRange), ("strconv.ErrSyntax", Rows.laid_strconv_ErrSyntax), ("unicode/utf8.first", Rows.laid_unicode_utf8_first)]) (h : laidMetH Tryz.prog l W) : GlobOk U.glob (stab W) W := by
  subst hl
  have h' : laidMet Tryz.prog [("math/bits.deBruijn32tab", Rows.laid_math_bits_deBruijn32tab), ("math/bits.deBruijn64tab", Lib.tabData .u8 [0, 1, 56, 2, 57, 49, 28, 3, 61, 58, 42, 50, 38, 29, 17, 4, 62, 47, 59, 36, 45, 43, 51, 22, 53, 39, 33, 30, 24, 18, 12, 5, 63, 55, 48, 27, 60, 41, 37, 16, 46, 35, 44, 21, 52, 32, 23, 11, 54, 26, 40, 15, 34, 20, 31, 10, 25, 14, 19, 9, 13, 8, 7, 6]), ("internal/strconv.uint64pow10", Lib.tabData .u64 Lib.pow10Tab), ("unicode/utf8.acceptRanges", Lib.acceptData), ("strconv.ErrRange", Rows.laid_strconv_ErrRange), ("strconv.ErrSyntax", Rows.laid_strconv_ErrSyntax), ("unicode/utf8.first", Lib.firstData)] W := by
    have e1 : (Rows.laid_unicode_utf8_acceptRanges : DataW Unit) = Lib.acceptData := by kernel_rfl
    have e2 : Rows.laid_unicode_utf8_first = Lib.firstData := by kernel_rfl
    have e3 : (Rows.laid_internal_strconv_uint64pow10 : DataW Unit) = Lib.tabData .u64 Lib.pow10Tab := by kernel_rfl
    have e4 : (Rows.laid_math_bits_deBruijn64tab : DataW Unit) = Lib.tabData .u8 [0, 1, 56, 2, 57, 49, 28, 3, 61, 58, 42, 50, 38, 29, 17, 4, 62, 47, 59, 36, 45, 43, 51, 22, 53, 39, 33, 30, 24, 18, 12, 5, 63, 55, 48, 27, 60, 41, 37, 16, 46, 35, 44, 21, 52, 32, 23, 11, 54, 26, 40, 15, 34, 20, 31, 10, 25, 14, 19, 9, 13, 8, 7, 6] := by kernel_rfl
    rw [← e1, ← e2, ← e3, ← e4]
    exact h
  have r2 : Lib.VarReads Tryz.prog W "math/bits.deBruijn64tab" (Lib.tabData .u8 [0, 1, 56, 2, 57, 49, 28, 3, 61, 58, 42, 50, 38, 29, 17, 4, 62, 47, 59, 36, 45, 43, 51, 22, 53, 39, 33, 30, 24, 18, 12, 5, 63, 55, 48, 27, 60, 41, 37, 16, 46, 35, 44, 21, 52, 32, 23, 11, 54, 26, 40, 15, 34, 20, 31, 10, 25, 14, 19, 9, 13, 8, 7, 6]) := Lib.laidMet.reads h' (.tail _ (.head _))
  have r1 : Lib.VarReads Tryz.prog W "internal/strconv.uint64pow10" (Lib.tabData .u64 Lib.pow10Tab) := Lib.laidMet.reads h' (.tail _ (.tail _ (.head _)))
  have r3 : Lib.VarReads Tryz.prog W "strconv.ErrSyntax" Rows.laid_strconv_ErrSyntax := Lib.laidMet.reads h' (.tail _ (.tail _ (.tail _ (.tail _ (.tail _ (.head _))))))
  have r4 : Lib.VarReads Tryz.prog W "strconv.ErrRange" Rows.laid_strconv_ErrRange := Lib.laidMet.reads h' (.tail _ (.tail _ (.tail _ (.tail _ (.head _)))))
  have r7 : Lib.VarReads Tryz.prog W "unicode/utf8.first" Lib.firstData := Lib.laidMet.reads h' (.tail _ (.tail _ (.tail _ (.tail _ (.tail _ (.tail _ (.head _)))))))
  have r8 : Lib.VarReads Tryz.prog W "unicode/utf8.acceptRanges" Lib.acceptData := Lib.laidMet.reads h' (.tail _ (.tail _ (.tail _ (.head _))))
  have hU : Lib.Utf8Tabs 7 8 W := Go.Proofs.utf8Tabs_of_reads (P := Tryz.prog) (ρ := Tryz.lays260_ren) { Tryz.lays260 with } ⟨by kernel_rfl, by kernel_rfl, by kernel_rfl, by kernel_rfl, by kernel_rfl, by kernel_rfl, by kernel_rfl⟩ r7 r8
  intro g cs hg
  unfold U.glob at hg
  split at hg
  · rename_i h0
    subst h0
    obtain rfl := Option.some.inj hg
    have := ints_one (g := 7) (name := "unicode/utf8.first") (by kernel_rfl) (tab_var (g := 7) (t := 252) (e := 5) (n := 256) (by kernel_rfl) (by kernel_rfl) Tryz.underlying252 Tryz.underlying5 (by kernel_rfl) (by kernel_rfl) r7)
    rw [Lib.firstTab, List.map_map] at this
    exact this
  · split at hg
    · rename_i h0 h1
      subst h1
      obtain rfl := Option.some.inj hg
      obtain ⟨g', t', cs, fuel, p, hgn, hty, hvar, hd⟩ := r8
      obtain rfl := Option.some.inj ((show Tryz.prog.globalNamed "unicode/utf8.acceptRanges" = some 8 by kernel_rfl).symm.trans hgn)
      obtain rfl := Option.some.inj ((show (Tryz.prog.globals[8]?).map (·.type) = some 255 by kernel_rfl).symm.trans hty)
      have hlen := arr_len Tryz.underlying255 hd
      have hsz : Tryz.prog.cellsOf 255 = 32 := by kernel_rfl
      rw [hsz, Array.length_toList] at hlen
      refine glob_one hgn hvar _ (fun i => .int .u8 (((if i % 2 = 0 then Lib.accLo (i / 2) else Lib.accHi (i / 2) : Nat) : Int))) (by simp [hlen]) fun j c hc => ?_
      rw [List.getElem?_map] at hc
      obtain ⟨x, hx, rfl⟩ := Option.map_eq_some_iff.1 hc
      obtain ⟨hj, rfl⟩ := List.getElem?_eq_some_iff.1 hx
      rw [List.length_range] at hj
      rw [List.getElem_range]
      refine ⟨rfl, ?_, V.int _ _⟩
      rw [← World.var?_cell hgn hvar j]
      obtain ⟨h2, h3⟩ := hU.2 (j / 2) (by omega)
      by_cases hm : j % 2 = 0
      · rw [if_pos hm]
        rwa [show 2 * (j / 2) = j from by omega] at h2
      · rw [if_neg hm]
        rwa [show 2 * (j / 2) + 1 = j from by omega] at h3
    · split at hg
      · rename_i h0 h1 h2
        subst h2
        obtain rfl := Option.some.inj hg
        exact ints_one (g := 2) (name := "internal/strconv.uint64pow10") (by kernel_rfl) (tab_var (g := 2) (t := 223) (e := 174) (n := 20) (by kernel_rfl) (by kernel_rfl) Tryz.underlying223 Tryz.underlying174 (by kernel_rfl) (by kernel_rfl) r1)
      · split at hg
        · rename_i h0 h1 h2 h3
          subst h3
          obtain rfl := Option.some.inj hg
          exact iface_one (name := "strconv.ErrSyntax") (by kernel_rfl) (t := 111) (by kernel_rfl) Tryz.underlying111 r3
        · split at hg
          · rename_i h0 h1 h2 h3 h4
            subst h4
            obtain rfl := Option.some.inj hg
            exact iface_one (name := "strconv.ErrRange") (by kernel_rfl) (t := 111) (by kernel_rfl) Tryz.underlying111 r4
          · split at hg
            · rename_i h0 h1 h2 h3 h4 h5
              subst h5
              obtain rfl := Option.some.inj hg
              exact ints_one (g := 6) (name := "math/bits.deBruijn64tab") (by kernel_rfl) (tab_var (g := 6) (t := 251) (e := 5) (n := 64) (by kernel_rfl) (by kernel_rfl) Tryz.underlying251 Tryz.underlying5 (by kernel_rfl) (by kernel_rfl) r2)
            · cases hg
/-- The cells that a datum of numbers is. -/
def litV : DataW Unit → Value
  | .lit (.int k n) => .int k n
  | _ => .nilIface
def rowV : DataW Unit → Array Value
  | .agg l => (l.map litV).toArray
  | _ => #[]
/-- So many blocks has the settled world. -/
noncomputable def low : Nat := (World.holding Tryz.prog default ⟨#[], #[], []⟩).heap.size
/-- The witness: the settled memory with the two errors' texts behind it, the variables holding what their initialisers lay. -/
noncomputable def laidWorld (os : Os) : World :=
  let w0 := World.holding Tryz.prog os ⟨#[.cells #[.string ⟨#[118, 97, 108, 117, 101, 32, 111, 117, 116, 32, 111, 102, 32, 114, 97, 110, 103, 101]⟩] 258, .cells #[.string ⟨#[105, 110, 118, 97, 108, 105, 100, 32, 115, 121, 110, 116, 97, 120]⟩] 258], #[], []⟩
  let put (h : Array Obj) (g : Nat) (cs : Array Value) : Array Obj := h.modify g fun
    | .cells _ t frozen => .cells cs t frozen
    | o => o
  let h1 := put w0.heap 7 (Lib.firstTab.map fun z => Value.int .u8 z).toArray
  let h2 := put h1 8 ((List.range 16).flatMap fun i => [Value.int .u8 (Lib.accLo i), Value.int .u8 (Lib.accHi i)]).toArray
  let h3 := put h2 5 (rowV Rows.laid_math_bits_deBruijn32tab)
  let h4 := put h3 6 (rowV Rows.laid_math_bits_deBruijn64tab)
  let h5 := put h4 2 (rowV Rows.laid_internal_strconv_uint64pow10)
  let h6 := put h5 4 #[.iface 256 (.pointer (some ⟨low, 0, none⟩))]
  let h7 := put h6 3 #[.iface 256 (.pointer (some ⟨low + 1, 0, none⟩))]
  { w0 with heap := h7 }
noncomputable abbrev laidBlocks : List Nat := [5, 6, 2, 8, 4, 3, 7, low, low + 1]
theorem cells_int (k : IntKind) (n : Int) : (Value.int k n).cells.toList = [Value.int k n] := rfl
end Go.Proofs.YtbkhmkcmbaffoaaGreatDoor.row


/- What functions answer, as the engine evaluates their code. Printed by gen2.py. -/
set_option linter.unusedVariables false
namespace Go.Proofs.YtbkhmkcmbaffoaaGreatDoor.Eng.U
open Go Go.Proofs Go.Proofs.YtbkhmkcmbaffoaaGreatDoor.Eng
/- oakum/item.Wrong -/
theorem item_Wrong_eq {E : Ext} [Core E] (k n : Nat) (a0_0 : Int) (a0_1 : ByteArray) (a0_2 : ByteArray) (a0_3 : Int) (a0_4 : Int) (a0_5 : Int) (a0_6 : Int) (a0_7 : Int) (a0_8 : Int) (a0_9 : ByteArray) (a0_10 : ByteArray) (a0_11 : Int) (a0_12 : Int) (a0_13 : List AV) : kp E k (n + 1) item_Wrong [(.agg [(.int .i64 a0_0), (.str a0_1), (.str a0_2), (.int .i64 a0_3), (.int .i64 a0_4), (.int .i64 a0_5), (.int .i64 a0_6), (.int .i64 a0_7), (.int .i64 a0_8), (.str a0_9), (.str a0_10), (.int .i64 a0_11), (.int .i64 a0_12), (.list 2 a0_13)])] =
  (callI .u8 (kp E k n item_Flag [(.int .i64 a0_0)]) fun vn2 => (bif (decide (vn2 = (0 : Int))) then (some (.int .i64 (1 : Int))) else (callB (kp E k n item_named [(.str a0_1)]) fun vq4 => (bif (!vq4) then (some (.int .i64 (2 : Int))) else (bif (decide (a0_0 = (1 : Int))) then (callB (kp E k n strings_HasSuffix [(.str a0_1), (.str (str [47]))]) fun vq6 => (bif vq6 then (some (.int .i64 (2 : Int))) else (callB (kp E k n item_link [(.agg [(.int .i64 a0_0), (.str a0_1), (.str a0_2), (.int .i64 a0_3), (.int .i64 a0_4), (.int .i64 a0_5), (.int .i64 a0_6), (.int .i64 a0_7), (.int .i64 a0_8), (.str a0_9), (.str a0_10), (.int .i64 a0_11), (.int .i64 a0_12), (.list 2 a0_13)])]) fun vq8 => (bif (!vq8) then (some (.int .i64 (3 : Int))) else (bif (decide (a0_3 < (0 : Int))) then (some (.int .i64 (4 : Int))) else (bif (decide (a0_4 < (0 : Int))) then (some (.int .i64 (5 : Int))) else (bif (decide (a0_5 < (0 : Int))) then (some (.int .i64 (6 : Int))) else (bif (decide (a0_6 < (0 : Int))) then (some (.int .i64 (7 : Int))) else (bif (decide (a0_6 > (0 : Int))) then (bif (!(decide (a0_0 = (1 : Int)))) then (some (.int .i64 (7 : Int))) else (callB (kp E k n dec_Right [(.agg [(.int .i64 a0_7), (.int .i64 a0_8)])]) fun vq10 => (bif (!vq10) then (some (.int .i64 (8 : Int))) else (callB (kp E k n item_plain [(.str a0_9)]) fun vq12 => (bif (!vq12) then (some (.int .i64 (9 : Int))) else (callB (kp E k n item_plain [(.str a0_10)]) fun vq14 => (bif (!vq14) then (some (.int .i64 (10 : Int))) else (callB (kp E k n item_device [(.agg [(.int .i64 a0_0), (.str a0_1), (.str a0_2), (.int .i64 a0_3), (.int .i64 a0_4), (.int .i64 a0_5), (.int .i64 a0_6), (.int .i64 a0_7), (.int .i64 a0_8), (.str a0_9), (.str a0_10), (.int .i64 a0_11), (.int .i64 a0_12), (.list 2 a0_13)]), (.int .i64 a0_11)]) fun vq16 => (bif (!vq16) then (some (.int .i64 (11 : Int))) else (callB (kp E k n item_device [(.agg [(.int .i64 a0_0), (.str a0_1), (.str a0_2), (.int .i64 a0_3), (.int .i64 a0_4), (.int .i64 a0_5), (.int .i64 a0_6), (.int .i64 a0_7), (.int .i64 a0_8), (.str a0_9), (.str a0_10), (.int .i64 a0_11), (.int .i64 a0_12), (.list 2 a0_13)]), (.int .i64 a0_12)]) fun vq18 => (bif (!vq18) then (some (.int .i64 (12 : Int))) else (callB (kp E k n item_extra [(.list 2 a0_13)]) fun vq20 => (bif (!vq20) then (some (.int .i64 (13 : Int))) else (some (.int .i64 (0 : Int)))))))))))))))) else (callB (kp E k n dec_Right [(.agg [(.int .i64 a0_7), (.int .i64 a0_8)])]) fun vq22 => (bif (!vq22) then (some (.int .i64 (8 : Int))) else (callB (kp E k n item_plain [(.str a0_9)]) fun vq24 => (bif (!vq24) then (some (.int .i64 (9 : Int))) else (callB (kp E k n item_plain [(.str a0_10)]) fun vq26 => (bif (!vq26) then (some (.int .i64 (10 : Int))) else (callB (kp E k n item_device [(.agg [(.int .i64 a0_0), (.str a0_1), (.str a0_2), (.int .i64 a0_3), (.int .i64 a0_4), (.int .i64 a0_5), (.int .i64 a0_6), (.int .i64 a0_7), (.int .i64 a0_8), (.str a0_9), (.str a0_10), (.int .i64 a0_11), (.int .i64 a0_12), (.list 2 a0_13)]), (.int .i64 a0_11)]) fun vq28 => (bif (!vq28) then (some (.int .i64 (11 : Int))) else (callB (kp E k n item_device [(.agg [(.int .i64 a0_0), (.str a0_1), (.str a0_2), (.int .i64 a0_3), (.int .i64 a0_4), (.int .i64 a0_5), (.int .i64 a0_6), (.int .i64 a0_7), (.int .i64 a0_8), (.str a0_9), (.str a0_10), (.int .i64 a0_11), (.int .i64 a0_12), (.list 2 a0_13)]), (.int .i64 a0_12)]) fun vq30 => (bif (!vq30) then (some (.int .i64 (12 : Int))) else (callB (kp E k n item_extra [(.list 2 a0_13)]) fun vq32 => (bif (!vq32) then (some (.int .i64 (13 : Int))) else (some (.int .i64 (0 : Int)))))))))))))))))))))))) else (callB (kp E k n item_link [(.agg [(.int .i64 a0_0), (.str a0_1), (.str a0_2), (.int .i64 a0_3), (.int .i64 a0_4), (.int .i64 a0_5), (.int .i64 a0_6), (.int .i64 a0_7), (.int .i64 a0_8), (.str a0_9), (.str a0_10), (.int .i64 a0_11), (.int .i64 a0_12), (.list 2 a0_13)])]) fun vq34 => (bif (!vq34) then (some (.int .i64 (3 : Int))) else (bif (decide (a0_3 < (0 : Int))) then (some (.int .i64 (4 : Int))) else (bif (decide (a0_4 < (0 : Int))) then (some (.int .i64 (5 : Int))) else (bif (decide (a0_5 < (0 : Int))) then (some (.int .i64 (6 : Int))) else (bif (decide (a0_6 < (0 : Int))) then (some (.int .i64 (7 : Int))) else (bif (decide (a0_6 > (0 : Int))) then (bif (!(decide (a0_0 = (1 : Int)))) then (some (.int .i64 (7 : Int))) else (callB (kp E k n dec_Right [(.agg [(.int .i64 a0_7), (.int .i64 a0_8)])]) fun vq36 => (bif (!vq36) then (some (.int .i64 (8 : Int))) else (callB (kp E k n item_plain [(.str a0_9)]) fun vq38 => (bif (!vq38) then (some (.int .i64 (9 : Int))) else (callB (kp E k n item_plain [(.str a0_10)]) fun vq40 => (bif (!vq40) then (some (.int .i64 (10 : Int))) else (callB (kp E k n item_device [(.agg [(.int .i64 a0_0), (.str a0_1), (.str a0_2), (.int .i64 a0_3), (.int .i64 a0_4), (.int .i64 a0_5), (.int .i64 a0_6), (.int .i64 a0_7), (.int .i64 a0_8), (.str a0_9), (.str a0_10), (.int .i64 a0_11), (.int .i64 a0_12), (.list 2 a0_13)]), (.int .i64 a0_11)]) fun vq42 => (bif (!vq42) then (some (.int .i64 (11 : Int))) else (callB (kp E k n item_device [(.agg [(.int .i64 a0_0), (.str a0_1), (.str a0_2), (.int .i64 a0_3), (.int .i64 a0_4), (.int .i64 a0_5), (.int .i64 a0_6), (.int .i64 a0_7), (.int .i64 a0_8), (.str a0_9), (.str a0_10), (.int .i64 a0_11), (.int .i64 a0_12), (.list 2 a0_13)]), (.int .i64 a0_12)]) fun vq44 => (bif (!vq44) then (some (.int .i64 (12 : Int))) else (callB (kp E k n item_extra [(.list 2 a0_13)]) fun vq46 => (bif (!vq46) then (some (.int .i64 (13 : Int))) else (some (.int .i64 (0 : Int)))))))))))))))) else (callB (kp E k n dec_Right [(.agg [(.int .i64 a0_7), (.int .i64 a0_8)])]) fun vq48 => (bif (!vq48) then (some (.int .i64 (8 : Int))) else (callB (kp E k n item_plain [(.str a0_9)]) fun vq50 => (bif (!vq50) then (some (.int .i64 (9 : Int))) else (callB (kp E k n item_plain [(.str a0_10)]) fun vq52 => (bif (!vq52) then (some (.int .i64 (10 : Int))) else (callB (kp E k n item_device [(.agg [(.int .i64 a0_0), (.str a0_1), (.str a0_2), (.int .i64 a0_3), (.int .i64 a0_4), (.int .i64 a0_5), (.int .i64 a0_6), (.int .i64 a0_7), (.int .i64 a0_8), (.str a0_9), (.str a0_10), (.int .i64 a0_11), (.int .i64 a0_12), (.list 2 a0_13)]), (.int .i64 a0_11)]) fun vq54 => (bif (!vq54) then (some (.int .i64 (11 : Int))) else (callB (kp E k n item_device [(.agg [(.int .i64 a0_0), (.str a0_1), (.str a0_2), (.int .i64 a0_3), (.int .i64 a0_4), (.int .i64 a0_5), (.int .i64 a0_6), (.int .i64 a0_7), (.int .i64 a0_8), (.str a0_9), (.str a0_10), (.int .i64 a0_11), (.int .i64 a0_12), (.list 2 a0_13)]), (.int .i64 a0_12)]) fun vq56 => (bif (!vq56) then (some (.int .i64 (12 : Int))) else (callB (kp E k n item_extra [(.list 2 a0_13)]) fun vq58 => (bif (!vq58) then (some (.int .i64 (13 : Int))) else (some (.int .i64 (0 : Int))))))))))))))))))))))))))) := (kp_at (by kernel_rfl)).trans (by kernel_rfl)
/- oakum/over.Right -/
noncomputable def over_Right_bd : Code := Tryz.f15.body.getD .skip
noncomputable def over_Right_L0 (kap : FuncId → List AV → Option AV) (k : Nat) (k0 : Nat) (s0 : List AV) (s5 : List AV) (s6 : Int) (s7 : Int) : Option AV :=
  loop (fun fr K => code ((bs E0 k).cfg kap over_Right) (sel over_Right_bd [1, 0, 1, 0, 0]) fr K) (canon ((bs E0 k).cfg kap over_Right) (firstReg (sel over_Right_bd [1, 0, 1, 0, 0]))) k0 (mkFr 36 [(0, (.list 2 s0)), (5, (.list 2 s5)), (6, (.int .i64 s6)), (7, (.int .i64 s7))] []) (plug ((bs E0 k).cfg kap over_Right) (retK ((bs E0 k).cfg kap over_Right) [] Tryz.f15 [] some) [.blk 0, .seqR (sel over_Right_bd [1, 1])])
theorem over_Right_L0_s (kap : FuncId → List AV → Option AV) (k : Nat) (k0 : Nat) (s0 : List AV) (s5 : List AV) (s6 : Int) (s7 : Int) : over_Right_L0 kap k (k0 + 1) s0 s5 s6 s7 =
  (bif (decide (s7 < s6)) then (bif ((decide ((0 : Int) ≤ s7)) && (decide (s7 < (((List.length s5) : Nat) : Int)))) then ((s5[(Int.toNat s7)]?).bind fun vy1 => (cellS (AV.cells vy1) 0 fun vs2 => (cellS (AV.cells vy1) 1 fun vs3 => (bif (decide (vs3 = (str []))) then (some (.bool false)) else (callB (kap pax_Right [(.agg [(.str vs2), (.str vs3)])]) fun vq5 => (bif (!vq5) then (some (.bool false)) else (bif (decide (s7 > (0 : Int))) then (bif ((decide ((0 : Int) ≤ (IntKind.wrap .i64 (s7 - (1 : Int))))) && (decide ((IntKind.wrap .i64 (s7 - (1 : Int))) < (((List.length s0) : Nat) : Int)))) then ((s0[(Int.toNat (IntKind.wrap .i64 (s7 - (1 : Int))))]?).bind fun vy6 => (cellS (AV.cells vy6) 0 fun vs7 => (bif (!(Op.bytesLess (ByteArray.toList vs7) (ByteArray.toList vs2))) then (some (.bool false)) else (over_Right_L0 kap k k0 s0 s5 s6 (IntKind.wrap .i64 (s7 + (1 : Int))))))) else none) else (over_Right_L0 kap k k0 s0 s5 s6 (IntKind.wrap .i64 (s7 + (1 : Int))))))))))) else none) else (some (.bool true))) := by kernel_rfl
theorem over_Right_eq {E : Ext} [Core E] (k n : Nat) (a0 : List AV) : kp E k (n + 1) over_Right [(.list 2 a0)] =
  (over_Right_L0 (kp E k n) k k a0 a0 (((List.length a0) : Nat) : Int) (0 : Int)) := (kp_at (by kernel_rfl)).trans (by kernel_rfl)
/- oakum/over.Apply -/
/- oakum/item.Told -/
/- oakum/item.Flag -/
theorem item_Flag_eq {E : Ext} [Core E] (k n : Nat) (a0 : Int) : kp E k (n + 1) item_Flag [(.int .i64 a0)] =
  (bif (decide (a0 < (1 : Int))) then (some (.int .u8 (0 : Int))) else (bif (decide (a0 > (7 : Int))) then (some (.int .u8 (0 : Int))) else (some (.int .u8 (IntKind.wrap .u8 ((48 : Int) + (IntKind.wrap .u8 (IntKind.wrap .i64 (a0 - (1 : Int)))))))))) := (kp_at (by kernel_rfl)).trans (by kernel_rfl)
/- oakum/item.named -/
theorem item_named_eq {E : Ext} [Core E] (k n : Nat) (a0 : ByteArray) : kp E k (n + 1) item_named [(.str a0)] =
  (bif (!(decide (a0 = (str [])))) then (bif (decide ((((ByteArray.size a0) : Nat) : Int) ≤ (65536 : Int))) then (callB (kp E k n text_Clean [(.str a0)]) fun vq2 => (some (.bool vq2))) else (some (.bool false))) else (some (.bool false))) := (kp_at (by kernel_rfl)).trans (by kernel_rfl)
/- strings.HasSuffix -/
theorem strings_HasSuffix_eq {E : Ext} [Core E] (k n : Nat) (a0 : ByteArray) (a1 : ByteArray) : kp E k (n + 1) strings_HasSuffix [(.str a0), (.str a1)] =
  (callB (kp E k n stringslite_HasSuffix [(.str a0), (.str a1)]) fun vq2 => (some (.bool vq2))) := (kp_at (by kernel_rfl)).trans (by kernel_rfl)
/- oakum/item.link -/
theorem item_link_eq {E : Ext} [Core E] (k n : Nat) (a0_0 : Int) (a0_1 : ByteArray) (a0_2 : ByteArray) (a0_3 : Int) (a0_4 : Int) (a0_5 : Int) (a0_6 : Int) (a0_7 : Int) (a0_8 : Int) (a0_9 : ByteArray) (a0_10 : ByteArray) (a0_11 : Int) (a0_12 : Int) (a0_13 : List AV) : kp E k (n + 1) item_link [(.agg [(.int .i64 a0_0), (.str a0_1), (.str a0_2), (.int .i64 a0_3), (.int .i64 a0_4), (.int .i64 a0_5), (.int .i64 a0_6), (.int .i64 a0_7), (.int .i64 a0_8), (.str a0_9), (.str a0_10), (.int .i64 a0_11), (.int .i64 a0_12), (.list 2 a0_13)])] =
  (bif (decide (a0_0 = (2 : Int))) then (callB (kp E k n item_named [(.str a0_2)]) fun vq2 => (some (.bool vq2))) else (bif (decide (a0_0 = (3 : Int))) then (callB (kp E k n item_named [(.str a0_2)]) fun vq4 => (some (.bool vq4))) else (some (.bool (decide (a0_2 = (str []))))))) := (kp_at (by kernel_rfl)).trans (by kernel_rfl)
/- oakum/item.plain -/
theorem item_plain_eq {E : Ext} [Core E] (k n : Nat) (a0 : ByteArray) : kp E k (n + 1) item_plain [(.str a0)] =
  (bif (decide ((((ByteArray.size a0) : Nat) : Int) ≤ (65536 : Int))) then (callB (kp E k n text_Clean [(.str a0)]) fun vq2 => (some (.bool vq2))) else (some (.bool false))) := (kp_at (by kernel_rfl)).trans (by kernel_rfl)
/- oakum/item.device -/
theorem item_device_eq {E : Ext} [Core E] (k n : Nat) (a0_0 : Int) (a0_1 : ByteArray) (a0_2 : ByteArray) (a0_3 : Int) (a0_4 : Int) (a0_5 : Int) (a0_6 : Int) (a0_7 : Int) (a0_8 : Int) (a0_9 : ByteArray) (a0_10 : ByteArray) (a0_11 : Int) (a0_12 : Int) (a0_13 : List AV) (a1 : Int) : kp E k (n + 1) item_device [(.agg [(.int .i64 a0_0), (.str a0_1), (.str a0_2), (.int .i64 a0_3), (.int .i64 a0_4), (.int .i64 a0_5), (.int .i64 a0_6), (.int .i64 a0_7), (.int .i64 a0_8), (.str a0_9), (.str a0_10), (.int .i64 a0_11), (.int .i64 a0_12), (.list 2 a0_13)]), (.int .i64 a1)] =
  (bif (decide (a1 = (0 : Int))) then (some (.bool true)) else (bif (decide (a1 > (0 : Int))) then (bif (decide (a0_0 = (4 : Int))) then (some (.bool true)) else (some (.bool (decide (a0_0 = (5 : Int)))))) else (some (.bool false)))) := (kp_at (by kernel_rfl)).trans (by kernel_rfl)
/- oakum/item.extra -/
theorem item_extra_eq {E : Ext} [Core E] (k n : Nat) (a0 : List AV) : kp E k (n + 1) item_extra [(.list 2 a0)] =
  (callB (kp E k n over_Right [(.list 2 a0)]) fun vq2 => (bif vq2 then (callB (kp E k n slices_ContainsFunc_api_Pair [(.list 2 a0), (.func (.func item_extra_1) [] [])]) fun vq4 => (some (.bool (!vq4)))) else (some (.bool false)))) := (kp_at (by kernel_rfl)).trans (by kernel_rfl)
/- oakum/item.Fulls -/
theorem item_Fulls_eq {E : Ext} [Core E] (k n : Nat) (a0_0 : Int) (a0_1 : ByteArray) (a0_2 : ByteArray) (a0_3 : Int) (a0_4 : Int) (a0_5 : Int) (a0_6 : Int) (a0_7 : Int) (a0_8 : Int) (a0_9 : ByteArray) (a0_10 : ByteArray) (a0_11 : Int) (a0_12 : Int) (a0_13 : List AV) : kp E k (n + 1) item_Fulls [(.agg [(.int .i64 a0_0), (.str a0_1), (.str a0_2), (.int .i64 a0_3), (.int .i64 a0_4), (.int .i64 a0_5), (.int .i64 a0_6), (.int .i64 a0_7), (.int .i64 a0_8), (.str a0_9), (.str a0_10), (.int .i64 a0_11), (.int .i64 a0_12), (.list 2 a0_13)])] =
  (bif (!(decide (a0_0 = (6 : Int)))) then (some (.list 1 [(.str a0_1)])) else (bif (decide ((ByteArray.size a0_1) + 1 ≤ 9223372036854775807)) then (callB (kp E k n strings_HasSuffix [(.str a0_1), (.str (str [47]))]) fun vq2 => (bif vq2 then (bif (decide ((((ByteArray.size a0_1) : Nat) : Int) > (1 : Int))) then (some (.list 1 [(.str (a0_1 ++ (str [47])))])) else (some (.list 1 [(.str a0_1), (.str (a0_1 ++ (str [47])))]))) else (some (.list 1 [(.str a0_1), (.str (a0_1 ++ (str [47])))])))) else none)) := (kp_at (by kernel_rfl)).trans (by kernel_rfl)
/- oakum/pax.Right -/
theorem pax_Right_eq {E : Ext} [Core E] (k n : Nat) (a0_0 : ByteArray) (a0_1 : ByteArray) : kp E k (n + 1) pax_Right [(.agg [(.str a0_0), (.str a0_1)])] =
  (bif (!(decide (a0_0 = (str [])))) then (callB (kp E k n utf_Right [(.str a0_0)]) fun vq2 => (bif vq2 then (callB (kp E k n strings_ContainsAny [(.str a0_0), (.str (str [61, 0]))]) fun vq4 => (bif (!vq4) then (callB (kp E k n pax_value [(.str a0_0), (.str a0_1)]) fun vq6 => (some (.bool vq6))) else (some (.bool false)))) else (some (.bool false)))) else (some (.bool false))) := (kp_at (by kernel_rfl)).trans (by kernel_rfl)
/- oakum/pax.Known -/
theorem pax_Known_eq {E : Ext} [Core E] (k n : Nat) (a0 : ByteArray) : kp E k (n + 1) pax_Known [(.str a0)] =
  (bif (decide (a0 = (str [112, 97, 116, 104]))) then (bif (decide (a0 = (str [112, 97, 116, 104]))) then (some (.bool true)) else (some (.bool false))) else (bif (decide (a0 = (str [108, 105, 110, 107, 112, 97, 116, 104]))) then (bif (decide (a0 = (str [108, 105, 110, 107, 112, 97, 116, 104]))) then (some (.bool true)) else (some (.bool false))) else (bif (decide (a0 = (str [117, 110, 97, 109, 101]))) then (bif (decide (a0 = (str [117, 110, 97, 109, 101]))) then (some (.bool true)) else (some (.bool false))) else (bif (decide (a0 = (str [103, 110, 97, 109, 101]))) then (bif (decide (a0 = (str [103, 110, 97, 109, 101]))) then (some (.bool true)) else (some (.bool false))) else (bif (decide (a0 = (str [117, 105, 100]))) then (bif (decide (a0 = (str [117, 105, 100]))) then (some (.bool true)) else (some (.bool false))) else (bif (decide (a0 = (str [103, 105, 100]))) then (bif (decide (a0 = (str [103, 105, 100]))) then (some (.bool true)) else (some (.bool false))) else (bif (decide (a0 = (str [115, 105, 122, 101]))) then (bif (decide (a0 = (str [115, 105, 122, 101]))) then (some (.bool true)) else (some (.bool false))) else (bif (decide (a0 = (str [109, 116, 105, 109, 101]))) then (some (.bool true)) else (some (.bool false)))))))))) := (kp_at (by kernel_rfl)).trans (by kernel_rfl)
/- oakum/over.say -/
/- slices.IndexFunc[[]oakum/api.Pair,oakum/api.Pair] -/
noncomputable def slices_IndexFunc_api_Pair_bd : Code := Tryz.f71.body.getD .skip
noncomputable def slices_IndexFunc_api_Pair_L0 (kap : FuncId → List AV → Option AV) (k : Nat) (k0 : Nat) (s0 : List AV) (s7 : Int) (s8 : Int) : Option AV :=
  loop (fun fr K => code ((bs E0 k).cfg kap slices_IndexFunc_api_Pair) (sel slices_IndexFunc_api_Pair_bd [1, 0, 1, 0, 0]) fr K) (canon ((bs E0 k).cfg kap slices_IndexFunc_api_Pair) (firstReg (sel slices_IndexFunc_api_Pair_bd [1, 0, 1, 0, 0]))) k0 (mkFr 19 [(0, (.list 2 s0)), (1, (.func (.func item_extra_1) [] [])), (7, (.int .i64 s7)), (8, (.int .i64 s8))] []) (plug ((bs E0 k).cfg kap slices_IndexFunc_api_Pair) (retK ((bs E0 k).cfg kap slices_IndexFunc_api_Pair) [] Tryz.f71 [] some) [.blk 0, .seqR (sel slices_IndexFunc_api_Pair_bd [1, 1])])
theorem slices_IndexFunc_api_Pair_L0_s (kap : FuncId → List AV → Option AV) (k : Nat) (k0 : Nat) (s0 : List AV) (s7 : Int) (s8 : Int) : slices_IndexFunc_api_Pair_L0 kap k (k0 + 1) s0 s7 s8 =
  (bif (decide (s8 < s7)) then (bif ((decide ((0 : Int) ≤ s8)) && (decide (s8 < (((List.length s0) : Nat) : Int)))) then ((s0[(Int.toNat s8)]?).bind fun vy1 => (cellS (AV.cells vy1) 0 fun vs2 => (cellS (AV.cells vy1) 1 fun vs3 => (callB (kap item_extra_1 [(.agg [(.str vs2), (.str vs3)])]) fun vq5 => (bif vq5 then (some (.int .i64 s8)) else (slices_IndexFunc_api_Pair_L0 kap k k0 s0 s7 (IntKind.wrap .i64 (s8 + (1 : Int))))))))) else none) else (some (.int .i64 (-1 : Int)))) := by kernel_rfl
theorem slices_IndexFunc_api_Pair_eq {E : Ext} [Core E] (k n : Nat) (a0 : List AV) : kp E k (n + 1) slices_IndexFunc_api_Pair [(.list 2 a0), (.func (.func item_extra_1) [] [])] =
  (slices_IndexFunc_api_Pair_L0 (kp E k n) k k a0 (((List.length a0) : Nat) : Int) (0 : Int)) := (kp_at (by kernel_rfl)).trans (by kernel_rfl)
/- oakum/over.Get$1 -/
/- slices.ContainsFunc[[]oakum/api.Item,oakum/api.Item] -/
/- oakum/item.Right -/
/- oakum/text.Clean -/
theorem text_Clean_eq {E : Ext} [Core E] (k n : Nat) (a0 : ByteArray) : kp E k (n + 1) text_Clean [(.str a0)] =
  (callI .i64 (kp E k n strings_IndexByte [(.str a0), (.int .u8 (0 : Int))]) fun vn2 => (some (.bool (decide (vn2 < (0 : Int)))))) := (kp_at (by kernel_rfl)).trans (by kernel_rfl)
/- internal/stringslite.HasSuffix -/
theorem stringslite_HasSuffix_eq {E : Ext} [Core E] (k n : Nat) (a0 : ByteArray) (a1 : ByteArray) : kp E k (n + 1) stringslite_HasSuffix [(.str a0), (.str a1)] =
  (bif (decide ((((ByteArray.size a0) : Nat) : Int) ≥ (((ByteArray.size a1) : Nat) : Int))) then (bif ((decide ((0 : Int) ≤ (IntKind.wrap .i64 ((((ByteArray.size a0) : Nat) : Int) - (((ByteArray.size a1) : Nat) : Int))))) && (decide ((IntKind.wrap .i64 ((((ByteArray.size a0) : Nat) : Int) - (((ByteArray.size a1) : Nat) : Int))) ≤ (((ByteArray.size a0) : Nat) : Int)))) then (some (.bool (decide ((ByteArray.extract a0 (Int.toNat (IntKind.wrap .i64 ((((ByteArray.size a0) : Nat) : Int) - (((ByteArray.size a1) : Nat) : Int)))) (ByteArray.size a0)) = a1)))) else none) else (some (.bool false))) := (kp_at (by kernel_rfl)).trans (by kernel_rfl)
/- slices.ContainsFunc[[]oakum/api.Pair,oakum/api.Pair] -/
theorem slices_ContainsFunc_api_Pair_eq {E : Ext} [Core E] (k n : Nat) (a0 : List AV) : kp E k (n + 1) slices_ContainsFunc_api_Pair [(.list 2 a0), (.func (.func item_extra_1) [] [])] =
  (callI .i64 (kp E k n slices_IndexFunc_api_Pair [(.list 2 a0), (.func (.func item_extra_1) [] [])]) fun vn2 => (some (.bool (decide (vn2 ≥ (0 : Int)))))) := (kp_at (by kernel_rfl)).trans (by kernel_rfl)
/- oakum/item.extra$1 -/
theorem item_extra_1_eq {E : Ext} [Core E] (k n : Nat) (a0_0 : ByteArray) (a0_1 : ByteArray) : kp E k (n + 1) item_extra_1 [(.agg [(.str a0_0), (.str a0_1)])] =
  (callB (kp E k n pax_Known [(.str a0_0)]) fun vq2 => (some (.bool vq2))) := (kp_at (by kernel_rfl)).trans (by kernel_rfl)
/- oakum/utf.Right -/
theorem utf_Right_eq {E : Ext} [Core E] (k n : Nat) (a0 : ByteArray) : kp E k (n + 1) utf_Right [(.str a0)] =
  (callI .i64 (kp E k n utf_First [(.str a0)]) fun vn2 => (some (.bool (decide (vn2 < (0 : Int)))))) := (kp_at (by kernel_rfl)).trans (by kernel_rfl)
/- oakum/pax.value -/
theorem pax_value_eq {E : Ext} [Core E] (k n : Nat) (a0 : ByteArray) (a1 : ByteArray) : kp E k (n + 1) pax_value [(.str a0), (.str a1)] =
  (callB (kp E k n utf_Right [(.str a1)]) fun vq2 => (bif (!vq2) then (some (.bool false)) else (bif (decide (a1 = (str []))) then (some (.bool true)) else (bif (decide (a0 = (str [112, 97, 116, 104]))) then (bif (decide (a0 = (str [112, 97, 116, 104]))) then (callB (kp E k n pax_clean [(.str a1)]) fun vq4 => (some (.bool vq4))) else (bif (decide (a0 = (str [117, 105, 100]))) then (bif (decide (a0 = (str [117, 105, 100]))) then (callT (kp E k n dec_Number [(.str a1)]) fun vt6 => (tupI .i64 vt6 fun vn7 vt8 => (tupI .u8 vt8 fun vn9 vt10 => (atNil vt10 (some (.bool (decide (vn9 = (0 : Int))))))))) else (bif (decide (a0 = (str [109, 116, 105, 109, 101]))) then (callT (kp E k n dec_Time [(.str a1)]) fun vt12 => (tupG 2 vt12 fun vg13 vt14 => (cellI .i64 vg13 0 fun vn15 => (cellI .i64 vg13 1 fun vn16 => (tupI .u8 vt14 fun vn17 vt18 => (atNil vt18 (some (.bool (decide (vn17 = (0 : Int))))))))))) else (some (.bool true)))) else (bif (decide (a0 = (str [103, 105, 100]))) then (bif (decide (a0 = (str [103, 105, 100]))) then (callT (kp E k n dec_Number [(.str a1)]) fun vt20 => (tupI .i64 vt20 fun vn21 vt22 => (tupI .u8 vt22 fun vn23 vt24 => (atNil vt24 (some (.bool (decide (vn23 = (0 : Int))))))))) else (bif (decide (a0 = (str [109, 116, 105, 109, 101]))) then (callT (kp E k n dec_Time [(.str a1)]) fun vt26 => (tupG 2 vt26 fun vg27 vt28 => (cellI .i64 vg27 0 fun vn29 => (cellI .i64 vg27 1 fun vn30 => (tupI .u8 vt28 fun vn31 vt32 => (atNil vt32 (some (.bool (decide (vn31 = (0 : Int))))))))))) else (some (.bool true)))) else (bif (decide (a0 = (str [115, 105, 122, 101]))) then (callT (kp E k n dec_Number [(.str a1)]) fun vt34 => (tupI .i64 vt34 fun vn35 vt36 => (tupI .u8 vt36 fun vn37 vt38 => (atNil vt38 (some (.bool (decide (vn37 = (0 : Int))))))))) else (bif (decide (a0 = (str [109, 116, 105, 109, 101]))) then (callT (kp E k n dec_Time [(.str a1)]) fun vt40 => (tupG 2 vt40 fun vg41 vt42 => (cellI .i64 vg41 0 fun vn43 => (cellI .i64 vg41 1 fun vn44 => (tupI .u8 vt42 fun vn45 vt46 => (atNil vt46 (some (.bool (decide (vn45 = (0 : Int))))))))))) else (some (.bool true))))))) else (bif (decide (a0 = (str [108, 105, 110, 107, 112, 97, 116, 104]))) then (bif (decide (a0 = (str [108, 105, 110, 107, 112, 97, 116, 104]))) then (callB (kp E k n pax_clean [(.str a1)]) fun vq48 => (some (.bool vq48))) else (bif (decide (a0 = (str [117, 105, 100]))) then (bif (decide (a0 = (str [117, 105, 100]))) then (callT (kp E k n dec_Number [(.str a1)]) fun vt50 => (tupI .i64 vt50 fun vn51 vt52 => (tupI .u8 vt52 fun vn53 vt54 => (atNil vt54 (some (.bool (decide (vn53 = (0 : Int))))))))) else (bif (decide (a0 = (str [109, 116, 105, 109, 101]))) then (callT (kp E k n dec_Time [(.str a1)]) fun vt56 => (tupG 2 vt56 fun vg57 vt58 => (cellI .i64 vg57 0 fun vn59 => (cellI .i64 vg57 1 fun vn60 => (tupI .u8 vt58 fun vn61 vt62 => (atNil vt62 (some (.bool (decide (vn61 = (0 : Int))))))))))) else (some (.bool true)))) else (bif (decide (a0 = (str [103, 105, 100]))) then (bif (decide (a0 = (str [103, 105, 100]))) then (callT (kp E k n dec_Number [(.str a1)]) fun vt64 => (tupI .i64 vt64 fun vn65 vt66 => (tupI .u8 vt66 fun vn67 vt68 => (atNil vt68 (some (.bool (decide (vn67 = (0 : Int))))))))) else (bif (decide (a0 = (str [109, 116, 105, 109, 101]))) then (callT (kp E k n dec_Time [(.str a1)]) fun vt70 => (tupG 2 vt70 fun vg71 vt72 => (cellI .i64 vg71 0 fun vn73 => (cellI .i64 vg71 1 fun vn74 => (tupI .u8 vt72 fun vn75 vt76 => (atNil vt76 (some (.bool (decide (vn75 = (0 : Int))))))))))) else (some (.bool true)))) else (bif (decide (a0 = (str [115, 105, 122, 101]))) then (callT (kp E k n dec_Number [(.str a1)]) fun vt78 => (tupI .i64 vt78 fun vn79 vt80 => (tupI .u8 vt80 fun vn81 vt82 => (atNil vt82 (some (.bool (decide (vn81 = (0 : Int))))))))) else (bif (decide (a0 = (str [109, 116, 105, 109, 101]))) then (callT (kp E k n dec_Time [(.str a1)]) fun vt84 => (tupG 2 vt84 fun vg85 vt86 => (cellI .i64 vg85 0 fun vn87 => (cellI .i64 vg85 1 fun vn88 => (tupI .u8 vt86 fun vn89 vt90 => (atNil vt90 (some (.bool (decide (vn89 = (0 : Int))))))))))) else (some (.bool true))))))) else (bif (decide (a0 = (str [117, 110, 97, 109, 101]))) then (bif (decide (a0 = (str [117, 110, 97, 109, 101]))) then (callB (kp E k n pax_clean [(.str a1)]) fun vq92 => (some (.bool vq92))) else (bif (decide (a0 = (str [117, 105, 100]))) then (bif (decide (a0 = (str [117, 105, 100]))) then (callT (kp E k n dec_Number [(.str a1)]) fun vt94 => (tupI .i64 vt94 fun vn95 vt96 => (tupI .u8 vt96 fun vn97 vt98 => (atNil vt98 (some (.bool (decide (vn97 = (0 : Int))))))))) else (bif (decide (a0 = (str [109, 116, 105, 109, 101]))) then (callT (kp E k n dec_Time [(.str a1)]) fun vt100 => (tupG 2 vt100 fun vg101 vt102 => (cellI .i64 vg101 0 fun vn103 => (cellI .i64 vg101 1 fun vn104 => (tupI .u8 vt102 fun vn105 vt106 => (atNil vt106 (some (.bool (decide (vn105 = (0 : Int))))))))))) else (some (.bool true)))) else (bif (decide (a0 = (str [103, 105, 100]))) then (bif (decide (a0 = (str [103, 105, 100]))) then (callT (kp E k n dec_Number [(.str a1)]) fun vt108 => (tupI .i64 vt108 fun vn109 vt110 => (tupI .u8 vt110 fun vn111 vt112 => (atNil vt112 (some (.bool (decide (vn111 = (0 : Int))))))))) else (bif (decide (a0 = (str [109, 116, 105, 109, 101]))) then (callT (kp E k n dec_Time [(.str a1)]) fun vt114 => (tupG 2 vt114 fun vg115 vt116 => (cellI .i64 vg115 0 fun vn117 => (cellI .i64 vg115 1 fun vn118 => (tupI .u8 vt116 fun vn119 vt120 => (atNil vt120 (some (.bool (decide (vn119 = (0 : Int))))))))))) else (some (.bool true)))) else (bif (decide (a0 = (str [115, 105, 122, 101]))) then (callT (kp E k n dec_Number [(.str a1)]) fun vt122 => (tupI .i64 vt122 fun vn123 vt124 => (tupI .u8 vt124 fun vn125 vt126 => (atNil vt126 (some (.bool (decide (vn125 = (0 : Int))))))))) else (bif (decide (a0 = (str [109, 116, 105, 109, 101]))) then (callT (kp E k n dec_Time [(.str a1)]) fun vt128 => (tupG 2 vt128 fun vg129 vt130 => (cellI .i64 vg129 0 fun vn131 => (cellI .i64 vg129 1 fun vn132 => (tupI .u8 vt130 fun vn133 vt134 => (atNil vt134 (some (.bool (decide (vn133 = (0 : Int))))))))))) else (some (.bool true))))))) else (bif (decide (a0 = (str [103, 110, 97, 109, 101]))) then (callB (kp E k n pax_clean [(.str a1)]) fun vq136 => (some (.bool vq136))) else (bif (decide (a0 = (str [117, 105, 100]))) then (bif (decide (a0 = (str [117, 105, 100]))) then (callT (kp E k n dec_Number [(.str a1)]) fun vt138 => (tupI .i64 vt138 fun vn139 vt140 => (tupI .u8 vt140 fun vn141 vt142 => (atNil vt142 (some (.bool (decide (vn141 = (0 : Int))))))))) else (bif (decide (a0 = (str [109, 116, 105, 109, 101]))) then (callT (kp E k n dec_Time [(.str a1)]) fun vt144 => (tupG 2 vt144 fun vg145 vt146 => (cellI .i64 vg145 0 fun vn147 => (cellI .i64 vg145 1 fun vn148 => (tupI .u8 vt146 fun vn149 vt150 => (atNil vt150 (some (.bool (decide (vn149 = (0 : Int))))))))))) else (some (.bool true)))) else (bif (decide (a0 = (str [103, 105, 100]))) then (bif (decide (a0 = (str [103, 105, 100]))) then (callT (kp E k n dec_Number [(.str a1)]) fun vt152 => (tupI .i64 vt152 fun vn153 vt154 => (tupI .u8 vt154 fun vn155 vt156 => (atNil vt156 (some (.bool (decide (vn155 = (0 : Int))))))))) else (bif (decide (a0 = (str [109, 116, 105, 109, 101]))) then (callT (kp E k n dec_Time [(.str a1)]) fun vt158 => (tupG 2 vt158 fun vg159 vt160 => (cellI .i64 vg159 0 fun vn161 => (cellI .i64 vg159 1 fun vn162 => (tupI .u8 vt160 fun vn163 vt164 => (atNil vt164 (some (.bool (decide (vn163 = (0 : Int))))))))))) else (some (.bool true)))) else (bif (decide (a0 = (str [115, 105, 122, 101]))) then (callT (kp E k n dec_Number [(.str a1)]) fun vt166 => (tupI .i64 vt166 fun vn167 vt168 => (tupI .u8 vt168 fun vn169 vt170 => (atNil vt170 (some (.bool (decide (vn169 = (0 : Int))))))))) else (bif (decide (a0 = (str [109, 116, 105, 109, 101]))) then (callT (kp E k n dec_Time [(.str a1)]) fun vt172 => (tupG 2 vt172 fun vg173 vt174 => (cellI .i64 vg173 0 fun vn175 => (cellI .i64 vg173 1 fun vn176 => (tupI .u8 vt174 fun vn177 vt178 => (atNil vt178 (some (.bool (decide (vn177 = (0 : Int))))))))))) else (some (.bool true))))))))))))) := (kp_at (by kernel_rfl)).trans (by kernel_rfl)
/- oakum/utf.First -/
noncomputable def utf_First_bd : Code := Tryz.f156.body.getD .skip
noncomputable def utf_First_L0 (kap : FuncId → List AV → Option AV) (k : Nat) (k0 : Nat) (s0 : ByteArray) (i6s : ByteArray) (i6p : Nat) : Option AV :=
  loop (fun fr K => code ((bs E0 k).cfg kap utf_First) (sel utf_First_bd [1, 0, 1, 0, 0]) fr K) (canon ((bs E0 k).cfg kap utf_First) (firstReg (sel utf_First_bd [1, 0, 1, 0, 0]))) k0 (mkFr 16 [(0, (.str s0)), (6, (.itr 6))] [(6, (.it i6s i6p))]) (plug ((bs E0 k).cfg kap utf_First) (retK ((bs E0 k).cfg kap utf_First) [] Tryz.f156 [] some) [.blk 0, .seqR (sel utf_First_bd [1, 1])])
theorem utf_First_L0_s (kap : FuncId → List AV → Option AV) (k : Nat) (k0 : Nat) (s0 : ByteArray) (i6s : ByteArray) (i6p : Nat) : utf_First_L0 kap k (k0 + 1) s0 i6s i6p =
  (bif (decide (i6p < (ByteArray.size i6s))) then (callB (kap utf_wrong [(.str s0), (.int .i64 ((i6p : Nat) : Int)), (.int .i32 (((Utf8.decode i6s i6p).1 : Nat) : Int))]) fun vq2 => (bif vq2 then (some (.int .i64 ((i6p : Nat) : Int))) else (utf_First_L0 kap k k0 s0 i6s (i6p + (Utf8.decode i6s i6p).2)))) else (some (.int .i64 (-1 : Int)))) := by kernel_rfl
theorem utf_First_eq {E : Ext} [Core E] (k n : Nat) (a0 : ByteArray) : kp E k (n + 1) utf_First [(.str a0)] =
  (utf_First_L0 (kp E k n) k k a0 a0 0) := (kp_at (by kernel_rfl)).trans (by kernel_rfl)
/- oakum/pax.clean -/
theorem pax_clean_eq {E : Ext} [Core E] (k n : Nat) (a0 : ByteArray) : kp E k (n + 1) pax_clean [(.str a0)] =
  (callI .i64 (kp E k n strings_IndexByte [(.str a0), (.int .u8 (0 : Int))]) fun vn2 => (some (.bool (decide (vn2 < (0 : Int)))))) := (kp_at (by kernel_rfl)).trans (by kernel_rfl)
/- oakum/utf.Cut -/
noncomputable def utf_Cut_bd : Code := Tryz.f176.body.getD .skip
noncomputable def utf_Cut_L0 (kap : FuncId → List AV → Option AV) (k : Nat) (k0 : Nat) (s0 : ByteArray) (s1 : Int) (s5 : Int) (i13s : ByteArray) (i13p : Nat) : Option AV :=
  loop (fun fr K => code ((bs E0 k).cfg kap utf_Cut) (sel utf_Cut_bd [1, 1, 1, 0, 1, 0, 0]) fr K) (canon ((bs E0 k).cfg kap utf_Cut) (firstReg (sel utf_Cut_bd [1, 1, 1, 0, 1, 0, 0]))) k0 (mkFr 24 [(0, (.str s0)), (1, (.int .i64 s1)), (5, (.int .i64 s5)), (13, (.itr 13))] [(13, (.it i13s i13p))]) (plug ((bs E0 k).cfg kap utf_Cut) (retK ((bs E0 k).cfg kap utf_Cut) [] Tryz.f176 [] some) [.blk 0, .seqR (sel utf_Cut_bd [1, 1, 1, 1])])
theorem utf_Cut_L0_s (kap : FuncId → List AV → Option AV) (k : Nat) (k0 : Nat) (s0 : ByteArray) (s1 : Int) (s5 : Int) (i13s : ByteArray) (i13p : Nat) : utf_Cut_L0 kap k (k0 + 1) s0 s1 s5 i13s i13p =
  (bif (decide (i13p < (ByteArray.size i13s))) then (bif (decide (((i13p : Nat) : Int) > s1)) then (bif ((decide ((0 : Int) ≤ s5)) && (decide (s5 ≤ (((ByteArray.size s0) : Nat) : Int)))) then (some (.str (ByteArray.extract s0 0 (Int.toNat s5)))) else none) else (utf_Cut_L0 kap k k0 s0 s1 ((i13p : Nat) : Int) i13s (i13p + (Utf8.decode i13s i13p).2))) else (bif ((decide ((0 : Int) ≤ s5)) && (decide (s5 ≤ (((ByteArray.size s0) : Nat) : Int)))) then (some (.str (ByteArray.extract s0 0 (Int.toNat s5)))) else none)) := by kernel_rfl
theorem utf_Cut_eq {E : Ext} [Core E] (k n : Nat) (a0 : ByteArray) (a1 : Int) : kp E k (n + 1) utf_Cut [(.str a0), (.int .i64 a1)] =
  (bif (decide (a1 ≥ (((ByteArray.size a0) : Nat) : Int))) then (some (.str a0)) else (utf_Cut_L0 (kp E k n) k k a0 a1 (0 : Int) a0 0)) := (kp_at (by kernel_rfl)).trans (by kernel_rfl)
/- oakum/utf.wrong -/
theorem utf_wrong_eq {E : Ext} [Core E] (k n : Nat) (a0 : ByteArray) (a1 : Int) (a2 : Int) : kp E k (n + 1) utf_wrong [(.str a0), (.int .i64 a1), (.int .i32 a2)] =
  (bif (!(decide (a2 = (65533 : Int)))) then (some (.bool false)) else (bif ((decide ((0 : Int) ≤ a1)) && (decide (a1 ≤ (((ByteArray.size a0) : Nat) : Int)))) then (callT (kp E k n unicode_utf8_DecodeRuneInString [(.str (ByteArray.extract a0 (Int.toNat a1) (ByteArray.size a0)))]) fun vt2 => (tupI .i32 vt2 fun vn3 vt4 => (tupI .i64 vt4 fun vn5 vt6 => (atNil vt6 (some (.bool (decide (vn5 = (1 : Int))))))))) else none)) := (kp_at (by kernel_rfl)).trans (by kernel_rfl)
end Go.Proofs.YtbkhmkcmbaffoaaGreatDoor.Eng.U


/- The program's own data: pairs, times, heads, items: as structures, as abstract values, as a row hands them in. Printed by apigen.py. -/
set_option linter.unusedVariables false
namespace Go.Proofs.YtbkhmkcmbaffoaaGreatDoor.Eng.U
open Go Go.Proofs Go.Proofs.YtbkhmkcmbaffoaaGreatDoor.Eng
abbrev Tx := List UInt8
structure Pair where
  key : Tx
  val : Tx
  deriving DecidableEq, Inhabited
structure Time where
  sec : Int
  nano : Int
  deriving DecidableEq, Inhabited
structure Head where
  kind : Int
  name : Tx
  link : Tx
  mode : Int
  uid : Int
  gid : Int
  size : Int
  sec : Int
  nano : Int
  user : Tx
  group : Tx
  major : Int
  minor : Int
  extra : List Pair
  deriving DecidableEq, Inhabited
structure Item where
  head : Head
  data : Tx
  deriving DecidableEq, Inhabited
def bys (l : Tx) : List AV := l.map byteAV
def encPair (p : Pair) : List AV := [.str (str p.key), .str (str p.val)]
def elPair (p : Pair) : AV := .agg (encPair p)
def prs (l : List Pair) : List AV := l.map elPair
def encTime (t : Time) : List AV := [.int .i64 t.sec, .int .i64 t.nano]
def encHead (h : Head) : List AV := [.int .i64 h.kind, .str (str h.name), .str (str h.link), .int .i64 h.mode, .int .i64 h.uid, .int .i64 h.gid, .int .i64 h.size, .int .i64 h.sec, .int .i64 h.nano, .str (str h.user), .str (str h.group), .int .i64 h.major, .int .i64 h.minor, .list 2 (prs h.extra)]
def elHead (h : Head) : AV := .agg (encHead h)
def encItem (x : Item) : List AV := [.int .i64 x.head.kind, .str (str x.head.name), .str (str x.head.link), .int .i64 x.head.mode, .int .i64 x.head.uid, .int .i64 x.head.gid, .int .i64 x.head.size, .int .i64 x.head.sec, .int .i64 x.head.nano, .str (str x.head.user), .str (str x.head.group), .int .i64 x.head.major, .int .i64 x.head.minor, .list 2 (prs x.head.extra), .list 1 (bys x.data)]
def elItem (x : Item) : AV := .agg (encItem x)
def its (l : List Item) : List AV := l.map elItem
theorem bys_len (l : Tx) : (bys l).length = l.length := by simp [bys]
theorem prs_len (l : List Pair) : (prs l).length = l.length := by simp [prs]
theorem its_len (l : List Item) : (its l).length = l.length := by simp [its]
theorem cells_pair (p : Pair) : AV.cells (elPair p) = encPair p := (rfl)
theorem cells_item (p : Item) : AV.cells (elItem p) = encItem p := (rfl)
section
variable {β : Type}
theorem prs_at (l : List Pair) (i : Nat) (h : i < l.length) (F : AV → Option β) : ((prs l)[i]?).bind F = F (elPair l[i]) := by unfold prs; rw [List.getElem?_map, List.getElem?_eq_getElem h]; rfl
theorem its_at (l : List Item) (i : Nat) (h : i < l.length) (F : AV → Option β) : ((its l)[i]?).bind F = F (elItem l[i]) := by unfold its; rw [List.getElem?_map, List.getElem?_eq_getElem h]; rfl
theorem prs_mid (a b : List Pair) (x : Pair) (F : AV → Option β) : ((prs (a ++ x :: b))[a.length]?).bind F = F (elPair x) := by rw [prs_at _ _ (by simp)]; simp
theorem its_mid (a b : List Item) (x : Item) (F : AV → Option β) : ((its (a ++ x :: b))[a.length]?).bind F = F (elItem x) := by rw [its_at _ _ (by simp)]; simp
theorem callG_head (p : Head) (K : List AV → Option β) : callG 14 (some (elHead p)) K = K (encHead p) := (rfl)
theorem tupG_head (p : Head) (t : List AV) (K : List AV → List AV → Option β) : tupG 14 (elHead p :: t) K = K (encHead p) t := (rfl)
theorem h_0 (x : Head) (K : Int → Option β) : cellI .i64 (encHead x) 0 K = K x.kind := by first | exact (rfl) | (show cellI .i64 (encHead x) 0 K = _; simp [encHead, cellI, cellL, cellAt, atInt, atList])
theorem i_0 (x : Item) (K : Int → Option β) : cellI .i64 (encItem x) 0 K = K x.head.kind := by first | exact (rfl) | (show cellI .i64 (encItem x) 0 K = _; simp [encItem, cellI, cellL, cellAt, atInt, atList])
theorem h_1 (x : Head) (K : ByteArray → Option β) : cellS (encHead x) 1 K = K (str x.name) := by first | exact (rfl) | (show cellS (encHead x) 1 K = _; simp [encHead, cellI, cellL, cellAt, atInt, atList])
theorem i_1 (x : Item) (K : ByteArray → Option β) : cellS (encItem x) 1 K = K (str x.head.name) := by first | exact (rfl) | (show cellS (encItem x) 1 K = _; simp [encItem, cellI, cellL, cellAt, atInt, atList])
theorem h_2 (x : Head) (K : ByteArray → Option β) : cellS (encHead x) 2 K = K (str x.link) := by first | exact (rfl) | (show cellS (encHead x) 2 K = _; simp [encHead, cellI, cellL, cellAt, atInt, atList])
theorem i_2 (x : Item) (K : ByteArray → Option β) : cellS (encItem x) 2 K = K (str x.head.link) := by first | exact (rfl) | (show cellS (encItem x) 2 K = _; simp [encItem, cellI, cellL, cellAt, atInt, atList])
theorem h_3 (x : Head) (K : Int → Option β) : cellI .i64 (encHead x) 3 K = K x.mode := by first | exact (rfl) | (show cellI .i64 (encHead x) 3 K = _; simp [encHead, cellI, cellL, cellAt, atInt, atList])
theorem i_3 (x : Item) (K : Int → Option β) : cellI .i64 (encItem x) 3 K = K x.head.mode := by first | exact (rfl) | (show cellI .i64 (encItem x) 3 K = _; simp [encItem, cellI, cellL, cellAt, atInt, atList])
theorem h_4 (x : Head) (K : Int → Option β) : cellI .i64 (encHead x) 4 K = K x.uid := by first | exact (rfl) | (show cellI .i64 (encHead x) 4 K = _; simp [encHead, cellI, cellL, cellAt, atInt, atList])
theorem i_4 (x : Item) (K : Int → Option β) : cellI .i64 (encItem x) 4 K = K x.head.uid := by first | exact (rfl) | (show cellI .i64 (encItem x) 4 K = _; simp [encItem, cellI, cellL, cellAt, atInt, atList])
theorem h_5 (x : Head) (K : Int → Option β) : cellI .i64 (encHead x) 5 K = K x.gid := by first | exact (rfl) | (show cellI .i64 (encHead x) 5 K = _; simp [encHead, cellI, cellL, cellAt, atInt, atList])
theorem i_5 (x : Item) (K : Int → Option β) : cellI .i64 (encItem x) 5 K = K x.head.gid := by first | exact (rfl) | (show cellI .i64 (encItem x) 5 K = _; simp [encItem, cellI, cellL, cellAt, atInt, atList])
theorem h_6 (x : Head) (K : Int → Option β) : cellI .i64 (encHead x) 6 K = K x.size := by first | exact (rfl) | (show cellI .i64 (encHead x) 6 K = _; simp [encHead, cellI, cellL, cellAt, atInt, atList])
theorem i_6 (x : Item) (K : Int → Option β) : cellI .i64 (encItem x) 6 K = K x.head.size := by first | exact (rfl) | (show cellI .i64 (encItem x) 6 K = _; simp [encItem, cellI, cellL, cellAt, atInt, atList])
theorem h_7 (x : Head) (K : Int → Option β) : cellI .i64 (encHead x) 7 K = K x.sec := by first | exact (rfl) | (show cellI .i64 (encHead x) 7 K = _; simp [encHead, cellI, cellL, cellAt, atInt, atList])
theorem i_7 (x : Item) (K : Int → Option β) : cellI .i64 (encItem x) 7 K = K x.head.sec := by first | exact (rfl) | (show cellI .i64 (encItem x) 7 K = _; simp [encItem, cellI, cellL, cellAt, atInt, atList])
theorem h_8 (x : Head) (K : Int → Option β) : cellI .i64 (encHead x) 8 K = K x.nano := by first | exact (rfl) | (show cellI .i64 (encHead x) 8 K = _; simp [encHead, cellI, cellL, cellAt, atInt, atList])
theorem i_8 (x : Item) (K : Int → Option β) : cellI .i64 (encItem x) 8 K = K x.head.nano := by first | exact (rfl) | (show cellI .i64 (encItem x) 8 K = _; simp [encItem, cellI, cellL, cellAt, atInt, atList])
theorem h_9 (x : Head) (K : ByteArray → Option β) : cellS (encHead x) 9 K = K (str x.user) := by first | exact (rfl) | (show cellS (encHead x) 9 K = _; simp [encHead, cellI, cellL, cellAt, atInt, atList])
theorem i_9 (x : Item) (K : ByteArray → Option β) : cellS (encItem x) 9 K = K (str x.head.user) := by first | exact (rfl) | (show cellS (encItem x) 9 K = _; simp [encItem, cellI, cellL, cellAt, atInt, atList])
theorem h_10 (x : Head) (K : ByteArray → Option β) : cellS (encHead x) 10 K = K (str x.group) := by first | exact (rfl) | (show cellS (encHead x) 10 K = _; simp [encHead, cellI, cellL, cellAt, atInt, atList])
theorem i_10 (x : Item) (K : ByteArray → Option β) : cellS (encItem x) 10 K = K (str x.head.group) := by first | exact (rfl) | (show cellS (encItem x) 10 K = _; simp [encItem, cellI, cellL, cellAt, atInt, atList])
theorem h_11 (x : Head) (K : Int → Option β) : cellI .i64 (encHead x) 11 K = K x.major := by first | exact (rfl) | (show cellI .i64 (encHead x) 11 K = _; simp [encHead, cellI, cellL, cellAt, atInt, atList])
theorem i_11 (x : Item) (K : Int → Option β) : cellI .i64 (encItem x) 11 K = K x.head.major := by first | exact (rfl) | (show cellI .i64 (encItem x) 11 K = _; simp [encItem, cellI, cellL, cellAt, atInt, atList])
theorem h_12 (x : Head) (K : Int → Option β) : cellI .i64 (encHead x) 12 K = K x.minor := by first | exact (rfl) | (show cellI .i64 (encHead x) 12 K = _; simp [encHead, cellI, cellL, cellAt, atInt, atList])
theorem i_12 (x : Item) (K : Int → Option β) : cellI .i64 (encItem x) 12 K = K x.head.minor := by first | exact (rfl) | (show cellI .i64 (encItem x) 12 K = _; simp [encItem, cellI, cellL, cellAt, atInt, atList])
theorem h_13 (x : Head) (K : List AV → Option β) : cellL 2 (encHead x) 13 K = K (prs x.extra) := by first | exact (rfl) | (show cellL 2 (encHead x) 13 K = _; simp [encHead, cellI, cellL, cellAt, atInt, atList])
theorem i_13 (x : Item) (K : List AV → Option β) : cellL 2 (encItem x) 13 K = K (prs x.head.extra) := by first | exact (rfl) | (show cellL 2 (encItem x) 13 K = _; simp [encItem, cellI, cellL, cellAt, atInt, atList])
theorem i_14 (x : Item) (K : List AV → Option β) : cellL 1 (encItem x) 14 K = K (bys x.data) := by first | exact (rfl) | (show cellL 1 (encItem x) 14 K = _; simp [encItem, cellI, cellL, cellAt, atInt, atList])
theorem p_0 (x : Pair) (K : ByteArray → Option β) : cellS (encPair x) 0 K = K (str x.key) := by first | exact (rfl) | (show cellS (encPair x) 0 K = _; simp [encPair, cellI, cellL, cellAt, atInt, atList])
theorem p_1 (x : Pair) (K : ByteArray → Option β) : cellS (encPair x) 1 K = K (str x.val) := by first | exact (rfl) | (show cellS (encPair x) 1 K = _; simp [encPair, cellI, cellL, cellAt, atInt, atList])
end
end Go.Proofs.YtbkhmkcmbaffoaaGreatDoor.Eng.U


/- Items' names in plain words: what a full name tells, a head's full names, how much a head is. -/
set_option linter.unusedVariables false
set_option linter.unusedSectionVars false
set_option linter.unusedSimpArgs false
namespace Go.Proofs.YtbkhmkcmbaffoaaGreatDoor.Eng.U
open Go Go.Proofs Go.Proofs.YtbkhmkcmbaffoaaGreatDoor.Eng
variable {E : Ext} [Core E] {k n : Nat}

theorem snoc_cases (s : List UInt8) : s = [] ∨ ∃ l c, s = l ++ [c] := by
  induction s with
  | nil => exact .inl rfl
  | cons x s ih =>
    rcases ih with rfl | ⟨l, c, rfl⟩
    · exact .inr ⟨[], x, rfl⟩
    · exact .inr ⟨x :: l, c, rfl⟩
/-- Does a text end in a slash? -/
def sl (s : List UInt8) : Bool := decide (s.getLast? = some 47)
theorem suffix_k (s : List UInt8) (h : s.length ≤ 1000000000000000) : kp E k (n + 2) strings_HasSuffix [.str (str s), .str (str [47])] = some (.bool (sl s)) := by
  rw [strings_HasSuffix_eq, stringslite_HasSuffix_eq, str_size, str_size, List.length_singleton]
  rcases snoc_cases s with rfl | ⟨l, c, rfl⟩
  · rfl
  · rw [List.length_append, List.length_singleton] at h ⊢
    have hd : (l ++ [c]).drop l.length = [c] := by simp
    rw [bif_t (by omega), i64w (by omega), bif_a, bif_t (by omega), bif_t (by omega), show (((l.length + 1 : Nat) : Int) - ((1 : Nat) : Int)).toNat = l.length from by omega, str_ext, List.take_of_length_le (by simp), hd, callB_ok, str_dec]
    unfold sl
    simp
def told (kind : Int) (s : List UInt8) : Int × List UInt8 :=
  if kind = 1 ∧ sl s = true then (if 1 < s.length then (6, s.dropLast) else (6, s))
  else if kind = 6 ∧ sl s = true ∧ 1 < s.length then (6, s.dropLast) else (kind, s)
def fulls (kind : Int) (s : List UInt8) : List (List UInt8) :=
  if kind = 6 then (if sl s = true ∧ 1 < s.length then [s ++ [47]] else [s, s ++ [47]]) else [s]
theorem fulls_k (h : Head) (hl : h.name.length ≤ 1000000000000000) : kp E k (n + 3) item_Fulls [.agg (encHead h)] = some (.list 1 (svs (fulls h.kind h.name))) := by
  unfold encHead
  rw [item_Fulls_eq, str_size]
  have hgt : decide (((h.name.length : Nat) : Int) > 1) = decide (1 < h.name.length) := by rw [decide_eq_decide]; omega
  unfold fulls
  by_cases h6 : h.kind = 6
  · rw [decide_eq_true h6, Bool.not_true, cond_false, bif_t (by omega), suffix_k _ (by omega), callB_ok, if_pos h6, str_app, hgt]
    cases hs : sl h.name with
    | false => rw [cond_false, if_neg (by simp)]; rfl
    | true =>
      by_cases hl : 1 < h.name.length
      · rw [cond_true, decide_eq_true hl, cond_true, if_pos ⟨rfl, hl⟩]; rfl
      · rw [cond_true, decide_eq_false hl, cond_false, if_neg (fun h => hl h.2)]; rfl
  · rw [decide_eq_false h6, Bool.not_false, cond_true, if_neg h6]; rfl
end Go.Proofs.YtbkhmkcmbaffoaaGreatDoor.Eng.U


/- ItemFulls, but for whether any field is wrong. -/
set_option linter.unusedVariables false
set_option linter.unusedSectionVars false
set_option linter.unusedSimpArgs false
namespace Go.Proofs.YtbkhmkcmbaffoaaGreatDoor.Eng.U
open Go Go.Proofs Go.Proofs.YtbkhmkcmbaffoaaGreatDoor.Eng
variable {E : Ext} [Core E] {k n : Nat}

def manyW : Int → List Pair → Int
  | s, [] => s
  | s, p :: l => manyW (IntKind.wrap .i64 (IntKind.wrap .i64 (s + ((p.key.length : Nat) : Int)) + ((p.val.length : Nat) : Int))) l
theorem manyW_few (M : Nat) (hM : M = 140737488351232) : ∀ (l : List Pair) (s : Int), (∀ p ∈ l, p.key.length ≤ M ∧ p.val.length ≤ M) → 0 ≤ s → s + ((l.length : Nat) : Int) * 281474976702464 ≤ 9000000000000000000 → s ≤ manyW s l ∧ ∀ p ∈ l, ((p.key.length : Nat) : Int) ≤ manyW s l ∧ ((p.val.length : Nat) : Int) ≤ manyW s l
  | [], s, _, h0, hs => ⟨Int.le_refl _, fun p hp => by cases hp⟩
  | p :: l, s, hp, h0, hs => by
    obtain ⟨h1, h2⟩ := hp p (by simp)
    rw [List.length_cons] at hs
    unfold manyW
    have hl : 0 ≤ ((l.length : Nat) : Int) * 281474976702464 := by omega
    rw [i64w (x := s + ((p.key.length : Nat) : Int)) (by omega), i64w (x := s + ((p.key.length : Nat) : Int) + ((p.val.length : Nat) : Int)) (by omega)]
    obtain ⟨g1, g2⟩ := manyW_few M hM l (s + ((p.key.length : Nat) : Int) + ((p.val.length : Nat) : Int)) (fun q hq => hp q (by simp [hq])) (by omega) (by omega)
    refine ⟨by omega, fun q hq => ?_⟩
    rcases List.mem_cons.1 hq with rfl | hq
    · exact ⟨by omega, by omega⟩
    · exact g2 q hq
end Go.Proofs.YtbkhmkcmbaffoaaGreatDoor.Eng.U


/- What functions answer, as the engine evaluates their code. Printed by gen2.py. -/
set_option linter.unusedVariables false
namespace Go.Proofs.YtbkhmkcmbaffoaaGreatDoor.Eng.U
open Go Go.Proofs Go.Proofs.YtbkhmkcmbaffoaaGreatDoor.Eng
/- oakum/dec.Right -/
theorem dec_Right_eq {E : Ext} [Core E] (k n : Nat) (a0_0 : Int) (a0_1 : Int) : kp E k (n + 1) dec_Right [(.agg [(.int .i64 a0_0), (.int .i64 a0_1)])] =
  (bif (decide (a0_1 ≥ (0 : Int))) then (some (.bool (decide (a0_1 < (1000000000 : Int))))) else (some (.bool false))) := (kp_at (by kernel_rfl)).trans (by kernel_rfl)
/- oakum/dec.Print -/
theorem dec_Print_eq {E : Ext} [Core E] (k n : Nat) (a0_0 : Int) (a0_1 : Int) : kp E k (n + 1) dec_Print [(.agg [(.int .i64 a0_0), (.int .i64 a0_1)])] =
  (callB (kp E k n dec_Right [(.agg [(.int .i64 a0_0), (.int .i64 a0_1)])]) fun vq2 => (bif (!vq2) then (some (.tup [(.str (str [])), (.int .u8 (15 : Int))])) else (bif (decide (a0_1 = (0 : Int))) then (callS (kp E k n dec_Text [(.int .i64 a0_0)]) fun vs4 => (some (.tup [(.str vs4), (.int .u8 (0 : Int))]))) else (bif (decide (a0_0 < (0 : Int))) then (callS (kp E k n strconv_FormatInt [(.int .i64 (IntKind.wrap .i64 ((1000000000 : Int) + (IntKind.wrap .i64 ((1000000000 : Int) - a0_1))))), (.int .i64 (10 : Int))]) fun vs6 => (bif (decide ((1 : Int) ≤ (((ByteArray.size vs6) : Nat) : Int))) then (callS (kp E k n dec_Text [(.int .i64 (IntKind.wrap .i64 (0 - (IntKind.wrap .i64 (a0_0 + (1 : Int))))))]) fun vs8 => (bif (decide (1 + (ByteArray.size vs8) ≤ 9223372036854775807)) then (bif (decide ((ByteArray.size ((str [45]) ++ vs8)) + 1 ≤ 9223372036854775807)) then (callS (kp E k n strings_TrimRight [(.str (ByteArray.extract vs6 1 (ByteArray.size vs6))), (.str (str [48]))]) fun vs10 => (bif (decide ((ByteArray.size (((str [45]) ++ vs8) ++ (str [46]))) + (ByteArray.size vs10) ≤ 9223372036854775807)) then (some (.tup [(.str ((((str [45]) ++ vs8) ++ (str [46])) ++ vs10)), (.int .u8 (0 : Int))])) else none)) else none) else none)) else none)) else (callS (kp E k n strconv_FormatInt [(.int .i64 (IntKind.wrap .i64 ((1000000000 : Int) + a0_1))), (.int .i64 (10 : Int))]) fun vs12 => (bif (decide ((1 : Int) ≤ (((ByteArray.size vs12) : Nat) : Int))) then (callS (kp E k n dec_Text [(.int .i64 a0_0)]) fun vs14 => (bif (decide (0 + (ByteArray.size vs14) ≤ 9223372036854775807)) then (bif (decide ((ByteArray.size ((str []) ++ vs14)) + 1 ≤ 9223372036854775807)) then (callS (kp E k n strings_TrimRight [(.str (ByteArray.extract vs12 1 (ByteArray.size vs12))), (.str (str [48]))]) fun vs16 => (bif (decide ((ByteArray.size (((str []) ++ vs14) ++ (str [46]))) + (ByteArray.size vs16) ≤ 9223372036854775807)) then (some (.tup [(.str ((((str []) ++ vs14) ++ (str [46])) ++ vs16)), (.int .u8 (0 : Int))])) else none)) else none) else none)) else none)))))) := (kp_at (by kernel_rfl)).trans (by kernel_rfl)
/- oakum/dec.Text -/
theorem dec_Text_eq {E : Ext} [Core E] (k n : Nat) (a0 : Int) : kp E k (n + 1) dec_Text [(.int .i64 a0)] =
  (callS (kp E k n strconv_FormatInt [(.int .i64 a0), (.int .i64 (10 : Int))]) fun vs2 => (some (.str vs2))) := (kp_at (by kernel_rfl)).trans (by kernel_rfl)
/- oakum/oakumref04.Text -/
/- oakum/oakumref04.Print -/
/- oakum/oakumref04.Right -/
/- oakum/oakumref04.Digits -/
/- oakum/dec.Number -/
theorem dec_Number_eq {E : Ext} [Core E] (k n : Nat) (a0 : ByteArray) : kp E k (n + 1) dec_Number [(.str a0)] =
  (callT (kp E k n dec_natural [(.str a0)]) fun vt2 => (tupI .u64 vt2 fun vn3 vt4 => (tupB vt4 fun vq5 vt6 => (atNil vt6 (bif (!vq5) then (some (.tup [(.int .i64 (0 : Int)), (.int .u8 (15 : Int))])) else (bif (decide ((Int.fdiv vn3 (2 ^ (min (Int.toNat (63 : Int)) (IntKind.bits .u64)))) > (0 : Int))) then (some (.tup [(.int .i64 (0 : Int)), (.int .u8 (15 : Int))])) else (some (.tup [(.int .i64 (IntKind.wrap .i64 vn3)), (.int .u8 (0 : Int))])))))))) := (kp_at (by kernel_rfl)).trans (by kernel_rfl)
/- oakum/dec.Time -/
theorem dec_Time_eq {E : Ext} [Core E] (k n : Nat) (a0 : ByteArray) : kp E k (n + 1) dec_Time [(.str a0)] =
  (callT (kp E k n strings_CutPrefix [(.str a0), (.str (str [45]))]) fun vt2 => (tupS vt2 fun vs3 vt4 => (tupB vt4 fun vq5 vt6 => (atNil vt6 (callT (kp E k n strings_Cut [(.str vs3), (.str (str [46]))]) fun vt8 => (tupS vt8 fun vs9 vt10 => (tupS vt10 fun vs11 vt12 => (tupB vt12 fun vq13 vt14 => (atNil vt14 (callT (kp E k n dec_natural [(.str vs9)]) fun vt16 => (tupI .u64 vt16 fun vn17 vt18 => (tupB vt18 fun vq19 vt20 => (atNil vt20 (bif (!vq19) then (some (.tup [(.agg [(.int .i64 (0 : Int)), (.int .i64 (0 : Int))]), (.int .u8 (15 : Int))])) else (bif vq13 then (callB (kp E k n dec_digits [(.str vs11)]) fun vq22 => (bif (!vq22) then (some (.tup [(.agg [(.int .i64 (0 : Int)), (.int .i64 (0 : Int))]), (.int .u8 (15 : Int))])) else (bif (decide ((((ByteArray.size vs11) : Nat) : Int) > (9 : Int))) then (some (.tup [(.agg [(.int .i64 (0 : Int)), (.int .i64 (0 : Int))]), (.int .u8 (15 : Int))])) else (bif vq13 then (callS (kp E k n strings_Repeat [(.str (str [48])), (.int .i64 (IntKind.wrap .i64 ((9 : Int) - (((ByteArray.size vs11) : Nat) : Int))))]) fun vs24 => (bif (decide ((ByteArray.size vs11) + (ByteArray.size vs24) ≤ 9223372036854775807)) then (callT (kp E k n strconv_ParseInt [(.str (vs11 ++ vs24)), (.int .i64 (10 : Int)), (.int .i64 (64 : Int))]) fun vt26 => (tupI .i64 vt26 fun vn27 vt28 => (tupV vt28 fun vr29 vt30 => (atNil vt30 (bif (!vq5) then (bif (decide ((Int.fdiv vn17 (2 ^ (min (Int.toNat (63 : Int)) (IntKind.bits .u64)))) > (0 : Int))) then (some (.tup [(.agg [(.int .i64 (0 : Int)), (.int .i64 (0 : Int))]), (.int .u8 (15 : Int))])) else (bif (!vq5) then (some (.tup [(.agg [(.int .i64 (IntKind.wrap .i64 vn17)), (.int .i64 vn27)]), (.int .u8 (0 : Int))])) else (bif (decide (vn27 = (0 : Int))) then (some (.tup [(.agg [(.int .i64 (IntKind.wrap .i64 (IntKind.wrap .u64 (0 - vn17)))), (.int .i64 vn27)]), (.int .u8 (0 : Int))])) else (bif (decide ((Int.fdiv vn17 (2 ^ (min (Int.toNat (63 : Int)) (IntKind.bits .u64)))) > (0 : Int))) then (some (.tup [(.agg [(.int .i64 (0 : Int)), (.int .i64 (0 : Int))]), (.int .u8 (15 : Int))])) else (some (.tup [(.agg [(.int .i64 (IntKind.wrap .i64 ((IntKind.wrap .i64 (0 - (IntKind.wrap .i64 vn17))) - (1 : Int)))), (.int .i64 (IntKind.wrap .i64 ((1000000000 : Int) - vn27)))]), (.int .u8 (0 : Int))])))))) else (bif (!vq5) then (some (.tup [(.agg [(.int .i64 (IntKind.wrap .i64 vn17)), (.int .i64 vn27)]), (.int .u8 (0 : Int))])) else (bif (decide (vn27 = (0 : Int))) then (some (.tup [(.agg [(.int .i64 (IntKind.wrap .i64 (IntKind.wrap .u64 (0 - vn17)))), (.int .i64 vn27)]), (.int .u8 (0 : Int))])) else (bif (decide ((Int.fdiv vn17 (2 ^ (min (Int.toNat (63 : Int)) (IntKind.bits .u64)))) > (0 : Int))) then (some (.tup [(.agg [(.int .i64 (0 : Int)), (.int .i64 (0 : Int))]), (.int .u8 (15 : Int))])) else (some (.tup [(.agg [(.int .i64 (IntKind.wrap .i64 ((IntKind.wrap .i64 (0 - (IntKind.wrap .i64 vn17))) - (1 : Int)))), (.int .i64 (IntKind.wrap .i64 ((1000000000 : Int) - vn27)))]), (.int .u8 (0 : Int))])))))))))) else none)) else (bif (!vq5) then (bif (decide ((Int.fdiv vn17 (2 ^ (min (Int.toNat (63 : Int)) (IntKind.bits .u64)))) > (0 : Int))) then (some (.tup [(.agg [(.int .i64 (0 : Int)), (.int .i64 (0 : Int))]), (.int .u8 (15 : Int))])) else (bif (!vq5) then (some (.tup [(.agg [(.int .i64 (IntKind.wrap .i64 vn17)), (.int .i64 (0 : Int))]), (.int .u8 (0 : Int))])) else (some (.tup [(.agg [(.int .i64 (IntKind.wrap .i64 (IntKind.wrap .u64 (0 - vn17)))), (.int .i64 (0 : Int))]), (.int .u8 (0 : Int))])))) else (bif (!vq5) then (some (.tup [(.agg [(.int .i64 (IntKind.wrap .i64 vn17)), (.int .i64 (0 : Int))]), (.int .u8 (0 : Int))])) else (some (.tup [(.agg [(.int .i64 (IntKind.wrap .i64 (IntKind.wrap .u64 (0 - vn17)))), (.int .i64 (0 : Int))]), (.int .u8 (0 : Int))])))))))) else (bif vq13 then (callS (kp E k n strings_Repeat [(.str (str [48])), (.int .i64 (IntKind.wrap .i64 ((9 : Int) - (((ByteArray.size vs11) : Nat) : Int))))]) fun vs32 => (bif (decide ((ByteArray.size vs11) + (ByteArray.size vs32) ≤ 9223372036854775807)) then (callT (kp E k n strconv_ParseInt [(.str (vs11 ++ vs32)), (.int .i64 (10 : Int)), (.int .i64 (64 : Int))]) fun vt34 => (tupI .i64 vt34 fun vn35 vt36 => (tupV vt36 fun vr37 vt38 => (atNil vt38 (bif (!vq5) then (bif (decide ((Int.fdiv vn17 (2 ^ (min (Int.toNat (63 : Int)) (IntKind.bits .u64)))) > (0 : Int))) then (some (.tup [(.agg [(.int .i64 (0 : Int)), (.int .i64 (0 : Int))]), (.int .u8 (15 : Int))])) else (bif (!vq5) then (some (.tup [(.agg [(.int .i64 (IntKind.wrap .i64 vn17)), (.int .i64 vn35)]), (.int .u8 (0 : Int))])) else (bif (decide (vn35 = (0 : Int))) then (some (.tup [(.agg [(.int .i64 (IntKind.wrap .i64 (IntKind.wrap .u64 (0 - vn17)))), (.int .i64 vn35)]), (.int .u8 (0 : Int))])) else (bif (decide ((Int.fdiv vn17 (2 ^ (min (Int.toNat (63 : Int)) (IntKind.bits .u64)))) > (0 : Int))) then (some (.tup [(.agg [(.int .i64 (0 : Int)), (.int .i64 (0 : Int))]), (.int .u8 (15 : Int))])) else (some (.tup [(.agg [(.int .i64 (IntKind.wrap .i64 ((IntKind.wrap .i64 (0 - (IntKind.wrap .i64 vn17))) - (1 : Int)))), (.int .i64 (IntKind.wrap .i64 ((1000000000 : Int) - vn35)))]), (.int .u8 (0 : Int))])))))) else (bif (!vq5) then (some (.tup [(.agg [(.int .i64 (IntKind.wrap .i64 vn17)), (.int .i64 vn35)]), (.int .u8 (0 : Int))])) else (bif (decide (vn35 = (0 : Int))) then (some (.tup [(.agg [(.int .i64 (IntKind.wrap .i64 (IntKind.wrap .u64 (0 - vn17)))), (.int .i64 vn35)]), (.int .u8 (0 : Int))])) else (bif (decide ((Int.fdiv vn17 (2 ^ (min (Int.toNat (63 : Int)) (IntKind.bits .u64)))) > (0 : Int))) then (some (.tup [(.agg [(.int .i64 (0 : Int)), (.int .i64 (0 : Int))]), (.int .u8 (15 : Int))])) else (some (.tup [(.agg [(.int .i64 (IntKind.wrap .i64 ((IntKind.wrap .i64 (0 - (IntKind.wrap .i64 vn17))) - (1 : Int)))), (.int .i64 (IntKind.wrap .i64 ((1000000000 : Int) - vn35)))]), (.int .u8 (0 : Int))])))))))))) else none)) else (bif (!vq5) then (bif (decide ((Int.fdiv vn17 (2 ^ (min (Int.toNat (63 : Int)) (IntKind.bits .u64)))) > (0 : Int))) then (some (.tup [(.agg [(.int .i64 (0 : Int)), (.int .i64 (0 : Int))]), (.int .u8 (15 : Int))])) else (bif (!vq5) then (some (.tup [(.agg [(.int .i64 (IntKind.wrap .i64 vn17)), (.int .i64 (0 : Int))]), (.int .u8 (0 : Int))])) else (some (.tup [(.agg [(.int .i64 (IntKind.wrap .i64 (IntKind.wrap .u64 (0 - vn17)))), (.int .i64 (0 : Int))]), (.int .u8 (0 : Int))])))) else (bif (!vq5) then (some (.tup [(.agg [(.int .i64 (IntKind.wrap .i64 vn17)), (.int .i64 (0 : Int))]), (.int .u8 (0 : Int))])) else (some (.tup [(.agg [(.int .i64 (IntKind.wrap .i64 (IntKind.wrap .u64 (0 - vn17)))), (.int .i64 (0 : Int))]), (.int .u8 (0 : Int))])))))))))))))))))))) := (kp_at (by kernel_rfl)).trans (by kernel_rfl)
/- strings.Cut -/
theorem strings_Cut_eq {E : Ext} [Core E] (k n : Nat) (a0 : ByteArray) (a1 : ByteArray) : kp E k (n + 1) strings_Cut [(.str a0), (.str a1)] =
  (callT (kp E k n stringslite_Cut [(.str a0), (.str a1)]) fun vt2 => (tupS vt2 fun vs3 vt4 => (tupS vt4 fun vs5 vt6 => (tupB vt6 fun vq7 vt8 => (atNil vt8 (some (.tup [(.str vs3), (.str vs5), (.bool vq7)]))))))) := (kp_at (by kernel_rfl)).trans (by kernel_rfl)
/- oakum/dec.natural -/
theorem dec_natural_eq {E : Ext} [Core E] (k n : Nat) (a0 : ByteArray) : kp E k (n + 1) dec_natural [(.str a0)] =
  (callB (kp E k n dec_digits [(.str a0)]) fun vq2 => (bif (!vq2) then (some (.tup [(.int .u64 (0 : Int)), (.bool false)])) else (bif (decide ((0 : Int) < (((ByteArray.size a0) : Nat) : Int))) then (bif (decide ((byteAt a0 0) = (48 : Int))) then (bif (decide ((((ByteArray.size a0) : Nat) : Int) > (1 : Int))) then (some (.tup [(.int .u64 (0 : Int)), (.bool false)])) else (callT (kp E k n strconv_ParseUint [(.str a0), (.int .i64 (10 : Int)), (.int .i64 (64 : Int))]) fun vt4 => (tupI .u64 vt4 fun vn5 vt6 => (tupV vt6 fun vr7 vt8 => (atNil vt8 (nilB vr7 fun q9 => (bif q9 then (some (.tup [(.int .u64 vn5), (.bool (decide (vn5 ≤ (9223372036854775808 : Int))))])) else (some (.tup [(.int .u64 vn5), (.bool false)]))))))))) else (callT (kp E k n strconv_ParseUint [(.str a0), (.int .i64 (10 : Int)), (.int .i64 (64 : Int))]) fun vt11 => (tupI .u64 vt11 fun vn12 vt13 => (tupV vt13 fun vr14 vt15 => (atNil vt15 (nilB vr14 fun q16 => (bif q16 then (some (.tup [(.int .u64 vn12), (.bool (decide (vn12 ≤ (9223372036854775808 : Int))))])) else (some (.tup [(.int .u64 vn12), (.bool false)]))))))))) else none))) := (kp_at (by kernel_rfl)).trans (by kernel_rfl)
/- oakum/dec.digits -/
noncomputable def dec_digits_bd : Code := Tryz.f166.body.getD .skip
noncomputable def dec_digits_L0 (kap : FuncId → List AV → Option AV) (k : Nat) (k0 : Nat) (s0 : ByteArray) (s5 : Int) (s6 : Int) : Option AV :=
  loop (fun fr K => code ((bs E0 k).cfg kap dec_digits) (sel dec_digits_bd [1, 0, 1, 0, 0]) fr K) (canon ((bs E0 k).cfg kap dec_digits) (firstReg (sel dec_digits_bd [1, 0, 1, 0, 0]))) k0 (mkFr 22 [(0, (.str s0)), (5, (.int .i64 s5)), (6, (.int .i64 s6))] []) (plug ((bs E0 k).cfg kap dec_digits) (retK ((bs E0 k).cfg kap dec_digits) [] Tryz.f166 [] some) [.blk 0, .seqR (sel dec_digits_bd [1, 1])])
theorem dec_digits_L0_s (kap : FuncId → List AV → Option AV) (k : Nat) (k0 : Nat) (s0 : ByteArray) (s5 : Int) (s6 : Int) : dec_digits_L0 kap k (k0 + 1) s0 s5 s6 =
  (bif (decide (s6 < s5)) then (bif ((decide ((0 : Int) ≤ s6)) && (decide (s6 < (((ByteArray.size s0) : Nat) : Int)))) then (bif (decide ((byteAt s0 (Int.toNat s6)) < (48 : Int))) then (some (.bool false)) else (bif ((decide ((0 : Int) ≤ s6)) && (decide (s6 < (((ByteArray.size s0) : Nat) : Int)))) then (bif (decide ((byteAt s0 (Int.toNat s6)) > (57 : Int))) then (some (.bool false)) else (dec_digits_L0 kap k k0 s0 s5 (IntKind.wrap .i64 (s6 + (1 : Int))))) else none)) else none) else (some (.bool (!(decide (s0 = (str []))))))) := by kernel_rfl
theorem dec_digits_eq {E : Ext} [Core E] (k n : Nat) (a0 : ByteArray) : kp E k (n + 1) dec_digits [(.str a0)] =
  (dec_digits_L0 (kp E k n) k k a0 (((ByteArray.size a0) : Nat) : Int) (0 : Int)) := (kp_at (by kernel_rfl)).trans (by kernel_rfl)
/- internal/stringslite.Cut -/
theorem stringslite_Cut_eq {E : Ext} [Core E] (k n : Nat) (a0 : ByteArray) (a1 : ByteArray) : kp E k (n + 1) stringslite_Cut [(.str a0), (.str a1)] =
  (callI .i64 (kp E k n stringslite_Index [(.str a0), (.str a1)]) fun vn2 => (bif (decide (vn2 ≥ (0 : Int))) then (bif ((decide ((0 : Int) ≤ vn2)) && (decide (vn2 ≤ (((ByteArray.size a0) : Nat) : Int)))) then (bif ((decide ((0 : Int) ≤ (IntKind.wrap .i64 (vn2 + (((ByteArray.size a1) : Nat) : Int))))) && (decide ((IntKind.wrap .i64 (vn2 + (((ByteArray.size a1) : Nat) : Int))) ≤ (((ByteArray.size a0) : Nat) : Int)))) then (some (.tup [(.str (ByteArray.extract a0 0 (Int.toNat vn2))), (.str (ByteArray.extract a0 (Int.toNat (IntKind.wrap .i64 (vn2 + (((ByteArray.size a1) : Nat) : Int)))) (ByteArray.size a0))), (.bool true)])) else none) else none) else (some (.tup [(.str a0), (.str (str [])), (.bool false)])))) := (kp_at (by kernel_rfl)).trans (by kernel_rfl)
/- oakum/oakumref04.Number -/
/- oakum/oakumref04.Time -/
/- internal/stringslite.CutPrefix -/
/- oakum/oakumref04.Below -/
/- oakum/oakumref04.only -/
end Go.Proofs.YtbkhmkcmbaffoaaGreatDoor.Eng.U


/- Numbers as texts, in plain Lean. -/
set_option linter.unusedVariables false
set_option linter.unusedSimpArgs false
namespace Go.Proofs.YtbkhmkcmbaffoaaGreatDoor.P04
open Go

def isDig (c : UInt8) : Bool := decide (48 ≤ c.toNat) && decide (c.toNat ≤ 57)
def digs (l : List UInt8) : Bool := l.all isDig && !l.isEmpty
def valA (acc : Nat) (l : List UInt8) : Nat := l.foldl (fun a c => a * 10 + (c.toNat - 48)) acc
def lead (l : List UInt8) : Bool := decide (l.headD 0 = 48) && decide (1 < l.length)
def natOk (l : List UInt8) : Bool := digs l && !lead l && decide (valA 0 l ≤ 9223372036854775808)
theorem valA_ge : ∀ (l : List UInt8) (acc : Nat), acc ≤ valA acc l
  | [], acc => Nat.le_refl _
  | c :: l, acc => by
    have := valA_ge l (acc * 10 + (c.toNat - 48))
    simp only [valA, List.foldl_cons] at this ⊢
    omega
theorem valA_cons (c : UInt8) (l : List UInt8) (acc : Nat) : valA acc (c :: l) = valA (acc * 10 + (c.toNat - 48)) l := by
  unfold valA
  rw [List.foldl_cons]
theorem dig_iff {c : UInt8} : isDig c = true ↔ 48 ≤ c.toNat ∧ c.toNat ≤ 57 := by simp [isDig]
theorem parse_eq {M : Nat} (hM : M = 18446744073709551615) (l : List UInt8) : ∀ (acc : Nat), l.all isDig = true → acc ≤ M → Lib.parseUintM M acc l = if valA acc l ≤ M then .ok (valA acc l) else .range := by
  induction l with
  | nil =>
    intro acc _ h
    have e : valA acc [] = acc := rfl
    rw [e, if_pos h]
    rfl
  | cons c l ih =>
    intro acc hd h
    rw [List.all_cons, Bool.and_eq_true] at hd
    have hc := dig_iff.1 hd.1
    have hg := valA_ge l (acc * 10 + (c.toNat - 48))
    have e : Lib.parseUintM M acc (c :: l) = if 48 ≤ c.toNat ∧ c.toNat ≤ 57 then (if 1844674407370955162 ≤ acc then .range else if M < acc * 10 + (c.toNat - 48) then .range else Lib.parseUintM M (acc * 10 + (c.toNat - 48)) l) else Lib.parseUintM M 0 [47] := rfl
    rw [e, if_pos hc, valA_cons]
    by_cases h1 : 1844674407370955162 ≤ acc
    · rw [if_pos h1, if_neg (by omega)]
    · rw [if_neg h1]
      by_cases h2 : M < acc * 10 + (c.toNat - 48)
      · rw [if_pos h2, if_neg (by omega)]
      · rw [if_neg h2, ih _ hd.2 (by omega)]
theorem parseB_eq {l : List UInt8} (hd : digs l = true) : Lib.parseUintB 64 l = if valA 0 l ≤ 18446744073709551615 then .ok (valA 0 l) else .range := by
  simp only [digs, Bool.and_eq_true, Bool.not_eq_true', List.isEmpty_eq_false_iff] at hd
  rw [Lib.parseUintB, if_neg hd.2]
  exact parse_eq (by decide) l 0 hd.1 (by omega)
/-- Where the first point stands; the length, where there is none. -/
def dot (l : List UInt8) : Nat := l.findIdx (· == 46)
theorem index_dot : ∀ l : List UInt8, Lib.indexByte l 46 = if dot l < l.length then (dot l : Int) else -1
  | [] => rfl
  | c :: l => by
    have ih := index_dot l
    unfold Lib.indexByte dot
    rw [List.findIdx_cons]
    by_cases hc : (c == 46) = true
    · simp [hc]
    · rw [if_neg hc, Bool.eq_false_iff.2 hc, cond_false, ih]
      unfold dot
      have : List.findIdx (· == 46) l ≤ l.length := List.findIdx_le_length
      simp only [List.length_cons]
      by_cases h : List.findIdx (· == 46) l < l.length
      · rw [if_pos h, if_pos (show List.findIdx (· == 46) l + 1 < l.length + 1 by omega)]
        rw [if_neg (by simp)]
        omega
      · rw [if_neg h, if_neg (show ¬ List.findIdx (· == 46) l + 1 < l.length + 1 by omega)]
        rfl
/-- The time that a text is, behind its sign. -/
def timeB (minus : Bool) (t : List UInt8) : Option (Int × Int) :=
  let a := t.take (dot t)
  let b := t.drop (dot t + 1)
  let nano := if dot t < t.length then valA 0 (b ++ List.replicate (9 - b.length) 48) else 0
  let v := valA 0 a
  if natOk a = false then none
  else if dot t < t.length ∧ ¬ (digs b = true ∧ b.length ≤ 9) then none
  else if minus = false then (if 9223372036854775807 < v then none else some ((v : Int), (nano : Int)))
  else if nano = 0 then some (-(v : Int), 0)
  else if 9223372036854775807 < v then none
  else some (-(v : Int) - 1, 1000000000 - (nano : Int))
def timeL (s : List UInt8) : Option (Int × Int) := timeB (decide (s.head? = some 45)) (if s.head? = some 45 then s.drop 1 else s)
theorem valA_lt : ∀ (l : List UInt8) (acc m : Nat), l.all isDig = true → acc < 10 ^ m → valA acc l < 10 ^ (m + l.length)
  | [], acc, m, _, h => h
  | c :: l, acc, m, hd, h => by
    rw [List.all_cons, Bool.and_eq_true] at hd
    have hc := dig_iff.1 hd.1
    have := valA_lt l (acc * 10 + (c.toNat - 48)) (m + 1) hd.2 (by rw [Nat.pow_succ]; omega)
    rw [valA_cons, List.length_cons, show m + (l.length + 1) = m + 1 + l.length from by omega]
    exact this
/-! Printing. -/
theorem decDigits_rec {u : Nat} (h : ¬ u < 10) : Lib.decDigits u = Lib.decDigits (u / 10) ++ [UInt8.ofNat (48 + u % 10)] := by rw [Lib.decDigits, dif_neg h]
/-- k digits of a number below 10 ^ 9, the first ahead. -/
def frac : Nat → Nat → List UInt8
  | 0, _ => []
  | k + 1, n => UInt8.ofNat (48 + n / 100000000) :: frac k (n % 100000000 * 10)
/-- The digits of a number below 10 ^ 9 as long as some are left. -/
def loopP : Nat → Nat → List UInt8
  | 0, _ => []
  | k + 1, n => if n = 0 then [] else UInt8.ofNat (48 + n / 100000000) :: loopP k (n % 100000000 * 10)
theorem trim_cons (c : UInt8) (l : List UInt8) (x : UInt8) : Lib.trimRightB (c :: l) x = if Lib.trimRightB l x = [] then (if c = x then [] else [c]) else c :: Lib.trimRightB l x := by
  unfold Lib.trimRightB
  rw [List.reverse_cons, List.dropWhile_append]
  by_cases h : (l.reverse.dropWhile (· == x)).isEmpty = true
  · rw [if_pos h]
    have h' : l.reverse.dropWhile (· == x) = [] := by simpa using h
    rw [h', List.reverse_nil, if_pos rfl]
    by_cases hc : c = x
    · subst hc; simp
    · rw [if_neg hc]; simp [List.dropWhile_cons, hc]
  · rw [if_neg h]
    have h' : l.reverse.dropWhile (· == x) ≠ [] := by simpa using h
    rw [if_neg (by simpa using h')]
    simp
theorem frac_zero : ∀ k, Lib.trimRightB (frac k 0) 48 = []
  | 0 => rfl
  | k + 1 => by
    show Lib.trimRightB (UInt8.ofNat (48 + 0 / 100000000) :: frac k 0) 48 = []
    rw [trim_cons, frac_zero k, if_pos rfl, if_pos (by decide)]
theorem trim_frac : ∀ (k n : Nat), n < 1000000000 → n % 10 ^ (9 - k) = 0 → k ≤ 9 → Lib.trimRightB (frac k n) 48 = loopP k n
  | 0, n, h, hm, _ => rfl
  | k + 1, n, h, hm, hk => by
    unfold frac loopP
    by_cases hn : n = 0
    · rw [if_pos hn]
      subst hn
      exact frac_zero (k + 1)
    · rw [if_neg hn]
      have hm' : (n % 100000000 * 10) % 10 ^ (9 - k) = 0 := by
        have e : 10 ^ (9 - k) = 10 ^ (9 - (k + 1)) * 10 := by rw [← Nat.pow_succ]; congr 1; omega
        rw [e, Nat.mul_mod_mul_right]
        have hd : (10 : Nat) ^ (9 - (k + 1)) ∣ 100000000 := by
          have : (100000000 : Nat) = 10 ^ 8 := rfl
          rw [this]
          exact Nat.pow_dvd_pow 10 (by omega)
        rw [Nat.mod_mod_of_dvd _ hd, hm]
      have ih := trim_frac k (n % 100000000 * 10) (by omega) hm' (by omega)
      rw [trim_cons, ih]
      by_cases he : loopP k (n % 100000000 * 10) = []
      · rw [if_pos he, he]
        cases k with
        | zero =>
          have : n / 100000000 ≠ 0 := by
            simp at hm
            omega
          rw [if_neg]
          intro e
          have := congrArg UInt8.toNat e
          rw [UInt8.toNat_ofNat'] at this
          simp at this
          omega
        | succ k =>
          unfold loopP at he
          split at he
          · rename_i h0
            rw [if_neg]
            intro e
            have := congrArg UInt8.toNat e
            rw [UInt8.toNat_ofNat'] at this
            simp at this
            omega
          · cases he
      · rw [if_neg he]
theorem frac_eq (m : Nat) : ∀ (k j : Nat), k + j ≤ 9 → frac k (m * 10 ^ j % 1000000000) = (List.range k).map fun i => UInt8.ofNat (48 + m / 10 ^ (8 - (j + i)) % 10)
  | 0, j, _ => rfl
  | k + 1, j, h => by
    unfold frac
    have e1 : m * 10 ^ j % 1000000000 / 100000000 = m / 10 ^ (8 - j) % 10 := by
      rw [show (1000000000 : Nat) = 100000000 * 10 from rfl, Nat.mod_mul_right_div_self]
      congr 1
      rw [show (100000000 : Nat) = 10 ^ (8 - j) * 10 ^ j from by rw [← Nat.pow_add, show 8 - j + j = 8 from by omega]]
      exact Nat.mul_div_mul_right _ _ (Nat.pow_pos (by omega))
    have e2 : m * 10 ^ j % 1000000000 % 100000000 * 10 = m * 10 ^ (j + 1) % 1000000000 := by
      rw [Nat.mod_mod_of_dvd _ (by decide), show (1000000000 : Nat) = 100000000 * 10 from rfl, Nat.pow_succ, ← Nat.mul_assoc, Nat.mul_mod_mul_right]
    rw [e1, e2, frac_eq m k (j + 1) (by omega), List.range_succ_eq_map, List.map_cons, List.map_map]
    congr 1
    refine List.map_congr_left fun i _ => ?_
    show UInt8.ofNat (48 + m / 10 ^ (8 - (j + 1 + i)) % 10) = UInt8.ofNat (48 + m / 10 ^ (8 - (j + (i + 1))) % 10)
    rw [show j + 1 + i = j + (i + 1) from by omega]
theorem digits_frac (m : Nat) (h : m < 1000000000) : Lib.decDigits (1000000000 + m) = 49 :: frac 9 m := by
  have hf := frac_eq m 9 0 (by omega)
  rw [Nat.pow_zero, Nat.mul_one, Nat.mod_eq_of_lt h] at hf
  rw [hf, Lib.decDigits_eq, Lib.nDigits_unique 9 _ (by omega) (by omega), List.range_succ_eq_map, List.map_cons, List.map_map]
  congr 1
  · show Lib.dg (1000000000 + m) 9 = 49
    unfold Lib.dg
    rw [show (1000000000 + m) / 10 ^ 9 % 10 = 1 from by omega]
    rfl
  · refine List.map_congr_left fun i hi => ?_
    rw [List.mem_range] at hi
    show Lib.dg (1000000000 + m) (10 - 1 - (i + 1)) = _
    unfold Lib.dg
    rw [show 10 - 1 - (i + 1) = 8 - i from by omega, Nat.zero_add]
    congr 2
    have : (1000000000 : Nat) = 10 ^ (8 - i) * (10 ^ i * 10) := by rw [← Nat.pow_succ, ← Nat.pow_add, show 8 - i + (i + 1) = 9 from by omega]
    rw [this, Nat.mul_add_div (Nat.pow_pos (by omega)), Nat.add_mod, Nat.mul_mod_left, Nat.zero_add, Nat.mod_mod]
/-- The text of a time. -/
def printL (s t : Int) : List UInt8 :=
  if t = 0 then Lib.itoa s
  else if s < 0 then 45 :: Lib.decDigits (-(s + 1)).toNat ++ [46] ++ loopP 9 (1000000000 - t).toNat
  else Lib.decDigits s.toNat ++ [46] ++ loopP 9 t.toNat
end Go.Proofs.YtbkhmkcmbaffoaaGreatDoor.P04


/- The functions of the Dec laws in plain words. -/
set_option linter.unusedVariables false
set_option linter.unusedSectionVars false
set_option linter.unusedSimpArgs false
namespace Go.Proofs.YtbkhmkcmbaffoaaGreatDoor.Eng.U
open Go Go.Proofs Go.Proofs.YtbkhmkcmbaffoaaGreatDoor.Eng Go.Proofs.YtbkhmkcmbaffoaaGreatDoor.P04
variable {E : Ext} [Core E] {k n : Nat}

def endI : Lib.NumEnd Int → Int → AV
  | .ok v, _ => .tup [.int .i64 v, .nili]
  | .range, d => .tup [.int .i64 d, .ifc]
  | _, _ => .tup [.int .i64 0, .ifc]
def endU : Lib.NumEnd Nat → AV
  | .ok v => .tup [.int .u64 v, .nili]
  | .range => .tup [.int .u64 18446744073709551615, .ifc]
  | _ => .tup [.int .u64 0, .ifc]
class HasNum (E : Ext) : Prop where
  fmt : ∀ (k n : Nat) (v : Int), -9223372036854775808 ≤ v → v ≤ 9223372036854775807 → kp E k n strconv_FormatInt [.int .i64 v, .int .i64 10] = some (.str (str (Lib.itoa v)))
  itoa : ∀ (k n : Nat) (v : Int), -9223372036854775808 ≤ v → v ≤ 9223372036854775807 → kp E k n strconv_Itoa [.int .i64 v] = some (.str (str (Lib.itoa v)))
  cutP : ∀ (k n : Nat) (s p : List UInt8), kp E k n strings_CutPrefix [.str (str s), .str (str p)] = some (.tup [.str (str (Lib.trimPrefix s p)), .bool (Lib.hasPrefix s p)])
  trimR : ∀ (k n : Nat) (s : List UInt8) (x : UInt8), x.toNat < 128 → s.length ≤ 9223372036854775807 → kp E k n strings_TrimRight [.str (str s), .str (str [x])] = some (.str (str (Lib.trimRightB s x)))
  index : ∀ (k n : Nat) (s : List UInt8) (x : UInt8), kp E k n stringslite_Index [.str (str s), .str (str [x])] = some (.int .i64 (Lib.indexByte s x))
  indexB : ∀ (k n : Nat) (s : List UInt8) (c : Int), kp E k n strings_IndexByte [.str (str s), .int .u8 c] = some (.int .i64 (Lib.indexByte s c.toNat.toUInt8))
  rep : ∀ (k n : Nat) (s : List UInt8) (c : Nat), c ≤ 9223372036854775807 → s.length * c ≤ 140737488355328 → kp E k n strings_Repeat [.str (str s), .int .i64 c] = some (.str (str (Lib.repeatL s c)))
  pint : ∀ (k n : Nat) (s : List UInt8), s.length ≤ 281474976710656 → kp E k n strconv_ParseInt [.str (str s), .int .i64 10, .int .i64 64] = some (endI (Lib.parseIntB 64 s) (Lib.intSat 64 s))
  puint : ∀ (k n : Nat) (s : List UInt8), s.length ≤ 281474976710656 → kp E k n strconv_ParseUint [.str (str s), .int .i64 10, .int .i64 64] = some (endU (Lib.parseUintB 64 s))

theorem digits_loop (kap : FuncId → List AV → Option AV) : ∀ (suf pre : List UInt8) (k0 : Nat), suf.length < k0 → (pre ++ suf).length < 1000000000000000 →
    dec_digits_L0 kap k k0 (str (pre ++ suf)) (((pre ++ suf).length : Nat) : Int) ((pre.length : Nat) : Int) = some (.bool (suf.all isDig && !(pre ++ suf).isEmpty))
  | [], pre, k0 + 1, h, hb => by
    rw [dec_digits_L0_s, nlt, decide_eq_false (by simp), cond_false, str_dec]
    cases pre <;> simp
  | c :: suf, pre, k0 + 1, h, hb => by
    rw [dec_digits_L0_s]
    rw [mid_len] at hb
    have hg : (pre ++ c :: suf).getD pre.length 0 = c := mid_byte _ _ _
    rw [str_size, mid_len, dec0, nlt, decide_eq_true (by omega), Bool.true_and, cond_true, cond_true, cond_true, Int.toNat_natCast, str_byte, hg, List.all_cons]
    by_cases h1 : 48 ≤ c.toNat
    · rw [bif_f (by omega)]
      by_cases h2 : c.toNat ≤ 57
      · rw [bif_f (by omega), wrap1 (by omega)]
        have := digits_loop kap suf (pre ++ [c]) k0 (by simpa using h) (by simp; omega)
        rw [List.append_assoc, List.singleton_append, mid_len, List.length_append, List.length_singleton] at this
        rw [this, dig_iff.2 ⟨h1, h2⟩, Bool.true_and]
      · rw [bif_t (by omega), show isDig c = false from by simp [isDig]; omega]
        rfl
    · rw [bif_t (by omega), show isDig c = false from by simp [isDig]; omega]
      rfl
theorem digits_k (l : List UInt8) (hb : l.length < 1000000000000000) (hk : l.length < k) : kp E k (n + 1) dec_digits [.str (str l)] = some (.bool (digs l)) := by
  rw [dec_digits_eq, str_size]
  exact digits_loop _ l [] k hk hb
theorem head_lead (l : List UInt8) (hl : l ≠ []) : decide (l.getD 0 0 = 48) = decide (l.headD 0 = 48) := by cases l <;> simp at hl ⊢
theorem digs_ne {l : List UInt8} (h : digs l = true) : l ≠ [] := by
  intro e
  subst e
  simp [digs] at h
theorem digs_all {l : List UInt8} (h : digs l = true) : l.all isDig = true := by
  unfold digs at h
  rw [Bool.and_eq_true] at h
  exact h.1
theorem byte48 (c : UInt8) : decide (((c.toNat : Nat) : Int) = (48 : Int)) = decide (c = 48) := byte_is c 48 (by omega)
theorem natural_k [HasNum E] (l : List UInt8) (hb : l.length < 100000000000000) (hk : l.length < k) : ∃ m : Int, kp E k (n + 2) dec_natural [.str (str l)] = some (.tup [.int .u64 m, .bool (natOk l)]) ∧ (natOk l = true → m = (valA 0 l : Int)) := by
  rw [dec_natural_eq, digits_k l (by omega) hk, callB_ok]
  unfold natOk
  cases hd : digs l with
  | false => exact ⟨0, rfl, fun h => by cases h⟩
  | true =>
    have hne := digs_ne hd
    have hpos : 0 < l.length := List.length_pos_iff.2 hne
    rw [Bool.not_true, cond_false, str_size, bif_t (by omega), str_byte, byte48, head_lead l hne, HasNum.puint k (n + 1) l (by omega), parseB_eq hd]
    have go : ∃ m : Int, (callT (β := AV) (some (endU (if valA 0 l ≤ 18446744073709551615 then Lib.NumEnd.ok (valA 0 l) else .range))) fun vt11 => (tupI .u64 vt11 fun vn12 vt13 => (tupV vt13 fun vr14 vt15 => (atNil vt15 (nilB vr14 fun q16 => (bif q16 then (some (.tup [(.int .u64 vn12), (.bool (decide (vn12 ≤ (9223372036854775808 : Int))))])) else (some (.tup [(.int .u64 vn12), (.bool false)])))))))) = some (.tup [.int .u64 m, .bool (decide (valA 0 l ≤ 9223372036854775808))]) ∧ (valA 0 l ≤ 9223372036854775808 → m = (valA 0 l : Int)) := by
      by_cases h3 : valA 0 l ≤ 18446744073709551615
      · rw [if_pos h3]
        refine ⟨(valA 0 l : Int), ?_, fun _ => rfl⟩
        have : decide (((valA 0 l : Nat) : Int) ≤ 9223372036854775808) = decide (valA 0 l ≤ 9223372036854775808) := by rw [decide_eq_decide]; omega
        rw [← this]
        rfl
      · rw [if_neg h3]
        refine ⟨18446744073709551615, ?_, fun h => by omega⟩
        rw [decide_eq_false (by omega)]
        rfl
    obtain ⟨m, g1, g2⟩ := go
    unfold lead
    by_cases h1 : l.headD 0 = 48
    · rw [decide_eq_true h1, cond_true]
      by_cases h2 : 1 < l.length
      · rw [bif_t (by omega), decide_eq_true h2]
        exact ⟨0, rfl, fun h => by simp at h⟩
      · rw [bif_f (by omega), decide_eq_false h2, g1]
        exact ⟨m, by simp, fun h => g2 (by simpa using h)⟩
    · rw [decide_eq_false h1, cond_false, g1]
      exact ⟨m, by simp, fun h => g2 (by simpa using h)⟩
end Go.Proofs.YtbkhmkcmbaffoaaGreatDoor.Eng.U


/- The functions of the Dec laws in plain words, part 2: printing. -/
set_option linter.unusedVariables false
set_option linter.unusedSectionVars false
set_option linter.unusedSimpArgs false
namespace Go.Proofs.YtbkhmkcmbaffoaaGreatDoor.Eng.U
open Go Go.Proofs Go.Proofs.YtbkhmkcmbaffoaaGreatDoor.Eng Go.Proofs.YtbkhmkcmbaffoaaGreatDoor.P04
variable {E : Ext} [Core E] [HasNum E] {k n : Nat}

theorem text_k (v : Int) (h0 : -9223372036854775808 ≤ v) (h1 : v ≤ 9223372036854775807) : kp E k (n + 1) dec_Text [.int .i64 v] = some (.str (str (Lib.itoa v))) := by
  rw [dec_Text_eq, HasNum.fmt k n v h0 h1, callS_ok]
theorem dig_len (u : Nat) (h : u ≤ 9223372036854775808) : (Lib.decDigits u).length ≤ 21 := by
  rw [Lib.decDigits_length]
  cases u with
  | zero => rw [Lib.nDigits_small (by omega)]; omega
  | succ u =>
    by_cases h2 : u + 1 < 9223372036854775808
    · have := Lib.itoa_length_le ((u + 1 : Nat) : Int) (by omega) (by omega)
      rwa [Lib.itoa_nonneg, Lib.decDigits_length] at this
    · rw [Lib.nDigits_unique 18 (u + 1) (by omega) (by omega)]; omega
def rightT (t : Int) : Bool := decide (0 ≤ t) && decide (t < 1000000000)
theorem right_k (s t : Int) : kp E k (n + 1) dec_Right [.agg [.int .i64 s, .int .i64 t]] = some (.bool (rightT t)) := by
  rw [dec_Right_eq]
  unfold rightT
  by_cases h : 0 ≤ t
  · rw [bif_t (by omega), decide_eq_true h, Bool.true_and]
  · rw [bif_f (by omega), decide_eq_false h, Bool.false_and]
theorem frac_len : ∀ k n, (frac k n).length = k
  | 0, _ => rfl
  | k + 1, n => by unfold frac; rw [List.length_cons, frac_len k]
theorem loopP_len : ∀ k n, (loopP k n).length ≤ k
  | 0, _ => Nat.le_refl _
  | k + 1, n => by
    unfold loopP
    split
    · simp
    · rw [List.length_cons]
      have := loopP_len k (n % 100000000 * 10)
      omega
theorem fmt_frac (m : Nat) (h : m < 1000000000) : kp E k n strconv_FormatInt [.int .i64 ((1000000000 + m : Nat) : Int), .int .i64 10] = some (.str (str (49 :: frac 9 m))) := by
  rw [HasNum.fmt k n _ (by omega) (by omega), Lib.itoa_nonneg, digits_frac m h]
theorem ext_one (c : UInt8) (l : List UInt8) : ByteArray.extract (str (c :: l)) 1 (l.length + 1) = str l := by
  rw [str_ext]
  simp
theorem print_k (s t : Int) (h0 : -9223372036854775808 ≤ s) (h1 : s ≤ 9223372036854775807) : kp E k (n + 3) dec_Print [.agg [.int .i64 s, .int .i64 t]] = some (bif rightT t then .tup [.str (str (printL s t)), .int .u8 0] else .tup [.str (str []), .int .u8 15]) := by
  rw [dec_Print_eq, right_k, callB_ok]
  cases hr : rightT t with
  | false => rfl
  | true =>
    unfold rightT at hr
    rw [Bool.and_eq_true, decide_eq_true_eq, decide_eq_true_eq] at hr
    rw [Bool.not_true, cond_false, cond_true]
    unfold printL
    by_cases ht : t = 0
    · rw [bif_t ht, if_pos ht, text_k s h0 h1, callS_ok]
    · rw [bif_f ht, if_neg ht]
      have tail : ∀ (pre u : List UInt8) (m : Nat), 0 < m → m < 1000000000 → u.length ≤ 21 → pre.length ≤ 1 → (bif (decide ((1 : Int) ≤ (((ByteArray.size (str (49 :: frac 9 m))) : Nat) : Int))) then (callS (some (.str (str u))) fun vs8 => (bif (decide (pre.length + (ByteArray.size vs8) ≤ 9223372036854775807)) then (bif (decide ((ByteArray.size ((str pre) ++ vs8)) + 1 ≤ 9223372036854775807)) then (callS (kp E k (n + 2) strings_TrimRight [(.str (ByteArray.extract (str (49 :: frac 9 m)) 1 (ByteArray.size (str (49 :: frac 9 m))))), (.str (str [48]))]) fun vs10 => (bif (decide ((ByteArray.size (((str pre) ++ vs8) ++ (str [46]))) + (ByteArray.size vs10) ≤ 9223372036854775807)) then (some (AV.tup [(.str ((((str pre) ++ vs8) ++ (str [46])) ++ vs10)), (.int .u8 (0 : Int))])) else none)) else none) else none)) else none)
          = some (.tup [.str (str (pre ++ u ++ [46] ++ loopP 9 m)), .int .u8 0]) := by
        intro pre u m hm0 hm hu hp
        have hf := frac_len 9 m
        have hl := loopP_len 9 m
        rw [str_size, List.length_cons, bif_t (by omega), callS_ok, str_size, bif_t (by omega), str_app, str_size, bif_t (by simp; omega), ext_one, HasNum.trimR k (n + 2) _ 48 (by decide) (by omega), callS_ok, trim_frac 9 m hm (by simp [Nat.mod_one]) (by omega), str_app, str_size, str_size, bif_t (by simp; omega), str_app]
      by_cases hs : s < 0
      · obtain ⟨m, hm⟩ := Int.eq_ofNat_of_zero_le (show 0 ≤ 1000000000 - t by omega)
        obtain ⟨u, hu⟩ := Int.eq_ofNat_of_zero_le (show 0 ≤ -(s + 1) by omega)
        rw [bif_t hs, if_pos hs, i64w (x := 1000000000 - t) (by omega), hm, i64w (by omega), show (1000000000 : Int) + (m : Int) = ((1000000000 + m : Nat) : Int) from by omega, fmt_frac m (by omega), callS_ok, i64w (x := s + 1) (by omega), i64w (x := 0 - (s + 1)) (by omega), show (0 : Int) - (s + 1) = (u : Int) from by omega, hu, text_k _ (by omega) (by omega), Lib.itoa_nonneg]
        exact tail [45] _ m (by omega) (by omega) (dig_len u (by omega)) (by simp)
      · obtain ⟨m, rfl⟩ := Int.eq_ofNat_of_zero_le hr.1
        obtain ⟨u, rfl⟩ := Int.eq_ofNat_of_zero_le (show 0 ≤ s by omega)
        rw [bif_f hs, if_neg hs, i64w (by omega), show (1000000000 : Int) + (m : Int) = ((1000000000 + m : Nat) : Int) from by omega, fmt_frac m (by omega), callS_ok, text_k _ (by omega) (by omega), Lib.itoa_nonneg]
        exact tail [] _ m (by omega) (by omega) (dig_len u (by omega)) (by simp)
end Go.Proofs.YtbkhmkcmbaffoaaGreatDoor.Eng.U


/- The functions of the Dec laws in plain words, part 3: reading. -/
set_option linter.unusedVariables false
set_option linter.unusedSectionVars false
set_option linter.unusedSimpArgs false
namespace Go.Proofs.YtbkhmkcmbaffoaaGreatDoor.Eng.U
open Go Go.Proofs Go.Proofs.YtbkhmkcmbaffoaaGreatDoor.Eng Go.Proofs.YtbkhmkcmbaffoaaGreatDoor.P04
variable {E : Ext} [Core E] [HasNum E] {k n : Nat}

theorem dot_le (t : List UInt8) : dot t ≤ t.length := List.findIdx_le_length
theorem cut_k (t : List UInt8) (ht : t.length < 1000000000000) : kp E k (n + 2) strings_Cut [.str (str t), .str (str [46])] = some (.tup [.str (str (t.take (dot t))), .str (str (t.drop (dot t + 1))), .bool (decide (dot t < t.length))]) := by
  have hd := dot_le t
  rw [strings_Cut_eq, stringslite_Cut_eq, HasNum.index k n t 46, callI_ok, index_dot]
  by_cases h : dot t < t.length
  · rw [if_pos h, decide_eq_true h, bif_t (by omega), str_size, str_size, List.length_singleton, wrapP (by omega) (by omega), bif_a, bif_t (by omega), bif_t (by omega), bif_a, bif_t (by omega), bif_t (by omega), Int.toNat_natCast, Int.toNat_natCast, str_ext, str_ext, List.take_length, List.drop_zero]
    rfl
  · rw [if_neg h, decide_eq_false h, bif_f (by omega), List.take_of_length_le (by omega), List.drop_of_length_le (by omega)]
    rfl
theorem trim_minus (s : List UInt8) : Lib.trimPrefix s [45] = (if s.head? = some 45 then s.drop 1 else s) ∧ Lib.hasPrefix s [45] = decide (s.head? = some 45) := by
  have h : Lib.hasPrefix s [45] = decide (s.head? = some 45) := by
    unfold Lib.hasPrefix
    cases s with
    | nil => rfl
    | cons c s =>
      simp only [List.isPrefixOf, List.head?_cons, Option.some.injEq, Bool.and_true]
      rw [Bool.eq_iff_iff, beq_iff_eq, decide_eq_true_eq]
      exact eq_comm
  refine ⟨?_, h⟩
  unfold Lib.trimPrefix
  rw [h]
  by_cases hs : s.head? = some 45
  · rw [if_pos hs, if_pos (decide_eq_true hs)]; rfl
  · rw [if_neg hs, if_neg (by simpa using hs)]
theorem repeat48 : ∀ c, Lib.repeatL [48] c = List.replicate c (48 : UInt8)
  | 0 => rfl
  | c + 1 => by rw [Lib.repeatL, repeat48 c]; rfl
theorem zeros_dig (c : Nat) : (List.replicate c (48 : UInt8)).all isDig = true := by
  rw [List.all_eq_true]
  intro x hx
  rw [List.eq_of_mem_replicate hx]
  rfl
theorem parseI_eq {l : List UInt8} (hd : digs l = true) (h9 : l.length ≤ 9) : Lib.parseIntB 64 l = .ok (valA 0 l : Int) ∧ valA 0 l < 1000000000 := by
  have hall := digs_all hd
  have hv : valA 0 l < 10 ^ (0 + l.length) := valA_lt l 0 0 hall (by omega)
  have hp : 10 ^ (0 + l.length) ≤ 10 ^ 9 := Nat.pow_le_pow_right (by omega) (by omega)
  have hlt : valA 0 l < 1000000000 := by omega
  refine ⟨?_, hlt⟩
  have hB := parseB_eq hd
  rw [if_pos (by omega)] at hB
  cases l with
  | nil => simp [digs] at hd
  | cons c r =>
    rw [List.all_cons, Bool.and_eq_true] at hall
    have hc := dig_iff.1 hall.1
    unfold Lib.parseIntB
    dsimp only
    rw [if_neg (show ¬ (c.toNat = 43 ∨ c.toNat = 45) by omega), hB]
    dsimp only
    have h1 : ¬ (2 : Nat) ^ (64 - 1) ≤ valA 0 (c :: r) := by
      have : (2 : Nat) ^ (64 - 1) = 9223372036854775808 := rfl
      omega
    rw [if_neg (fun h => h1 h.2), if_neg (fun h => by omega), if_neg (by omega)]
theorem nano_digs {b : List UInt8} (hd : digs b = true) (h9 : b.length ≤ 9) : digs (b ++ List.replicate (9 - b.length) 48) = true ∧ (b ++ List.replicate (9 - b.length) (48 : UInt8)).length = 9 := by
  constructor
  · unfold digs
    rw [List.all_append, digs_all hd, zeros_dig, Bool.true_and, Bool.true_and]
    have := digs_ne hd
    cases b with
    | nil => exact absurd rfl this
    | cons c b => rfl
  · rw [List.length_append, List.length_replicate]; omega
theorem half {v : Nat} : decide (Int.fdiv (v : Int) (2 ^ (min (Int.toNat (63 : Int)) (IntKind.bits .u64))) > (0 : Int)) = decide (9223372036854775807 < v) := by
  have e : ((2 : Int) ^ (min (Int.toNat (63 : Int)) (IntKind.bits .u64))) = 9223372036854775808 := rfl
  rw [e, decide_eq_decide, Int.fdiv_eq_ediv_of_nonneg _ (by omega)]
  omega
theorem negW {v : Nat} (h : v ≤ 9223372036854775808) : IntKind.wrap .i64 (IntKind.wrap .u64 (0 - (v : Int))) = -(v : Int) := by
  rw [IntKind.wrap_u64, IntKind.wrap_i64]
  omega
def timeAV : Option (Int × Int) → AV
  | some (a, b) => .tup [.agg [.int .i64 a, .int .i64 b], .int .u8 0]
  | none => .tup [.agg [.int .i64 0, .int .i64 0], .int .u8 15]
theorem number_k (l : List UInt8) (hb : l.length < 1000000000000) (hk : l.length < k) : kp E k (n + 3) dec_Number [.str (str l)] = some (bif natOk l && decide (valA 0 l ≤ 9223372036854775807) then .tup [.int .i64 (valA 0 l : Int), .int .u8 0] else .tup [.int .i64 0, .int .u8 15]) := by
  obtain ⟨m, h1, h2⟩ := natural_k (E := E) (k := k) (n := n) l (by omega) hk
  rw [dec_Number_eq, h1]
  simp (disch := first | omega | (simp only [List.length_append, List.length_cons, List.length_nil, List.length_take, List.length_drop]; done) | (simp only [List.length_append, List.length_cons, List.length_nil, List.length_take, List.length_drop]; omega) | fail) only [bif_t, bif_f, bif_n, bif_a, callB_ok, callI_ok, callS_ok, callL_ok, callF_ok, callT_ok, tupB_ok, tupI_ok, tupS_ok, tupL_ok, tupF_ok, atNil_ok, wrap1, wrapM, wrapP, Int.toNat_natCast, svs_len, ivs_len, bvs_len, str_size, svs_mid, ivs_mid, str_dec, str_ext, str_byte, mid_byte, mid_cut, List.length_nil, List.length_singleton, svs_snoc, ivs_snoc, svs_take, svs_drop, str_app, List.take_length, List.drop_zero, List.nil_append, cond_true, cond_false, Option.bind_some, Bool.not_true, Bool.not_false, Bool.true_and, Bool.and_true]
  cases ho : natOk l with
  | false => rfl
  | true =>
    rw [h2 ho]
    simp only [Bool.not_true, cond_false, Bool.true_and, half]
    by_cases hv : 9223372036854775807 < valA 0 l
    · rw [bif_t hv, decide_eq_false (by omega)]; rfl
    · rw [bif_f hv, decide_eq_true (by omega), i64w (by omega)]; rfl
theorem natOk_le {l : List UInt8} (ho : natOk l = true) : valA 0 l ≤ 9223372036854775808 := by
  unfold natOk at ho
  rw [Bool.and_eq_true, decide_eq_true_eq] at ho
  exact ho.2
theorem time_k (s : List UInt8) (hs : s.length < 100000000000) (hk : s.length < k) : kp E k (n + 3) dec_Time [.str (str s)] = some (timeAV (timeL s)) := by
  obtain ⟨t1, t2⟩ := trim_minus s
  rw [dec_Time_eq, HasNum.cutP, t1, t2]
  unfold timeL
  have hle : (if s.head? = some 45 then s.drop 1 else s).length ≤ s.length := by split <;> simp
  generalize (if s.head? = some 45 then s.drop 1 else s) = t at hle
  generalize decide (s.head? = some 45) = minus
  simp (disch := first | omega | (simp only [List.length_append, List.length_cons, List.length_nil, List.length_take, List.length_drop]; done) | (simp only [List.length_append, List.length_cons, List.length_nil, List.length_take, List.length_drop]; omega) | fail) only [bif_t, bif_f, bif_n, bif_a, callB_ok, callI_ok, callS_ok, callL_ok, callF_ok, callT_ok, tupB_ok, tupI_ok, tupS_ok, tupL_ok, tupF_ok, atNil_ok, wrap1, wrapM, wrapP, Int.toNat_natCast, svs_len, ivs_len, bvs_len, str_size, svs_mid, ivs_mid, str_dec, str_ext, str_byte, mid_byte, mid_cut, List.length_nil, List.length_singleton, svs_snoc, ivs_snoc, svs_take, svs_drop, str_app, List.take_length, List.drop_zero, List.nil_append, cond_true, cond_false, Option.bind_some, Bool.not_true, Bool.not_false, Bool.true_and, Bool.and_true]
  rw [cut_k t (by omega)]
  simp (disch := first | omega | (simp only [List.length_append, List.length_cons, List.length_nil, List.length_take, List.length_drop]; done) | (simp only [List.length_append, List.length_cons, List.length_nil, List.length_take, List.length_drop]; omega) | fail) only [bif_t, bif_f, bif_n, bif_a, callB_ok, callI_ok, callS_ok, callL_ok, callF_ok, callT_ok, tupB_ok, tupI_ok, tupS_ok, tupL_ok, tupF_ok, atNil_ok, wrap1, wrapM, wrapP, Int.toNat_natCast, svs_len, ivs_len, bvs_len, str_size, svs_mid, ivs_mid, str_dec, str_ext, str_byte, mid_byte, mid_cut, List.length_nil, List.length_singleton, svs_snoc, ivs_snoc, svs_take, svs_drop, str_app, List.take_length, List.drop_zero, List.nil_append, cond_true, cond_false, Option.bind_some, Bool.not_true, Bool.not_false, Bool.true_and, Bool.and_true]
  obtain ⟨m, h1, h2⟩ := natural_k (E := E) (k := k) (n := n) (t.take (dot t)) (by rw [List.length_take]; omega) (by rw [List.length_take]; omega)
  rw [h1]
  simp (disch := first | omega | (simp only [List.length_append, List.length_cons, List.length_nil, List.length_take, List.length_drop]; done) | (simp only [List.length_append, List.length_cons, List.length_nil, List.length_take, List.length_drop]; omega) | fail) only [bif_t, bif_f, bif_n, bif_a, callB_ok, callI_ok, callS_ok, callL_ok, callF_ok, callT_ok, tupB_ok, tupI_ok, tupS_ok, tupL_ok, tupF_ok, atNil_ok, wrap1, wrapM, wrapP, Int.toNat_natCast, svs_len, ivs_len, bvs_len, str_size, svs_mid, ivs_mid, str_dec, str_ext, str_byte, mid_byte, mid_cut, List.length_nil, List.length_singleton, svs_snoc, ivs_snoc, svs_take, svs_drop, str_app, List.take_length, List.drop_zero, List.nil_append, cond_true, cond_false, Option.bind_some, Bool.not_true, Bool.not_false, Bool.true_and, Bool.and_true]
  unfold timeB
  dsimp only
  cases ho : natOk (t.take (dot t)) with
  | false => rfl
  | true =>
    obtain rfl := h2 ho
    have hv := natOk_le ho
    generalize valA 0 (t.take (dot t)) = v at hv
    rw [if_neg (by simp)]
    simp only [half, cond_true, cond_false, Bool.not_true, Bool.not_false]
    by_cases hp : dot t < t.length
    · have hbl : (t.drop (dot t + 1)).length ≤ t.length := by rw [List.length_drop]; omega
      rw [decide_eq_true hp]
      generalize hbe : t.drop (dot t + 1) = b at hbl
      rw [if_pos hp]
      simp only [cond_true, cond_false, Bool.not_true, Bool.not_false]
      rw [digits_k b (by omega) (by omega)]
      simp (disch := first | omega | (simp only [List.length_append, List.length_cons, List.length_nil, List.length_take, List.length_drop]; done) | (simp only [List.length_append, List.length_cons, List.length_nil, List.length_take, List.length_drop]; omega) | fail) only [bif_t, bif_f, bif_n, bif_a, callB_ok, callI_ok, callS_ok, callL_ok, callF_ok, callT_ok, tupB_ok, tupI_ok, tupS_ok, tupL_ok, tupF_ok, atNil_ok, wrap1, wrapM, wrapP, Int.toNat_natCast, svs_len, ivs_len, bvs_len, str_size, svs_mid, ivs_mid, str_dec, str_ext, str_byte, mid_byte, mid_cut, List.length_nil, List.length_singleton, svs_snoc, ivs_snoc, svs_take, svs_drop, str_app, List.take_length, List.drop_zero, List.nil_append, cond_true, cond_false, Option.bind_some, Bool.not_true, Bool.not_false, Bool.true_and, Bool.and_true]
      cases hd : digs b with
      | false => rw [if_pos ⟨hp, fun h => by simp at h⟩]; rfl
      | true =>
        simp only [cond_true, cond_false, Bool.not_true, Bool.not_false]
        by_cases h9 : b.length ≤ 9
        · obtain ⟨q1, q2⟩ := nano_digs hd h9
          obtain ⟨q3, q4⟩ := parseI_eq q1 (by omega)
          rw [if_neg (fun h => h.2 ⟨trivial, h9⟩), bif_f (by omega), i64w (x := 9 - ((b.length : Nat) : Int)) (by omega), show (9 : Int) - ((b.length : Nat) : Int) = ((9 - b.length : Nat) : Int) from by omega, HasNum.rep k (n + 2) _ _ (by omega) (by rw [List.length_singleton]; omega), repeat48]
          simp (disch := first | omega | (simp only [List.length_append, List.length_cons, List.length_nil, List.length_take, List.length_drop]; done) | (simp only [List.length_append, List.length_cons, List.length_nil, List.length_take, List.length_drop]; omega) | fail) only [bif_t, bif_f, bif_n, bif_a, callB_ok, callI_ok, callS_ok, callL_ok, callF_ok, callT_ok, tupB_ok, tupI_ok, tupS_ok, tupL_ok, tupF_ok, atNil_ok, wrap1, wrapM, wrapP, Int.toNat_natCast, svs_len, ivs_len, bvs_len, str_size, svs_mid, ivs_mid, str_dec, str_ext, str_byte, mid_byte, mid_cut, List.length_nil, List.length_singleton, svs_snoc, ivs_snoc, svs_take, svs_drop, str_app, List.take_length, List.drop_zero, List.nil_append, cond_true, cond_false, Option.bind_some, Bool.not_true, Bool.not_false, Bool.true_and, Bool.and_true]
          rw [List.length_replicate, bif_t (by omega), HasNum.pint k (n + 2) _ (by omega), q3]
          generalize valA 0 (b ++ List.replicate (9 - b.length) 48) = w at q4
          unfold endI
          simp (disch := first | omega | (simp only [List.length_append, List.length_cons, List.length_nil, List.length_take, List.length_drop]; done) | (simp only [List.length_append, List.length_cons, List.length_nil, List.length_take, List.length_drop]; omega) | fail) only [bif_t, bif_f, bif_n, bif_a, callB_ok, callI_ok, callS_ok, callL_ok, callF_ok, callT_ok, tupB_ok, tupI_ok, tupS_ok, tupL_ok, tupF_ok, atNil_ok, wrap1, wrapM, wrapP, Int.toNat_natCast, svs_len, ivs_len, bvs_len, str_size, svs_mid, ivs_mid, str_dec, str_ext, str_byte, mid_byte, mid_cut, List.length_nil, List.length_singleton, svs_snoc, ivs_snoc, svs_take, svs_drop, str_app, List.take_length, List.drop_zero, List.nil_append, cond_true, cond_false, Option.bind_some, Bool.not_true, Bool.not_false, Bool.true_and, Bool.and_true]
          have e0 : ∀ K : AV → List AV → Option AV, tupV [AV.nili] K = K .nili [] := fun K => rfl
          rw [e0]
          simp (disch := first | omega | (simp only [List.length_append, List.length_cons, List.length_nil, List.length_take, List.length_drop]; done) | (simp only [List.length_append, List.length_cons, List.length_nil, List.length_take, List.length_drop]; omega) | fail) only [bif_t, bif_f, bif_n, bif_a, callB_ok, callI_ok, callS_ok, callL_ok, callF_ok, callT_ok, tupB_ok, tupI_ok, tupS_ok, tupL_ok, tupF_ok, atNil_ok, wrap1, wrapM, wrapP, Int.toNat_natCast, svs_len, ivs_len, bvs_len, str_size, svs_mid, ivs_mid, str_dec, str_ext, str_byte, mid_byte, mid_cut, List.length_nil, List.length_singleton, svs_snoc, ivs_snoc, svs_take, svs_drop, str_app, List.take_length, List.drop_zero, List.nil_append, cond_true, cond_false, Option.bind_some, Bool.not_true, Bool.not_false, Bool.true_and, Bool.and_true]
          cases minus with
          | false =>
            simp only [cond_true, cond_false, Bool.not_true, Bool.not_false, if_true]
            by_cases h3 : 9223372036854775807 < v
            · rw [bif_t h3, if_pos h3]; rfl
            · rw [bif_f h3, if_neg h3, i64w (by omega)]; rfl
          | true =>
            simp only [cond_true, cond_false, Bool.not_true, Bool.not_false, if_neg (show ¬ true = false by decide)]
            by_cases h4 : w = 0
            · subst h4
              rw [bif_t (by omega), if_pos rfl, negW (by omega)]; rfl
            · rw [bif_f (by omega), if_neg h4]
              by_cases h3 : 9223372036854775807 < v
              · rw [bif_t h3, if_pos h3]; rfl
              · rw [bif_f h3, if_neg h3, i64w (x := (v : Int)) (by omega), i64w (x := 0 - (v : Int)) (by omega), i64w (x := 0 - (v : Int) - 1) (by omega), i64w (by omega), show (0 : Int) - (v : Int) - 1 = -(v : Int) - 1 from by omega]; rfl
        · rw [if_pos ⟨hp, fun h => h9 h.2⟩, bif_t (by omega)]
          rfl
    · rw [decide_eq_false hp, if_neg (fun h => hp h.1), if_neg hp]
      simp only [cond_true, cond_false, Bool.not_true, Bool.not_false]
      cases minus with
      | false =>
        simp only [cond_true, cond_false, Bool.not_true, Bool.not_false, if_true]
        by_cases h3 : 9223372036854775807 < v
        · rw [bif_t h3, if_pos h3]; rfl
        · rw [bif_f h3, if_neg h3, i64w (by omega)]; rfl
      | true =>
        simp only [cond_true, cond_false, Bool.not_true, Bool.not_false, if_neg (show ¬ true = false by decide), if_true]
        rw [negW (by omega)]; rfl
end Go.Proofs.YtbkhmkcmbaffoaaGreatDoor.Eng.U


/- The Dec laws answer true. -/
set_option linter.unusedVariables false
set_option linter.unusedSectionVars false
set_option linter.unusedSimpArgs false
namespace Go.Proofs.YtbkhmkcmbaffoaaGreatDoor.Eng.U
open Go Go.Proofs Go.Proofs.YtbkhmkcmbaffoaaGreatDoor.Eng Go.Proofs.YtbkhmkcmbaffoaaGreatDoor.P04
variable {E : Ext} [Core E] [HasNum E] {k n : Nat}

end Go.Proofs.YtbkhmkcmbaffoaaGreatDoor.Eng.U


/- What functions answer, as the engine evaluates their code. Printed by gen2.py. -/
set_option linter.unusedVariables false
namespace Go.Proofs.YtbkhmkcmbaffoaaGreatDoor.Eng.U
open Go Go.Proofs Go.Proofs.YtbkhmkcmbaffoaaGreatDoor.Eng
/- strings.ContainsAny -/
theorem strings_ContainsAny_eq {E : Ext} [Core E] (k n : Nat) (a0 : ByteArray) (a1 : ByteArray) : kp E k (n + 1) strings_ContainsAny [(.str a0), (.str a1)] =
  (callI .i64 (kp E k n strings_IndexAny [(.str a0), (.str a1)]) fun vn2 => (some (.bool (decide (vn2 ≥ (0 : Int)))))) := (kp_at (by kernel_rfl)).trans (by kernel_rfl)
/- strings.IndexAny -/
noncomputable def strings_IndexAny_bd : Code := Tryz.f157.body.getD .skip
noncomputable def strings_IndexAny_L0 (kap : FuncId → List AV → Option AV) (k : Nat) (k0 : Nat) (s1 : ByteArray) (i45s : ByteArray) (i45p : Nat) : Option AV :=
  loop (fun fr K => code ((bs E0 k).cfg kap strings_IndexAny) (sel strings_IndexAny_bd [1, 1, 1, 1, 0, 1, 0, 0]) fr K) (canon ((bs E0 k).cfg kap strings_IndexAny) (firstReg (sel strings_IndexAny_bd [1, 1, 1, 1, 0, 1, 0, 0]))) k0 (mkFr 55 [(1, (.str s1)), (45, (.itr 45))] [(45, (.it i45s i45p))]) (plug ((bs E0 k).cfg kap strings_IndexAny) (retK ((bs E0 k).cfg kap strings_IndexAny) [] Tryz.f157 [] some) [.blk 2, .seqR (sel strings_IndexAny_bd [1, 1, 1, 1, 1])])
theorem strings_IndexAny_L0_s (kap : FuncId → List AV → Option AV) (k : Nat) (k0 : Nat) (s1 : ByteArray) (i45s : ByteArray) (i45p : Nat) : strings_IndexAny_L0 kap k (k0 + 1) s1 i45s i45p =
  (bif (decide (i45p < (ByteArray.size i45s))) then (callI .i64 (kap strings_IndexRune [(.str s1), (.int .i32 (((Utf8.decode i45s i45p).1 : Nat) : Int))]) fun vn8 => (bif (decide (vn8 ≥ (0 : Int))) then (some (.int .i64 ((i45p : Nat) : Int))) else (strings_IndexAny_L0 kap k k0 s1 i45s (i45p + (Utf8.decode i45s i45p).2)))) else (some (.int .i64 (-1 : Int)))) := by kernel_rfl
theorem strings_IndexAny_eq {E : Ext} [Core E] (hB : E.isBase strings_IndexAny = false) (hF : E.fs.contains strings_IndexAny = true) (k n : Nat) (a0 : ByteArray) (a1 : ByteArray) : kp E k (n + 1) strings_IndexAny [(.str a0), (.str a1)] =
  (bif (decide (a1 = (str []))) then (some (.int .i64 (-1 : Int))) else (bif (decide ((((ByteArray.size a1) : Nat) : Int) = (1 : Int))) then (bif (decide ((0 : Int) < (((ByteArray.size a1) : Nat) : Int))) then (bif (decide ((IntKind.wrap .i32 (byteAt a1 0)) ≥ (128 : Int))) then (callI .i64 (kp E k n strings_IndexRune [(.str a0), (.int .i32 (65533 : Int))]) fun vn2 => (some (.int .i64 vn2))) else (callI .i64 (kp E k n strings_IndexRune [(.str a0), (.int .i32 (IntKind.wrap .i32 (byteAt a1 0)))]) fun vn4 => (some (.int .i64 vn4)))) else none) else (callB (kp E k n strings_shouldUseASCIISet [(.int .i64 (((ByteArray.size a0) : Nat) : Int))]) fun vq6 => (bif vq6 then (code ((bs E0 k).cfg (kp E k n) strings_IndexAny) (sel strings_IndexAny_bd [1, 1, 1, 0, 1, 0]) (mkFr 55 [(0, (.str a0)), (1, (.str a1)), (4, (.int .i64 (0 : Int))), (11, (.str a1)), (12, (.bool (decide (a1 = (str []))))), (13, (.str a1)), (14, (.int .i64 (((ByteArray.size a1) : Nat) : Int))), (15, (.bool (decide ((((ByteArray.size a1) : Nat) : Int) = (1 : Int))))), (24, (.str a0)), (25, (.int .i64 (((ByteArray.size a0) : Nat) : Int))), (26, (.bool vq6))] []) (plug ((bs E0 k).cfg (kp E k n) strings_IndexAny) (retK ((bs E0 k).cfg (kp E k n) strings_IndexAny) [] Tryz.f157 [] some) [.seqR (sel strings_IndexAny_bd [1, 1, 1, 1])])) else (strings_IndexAny_L0 (kp E k n) k k a1 a0 0))))) := (Base.kap_at (B := bs E k) hB hF _).trans (by kernel_rfl)
/- strings.IndexRune -/
noncomputable def strings_IndexRune_bd : Code := Tryz.f194.body.getD .skip
noncomputable def strings_IndexRune_L0 (kap : FuncId → List AV → Option AV) (k : Nat) (k0 : Nat) (i175s : ByteArray) (i175p : Nat) : Option AV :=
  loop (fun fr K => code ((bs E0 k).cfg kap strings_IndexRune) (sel strings_IndexRune_bd [1, 0, 1, 1, 1, 0, 0, 1, 0, 0]) fr K) (canon ((bs E0 k).cfg kap strings_IndexRune) (firstReg (sel strings_IndexRune_bd [1, 0, 1, 1, 1, 0, 0, 1, 0, 0]))) k0 (mkFr 187 [(175, (.itr 175))] [(175, (.it i175s i175p))]) (plug ((bs E0 k).cfg kap strings_IndexRune) (retK ((bs E0 k).cfg kap strings_IndexRune) [] Tryz.f194 [] some) [.blk 9, .seqR (sel strings_IndexRune_bd [1, 0, 1, 1, 1, 0, 1]), .blk 0])
noncomputable def strings_IndexRune_L1 (kap : FuncId → List AV → Option AV) (k : Nat) (k1 : Nat) (s0 : ByteArray) (s7 : ByteArray) (s8 : Int) (s9 : Int) : Option AV :=
  loop (fun fr K => code ((bs E0 k).cfg kap strings_IndexRune) (sel strings_IndexRune_bd [1, 0, 1, 1, 1, 1, 1, 1, 0, 1, 1, 1, 1, 0, 0, 0]) fr K) (canon ((bs E0 k).cfg kap strings_IndexRune) (firstReg (sel strings_IndexRune_bd [1, 0, 1, 1, 1, 1, 1, 1, 0, 1, 1, 1, 1, 0, 0, 0]))) k1 (mkFr 187 [(0, (.str s0)), (7, (.str s7)), (8, (.int .i64 s8)), (9, (.int .i64 s9))] []) (plug ((bs E0 k).cfg kap strings_IndexRune) (retK ((bs E0 k).cfg kap strings_IndexRune) [] Tryz.f194 [] some) [.blk 1, .seqR (sel strings_IndexRune_bd [1, 0, 1, 1, 1, 1, 1, 1, 0, 1, 1, 1, 1, 1]), .blk 0])
noncomputable def strings_IndexRune_L2 (kap : FuncId → List AV → Option AV) (k : Nat) (k1 : Nat) (k2 : Nat) (s0 : ByteArray) (s7 : ByteArray) (s8 : Int) (s9 : Int) (s12 : Int) : Option AV :=
  loop (fun fr K => code ((bs E0 k).cfg kap strings_IndexRune) (sel strings_IndexRune_bd [1, 0, 1, 1, 1, 1, 1, 1, 0, 1, 1, 1, 1, 0, 0, 0, 1, 0, 0, 1, 0, 1, 0, 0]) fr K) (canon ((bs E0 k).cfg kap strings_IndexRune) (firstReg (sel strings_IndexRune_bd [1, 0, 1, 1, 1, 1, 1, 1, 0, 1, 1, 1, 1, 0, 0, 0, 1, 0, 0, 1, 0, 1, 0, 0]))) k2 (mkFr 187 [(0, (.str s0)), (7, (.str s7)), (8, (.int .i64 s8)), (9, (.int .i64 s9)), (12, (.int .i64 s12))] []) (plug ((bs E0 k).cfg kap strings_IndexRune) (retK ((bs E0 k).cfg kap strings_IndexRune) [] Tryz.f194 [] some) [.blk 3, .seqR (sel strings_IndexRune_bd [1, 0, 1, 1, 1, 1, 1, 1, 0, 1, 1, 1, 1, 0, 0, 0, 1, 0, 0, 1, 1]), .blk 2, .lp (sel strings_IndexRune_bd [1, 0, 1, 1, 1, 1, 1, 1, 0, 1, 1, 1, 1, 0, 0, 0]) k1, .blk 1, .seqR (sel strings_IndexRune_bd [1, 0, 1, 1, 1, 1, 1, 1, 0, 1, 1, 1, 1, 1]), .blk 0])
theorem strings_IndexRune_L0_s (kap : FuncId → List AV → Option AV) (k : Nat) (k0 : Nat) (i175s : ByteArray) (i175p : Nat) : strings_IndexRune_L0 kap k (k0 + 1) i175s i175p =
  (bif (decide (i175p < (ByteArray.size i175s))) then (bif (decide ((((Utf8.decode i175s i175p).1 : Nat) : Int) = (65533 : Int))) then (some (.int .i64 ((i175p : Nat) : Int))) else (strings_IndexRune_L0 kap k k0 i175s (i175p + (Utf8.decode i175s i175p).2))) else (some (.int .i64 (-1 : Int)))) := by kernel_rfl
theorem strings_IndexRune_L1_s (kap : FuncId → List AV → Option AV) (k : Nat) (k1 : Nat) (s0 : ByteArray) (s7 : ByteArray) (s8 : Int) (s9 : Int) : strings_IndexRune_L1 kap k (k1 + 1) s0 s7 s8 s9 =
  (bif (decide (s9 < (((ByteArray.size s0) : Nat) : Int))) then (bif ((decide ((0 : Int) ≤ s9)) && (decide (s9 < (((ByteArray.size s0) : Nat) : Int)))) then (bif ((decide ((0 : Int) ≤ s8)) && (decide (s8 < (((ByteArray.size s7) : Nat) : Int)))) then (bif (!(decide ((byteAt s0 (Int.toNat s9)) = (byteAt s7 (Int.toNat s8))))) then (bif ((decide ((0 : Int) ≤ (IntKind.wrap .i64 (s9 + (1 : Int))))) && (decide ((IntKind.wrap .i64 (s9 + (1 : Int))) ≤ (((ByteArray.size s0) : Nat) : Int)))) then (bif ((decide ((0 : Int) ≤ s8)) && (decide (s8 < (((ByteArray.size s7) : Nat) : Int)))) then (callI .i64 (kap strings_IndexByte [(.str (ByteArray.extract s0 (Int.toNat (IntKind.wrap .i64 (s9 + (1 : Int)))) (ByteArray.size s0))), (.int .u8 (byteAt s7 (Int.toNat s8)))]) fun vn6 => (bif (decide (vn6 < (0 : Int))) then (some (.int .i64 (-1 : Int))) else (strings_IndexRune_L2 kap k k1 k s0 s7 s8 (IntKind.wrap .i64 (s9 + (IntKind.wrap .i64 (vn6 + (1 : Int))))) (1 : Int)))) else none) else none) else (strings_IndexRune_L2 kap k k1 k s0 s7 s8 s9 (1 : Int))) else none) else none) else (some (.int .i64 (-1 : Int)))) := by kernel_rfl
theorem strings_IndexRune_eq {E : Ext} [Core E] (k n : Nat) (a0 : ByteArray) (a1 : Int) : kp E k (n + 1) strings_IndexRune [(.str a0), (.int .i32 a1)] =
  (bif (decide ((0 : Int) ≤ a1)) then (bif (decide (a1 < (128 : Int))) then (callI .i64 (kp E k n strings_IndexByte [(.str a0), (.int .u8 (IntKind.wrap .u8 a1))]) fun vn2 => (some (.int .i64 vn2))) else (bif (decide (a1 = (65533 : Int))) then (strings_IndexRune_L0 (kp E k n) k k a0 0) else (callB (kp E k n unicode_utf8_ValidRune [(.int .i32 a1)]) fun vq4 => (bif (!vq4) then (some (.int .i64 (-1 : Int))) else (strings_IndexRune_L1 (kp E k n) k k a0 (Utf8.encode a1) (IntKind.wrap .i64 ((((ByteArray.size (Utf8.encode a1)) : Nat) : Int) - (1 : Int))) (IntKind.wrap .i64 ((((ByteArray.size (Utf8.encode a1)) : Nat) : Int) - (1 : Int)))))))) else (bif (decide (a1 = (65533 : Int))) then (strings_IndexRune_L0 (kp E k n) k k a0 0) else (callB (kp E k n unicode_utf8_ValidRune [(.int .i32 a1)]) fun vq8 => (bif (!vq8) then (some (.int .i64 (-1 : Int))) else (strings_IndexRune_L1 (kp E k n) k k a0 (Utf8.encode a1) (IntKind.wrap .i64 ((((ByteArray.size (Utf8.encode a1)) : Nat) : Int) - (1 : Int))) (IntKind.wrap .i64 ((((ByteArray.size (Utf8.encode a1)) : Nat) : Int) - (1 : Int)))))))) := (kp_at (by kernel_rfl)).trans (by kernel_rfl)
/- strings.shouldUseASCIISet -/
theorem strings_shouldUseASCIISet_eq {E : Ext} [Core E] (k n : Nat) (a0 : Int) : kp E k (n + 1) strings_shouldUseASCIISet [(.int .i64 a0)] =
  (some (.bool (decide (a0 > (8 : Int))))) := (kp_at (by kernel_rfl)).trans (by kernel_rfl)
/- unicode/utf8.ValidRune -/
theorem unicode_utf8_ValidRune_eq {E : Ext} [Core E] (k n : Nat) (a0 : Int) : kp E k (n + 1) unicode_utf8_ValidRune [(.int .i32 a0)] =
  (bif (decide ((0 : Int) ≤ a0)) then (bif (decide (a0 < (55296 : Int))) then (some (.bool true)) else (bif (decide ((57343 : Int) < a0)) then (bif (decide (a0 ≤ (1114111 : Int))) then (some (.bool true)) else (some (.bool false))) else (some (.bool false)))) else (bif (decide ((57343 : Int) < a0)) then (bif (decide (a0 ≤ (1114111 : Int))) then (some (.bool true)) else (some (.bool false))) else (some (.bool false)))) := (kp_at (by kernel_rfl)).trans (by kernel_rfl)
end Go.Proofs.YtbkhmkcmbaffoaaGreatDoor.Eng.U


/- Is any field of a head wrong: some number answers, and 0 says what ItemFulls wants. -/
set_option linter.unusedVariables false
set_option linter.unusedSectionVars false
set_option linter.unusedSimpArgs false
namespace Go.Proofs.YtbkhmkcmbaffoaaGreatDoor.Eng.U
open Go Go.Proofs Go.Proofs.YtbkhmkcmbaffoaaGreatDoor.Eng Go.Proofs.YtbkhmkcmbaffoaaGreatDoor.P04
variable {E : Ext} [Core E] [HasNum E] {k n : Nat}

class HasText (E : Ext) : Prop where
  dec : ∀ (k n : Nat) (s : List UInt8), ∃ r w : Int, kp E k n unicode_utf8_DecodeRuneInString [.str (str s)] = some (.tup [.int .i32 r, .int .i64 w])
  idx : ∀ (k n : Nat) (s : List UInt8), s.length ≤ 1000000 → ∃ i : Int, kp E k n strings_IndexAny [.str (str s), .str (str [61, 0])] = some (.int .i64 i)
theorem snoc_pairs (s : List Pair) : s = [] ∨ ∃ l c, s = l ++ [c] := by
  induction s with
  | nil => exact .inl rfl
  | cons x s ih =>
    rcases ih with rfl | ⟨l, c, rfl⟩
    · exact .inr ⟨[], x, rfl⟩
    · exact .inr ⟨x :: l, c, rfl⟩
def IsB (x : Option AV) : Prop := ∃ b : Bool, x = some (.bool b)
theorem isB_some (b : Bool) : IsB (some (.bool b)) := ⟨b, rfl⟩
theorem isB_bif {c : Bool} {a b : Option AV} (h1 : IsB a) (h2 : IsB b) : IsB (bif c then a else b) := by cases c <;> assumption
section
variable [HasText E]
theorem width_pos (s : ByteArray) (i : Nat) : 1 ≤ (Utf8.decode s i).2 := by
  rw [Lib.decode_at]
  unfold Lib.decodeN
  (repeat' split) <;> simp
end
end Go.Proofs.YtbkhmkcmbaffoaaGreatDoor.Eng.U


/- strings.IndexAny at "=\x00" and a text of at most 8 bytes: some place. -/
set_option linter.unusedVariables false
set_option linter.unusedSectionVars false
set_option linter.unusedSimpArgs false
namespace Go.Proofs.YtbkhmkcmbaffoaaGreatDoor.Eng.U
open Go Go.Proofs Go.Proofs.YtbkhmkcmbaffoaaGreatDoor.Eng
variable {E : Ext} [Core E] {k n : Nat}

class HasIB (E : Ext) : Prop where
  indexB : ∀ (k n : Nat) (s : List UInt8) (c : Int), kp E k n strings_IndexByte [.str (str s), .int .u8 c] = some (.int .i64 (Lib.indexByte s c.toNat.toUInt8))
theorem valid_B (r : Int) : IsB (kp E k (n + 1) unicode_utf8_ValidRune [.int .i32 r]) := by
  rw [unicode_utf8_ValidRune_eq]
  repeat' first | exact isB_some _ | refine isB_bif ?_ ?_
theorem enc_facts (r : Nat) (h : 128 ≤ r) : (Utf8.encode (r : Int)).size = 2 ∧ 128 ≤ byteAt (Utf8.encode (r : Int)) 1 ∨ (Utf8.encode (r : Int)).size = 3 ∨ (Utf8.encode (r : Int)).size = 4 := by
  unfold Utf8.encode
  dsimp only
  have hc : 128 ≤ (if Utf8.valid (r : Int) = true then Int.toNat (r : Int) else Utf8.runeError) := by
    split
    · omega
    · decide
  generalize (if Utf8.valid (r : Int) = true then Int.toNat (r : Int) else Utf8.runeError) = c at hc
  rw [if_neg (show ¬ c < 128 by omega)]
  split
  · refine .inl ⟨rfl, ?_⟩
    show (128 : Int) ≤ (((UInt8.ofNat (128 + c % 64)).toNat : Nat) : Int)
    rw [UInt8.toNat_ofNat']
    omega
  · split
    · exact .inr (.inl rfl)
    · exact .inr (.inr rfl)
theorem rune_I [HasIB E] (r : Nat) (hk : 10 < k) : ∃ i : Int, kp E k (n + 2) strings_IndexRune [.str (str [61, 0]), .int .i32 (r : Int)] = some (.int .i64 i) := by
  obtain ⟨k, rfl⟩ : ∃ j, k = j + 3 := ⟨k - 3, by omega⟩
  rw [strings_IndexRune_eq, bif_t (by omega)]
  by_cases h1 : r < 128
  · rw [bif_t (by omega), HasIB.indexB, callI_ok]; exact ⟨_, rfl⟩
  · rw [bif_f (by omega)]
    by_cases h2 : (r : Int) = 65533
    · rw [bif_t h2]
      have d0 : Utf8.decode (str [61, 0]) 0 = (61, 1) := by decide +kernel
      have d1 : Utf8.decode (str [61, 0]) 1 = (0, 1) := by decide +kernel
      have sz : (str [61, 0]).size = 2 := rfl
      have z1 : 0 + ((61, 1) : Nat × Nat).2 = 1 := rfl
      have z2 : 1 + ((0, 1) : Nat × Nat).2 = 2 := rfl
      rw [strings_IndexRune_L0_s, sz, d0, z1, bif_t (by omega), bif_f (by decide), strings_IndexRune_L0_s, sz, d1, z2, bif_t (by omega), bif_f (by decide), strings_IndexRune_L0_s, sz, bif_f (by omega)]
      exact ⟨_, rfl⟩
    · rw [bif_f h2]
      obtain ⟨b, hb⟩ := valid_B (E := E) (k := k + 3) (n := n) (r : Int)
      rw [hb, callB_ok]
      cases b with
      | false => exact ⟨_, rfl⟩
      | true =>
        rw [Bool.not_true, cond_false]
        have sz : (str [61, 0]).size = 2 := rfl
        rcases enc_facts r (by omega) with ⟨e1, e2⟩ | e1 | e1
        · rw [e1, i64w (by omega), strings_IndexRune_L1_s, sz, e1]
          have hb1 : byteAt (str [61, 0]) 1 = 0 := rfl
          have e3 : Int.toNat (((2 : Nat) : Int) - 1) = 1 := rfl
          rw [bif_t (by omega), bif_a, bif_t (by omega), bif_t (by omega), bif_a, bif_t (by omega), bif_t (by omega), e3, hb1, decide_eq_false (by omega), Bool.not_false, cond_true, i64w (by omega), bif_a, bif_t (by omega), bif_t (by omega), bif_a, bif_t (by omega), bif_t (by omega)]
          have e4 : Int.toNat (((2 : Nat) : Int) - 1 + 1) = 2 := rfl
          have e5 : ByteArray.extract (str [61, 0]) 2 2 = str [] := by decide +kernel
          rw [e4, e5, HasIB.indexB, callI_ok]
          have e6 : Lib.indexByte [] (byteAt (Utf8.encode (r : Int)) 1).toNat.toUInt8 = -1 := rfl
          rw [e6, bif_t (by omega)]
          exact ⟨_, rfl⟩
        · rw [e1, i64w (by omega), strings_IndexRune_L1_s, sz, bif_f (by omega)]; exact ⟨_, rfl⟩
        · rw [e1, i64w (by omega), strings_IndexRune_L1_s, sz, bif_f (by omega)]; exact ⟨_, rfl⟩
theorem any_loop [HasIB E] (hk : 10 < k) (s : List UInt8) : ∀ (m k0 i : Nat), s.length - i < m → m ≤ k0 → ∃ r : Int, strings_IndexAny_L0 (kp E k (n + 2)) k k0 (str [61, 0]) (str s) i = some (.int .i64 r)
  | 0, k0, i, h, _ => by omega
  | m + 1, k0 + 1, i, h, hkk => by
    rw [strings_IndexAny_L0_s, str_size]
    by_cases hi : i < s.length
    · rw [decide_eq_true hi, cond_true]
      obtain ⟨x, hx⟩ := rune_I (E := E) (k := k) (n := n) (Utf8.decode (str s) i).1 hk
      rw [hx, callI_ok]
      by_cases h0 : x ≥ 0
      · rw [bif_t h0]; exact ⟨_, rfl⟩
      · rw [bif_f h0]
        have hw := width_pos (str s) i
        exact any_loop hk s m k0 (i + (Utf8.decode (str s) i).2) (by omega) (by omega)
    · rw [decide_eq_false hi, cond_false]
      exact ⟨_, rfl⟩
theorem any_short [HasIB E] (hB : E.isBase strings_IndexAny = false) (hF : E.fs.contains strings_IndexAny = true) (hk : 10 < k) (s : List UInt8) (hs : s.length ≤ 8) : ∃ r : Int, kp E k (n + 3) strings_IndexAny [.str (str s), .str (str [61, 0])] = some (.int .i64 r) := by
  have sz : (str [61, 0]).size = 2 := rfl
  rw [strings_IndexAny_eq hB hF, sz, str_size, bif_f (by decide), bif_f (by omega), strings_shouldUseASCIISet_eq, callB_ok, bif_f (by omega)]
  exact any_loop hk s k k 0 (by omega) (Nat.le_refl _)
end Go.Proofs.YtbkhmkcmbaffoaaGreatDoor.Eng.U


/- What functions answer, as the engine evaluates their code. Printed by gen2.py. -/
set_option linter.unusedVariables false
namespace Go.Proofs.YtbkhmkcmbaffoaaGreatDoor.Eng.U
open Go Go.Proofs Go.Proofs.YtbkhmkcmbaffoaaGreatDoor.Eng
/- oakum/oakumref09.Wrong -/
/- oakum/oakumref07.Same -/
noncomputable def ref07_Same_bd : Code := Tryz.f24.body.getD .skip
noncomputable def ref07_Same_L0 (kap : FuncId → List AV → Option AV) (k : Nat) (k0 : Nat) (s0 : List AV) (s1 : List AV) (s5 : Int) : Option AV :=
  loop (fun fr K => code ((bs E0 k).cfg kap ref07_Same) (sel ref07_Same_bd [1, 1, 0, 1, 0, 0]) fr K) (canon ((bs E0 k).cfg kap ref07_Same) (firstReg (sel ref07_Same_bd [1, 1, 0, 1, 0, 0]))) k0 (mkFr 26 [(0, (.list 2 s0)), (1, (.list 2 s1)), (5, (.int .i64 s5))] []) (plug ((bs E0 k).cfg kap ref07_Same) (retK ((bs E0 k).cfg kap ref07_Same) [] Tryz.f24 [] some) [.blk 0, .seqR (sel ref07_Same_bd [1, 1, 1])])
theorem ref07_Same_L0_s (kap : FuncId → List AV → Option AV) (k : Nat) (k0 : Nat) (s0 : List AV) (s1 : List AV) (s5 : Int) : ref07_Same_L0 kap k (k0 + 1) s0 s1 s5 =
  (bif (decide (s5 < (((List.length s0) : Nat) : Int))) then (bif ((decide ((0 : Int) ≤ s5)) && (decide (s5 < (((List.length s0) : Nat) : Int)))) then ((s0[(Int.toNat s5)]?).bind fun vy1 => (cellS (AV.cells vy1) 0 fun vs2 => (cellS (AV.cells vy1) 1 fun vs3 => (bif ((decide ((0 : Int) ≤ s5)) && (decide (s5 < (((List.length s1) : Nat) : Int)))) then ((s1[(Int.toNat s5)]?).bind fun vy4 => (cellS (AV.cells vy4) 0 fun vs5 => (cellS (AV.cells vy4) 1 fun vs6 => (bif (!((decide (vs2 = vs5)) && ((decide (vs3 = vs6)) && true))) then (some (.bool false)) else (ref07_Same_L0 kap k k0 s0 s1 (IntKind.wrap .i64 (s5 + (1 : Int)))))))) else none)))) else none) else (some (.bool true))) := by kernel_rfl
theorem ref07_Same_eq {E : Ext} [Core E] (k n : Nat) (a0 : List AV) (a1 : List AV) : kp E k (n + 1) ref07_Same [(.list 2 a0), (.list 2 a1)] =
  (bif (!(decide ((((List.length a0) : Nat) : Int) = (((List.length a1) : Nat) : Int)))) then (some (.bool false)) else (ref07_Same_L0 (kp E k n) k k a0 a1 (0 : Int))) := (kp_at (by kernel_rfl)).trans (by kernel_rfl)
/- oakum/pax.Parse -/
/- oakum/oakumref09.Same -/
/- oakum/oakumref08.SameHead -/
theorem ref08_SameHead_eq {E : Ext} [Core E] (k n : Nat) (a0_0 : Int) (a0_1 : ByteArray) (a0_2 : ByteArray) (a0_3 : Int) (a0_4 : Int) (a0_5 : Int) (a0_6 : Int) (a0_7 : Int) (a0_8 : Int) (a0_9 : ByteArray) (a0_10 : ByteArray) (a0_11 : Int) (a0_12 : Int) (a0_13 : List AV) (a1_0 : Int) (a1_1 : ByteArray) (a1_2 : ByteArray) (a1_3 : Int) (a1_4 : Int) (a1_5 : Int) (a1_6 : Int) (a1_7 : Int) (a1_8 : Int) (a1_9 : ByteArray) (a1_10 : ByteArray) (a1_11 : Int) (a1_12 : Int) (a1_13 : List AV) : kp E k (n + 1) ref08_SameHead [(.agg [(.int .i64 a0_0), (.str a0_1), (.str a0_2), (.int .i64 a0_3), (.int .i64 a0_4), (.int .i64 a0_5), (.int .i64 a0_6), (.int .i64 a0_7), (.int .i64 a0_8), (.str a0_9), (.str a0_10), (.int .i64 a0_11), (.int .i64 a0_12), (.list 2 a0_13)]), (.agg [(.int .i64 a1_0), (.str a1_1), (.str a1_2), (.int .i64 a1_3), (.int .i64 a1_4), (.int .i64 a1_5), (.int .i64 a1_6), (.int .i64 a1_7), (.int .i64 a1_8), (.str a1_9), (.str a1_10), (.int .i64 a1_11), (.int .i64 a1_12), (.list 2 a1_13)])] =
  (bif (decide (a0_0 = a1_0)) then (bif (decide (a0_1 = a1_1)) then (bif (decide (a0_2 = a1_2)) then (bif (decide (a0_3 = a1_3)) then (bif (decide (a0_4 = a1_4)) then (bif (decide (a0_5 = a1_5)) then (bif (decide (a0_6 = a1_6)) then (bif ((decide (a0_7 = a1_7)) && ((decide (a0_8 = a1_8)) && true)) then (bif (decide (a0_9 = a1_9)) then (bif (decide (a0_10 = a1_10)) then (bif (decide (a0_11 = a1_11)) then (bif (decide (a0_12 = a1_12)) then (callB (kp E k n ref07_Same [(.list 2 a0_13), (.list 2 a1_13)]) fun vq2 => (some (.bool vq2))) else (some (.bool false))) else (some (.bool false))) else (some (.bool false))) else (some (.bool false))) else (some (.bool false))) else (some (.bool false))) else (some (.bool false))) else (some (.bool false))) else (some (.bool false))) else (some (.bool false))) else (some (.bool false))) else (some (.bool false))) := (kp_at (by kernel_rfl)).trans (by kernel_rfl)
/- oakum/oakumref09.Right -/
/- oakum/oakumref09.fields -/
/- oakum/oakumref07.Len -/
/- oakum/oakumref09.Fulls -/
/- oakum/oakumref09.Slash -/
/- oakum/oakumref05.First -/
/- oakum/oakumref08.Lay -/
/- oakum/pax.Len -/
noncomputable def pax_Len_bd : Code := Tryz.f75.body.getD .skip
noncomputable def pax_Len_L0 (kap : FuncId → List AV → Option AV) (k : Nat) (k0 : Nat) (s3 : Int) (s4 : Int) : Option AV :=
  loop (fun fr K => code ((bs E0 k).cfg kap pax_Len) (sel pax_Len_bd [1, 1, 1, 0, 0]) fr K) (canon ((bs E0 k).cfg kap pax_Len) (firstReg (sel pax_Len_bd [1, 1, 1, 0, 0]))) k0 (mkFr 25 [(3, (.int .i64 s3)), (4, (.int .i64 s4))] []) (plug ((bs E0 k).cfg kap pax_Len) (retK ((bs E0 k).cfg kap pax_Len) [] Tryz.f75 [] some) [.blk 0])
theorem pax_Len_L0_s (kap : FuncId → List AV → Option AV) (k : Nat) (k0 : Nat) (s3 : Int) (s4 : Int) : pax_Len_L0 kap k (k0 + 1) s3 s4 =
  (callS (kap strconv_Itoa [(.int .i64 s4)]) fun vs2 => (bif (decide ((IntKind.wrap .i64 (s3 + (((ByteArray.size vs2) : Nat) : Int))) = s4)) then (some (.int .i64 s4)) else (pax_Len_L0 kap k k0 s3 (IntKind.wrap .i64 (s3 + (((ByteArray.size vs2) : Nat) : Int)))))) := by kernel_rfl
theorem pax_Len_eq {E : Ext} [Core E] (k n : Nat) (a0_0 : ByteArray) (a0_1 : ByteArray) : kp E k (n + 1) pax_Len [(.agg [(.str a0_0), (.str a0_1)])] =
  (pax_Len_L0 (kp E k n) k k (IntKind.wrap .i64 ((IntKind.wrap .i64 ((((ByteArray.size a0_0) : Nat) : Int) + (((ByteArray.size a0_1) : Nat) : Int))) + (3 : Int))) (IntKind.wrap .i64 ((IntKind.wrap .i64 ((((ByteArray.size a0_0) : Nat) : Int) + (((ByteArray.size a0_1) : Nat) : Int))) + (3 : Int)))) := (kp_at (by kernel_rfl)).trans (by kernel_rfl)
/- oakum/pax.record -/
/- oakum/oakumref01.Same -/
/- oakum/oakumref09.name -/
/- oakum/oakumref08.Right -/
/- oakum/oakumref07.Which -/
/- oakum/oakumref05.Ends -/
/- oakum/oakumref08.Last -/
/- oakum/pax.length -/
/- oakum/oakumref05.Mend -/
/- oakum/oakumref05.Cut -/
/- oakum/oakumref02.Clean -/
/- oakum/oakumref07.Right -/
/- oakum/oakumref07.Keys -/
/- oakum/oakumref05.size -/
/- oakum/oakumref02.Get -/
end Go.Proofs.YtbkhmkcmbaffoaaGreatDoor.Eng.U


/- The Utf laws in plain words, part 1: how many bytes stand for a code point. -/
set_option linter.unusedVariables false
set_option linter.unusedSimpArgs false
namespace Go.Proofs.YtbkhmkcmbaffoaaGreatDoor.Eng.U
open Go Go.Proofs Go.Proofs.YtbkhmkcmbaffoaaGreatDoor.Eng Go.Lib
variable {kap : FuncId → List AV → Option AV} {E : Ext} [Core E] {n : Nat}
def goDec (s : ByteArray) : Nat × Nat := if s.size = 0 then (65533, 0) else Utf8.decode s 0

def by_ (s : ByteArray) (i : Nat) : Nat := (s.data.toList.getD i 0).toNat
theorem by_lt (s : ByteArray) (i : Nat) : by_ s i < 256 := UInt8.toNat_lt _
theorem get_by (s : ByteArray) (i : Nat) : (s.get! i).toNat = by_ s i := by
  unfold by_
  congr 1
  simp [ByteArray.get!, List.getD_eq_getElem?_getD, Array.getElem!_eq_getD, Array.getD_eq_getD_getElem?]
  rfl
theorem i64w {x : Int} (h : -9223372036854775808 ≤ x ∧ x ≤ 9223372036854775807) : IntKind.wrap .i64 x = x := IntWalk.i64_in x h

end Go.Proofs.YtbkhmkcmbaffoaaGreatDoor.Eng.U


/- The Utf laws in plain words, part 2: the size of a code point is what the decoder says. -/
set_option linter.unusedVariables false
set_option linter.unusedSimpArgs false
namespace Go.Proofs.YtbkhmkcmbaffoaaGreatDoor.Eng.U
open Go Go.Proofs Go.Proofs.YtbkhmkcmbaffoaaGreatDoor.Eng Go.Lib
variable {kap : FuncId → List AV → Option AV} {E : Ext} [Core E] {n : Nat}

end Go.Proofs.YtbkhmkcmbaffoaaGreatDoor.Eng.U


/- The Utf laws in plain words, part 3: the functions that go through a text. -/
set_option linter.unusedVariables false
set_option linter.unusedSimpArgs false
namespace Go.Proofs.YtbkhmkcmbaffoaaGreatDoor.Eng.U
open Go Go.Proofs Go.Proofs.YtbkhmkcmbaffoaaGreatDoor.Eng Go.Lib
variable {kap : FuncId → List AV → Option AV} {E : Ext} [Core E] {n : Nat}

/-- Is the byte at a place no part of a code point? -/
def bad (s : ByteArray) (i : Nat) : Prop := Utf8.decode s i = (65533, 1)
instance (s : ByteArray) (i : Nat) : Decidable (bad s i) := inferInstanceAs (Decidable (_ = _))
/-- The place behind what stands at a place. -/
def nx (s : ByteArray) (i : Nat) : Nat := i + (Utf8.decode s i).2
theorem width_le (s : ByteArray) (i : Nat) : 1 ≤ (Utf8.decode s i).2 ∧ (Utf8.decode s i).2 ≤ 4 := by
  rw [decode_at]
  unfold decodeN
  repeat' split
  all_goals simp
theorem nx_gt (s : ByteArray) (i : Nat) : i < nx s i ∧ nx s i ≤ i + 4 := by have := width_le s i; unfold nx; omega
theorem decode_in (s : ByteArray) (i : Nat) (h : i < s.size) : nx s i ≤ s.size := by
  unfold nx
  rw [decode_at]
  unfold decodeN
  repeat' split
  all_goals (simp only; omega)
/-- The ends of all that stands in a text, from a place on: below zero where a byte is no part of a code point. -/
def endsL (s : ByteArray) : Nat → Nat → List Int
  | 0, _ => []
  | n + 1, pos => if pos < s.size then (if bad s pos then -(nx s pos : Int) else (nx s pos : Int)) :: endsL s n (nx s pos) else []
def ends (s : ByteArray) : List Int := endsL s s.size 0
/-- The place of the first byte that is no part of a code point; -1: there is none. -/
def firstL (s : ByteArray) : Nat → Nat → Int
  | 0, _ => -1
  | n + 1, pos => if pos < s.size then (if bad s pos then (pos : Int) else firstL s n (nx s pos)) else -1
def first (s : ByteArray) : Int := firstL s s.size 0
theorem utf_wrong_spec {K : Nat} {s : ByteArray} {i : Nat} (hi : i < s.size) (h69 : ∀ t, kp E K n unicode_utf8_DecodeRuneInString [.str t] = some (.tup [.int .i32 ((goDec t).1 : Int), .int .i64 ((goDec t).2 : Int)])) :
    kp E K (n + 1) utf_wrong [.str s, .int .i64 (i : Int), .int .i32 ((Utf8.decode s i).1 : Int)] = some (.bool (decide (bad s i))) := by
  rw [utf_wrong_eq]
  by_cases h : (Utf8.decode s i).1 = 65533
  · rw [show decide ((((Utf8.decode s i).1 : Nat) : Int) = 65533) = true from by simp; omega, show (decide ((0 : Int) ≤ (i : Int)) && decide ((i : Int) ≤ (s.size : Int))) = true from by simp; omega]
    simp only [Bool.not_true, cond_false, cond_true, h69, callT_ok, tupI_ok, atNil_ok]
    have e : goDec (s.extract ((i : Int)).toNat s.size) = Utf8.decode s i := by
      rw [show ((i : Int)).toNat = i from by omega]
      unfold goDec
      rw [if_neg (by rw [tail_size]; omega), decode_at, decode_at, tail_size, Nat.sub_zero]
      simp only [tail_get!, Nat.add_zero, Nat.zero_add]
    rw [e]
    congr 2
    refine decide_eq_decide.2 ?_
    unfold bad
    rw [Prod.ext_iff]
    simp only [h, true_and]
    omega
  · rw [show decide ((((Utf8.decode s i).1 : Nat) : Int) = 65533) = false from by simp; omega]
    simp only [Bool.not_false, cond_true]
    rw [show decide (bad s i) = false from by simp only [decide_eq_false_iff_not]; intro hb; exact h (by rw [show Utf8.decode s i = _ from hb])]
theorem L13 {K : Nat} {s : ByteArray} (h50 : ∀ i, i < s.size → kap utf_wrong [.str s, .int .i64 (i : Int), .int .i32 ((Utf8.decode s i).1 : Int)] = some (.bool (decide (bad s i)))) :
    ∀ (n m pos : Nat), s.size ≤ pos + n → n < m → utf_First_L0 kap K m s s pos = some (.int .i64 (firstL s n pos)) := by
  intro n
  induction n with
  | zero =>
    intro m pos hn hm
    obtain ⟨m, rfl⟩ : ∃ m', m = m' + 1 := ⟨m - 1, by omega⟩
    rw [utf_First_L0_s, show decide (pos < s.size) = false from by simp; omega]
    rfl
  | succ n ih =>
    intro m pos hn hm
    obtain ⟨m, rfl⟩ : ∃ m', m = m' + 1 := ⟨m - 1, by omega⟩
    unfold firstL
    by_cases hlt : pos < s.size
    · have hw := nx_gt s pos
      rw [utf_First_L0_s, show decide (pos < s.size) = true from by simpa using hlt, h50 pos hlt, if_pos hlt]
      simp only [cond_true, callB_ok]
      by_cases hb : bad s pos
      · rw [if_pos hb, decide_eq_true hb]; rfl
      · rw [if_neg hb, decide_eq_false hb]
        exact ih m (nx s pos) (by omega) (by omega)
    · rw [utf_First_L0_s, show decide (pos < s.size) = false from by simpa using hlt, if_neg hlt]
      rfl
theorem utf_First_spec {K : Nat} {s : ByteArray} (hK : s.size < K) (h50 : ∀ i, i < s.size → kp E K n utf_wrong [.str s, .int .i64 (i : Int), .int .i32 ((Utf8.decode s i).1 : Int)] = some (.bool (decide (bad s i)))) : kp E K (n + 1) utf_First [.str s] = some (.int .i64 (first s)) := by
  rw [utf_First_eq]
  exact L13 h50 s.size K 0 (by omega) hK
theorem utf_Right_spec {K : Nat} {s : ByteArray} (h13 : kp E K n utf_First [.str s] = some (.int .i64 (first s))) : kp E K (n + 1) utf_Right [.str s] = some (.bool (decide (first s < 0))) := by
  rw [utf_Right_eq, h13]
  rfl
theorem endsL_length (s : ByteArray) : ∀ (n pos : Nat), (endsL s n pos).length ≤ n
  | 0, pos => by simp [endsL]
  | n + 1, pos => by
    unfold endsL
    split
    · have := endsL_length s n (nx s pos)
      simp; omega
    · simp
end Go.Proofs.YtbkhmkcmbaffoaaGreatDoor.Eng.U


/- Which texts hold = or a nought, told exactly. -/
set_option linter.unusedVariables false
set_option linter.unusedSectionVars false
set_option linter.unusedSimpArgs false
namespace Go.Proofs.YtbkhmkcmbaffoaaGreatDoor.Eng.U
open Go Go.Proofs Go.Proofs.YtbkhmkcmbaffoaaGreatDoor.Eng
variable {E : Ext} [Core E] {k n : Nat}

def noEq (s : List UInt8) : Bool := s.all fun c => decide (c ≠ 61) && decide (c ≠ 0)
theorem idx_rune (r : Nat) (h : r < 128) : (0 : Int) ≤ Lib.indexByte [61, 0] (IntKind.wrap .u8 (r : Int)).toNat.toUInt8 ↔ r = 61 ∨ r = 0 := by
  have : ∀ r : _root_.Fin 128, ((0 : Int) ≤ Lib.indexByte [61, 0] (IntKind.wrap .u8 ((r.1 : Nat) : Int)).toNat.toUInt8 ↔ r.1 = 61 ∨ r.1 = 0) := by decide +kernel
  exact this ⟨r, h⟩
theorem rune_V [HasIB E] (r : Nat) (hk : 10 < k) : ∃ i : Int, kp E k (n + 2) strings_IndexRune [.str (str [61, 0]), .int .i32 (r : Int)] = some (.int .i64 i) ∧ (0 ≤ i ↔ r = 61 ∨ r = 0) := by
  obtain ⟨k, rfl⟩ : ∃ j, k = j + 3 := ⟨k - 3, by omega⟩
  rw [strings_IndexRune_eq, bif_t (by omega)]
  by_cases h1 : r < 128
  · rw [bif_t (by omega), HasIB.indexB, callI_ok]; exact ⟨_, rfl, idx_rune r h1⟩
  · rw [bif_f (by omega)]
    by_cases h2 : (r : Int) = 65533
    · rw [bif_t h2]
      have d0 : Utf8.decode (str [61, 0]) 0 = (61, 1) := by decide +kernel
      have d1 : Utf8.decode (str [61, 0]) 1 = (0, 1) := by decide +kernel
      have sz : (str [61, 0]).size = 2 := rfl
      have z1 : 0 + ((61, 1) : Nat × Nat).2 = 1 := rfl
      have z2 : 1 + ((0, 1) : Nat × Nat).2 = 2 := rfl
      rw [strings_IndexRune_L0_s, sz, d0, z1, bif_t (by omega), bif_f (by decide), strings_IndexRune_L0_s, sz, d1, z2, bif_t (by omega), bif_f (by decide), strings_IndexRune_L0_s, sz, bif_f (by omega)]
      exact ⟨_, rfl, by omega⟩
    · rw [bif_f h2]
      obtain ⟨b, hb⟩ := valid_B (E := E) (k := k + 3) (n := n) (r : Int)
      rw [hb, callB_ok]
      cases b with
      | false => exact ⟨_, rfl, by omega⟩
      | true =>
        rw [Bool.not_true, cond_false]
        have sz : (str [61, 0]).size = 2 := rfl
        rcases enc_facts r (by omega) with ⟨e1, e2⟩ | e1 | e1
        · rw [e1, i64w (by omega), strings_IndexRune_L1_s, sz, e1]
          have hb1 : byteAt (str [61, 0]) 1 = 0 := rfl
          have e3 : Int.toNat (((2 : Nat) : Int) - 1) = 1 := rfl
          rw [bif_t (by omega), bif_a, bif_t (by omega), bif_t (by omega), bif_a, bif_t (by omega), bif_t (by omega), e3, hb1, decide_eq_false (by omega), Bool.not_false, cond_true, i64w (by omega), bif_a, bif_t (by omega), bif_t (by omega), bif_a, bif_t (by omega), bif_t (by omega)]
          have e4 : Int.toNat (((2 : Nat) : Int) - 1 + 1) = 2 := rfl
          have e5 : ByteArray.extract (str [61, 0]) 2 2 = str [] := by decide +kernel
          rw [e4, e5, HasIB.indexB, callI_ok]
          have e6 : Lib.indexByte [] (byteAt (Utf8.encode (r : Int)) 1).toNat.toUInt8 = -1 := rfl
          rw [e6, bif_t (by omega)]
          exact ⟨_, rfl, by omega⟩
        · rw [e1, i64w (by omega), strings_IndexRune_L1_s, sz, bif_f (by omega)]; exact ⟨_, rfl, by omega⟩
        · rw [e1, i64w (by omega), strings_IndexRune_L1_s, sz, bif_f (by omega)]; exact ⟨_, rfl, by omega⟩
theorem dec_low (s : ByteArray) (i : Nat) (h : by_ s i < 128) : Utf8.decode s i = (by_ s i, 1) := by
  rw [Lib.decode_at, get_by, get_by, get_by, get_by]
  unfold Lib.decodeN
  rw [if_pos h]
theorem dec_wide (s : ByteArray) (i : Nat) (h : 128 ≤ by_ s i) : 128 ≤ (Utf8.decode s i).1 ∧ ∀ j, j < (Utf8.decode s i).2 → 128 ≤ by_ s (i + j) := by
  rw [Lib.decode_at, get_by, get_by, get_by, get_by]
  unfold Lib.decodeN
  rw [if_neg (by omega)]
  have key : ∀ (c w : Nat), 128 ≤ c → (w ≤ 4) → (1 < w → 128 ≤ by_ s (i + 1)) → (2 < w → 128 ≤ by_ s (i + 2)) → (3 < w → 128 ≤ by_ s (i + 3)) → 128 ≤ ((c, w) : Nat × Nat).1 ∧ ∀ j, j < ((c, w) : Nat × Nat).2 → 128 ≤ by_ s (i + j) := by
    intro c w hc hw h1 h2 h3
    refine ⟨hc, fun j hj => ?_⟩
    have hj : j < w := hj
    have : j = 0 ∨ j = 1 ∨ j = 2 ∨ j = 3 := by omega
    rcases this with rfl | rfl | rfl | rfl
    · exact h
    · exact h1 (by omega)
    · exact h2 (by omega)
    · exact h3 (by omega)
  repeat' split
  all_goals exact key _ _ (by omega) (by omega) (by omega) (by omega) (by omega)
theorem any_lv [HasIB E] (hk : 10 < k) (s : List UInt8) : ∀ (m k0 i : Nat), s.length - i < m → m ≤ k0 → ∃ r : Int, strings_IndexAny_L0 (kp E k (n + 2)) k k0 (str [61, 0]) (str s) i = some (.int .i64 r) ∧ (0 ≤ r ↔ ∃ j, i ≤ j ∧ j < s.length ∧ (by_ (str s) j = 61 ∨ by_ (str s) j = 0))
  | 0, k0, i, h, _ => by omega
  | m + 1, k0 + 1, i, h, hkk => by
    rw [strings_IndexAny_L0_s, str_size]
    by_cases hi : i < s.length
    · rw [decide_eq_true hi, cond_true]
      obtain ⟨x, hx, hxi⟩ := rune_V (E := E) (k := k) (n := n) (Utf8.decode (str s) i).1 hk
      rw [hx, callI_ok]
      have hw := width_pos (str s) i
      by_cases h0 : x ≥ 0
      · rw [bif_t h0]
        refine ⟨_, rfl, by
          constructor
          · intro _
            refine ⟨i, by omega, hi, ?_⟩
            by_cases hb : by_ (str s) i < 128
            · have := dec_low (str s) i hb
              have h1 := hxi.1 h0
              rw [this] at h1
              exact h1
            · have := (dec_wide (str s) i (by omega)).1
              have h1 := hxi.1 h0
              omega
          · intro _; omega⟩
      · rw [bif_f h0]
        obtain ⟨r, hr, hri⟩ := any_lv hk s m k0 (i + (Utf8.decode (str s) i).2) (by omega) (by omega)
        refine ⟨r, hr, hri.trans ⟨fun ⟨j, a, b, c⟩ => ⟨j, by omega, b, c⟩, fun ⟨j, a, b, c⟩ => ⟨j, ?_, b, c⟩⟩⟩
        have hn : ¬ ((Utf8.decode (str s) i).1 = 61 ∨ (Utf8.decode (str s) i).1 = 0) := fun h => h0 (hxi.2 h)
        by_cases hb : by_ (str s) i < 128
        · rw [dec_low (str s) i hb] at hn ⊢
          have hn : ¬ (by_ (str s) i = 61 ∨ by_ (str s) i = 0) := hn
          show i + 1 ≤ j
          by_cases e : i = j
          · subst e; exact absurd c hn
          · omega
        · have hall := (dec_wide (str s) i (by omega)).2
          by_cases e : i + (Utf8.decode (str s) i).2 ≤ j
          · exact e
          · have := hall (j - i) (by omega)
            rw [show i + (j - i) = j by omega] at this
            omega
    · rw [decide_eq_false hi, cond_false]
      exact ⟨_, rfl, ⟨fun h => by omega, fun ⟨j, a, b, _⟩ => by omega⟩⟩
theorem noEq_iff (s : List UInt8) : noEq s = false ↔ ∃ j, 0 ≤ j ∧ j < s.length ∧ (by_ (str s) j = 61 ∨ by_ (str s) j = 0) := by
  rw [noEq, List.all_eq_false]
  constructor
  · rintro ⟨c, hc, h⟩
    obtain ⟨j, hj, rfl⟩ := List.mem_iff_getElem.1 hc
    refine ⟨j, by omega, hj, ?_⟩
    have e : by_ (str s) j = (s[j]).toNat := by
      show ((str s).data.toList.getD j 0).toNat = _
      rw [show (str s).data.toList = s from rfl, List.getD_eq_getElem?_getD, List.getElem?_eq_getElem hj]; rfl
    rw [e]
    simp only [ne_eq, Bool.and_eq_true, decide_eq_true_eq] at h
    by_cases h6 : s[j] = 61
    · left; rw [h6]; rfl
    · by_cases h7 : s[j] = 0
      · right; rw [h7]; rfl
      · exact absurd ⟨h6, h7⟩ h
  · rintro ⟨j, _, hj, h⟩
    refine ⟨s[j], List.getElem_mem hj, ?_⟩
    have e : by_ (str s) j = (s[j]).toNat := by
      show ((str s).data.toList.getD j 0).toNat = _
      rw [show (str s).data.toList = s from rfl, List.getD_eq_getElem?_getD, List.getElem?_eq_getElem hj]; rfl
    rw [e] at h
    simp only [ne_eq, Bool.and_eq_true, decide_eq_true_eq]
    rintro ⟨h6, h7⟩
    rcases h with h | h
    · exact h6 (UInt8.toNat_inj.1 h)
    · exact h7 (UInt8.toNat_inj.1 h)
theorem any_short_v [HasIB E] (hB : E.isBase strings_IndexAny = false) (hF : E.fs.contains strings_IndexAny = true) (hk : 10 < k) (s : List UInt8) (hs : s.length ≤ 8) : ∃ r : Int, kp E k (n + 3) strings_IndexAny [.str (str s), .str (str [61, 0])] = some (.int .i64 r) ∧ decide (r ≥ 0) = !noEq s := by
  have sz : (str [61, 0]).size = 2 := rfl
  rw [strings_IndexAny_eq hB hF, sz, str_size, bif_f (by decide), bif_f (by omega), strings_shouldUseASCIISet_eq, callB_ok, bif_f (by omega)]
  obtain ⟨r, hr, h⟩ := any_lv (E := E) (n := n) hk s k k 0 (by omega) (Nat.le_refl _)
  refine ⟨r, hr, ?_⟩
  rw [← noEq_iff] at h
  cases hq : noEq s with
  | true => rw [hq] at h; simp only [Bool.true_eq_false, iff_false] at h; rw [decide_eq_false h]; rfl
  | false => rw [hq] at h; simp only [iff_true] at h; rw [decide_eq_true h]; rfl
theorem any_long_v (s : List UInt8) : decide (Lib.indexAny s [61, 0] ≥ 0) = !noEq s := by
  induction s with
  | nil => rfl
  | cons b l ih =>
    have hg := Lib.indexAny_ge [61, 0] l
    unfold Lib.indexAny noEq
    rw [List.all_cons]
    by_cases hb : b = 61 ∨ b = 0
    · have e : List.contains [61, 0] b = true := by rcases hb with rfl | rfl <;> rfl
      rw [if_pos e]
      rcases hb with rfl | rfl <;> rfl
    · have e : List.contains [61, 0] b = false := by
        simp only [not_or] at hb
        simp [List.contains_cons, hb.1, hb.2]
      rw [e]
      simp only [not_or] at hb
      rw [decide_eq_true hb.1, decide_eq_true hb.2, Bool.and_self, Bool.true_and]
      rw [show (l.all fun c => decide (c ≠ 61) && decide (c ≠ 0)) = noEq l from rfl, ← ih]
      by_cases h1 : Lib.indexAny l [61, 0] = -1
      · rw [h1]; rfl
      · have h2 : (Lib.indexAny l [61, 0] == -1) = false := by simpa using h1
        rw [h2]
        simp only [Bool.false_eq_true, if_false]
        rw [decide_eq_decide]
        omega
class HasTextV (E : Ext) : Prop where
  dec : ∀ (k n : Nat) (s : ByteArray), kp E k n unicode_utf8_DecodeRuneInString [.str s] = some (.tup [.int .i32 ((goDec s).1 : Int), .int .i64 ((goDec s).2 : Int)])
  idx : ∀ (k n : Nat) (s : List UInt8), s.length ≤ 1000000 → ∃ i : Int, kp E k n strings_IndexAny [.str (str s), .str (str [61, 0])] = some (.int .i64 i) ∧ decide (i ≥ 0) = !noEq s
end Go.Proofs.YtbkhmkcmbaffoaaGreatDoor.Eng.U

