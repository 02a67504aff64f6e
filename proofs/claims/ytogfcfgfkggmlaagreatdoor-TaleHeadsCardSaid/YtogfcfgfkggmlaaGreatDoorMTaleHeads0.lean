/- Several texts of this proof in one file: Core, Shelf, RowT, RT, R7. -/
import Derived.Test.YtogfcfgfkggmlaaGreatDoorMETaleHeads2
import Derived.Test.YtogfcfgfkggmlaaGreatDoorProg
import Derived.Lib.DecodeN
import Derived.Lib.ItoaNum
import Derived.Shelf.Strings.Builder1
import Derived.Shelf.Strings.Builder2
import Derived.Shelf.Strings.OnBuilder
import Derived.Shelf.Strings.Trim
import Derived.Shelf.Small.Utf8
import Derived.Shelf.Small.Strs
import Derived.Shelf.Small.Wraps
import Derived.Shelf.Strings.BuilderF
import Derived.Shelf.Strings.BuilderK
import Derived.Shelf.Utf8.RuneCount
import Derived.Shelf.Strings.Builder2Cap
import Derived.Shelf.Strconv.Itoa0
import Derived.Shelf.Strconv.Itoa1
import Derived.Shelf.LaysM
import Derived.Shelf.Strconv.Itoa2
import Derived.Shelf.Strconv.Itoa3
import Derived.Shelf.Strconv.Itoa4
import Derived.Shelf.Bytes.Len
import Derived.Shelf.Bytes.TryGrow
import Derived.Shelf.Bytes.GrowSliceCatch
import Derived.Shelf.Bytes.GrowSlice
import Derived.Shelf.Bytes.GrowRow0
import Derived.Shelf.Bytes.GrowRow
import Derived.Shelf.Bytes.GrowNil
import Derived.Shelf.Bytes.Grow
import Derived.Shelf.Bytes.WriteString
import Derived.Shelf.Bytes.Reset
import Derived.Shelf.Bytes.Bytes
import Derived.Shelf.Strconv.ParseIntEmpty
import Derived.Shelf.Strconv.Clone
import Derived.Shelf.Strconv.SyntaxError
import Derived.Shelf.LaysC
import Derived.Shelf.Strconv.ToError
import Derived.Shelf.Strconv.Lower
import Derived.Shelf.Strconv.ParseUint10
import Derived.Shelf.Strconv.ParseUint10Empty
import Derived.Shelf.Strconv.ParseUint10Any
import Derived.Shelf.Strconv.ParseInt10
import Derived.Shelf.Strconv.RangeError
import Derived.Shelf.Strconv.ToErrorRange
import Derived.Shelf.Strconv.ParseUintEmpty
import Derived.Shelf.Strconv.ParseUint10b64
import Derived.Shelf.Strconv.ParseUint10b32
import Derived.Shelf.Strconv.ParseUint10b16
import Derived.Shelf.Strconv.ParseUint10b8
import Derived.Shelf.Strconv.ParseUint10At
import Derived.Shelf.Strconv.ParseInt10At64
import Derived.Shelf.Strconv.ParseInt10At32
import Derived.Shelf.Strconv.ParseInt10At16
import Derived.Shelf.Strconv.ParseInt10At8
import Derived.Shelf.Strconv.ParseInt10All
import Derived.Shelf.Strconv.ParseIntPublic10
import Derived.Shelf.Strconv.ErrVarParseInt
import Derived.Ground.MpProg
import Derived.Shelf.Pu.ParseUintPublic10
import Derived.Shelf.Pu.ErrVarParseUint
import Derived.Shelf.Strings.Search1
import Derived.Shelf.Bytes.GrowRow0Kept
import Derived.Shelf.Strings.Search2
import Derived.Shelf.Bytes.GrowRowKept
import Derived.Shelf.Strings.Search3
import Derived.Shelf.Bytes.GrowNilKept
import Derived.Shelf.Strings.Cut
import Derived.Shelf.Bytes.GrowKept
import Derived.Shelf.Strings.Count
import Derived.Shelf.Strings.Shaped
import Derived.Shelf.Bytes.WriteStringKept
import Derived.Shelf.Bytes.ResetKept
import Derived.Shelf.Bytes.BufferK
import Derived.Shelf.Bytes.GrowRow0Own
import Derived.Shelf.Bytes.GrowRowOwn
import Derived.Shelf.Bytes.GrowNilOwn
import Derived.Shelf.Bytes.GrowOwn
import Derived.Shelf.Bytes.LenAt
import Derived.Shelf.Bytes.TryGrowAt
import Derived.Shelf.Bytes.GrowRow0At
import Derived.Shelf.Bytes.GrowRowAt
import Derived.Shelf.GgClosure.StringsIndexFunc
import Derived.Shelf.Bytes.GrowNilAt
import Derived.Shelf.Bytes.GrowAt
import Derived.Ground.GgwProg
import Derived.Shelf.GgClosure.StringsIndexFuncTop
import Derived.Shelf.GgClosure.StringsRunes
import Derived.Shelf.Bytes.WriteStringAt
import Derived.Shelf.Strings.Prefix
import Derived.Shelf.Strings.Split
import Derived.Shelf.Strings.SplitShaped
import Derived.Shelf.Unicode.Decode
import Derived.Shelf.Strings.Runes
import Derived.Shelf.Strings.RuneCount
import Derived.Shelf.Strings.IndexAny
import Derived.Shelf.Strings.AsciiSet
import Derived.Shelf.Strings.IndexAnyAll
import Derived.Shelf.Strings.Explode
import Derived.Shelf.Bits.Mul64
import Derived.Shelf.Strings.Repeat
import Derived.Shelf.Unicode.DecodeSlow
import Derived.Shelf.Unicode.DecodeAny
import Derived.Shelf.Unicode.DecodeLast
import Derived.Shelf.Strings.FuncGrows
import Derived.Shelf.Strings.BuilderCap
import Derived.Shelf.Slices.Turned
import Derived.Shelf.Slices.Equal
import Derived.Shelf.Slices.Empties2
import Derived.Test.YtogfcfgfkggmlaaGreatDoorCards
import Derived.Test.YtogfcfgfkggmlaaGreatDoorTie
import Derived.Lib.LaidIn
import Derived.Lib.LaidU8
import Derived.PinnedBridge
import Derived.Deep.DeepHandedRow
import Derived.ChangeSlices
import Derived.WalkKit
import Derived.ProofKit
import Derived.OpenShut
import Derived.ShutString
import Derived.ChangeOld
import Derived.ChangeSame
import Derived.Below
/- The functions of a seat, by their names; what each loop keeps; a base open at its given functions. Printed by gen2.py. -/
set_option linter.unusedVariables false
namespace Go.Proofs.YtogfcfgfkggmlaaGreatDoor.Eng.U
open Go Go.Proofs Go.Proofs.YtogfcfgfkggmlaaGreatDoor.Eng
def law20_TaleHeads : FuncId := 10
def ref07_Same : FuncId := 18
def ref07_Right : FuncId := 19
def over_Right : FuncId := 20
def ref08_Lay : FuncId := 22
def ref08_Right : FuncId := 23
def law20_alive : FuncId := 42
def tale_Head : FuncId := 43
def ref20_Head : FuncId := 44
def ref08_SameHead : FuncId := 45
def tale_Line : FuncId := 46
def ref09_Wrong : FuncId := 48
def ref20_Line : FuncId := 49
def ref05_First : FuncId := 63
def ref02_Clean : FuncId := 64
def ref07_Which : FuncId := 65
def ref04_Number : FuncId := 66
def ref04_Time : FuncId := 67
def pax_Right : FuncId := 68
def slices_IndexFunc_api_Pair : FuncId := 69
def ref08_Last : FuncId := 71
def strings_Split : FuncId := 95
def slices_Index_string : FuncId := 96
def tale_kinds : FuncId := 97
def tale_reader_next : FuncId := 98
def tale_reader_number : FuncId := 99
def dec_Time : FuncId := 100
def tale_reader_text : FuncId := 101
def ref20_Words : FuncId := 102
def ref20_Kinds : FuncId := 103
def ref20_text : FuncId := 104
def item_Wrong : FuncId := 105
def dec_Print : FuncId := 106
def dec_Text : FuncId := 107
def tale_word : FuncId := 108
def strings_Join : FuncId := 109
def ref09_fields : FuncId := 110
def ref20_num : FuncId := 111
def ref04_Print : FuncId := 112
def ref02_Quote : FuncId := 113
def strconv_Itoa : FuncId := 114
def ref04_Text : FuncId := 123
def pax_Known : FuncId := 129
def slices_Delete_api_Pair : FuncId := 132
def slices_Insert_api_Pair : FuncId := 133
def ref05_Ends : FuncId := 134
def ref02_Get : FuncId := 135
def ref07_Keys : FuncId := 136
def ref04_Below : FuncId := 137
def ref04_only : FuncId := 138
def utf_Right : FuncId := 139
def strings_ContainsAny : FuncId := 140
def pax_value : FuncId := 141
def text_Quote : FuncId := 144
def strconv_ParseUint : FuncId := 146
def dec_Number : FuncId := 147
def text_Unquote : FuncId := 148
def strings_genSplit : FuncId := 166
def strings_CutPrefix : FuncId := 167
def strings_Cut : FuncId := 168
def dec_natural : FuncId := 169
def dec_digits : FuncId := 170
def strconv_ParseInt : FuncId := 171
def strings_Repeat : FuncId := 172
def ref02_Unquote : FuncId := 173
def item_Flag : FuncId := 174
def item_named : FuncId := 175
def strings_HasSuffix : FuncId := 176
def item_link : FuncId := 177
def dec_Right : FuncId := 178
def item_plain : FuncId := 179
def item_device : FuncId := 180
def item_extra : FuncId := 181
def strconv_FormatInt : FuncId := 182
def strings_TrimRight : FuncId := 183
def ref09_name : FuncId := 187
def ref09_Slash : FuncId := 188
def ref04_Right : FuncId := 189
def ref04_Digits : FuncId := 190
def ref02_open : FuncId := 191
def ref02_code : FuncId := 192
def slices_ContainsFunc_api_Pair : FuncId := 195
def strings_Compare : FuncId := 205
def ref05_size : FuncId := 208
def utf_First : FuncId := 209
def strings_IndexAny : FuncId := 210
def pax_clean : FuncId := 211
def text_open : FuncId := 214
def text_digit : FuncId := 219
def strings_explode : FuncId := 232
def strings_Count : FuncId := 233
def strings_Index : FuncId := 234
def stringslite_Cut : FuncId := 236
def text_Clean : FuncId := 240
def stringslite_HasSuffix : FuncId := 241
def item_extra_1 : FuncId := 242
def utf_wrong : FuncId := 254
def strings_IndexRune : FuncId := 255
def strings_shouldUseASCIISet : FuncId := 256
def strings_IndexByte : FuncId := 258
def unicode_utf8_DecodeRuneInString : FuncId := 271
def stringslite_Index : FuncId := 273
def unicode_utf8_ValidRune : FuncId := 288
def dirs : FuncId → Nat → Option Dir
  | 3, 12 => some { slots := [(0, .keep), (1, .keep), (6, .keep), (8, .keep), (9, .keep)], boxes := [] }
  | 3, 16 => some { slots := [(0, .keep), (1, .keep), (6, .keep), (8, .keep), (10, .keep)], boxes := [] }
  | 3, 23 => some { slots := [(1, .keep), (6, .keep), (11, .keep), (12, .keep)], boxes := [] }
  | 4, 8 => some { slots := [(0, .keep), (1, .keep), (2, .keep), (7, .keep), (8, .keep), (9, .keep), (10, .keep)], boxes := [] }
  | 6, 10 => some { slots := [(0, .keep), (6, .keep), (7, .keep), (8, .keep)], boxes := [] }
  | 7, 6 => some { slots := [(0, .keep), (3, .own 9 false), (4, .keep), (5, .keep)], boxes := [] }
  | 8, 8 => some { slots := [(0, .keep), (1, .keep), (5, .keep), (6, .keep), (7, .keep), (8, .keep), (9, .keep)], boxes := [] }
  | 8, 11 => some { slots := [(0, .keep), (1, .keep), (5, .keep), (6, .keep), (7, .keep), (8, .keep), (9, .keep), (10, .keep)], boxes := [] }
  | 8, 19 => some { slots := [(0, .keep), (1, .keep), (5, .keep), (6, .keep), (7, .keep), (8, .keep), (9, .keep), (10, .keep), (11, .keep), (12, .keep)], boxes := [] }
  | 9, 6 => some { slots := [(0, .keep), (3, .keep)], boxes := [] }
  | 9, 13 => some { slots := [(0, .keep), (3, .keep), (4, .keep), (5, .keep), (6, .keep)], boxes := [4] }
  | 12, 8 => some { slots := [(0, .keep), (3, .keep), (4, .keep), (5, .keep), (6, .keep)], boxes := [] }
  | 13, 6 => some { slots := [(1, .keep), (2, .keep), (3, .keep), (7, .keep), (8, .keep), (9, .keep), (10, .keep)], boxes := [3] }
  | 16, 3 => some { slots := [(0, .keep), (3, .keep), (4, .keep)], boxes := [] }
  | 17, 3 => some { slots := [(1, .keep), (5, .own 29 false), (10, .keep), (11, .keep), (12, .keep)], boxes := [] }
  | 17, 8 => some { slots := [(5, .own 29 false), (20, .keep), (21, .keep), (22, .keep)], boxes := [] }
  | 18, 4 => some { slots := [(0, .keep), (1, .keep), (5, .keep)], boxes := [] }
  | 19, 4 => some { slots := [(1, .keep), (3, .keep)], boxes := [1] }
  | 20, 2 => some { slots := [(0, .keep), (5, .keep), (6, .keep), (7, .keep)], boxes := [] }
  | 22, 4 => some { slots := [(5, .own 29 true), (6, .own 29 false), (7, .keep), (8, .keep)], boxes := [] }
  | 22, 6 => some { slots := [(5, .own 29 true), (6, .own 29 false), (7, .keep), (8, .keep), (9, .keep), (10, .keep), (11, .keep)], boxes := [] }
  | 23, 2 => some { slots := [(0, .keep), (3, .keep)], boxes := [] }
  | 24, 3 => some { slots := [(3, .keep), (6, .keep), (7, .keep), (8, .keep)], boxes := [] }
  | 26, 3 => some { slots := [(0, .keep), (3, .keep), (4, .keep)], boxes := [] }
  | 26, 8 => some { slots := [(0, .keep), (3, .keep), (4, .keep), (5, .keep), (6, .keep)], boxes := [5] }
  | 27, 3 => some { slots := [(4, .own 9 false), (7, .keep), (8, .keep), (9, .keep)], boxes := [] }
  | 30, 2 => some { slots := [(0, .keep), (3, .keep)], boxes := [] }
  | 34, 12 => some { slots := [(7, .keep), (9, .keep)], boxes := [7] }
  | 34, 33 => some { slots := [(0, .keep), (1, .keep), (2, .keep), (7, .keep), (8, .keep), (12, .keep), (13, .keep)], boxes := [7] }
  | 37, 2 => some { slots := [(0, .keep), (3, .keep)], boxes := [] }
  | 39, 2 => some { slots := [(0, .keep), (3, .keep)], boxes := [] }
  | 41, 3 => some { slots := [(0, .keep), (3, .own 42 false), (7, .keep), (8, .keep), (9, .keep)], boxes := [] }
  | 43, 17 => some { slots := [(0, .keep), (2, .keep), (4, .keep), (5, .keep)], boxes := [2, 4, 5, 178, 181], rows := [⟨2, 13, 29, 178⟩, ⟨5, 13, 29, 181⟩] }
  | 44, 6 => some { slots := [(0, .keep), (2, .keep), (4, .keep), (5, .keep), (6, .keep)], boxes := [2, 5, 374, 377], rows := [⟨2, 13, 29, 374⟩, ⟨5, 13, 29, 377⟩] }
  | 44, 14 => some { slots := [(0, .keep), (2, .keep), (4, .keep), (5, .keep), (7, .keep), (8, .keep), (9, .own 3 false), (10, .keep)], boxes := [2, 5, 8, 374, 377], rows := [⟨2, 13, 29, 374⟩, ⟨5, 13, 29, 377⟩] }
  | 44, 25 => some { slots := [(0, .keep), (2, .keep), (4, .keep), (5, .keep), (7, .keep), (15, .own 9 false), (16, .keep)], boxes := [2, 5, 374, 377], rows := [⟨2, 13, 29, 374⟩, ⟨5, 13, 29, 377⟩] }
  | 44, 33 => some { slots := [(0, .keep), (2, .keep), (5, .keep), (7, .keep), (15, .own 9 false), (19, .keep)], boxes := [2, 5, 374, 377], rows := [⟨2, 13, 29, 374⟩, ⟨5, 13, 29, 377⟩] }
  | 46, 6 => some { slots := [(6, .own 9 false), (56, .keep), (57, .keep), (58, .keep)], boxes := [] }
  | 47, 3 => some { slots := [(4, .own 9 false), (9, .keep), (10, .keep), (11, .keep)], boxes := [] }
  | 48, 3 => some { slots := [(3, .keep), (4, .keep)], boxes := [3] }
  | 49, 4 => some { slots := [(1, .keep), (3, .keep), (4, .keep)], boxes := [1] }
  | 61, 5 => some { slots := [(2, .keep), (4, .keep), (13, .keep), (14, .keep), (15, .keep)], boxes := [2, 4, 66, 68], rows := [⟨2, 13, 29, 66⟩, ⟨4, 13, 29, 68⟩] }
  | 63, 3 => some { slots := [(3, .keep), (4, .keep)], boxes := [] }
  | 65, 3 => some { slots := [(0, .keep), (3, .keep), (4, .keep)], boxes := [] }
  | 67, 6 => some { slots := [(0, .keep), (2, .keep), (4, .keep), (5, .keep), (6, .keep)], boxes := [2] }
  | 67, 17 => some { slots := [(2, .keep), (4, .keep), (7, .keep), (8, .keep), (9, .keep), (10, .keep), (11, .keep)], boxes := [2] }
  | 69, 2 => some { slots := [(0, .keep), (1, .keep), (7, .keep), (8, .keep)], boxes := [] }
  | 71, 2 => some { slots := [(0, .keep), (1, .keep), (6, .keep)], boxes := [] }
  | 83, 2 => some { slots := [(0, .keep), (3, .frz)], boxes := [] }
  | 83, 4 => some { slots := [(0, .keep), (3, .frz), (4, .keep), (5, .keep)], boxes := [] }
  | 83, 10 => some { slots := [(0, .keep), (3, .frz)], boxes := [] }
  | 84, 3 => some { slots := [(0, .keep), (1, .keep), (5, .keep), (6, .keep)], boxes := [] }
  | 87, 3 => some { slots := [(1, .keep), (2, .keep), (7, .keep), (8, .keep)], boxes := [] }
  | 89, 5 => some { slots := [(5, .keep), (6, .keep), (7, .keep)], boxes := [] }
  | 90, 4 => some { slots := [(0, .keep), (1, .keep), (5, .keep)], boxes := [] }
  | 91, 4 => some { slots := [(0, .keep), (3, .own 4 false), (4, .own 3 false), (13, .keep), (14, .keep)], boxes := [] }
  | 91, 7 => some { slots := [(0, .keep), (3, .own 4 false), (4, .own 3 false), (5, .keep), (13, .keep), (14, .keep), (17, .keep), (18, .keep)], boxes := [] }
  | 91, 14 => some { slots := [(0, .keep), (3, .own 4 false), (4, .own 3 false), (5, .keep), (6, .keep), (7, .keep), (13, .keep), (14, .keep), (17, .keep), (18, .keep), (29, .keep), (30, .keep)], boxes := [] }
  | 92, 2 => some { slots := [(0, .keep), (6, .keep), (7, .keep)], boxes := [] }
  | 92, 5 => some { slots := [(0, .keep), (3, .keep), (4, .keep), (6, .keep), (7, .keep)], boxes := [] }
  | 96, 2 => some { slots := [(0, .keep), (1, .keep), (7, .keep), (8, .keep)], boxes := [] }
  | 102, 4 => some { slots := [(0, .keep), (3, .own 9 false), (4, .keep), (5, .keep)], boxes := [] }
  | 110, 2 => some { slots := [(1, .keep), (2, .keep), (3, .keep)], boxes := [1, 2], gate := true }
  | 110, 3 => some { slots := [(1, .keep), (2, .keep), (3, .keep), (4, .keep)], boxes := [1, 2], gate := true }
  | 110, 5 => some { slots := [(1, .keep), (2, .keep), (3, .keep), (4, .keep), (5, .keep)], boxes := [1, 2, 5], gate := true }
  | 110, 6 => some { slots := [(1, .keep), (2, .keep), (3, .keep), (4, .keep), (5, .keep)], boxes := [1, 2, 5], gate := true }
  | 110, 7 => some { slots := [(1, .keep), (2, .keep), (4, .keep), (5, .keep)], boxes := [1, 2, 5], gate := true }
  | 110, 11 => some { slots := [(1, .keep), (2, .keep), (4, .keep), (5, .keep)], boxes := [1, 2, 5], gate := true }
  | 110, 13 => some { slots := [(1, .keep), (2, .keep), (4, .keep), (5, .keep)], boxes := [1, 2, 5], gate := true }
  | 110, 14 => some { slots := [(1, .keep), (2, .keep), (4, .keep), (5, .keep)], boxes := [1, 2, 5], gate := true }
  | 110, 15 => some { slots := [(1, .keep), (2, .keep), (4, .keep), (5, .keep)], boxes := [1, 2, 5], gate := true }
  | 110, 16 => some { slots := [(1, .keep), (2, .keep), (5, .keep)], boxes := [1, 2, 5], gate := true }
  | 110, 18 => some { slots := [(1, .keep), (2, .keep), (5, .keep), (6, .keep)], boxes := [1, 2, 5] }
  | 112, 9 => some { slots := [(4, .keep), (5, .keep)], boxes := [] }
  | 113, 3 => some { slots := [(0, .keep), (3, .keep), (4, .keep)], boxes := [] }
  | 118, 4 => some { slots := [(0, .keep), (3, .own 165 false), (4, .keep), (5, .keep)], boxes := [] }
  | 121, 2 => some { slots := [(1, .keep), (3, .keep)], boxes := [1] }
  | 121, 5 => some { slots := [(1, .keep), (3, .keep), (4, .keep)], boxes := [1] }
  | 134, 3 => some { slots := [(0, .keep), (3, .own 3 false), (4, .keep)], boxes := [] }
  | 135, 3 => some { slots := [(0, .keep), (3, .own 5 false), (4, .keep)], boxes := [] }
  | 137, 5 => some { slots := [(0, .keep), (4, .keep), (5, .keep)], boxes := [] }
  | 138, 2 => some { slots := [(0, .keep), (3, .keep)], boxes := [] }
  | 148, 2 => some { slots := [(0, .keep), (4, .own 5 false)], boxes := [] }
  | 157, 2 => some { slots := [(0, .keep), (1, .keep), (7, .keep), (8, .keep)], boxes := [] }
  | 158, 4 => some { slots := [(0, .keep), (3, .own 9 false), (4, .keep), (5, .keep)], boxes := [] }
  | 159, 5 => some { slots := [(1, .keep), (5, .keep), (6, .keep)], boxes := [] }
  | 162, 3 => some { slots := [(0, .keep), (3, .own 9 false), (6, .keep), (7, .keep)], boxes := [] }
  | 166, 11 => some { slots := [(0, .keep), (1, .keep), (2, .keep), (3, .keep), (9, .own 9 false), (10, .keep)], boxes := [] }
  | 170, 2 => some { slots := [(0, .keep), (5, .keep), (6, .keep)], boxes := [] }
  | 173, 3 => some { slots := [(0, .keep), (4, .own 5 false), (5, .keep)], boxes := [] }
  | 173, 9 => some { slots := [(0, .keep), (4, .own 5 false), (5, .keep), (6, .keep), (7, .keep)], boxes := [] }
  | 194, 2 => some { slots := [(5, .keep), (6, .keep), (7, .keep)], boxes := [] }
  | 202, 2 => some { slots := [(0, .keep), (3, .keep)], boxes := [] }
  | 203, 3 => some { slots := [(0, .keep), (1, .keep), (2, .keep), (8, .keep), (9, .keep), (10, .keep)], boxes := [0] }
  | 208, 15 => some { slots := [(0, .keep), (1, .keep), (6, .keep), (7, .keep), (8, .keep)], boxes := [] }
  | 209, 2 => some { slots := [(0, .keep), (6, .keep)], boxes := [6] }
  | 210, 12 => some { slots := [(0, .keep), (6, .keep), (8, .keep)], boxes := [6] }
  | 210, 18 => some { slots := [(1, .keep), (45, .keep)], boxes := [45] }
  | 222, 3 => some { slots := [(0, .keep), (3, .own 9 false), (7, .keep), (8, .keep), (9, .keep)], boxes := [] }
  | 228, 5 => some { slots := [(1, .keep), (5, .keep), (6, .keep)], boxes := [] }
  | 232, 6 => some { slots := [(0, .keep), (1, .keep), (6, .own 9 false), (7, .keep)], boxes := [] }
  | 244, 1 => some { slots := [(0, .keep), (1, .keep)], boxes := [] }
  | 247, 1 => some { slots := [(0, .keep), (1, .keep)], boxes := [] }
  | 255, 5 => some { slots := [(0, .keep), (7, .keep), (8, .keep), (9, .keep)], boxes := [] }
  | 255, 12 => some { slots := [(0, .keep), (7, .keep), (8, .keep), (9, .keep), (12, .keep)], boxes := [] }
  | 255, 25 => some { slots := [(0, .keep), (7, .keep), (8, .keep), (9, .keep), (14, .keep), (15, .keep)], boxes := [] }
  | 255, 29 => some { slots := [(0, .keep), (7, .keep), (8, .keep), (9, .keep), (14, .keep), (15, .keep), (16, .keep)], boxes := [] }
  | 255, 38 => some { slots := [(175, .keep)], boxes := [175] }
  | 261, 10 => some { slots := [(0, .keep), (3, .keep), (4, .keep), (5, .keep)], boxes := [] }
  | 270, 2 => some { slots := [(2, .keep), (4, .keep)], boxes := [4] }
  | 280, 10 => some { slots := [(0, .keep), (4, .keep), (5, .keep), (6, .keep)], boxes := [] }
  | 296, 4 => some { slots := [(0, .keep), (1, .keep), (12, .keep), (13, .keep)], boxes := [] }
  | 298, 5 => some { slots := [(0, .keep), (1, .keep), (5, .keep), (6, .keep), (7, .keep), (8, .keep), (9, .keep)], boxes := [] }
  | 298, 11 => some { slots := [(0, .keep), (1, .keep), (5, .keep), (6, .keep), (7, .keep), (8, .keep), (10, .keep)], boxes := [] }
  | 308, 3 => some { slots := [(0, .keep), (4, .keep), (5, .keep)], boxes := [] }
  | 308, 8 => some { slots := [(4, .keep), (6, .keep), (7, .keep), (8, .keep)], boxes := [] }
  | _, _ => none
def fl : FuncId → List Bool
  | 62 => [true]
  | 132 => [true]
  | 133 => [true]
  | _ => []
def ln : FuncId → List Nat
  | 62 => [2, 0]
  | 98 => [1]
  | 99 => [1]
  | 101 => [1]
  | 130 => [1, 0]
  | 131 => [1, 0]
  | 132 => [2, 0, 0]
  | 133 => [2, 0, 2]
  | 203 => [1, 0, 0]
  | _ => []
def hd : FuncId → List Nat
  | 130 => [13]
  | _ => []
def glob (g : Nat) : Option (List AV) :=
  if g = 5 then some ((List.range 256).map fun c => .int .u8 (Lib.firstT c : Int)) else if g = 6 then some ((List.range 32).map fun i => .int .u8 ((if i % 2 = 0 then Lib.accLo (i / 2) else Lib.accHi (i / 2) : Nat) : Int)) else if g = 4 then some (Lib.pow10Tab.map fun z => .int .u64 z) else if g = 2 then some [.ifc] else if g = 3 then some [.ifc] else none
def coreFs : List FuncId := [3, 4, 6, 7, 8, 9, 10, 11, 12, 13, 14, 15, 16, 17, 18, 19, 20, 22, 23, 24, 25, 26, 27, 29, 30, 32, 33, 34, 35, 36, 37, 38, 39, 41, 42, 43, 44, 45, 46, 47, 48, 49, 50, 51, 52, 53, 54, 55, 58, 59, 60, 61, 62, 63, 64, 65, 66, 67, 68, 69, 70, 71, 72, 73, 74, 75, 79, 80, 81, 82, 83, 84, 85, 86, 87, 89, 90, 91, 92, 94, 95, 96, 97, 98, 99, 100, 101, 102, 103, 104, 105, 106, 107, 108, 110, 111, 112, 113, 115, 116, 117, 118, 119, 121, 123, 125, 126, 127, 128, 129, 130, 131, 134, 135, 136, 137, 138, 139, 140, 141, 143, 145, 147, 148, 149, 150, 152, 153, 157, 158, 159, 160, 161, 162, 166, 168, 169, 170, 173, 174, 175, 176, 177, 178, 179, 180, 181, 187, 188, 189, 190, 191, 192, 193, 194, 195, 196, 200, 202, 203, 204, 207, 208, 209, 211, 213, 214, 216, 219, 220, 221, 222, 223, 225, 226, 227, 228, 229, 232, 234, 235, 236, 238, 240, 241, 242, 244, 247, 252, 253, 254, 255, 256, 260, 261, 268, 270, 274, 275, 276, 280, 281, 288, 289, 291, 296, 298, 299, 300, 301, 302, 303, 304, 307, 308]
noncomputable def bs (E : Ext) (k : Nat) : Base := { P := Tryz.prog, fs := E.fs, isBase := E.isBase, base := E.base, fl := fl, ln := ln, hd := hd, glob := glob, dirs := dirs, k := k }
/-- An extension that has no given functions: for what doesn't look at them. -/
def E0 : Ext := { fs := [], isBase := fun _ => false, base := fun _ _ => none }
class Core (E : Ext) : Prop where
  isB : ∀ f, coreFs.contains f = true → E.isBase f = false
  has : ∀ f, coreFs.contains f = true → E.fs.contains f = true
/-- What a function answers, calls nested n deep, k rounds of each loop. -/
noncomputable def kp (E : Ext) (k n : Nat) : FuncId → List AV → Option AV := (bs E k).kap n
theorem kp_at {E : Ext} [h : Core E] {k n : Nat} {f : FuncId} {args : List AV} (hf : coreFs.contains f = true) : kp E k (n + 1) f args = (bs E k).at (kp E k n) f args := Base.kap_at (h.isB f hf) (h.has f hf) args
theorem kp_base {E : Ext} {k n : Nat} {f : FuncId} {args : List AV} (hf : E.isBase f = true) : kp E k n f args = E.base f args := Base.kap_base (B := bs E k) hf args
end Go.Proofs.YtogfcfgfkggmlaaGreatDoor.Eng.U


/-
  DERIVED: THE SHELF's CONTRACTS AT THIS DUMP, IN PLAIN WORDS (tools/lay-plain.mjs out of 'TryzShelf.lean', which tools/lay-shelf.mjs wrote): THE SAME DECLARATIONS UNDER THE SAME NAMES: 'import', 'namespace', 'open', 'def', 'theorem' AND NOTHING ELSE: no command of the shelf's: FOR A HAND-IN. Each laying: the table of numbers ('.._ren') and one theorem, a field a fact of the dump's own or the kernel's comparison; each contract: ONE APPLICATION.
-/
namespace Go.Proofs
open Go.Shelf
def Tryz.lays169_ren : Go.Shelf.Ren := ⟨fun | 169 => 186 | n => n, fun | 70 => 213 | 9 => 9 | 0 => 0 | 72 => 215 | 37 => 40 | 127 => 258 | 3 => 3 | 5 => 5 | n => n, fun | n => n⟩
theorem Tryz.lays169 : Go.Proofs.Lays.n169 Tryz.prog Tryz.lays169_ren := {
  mixed := by kernel_rfl
  f169 := Tryz.func186.trans (congrArg some (by kernel_rfl))
  t0 := Tryz.underlying0
  a0 := Tryz.isAgg0
  z0 := Tryz.sizeOf0
  v0 := Tryz.zeroValue0
  t3 := Tryz.underlying3
  a3 := Tryz.isAgg3
  z3 := Tryz.sizeOf3
  v3 := Tryz.zeroValue3
  t9 := Tryz.underlying9
  a9 := Tryz.isAgg9
  z9 := Tryz.sizeOf9
  v9 := Tryz.zeroValue9
  t37 := Tryz.underlying40
  a37 := Tryz.isAgg40
  z37 := Tryz.sizeOf40
  v37 := Tryz.zeroValue40
  t70 := Tryz.underlying213
  a70 := Tryz.isAgg213
  z70 := Tryz.sizeOf213
  v70 := Tryz.zeroValue213
  t72 := Tryz.underlying215
  a72 := Tryz.isAgg215
  z72 := Tryz.sizeOf215
  v72 := Tryz.zeroValue215
  t127 := Tryz.underlying258
  a127 := Tryz.isAgg258
  z127 := Tryz.sizeOf258
  v127 := Tryz.zeroValue258 }
theorem Tryz.Builder_Extra_169 : Builder.Extra Tryz.prog Tryz.lays169_ren := {
  sizeBuilder := by kernel_rfl
  liesBuilder := by kernel_rfl
  t5 := Tryz.underlying5
  a5 := Tryz.isAgg5
  z5 := Tryz.sizeOf5
  v5 := Tryz.zeroValue5
  infoByte := by kernel_rfl
  cellsByte := by kernel_rfl
  sizeByte := by kernel_rfl
  neB5 := by decide }
def Tryz.lays156_ren : Go.Shelf.Ren := ⟨fun | 156 => 109 | 165 => 184 | 166 => 185 | 169 => 186 | 240 => 248 | 241 => 249 | 276 => 282 | 277 => 283 | n => n, fun | 31 => 43 | 9 => 9 | 3 => 3 | 4 => 4 | 0 => 0 | 20 => 20 | 72 => 215 | 76 => 217 | 70 => 213 | 37 => 40 | 75 => 185 | 127 => 258 | 164 => 284 | 5 => 5 | 80 => 149 | n => n, fun | n => n⟩
theorem Tryz.lays156 : Go.Proofs.Lays.n156 Tryz.prog Tryz.lays156_ren := {
  mixed := by kernel_rfl
  f156 := Tryz.func109.trans (congrArg some (by kernel_rfl))
  f165 := Tryz.func184.trans (congrArg some (by kernel_rfl))
  f166 := Tryz.func185.trans (congrArg some (by kernel_rfl))
  f169 := Tryz.func186.trans (congrArg some (by kernel_rfl))
  f240 := Tryz.func248.trans (congrArg some (by kernel_rfl))
  f241 := Tryz.func249.trans (congrArg some (by kernel_rfl))
  f276 := Tryz.func282.trans (congrArg some (by kernel_rfl))
  f277 := Tryz.func283.trans (congrArg some (by kernel_rfl))
  t0 := Tryz.underlying0
  a0 := Tryz.isAgg0
  z0 := Tryz.sizeOf0
  v0 := Tryz.zeroValue0
  t3 := Tryz.underlying3
  a3 := Tryz.isAgg3
  z3 := Tryz.sizeOf3
  v3 := Tryz.zeroValue3
  t4 := Tryz.underlying4
  a4 := Tryz.isAgg4
  z4 := Tryz.sizeOf4
  v4 := Tryz.zeroValue4
  t9 := Tryz.underlying9
  a9 := Tryz.isAgg9
  z9 := Tryz.sizeOf9
  v9 := Tryz.zeroValue9
  t20 := Tryz.underlying20
  a20 := Tryz.isAgg20
  z20 := Tryz.sizeOf20
  v20 := Tryz.zeroValue20
  t31 := Tryz.underlying43
  a31 := Tryz.isAgg43
  z31 := Tryz.sizeOf43
  v31 := Tryz.zeroValue43
  t37 := Tryz.underlying40
  a37 := Tryz.isAgg40
  z37 := Tryz.sizeOf40
  v37 := Tryz.zeroValue40
  t70 := Tryz.underlying213
  a70 := Tryz.isAgg213
  z70 := Tryz.sizeOf213
  v70 := Tryz.zeroValue213
  t72 := Tryz.underlying215
  a72 := Tryz.isAgg215
  z72 := Tryz.sizeOf215
  v72 := Tryz.zeroValue215
  t75 := Tryz.underlying185
  a75 := Tryz.isAgg185
  z75 := Tryz.sizeOf185
  v75 := Tryz.zeroValue185
  t76 := Tryz.underlying217
  a76 := Tryz.isAgg217
  z76 := Tryz.sizeOf217
  v76 := Tryz.zeroValue217
  t127 := Tryz.underlying258
  a127 := Tryz.isAgg258
  z127 := Tryz.sizeOf258
  v127 := Tryz.zeroValue258
  t164 := Tryz.underlying284
  a164 := Tryz.isAgg284
  z164 := Tryz.sizeOf284
  v164 := Tryz.zeroValue284 }
theorem Tryz.Builder_Extra_156 : Builder.Extra Tryz.prog Tryz.lays156_ren := {
  sizeBuilder := by kernel_rfl
  liesBuilder := by kernel_rfl
  t5 := Tryz.underlying5
  a5 := Tryz.isAgg5
  z5 := Tryz.sizeOf5
  v5 := Tryz.zeroValue5
  infoByte := by kernel_rfl
  cellsByte := by kernel_rfl
  sizeByte := by kernel_rfl
  neB5 := by decide }
open Go.RowKit in
/-- No element: the empty string; the world is as it was. (Whatever the slice's address and capacity: a nil slice too.) (LAID: no walk: one application.) -/
theorem Tryz.strings_Join_none (a : Option Addr) (c : Nat) (sep : ByteArray) (w : World) :
    Calls Tryz.prog 109 #[.slice a 0 c, .string sep] w fun e w' => e = .returned (.string ⟨#[]⟩) ∧ w' = w := Any.strings_Join_none Tryz.lays156 Tryz.Builder_Extra_156 a c sep w
open Go.RowKit in
/-- strings.Join: "Join concatenates the elements of its first argument to create a single string. The separator string sep is placed between elements in the resulting string.": HOWEVER MANY ELEMENTS. Below the heap's end the world is as it was. (LAID: no walk: one application.) -/
theorem Tryz.strings_Join (bk o c : Nat) (xs : List ByteArray) (sep : ByteArray) (w : World) (hcells : ∀ (j : Nat) x, xs[j]? = some x → w.cell? ⟨bk, o + j, none⟩ = some (.string x)) (hbk : bk < w.heap.size) (hN : xs.length ≤ 140737488355328) (hcap : xs.length ≤ c) (hlen : (Lib.join (xs.map (·.data.toList)) sep.data.toList).length ≤ 140737488355328) :
    Calls Tryz.prog 109 #[.slice (some ⟨bk, o, none⟩) xs.length c, .string sep] w fun e w' => e = .returned (.string ⟨(Lib.join (xs.map (·.data.toList)) sep.data.toList).toArray⟩) ∧ Below w.heap.size w w' := Any.strings_Join Tryz.lays156 Tryz.Builder_Extra_156 bk o c xs sep w hcells hbk hN hcap hlen
def Tryz.lays162_ren : Go.Shelf.Ren := ⟨fun | 162 => 183 | 232 => 244 | 227 => 245 | 234 => 246 | 236 => 247 | 228 => 257 | 271 => 280 | 151 => 281 | 120 => 304 | 197 => 271 | 152 => 255 | 260 => 297 | 137 => 258 | 119 => 288 | 224 => 289 | 225 => 290 | 217 => 291 | 266 => 306 | n => n, fun | 9 => 9 | 4 => 4 | 3 => 3 | 5 => 5 | 117 => 254 | 116 => 253 | 0 => 0 | 124 => 257 | 21 => 21 | 105 => 272 | 46 => 208 | 119 => 305 | 139 => 308 | 138 => 307 | n => n, fun | 3 => 5 | 4 => 6 | n => n⟩
theorem Tryz.lays162 : Go.Proofs.Lays.n162 Tryz.prog Tryz.lays162_ren := {
  mixed := by kernel_rfl
  f119 := Tryz.func288.trans (congrArg some (by kernel_rfl))
  f120 := Tryz.func304.trans (congrArg some (by kernel_rfl))
  f137 := Tryz.func258.trans (congrArg some (by kernel_rfl))
  f151 := Tryz.func281.trans (congrArg some (by kernel_rfl))
  f152 := Tryz.func255.trans (congrArg some (by kernel_rfl))
  f162 := Tryz.func183.trans (congrArg some (by kernel_rfl))
  f197 := Tryz.func271.trans (congrArg some (by kernel_rfl))
  f217 := Tryz.func291.trans (congrArg some (by kernel_rfl))
  f224 := Tryz.func289.trans (congrArg some (by kernel_rfl))
  f225 := Tryz.func290.trans (congrArg some (by kernel_rfl))
  f227 := Tryz.func245.trans (congrArg some (by kernel_rfl))
  f228 := Tryz.func257.trans (congrArg some (by kernel_rfl))
  f232 := Tryz.func244.trans (congrArg some (by kernel_rfl))
  f234 := Tryz.func246.trans (congrArg some (by kernel_rfl))
  f236 := Tryz.func247.trans (congrArg some (by kernel_rfl))
  f260 := Tryz.func297.trans (congrArg some (by kernel_rfl))
  f266 := Tryz.func306.trans (congrArg some (by kernel_rfl))
  f271 := Tryz.func280.trans (congrArg some (by kernel_rfl))
  t0 := Tryz.underlying0
  a0 := Tryz.isAgg0
  z0 := Tryz.sizeOf0
  v0 := Tryz.zeroValue0
  t3 := Tryz.underlying3
  a3 := Tryz.isAgg3
  z3 := Tryz.sizeOf3
  v3 := Tryz.zeroValue3
  t4 := Tryz.underlying4
  a4 := Tryz.isAgg4
  z4 := Tryz.sizeOf4
  v4 := Tryz.zeroValue4
  t5 := Tryz.underlying5
  a5 := Tryz.isAgg5
  z5 := Tryz.sizeOf5
  v5 := Tryz.zeroValue5
  t9 := Tryz.underlying9
  a9 := Tryz.isAgg9
  z9 := Tryz.sizeOf9
  v9 := Tryz.zeroValue9
  t21 := Tryz.underlying21
  a21 := Tryz.isAgg21
  z21 := Tryz.sizeOf21
  v21 := Tryz.zeroValue21
  t46 := Tryz.underlying208
  a46 := Tryz.isAgg208
  z46 := Tryz.sizeOf208
  v46 := Tryz.zeroValue208
  t105 := Tryz.underlying272
  a105 := Tryz.isAgg272
  z105 := Tryz.sizeOf272
  v105 := Tryz.zeroValue272
  t116 := Tryz.underlying253
  a116 := Tryz.isAgg253
  z116 := Tryz.sizeOf253
  t117 := Tryz.underlying254
  a117 := Tryz.isAgg254
  z117 := Tryz.sizeOf254
  v117 := Tryz.zeroValue254
  t119 := Tryz.underlying305
  a119 := Tryz.isAgg305
  z119 := Tryz.sizeOf305
  t124 := Tryz.underlying257
  a124 := Tryz.isAgg257
  z124 := Tryz.sizeOf257
  v124 := Tryz.zeroValue257
  t138 := Tryz.underlying307
  a138 := Tryz.isAgg307
  z138 := Tryz.sizeOf307
  v138 := Tryz.zeroValue307
  t139 := Tryz.underlying308
  a139 := Tryz.isAgg308
  z139 := Tryz.sizeOf308
  v139 := Tryz.zeroValue308
  g3 := by kernel_rfl
  g4 := by kernel_rfl }
open Go.RowKit in
/-- strings.TrimRight: "TrimRight returns a slice of the string s, with all trailing Unicode code points contained in cutset removed.": AT A cutset OF ONE ASCII BYTE. The world is as it was. (LAID: no walk: one application.) -/
theorem Tryz.strings_TrimRight_one (s : ByteArray) (c : UInt8) (hc : c.toNat < 128) (w : World) (hs : s.size ≤ 9223372036854775807) :
    Calls Tryz.prog 183 #[.string s, .string ⟨#[c]⟩] w fun e w' => e = .returned (.string ⟨(Lib.trimRightB s.data.toList c).toArray⟩) ∧ w' = w := Any.strings_TrimRight_one Tryz.lays162 s c hc w hs
def Tryz.lays106_ren : Go.Shelf.Ren := ⟨fun | 106 => 205 | 213 => 252 | 265 => 286 | n => n, fun | 9 => 9 | 3 => 3 | n => n, fun | n => n⟩
theorem Tryz.lays106 : Go.Proofs.Lays.n106 Tryz.prog Tryz.lays106_ren := {
  mixed := by kernel_rfl
  f106 := Tryz.func205.trans (congrArg some (by kernel_rfl))
  f213 := Tryz.func252.trans (congrArg some (by kernel_rfl))
  f265 := Tryz.func286.trans (congrArg some (by kernel_rfl))
  t3 := Tryz.underlying3
  a3 := Tryz.isAgg3
  z3 := Tryz.sizeOf3
  v3 := Tryz.zeroValue3
  t9 := Tryz.underlying9
  a9 := Tryz.isAgg9
  z9 := Tryz.sizeOf9
  v9 := Tryz.zeroValue9 }
open Go.RowKit in
/-- strings.Compare: "Compare returns an integer comparing two strings lexicographically. The result will be 0 if a == b, -1 if a < b, and +1 if a > b.": IT RETURNS 'Lib.compareBytes a b'; the world is as it was. (LAID: no walk: one application.) -/
theorem Tryz.strings_Compare (a b : ByteArray) (w : World) :
    Calls Tryz.prog 205 #[.string a, .string b] w fun e w' => e = .returned (.int .i64 (Lib.compareBytes a.data.toList b.data.toList)) ∧ w' = w := Any.strings_Compare Tryz.lays106 a b w
def Tryz.lays137_ren : Go.Shelf.Ren := ⟨fun | 137 => 258 | 217 => 291 | 266 => 306 | n => n, fun | 9 => 9 | 5 => 5 | 3 => 3 | n => n, fun | n => n⟩
theorem Tryz.lays137 : Go.Proofs.Lays.n137 Tryz.prog Tryz.lays137_ren := {
  mixed := by kernel_rfl
  f137 := Tryz.func258.trans (congrArg some (by kernel_rfl))
  f217 := Tryz.func291.trans (congrArg some (by kernel_rfl))
  f266 := Tryz.func306.trans (congrArg some (by kernel_rfl))
  t3 := Tryz.underlying3
  a3 := Tryz.isAgg3
  z3 := Tryz.sizeOf3
  v3 := Tryz.zeroValue3
  t5 := Tryz.underlying5
  a5 := Tryz.isAgg5
  z5 := Tryz.sizeOf5
  v5 := Tryz.zeroValue5
  t9 := Tryz.underlying9
  a9 := Tryz.isAgg9
  z9 := Tryz.sizeOf9
  v9 := Tryz.zeroValue9 }
open Go.RowKit in
/-- strings.IndexByte: "IndexByte returns the index of the first instance of c in s, or -1 if c is not present in s.": IT RETURNS 'Lib.indexByte s c'; the world is as it was. (LAID: no walk: one application.) -/
theorem Tryz.strings_IndexByte (s : ByteArray) (c : Int) (w : World) :
    Calls Tryz.prog 258 #[.string s, .int .u8 c] w fun e w' => e = .returned (.int .i64 (Lib.indexByte s.data.toList c.toNat.toUInt8)) ∧ w' = w := Any.strings_IndexByte Tryz.lays137 s c w
def Tryz.lays103_ren : Go.Shelf.Ren := ⟨fun | 103 => 167 | 210 => 235 | 206 => 216 | n => n, fun | 9 => 9 | 4 => 4 | 24 => 30 | 3 => 3 | n => n, fun | n => n⟩
theorem Tryz.lays103 : Go.Proofs.Lays.n103 Tryz.prog Tryz.lays103_ren := {
  mixed := by kernel_rfl
  f103 := Tryz.func167.trans (congrArg some (by kernel_rfl))
  f206 := Tryz.func216.trans (congrArg some (by kernel_rfl))
  f210 := Tryz.func235.trans (congrArg some (by kernel_rfl))
  t3 := Tryz.underlying3
  a3 := Tryz.isAgg3
  z3 := Tryz.sizeOf3
  v3 := Tryz.zeroValue3
  t4 := Tryz.underlying4
  a4 := Tryz.isAgg4
  z4 := Tryz.sizeOf4
  v4 := Tryz.zeroValue4
  t9 := Tryz.underlying9
  a9 := Tryz.isAgg9
  z9 := Tryz.sizeOf9
  v9 := Tryz.zeroValue9
  t24 := Tryz.underlying30
  a24 := Tryz.isAgg30
  z24 := Tryz.sizeOf30
  v24 := Tryz.zeroValue30 }
open Go.RowKit in
/-- strings.CutPrefix: "CutPrefix returns s without the provided leading prefix string and reports whether it found the prefix. If s doesn't start with prefix, CutPrefix returns s, false. If prefix is the empty string, CutPrefix returns s, true.": IT RETURNS '(Lib.trimPrefix s p, Lib.hasPrefix s p)'; the world is as it was. (LAID: no walk: one application.) -/
theorem Tryz.strings_CutPrefix (s p : ByteArray) (w : World) :
    Calls Tryz.prog 167 #[.string s, .string p] w fun e w' => e = .returned (.tuple #[.string ⟨(Lib.trimPrefix s.data.toList p.data.toList).toArray⟩, .bool (Lib.hasPrefix s.data.toList p.data.toList)]) ∧ w' = w := Any.strings_CutPrefix Tryz.lays103 s p w
open Go.RowKit in
/-- (*strings.Builder).String: "String returns the accumulated string.": WHATEVER THE BUILDER HOLDS; THE FORM '_k': OVER 'Lib.IsBuilderF' (a builder that 'String()' may have read), AND WITH THE FRAME THAT REACHES ABOVE THE BUILDER: 'Lib.OthersKept': every block that is not b and is no row of uint8's stands as it stood: the iterator of a range among them. (LAID: no walk: one application.) -/
theorem Tryz.Builder_String_any_k (B b : Nat) (l : List UInt8) (w : World) (h : Lib.IsBuilderF 215 5 B b (Lib.byteCells l) w) (hBw : B ≤ w.heap.size) :
    Calls Tryz.prog 186 #[.pointer (some ⟨b, 0, none⟩)] w fun e w' => e = .returned (.string ⟨l.toArray⟩) ∧ (Lib.IsBuilderF 215 5 B b (Lib.byteCells l) w' ∧ Below B w w' ∧ Lib.OthersKept 5 (some b) w w') := Any.Builder_String_any_k Tryz.lays169 Tryz.Builder_Extra_169 B b l w h hBw
def Tryz.laysM171_ren : Go.Shelf.Ren := ⟨fun | 171 => 114 | 243 => 193 | 246 => 243 | 283 => 276 | 284 => 277 | 285 => 278 | 286 => 279 | 129 => 300 | 317 => 299 | 318 => 301 | 319 => 302 | 320 => 303 | 337 => 309 | 338 => 310 | n => n, fun | 3 => 3 | 9 => 9 | 2 => 2 | 4 => 4 | 171 => 278 | 0 => 0 | 53 => 183 | 37 => 40 | 5 => 5 | 173 => 281 | 212 => 298 | 51 => 107 | 20 => 20 | 213 => 299 | 46 => 208 | 232 => 311 | 233 => 312 | n => n, fun | 17 => 4 | 18 => 7 | 19 => 8 | n => n⟩
theorem Tryz.laysM171 : Go.Proofs.LaysM.n171 Tryz.prog Tryz.laysM171_ren := {
  mixed := by kernel_rfl
  f129 := Tryz.func300.trans (congrArg some (by kernel_rfl))
  f171 := Tryz.func114.trans (congrArg some (by kernel_rfl))
  f243 := Tryz.func193.trans (congrArg some (by kernel_rfl))
  f246 := Tryz.func243.trans (congrArg some (by kernel_rfl))
  f283 := Tryz.func276.trans (congrArg some (by kernel_rfl))
  f284 := Tryz.func277.trans (congrArg some (by kernel_rfl))
  f285 := Tryz.func278.trans (congrArg some (by kernel_rfl))
  f286 := Tryz.func279.trans (congrArg some (by kernel_rfl))
  f317 := Tryz.func299.trans (congrArg some (by kernel_rfl))
  f318 := Tryz.func301.trans (congrArg some (by kernel_rfl))
  f319 := Tryz.func302.trans (congrArg some (by kernel_rfl))
  f320 := Tryz.func303.trans (congrArg some (by kernel_rfl))
  f337 := Tryz.func309.trans (congrArg some (by kernel_rfl))
  f338 := Tryz.func310.trans (congrArg some (by kernel_rfl))
  t0 := Tryz.underlying0
  a0 := Tryz.isAgg0
  z0 := Tryz.sizeOf0
  v0 := Tryz.zeroValue0
  t2 := Tryz.underlying2
  a2 := Tryz.isAgg2
  z2 := Tryz.sizeOf2
  v2 := Tryz.zeroValue2
  t3 := Tryz.underlying3
  a3 := Tryz.isAgg3
  z3 := Tryz.sizeOf3
  v3 := Tryz.zeroValue3
  t4 := Tryz.underlying4
  a4 := Tryz.isAgg4
  z4 := Tryz.sizeOf4
  v4 := Tryz.zeroValue4
  t5 := Tryz.underlying5
  a5 := Tryz.isAgg5
  z5 := Tryz.sizeOf5
  v5 := Tryz.zeroValue5
  t9 := Tryz.underlying9
  a9 := Tryz.isAgg9
  z9 := Tryz.sizeOf9
  v9 := Tryz.zeroValue9
  t20 := Tryz.underlying20
  a20 := Tryz.isAgg20
  z20 := Tryz.sizeOf20
  v20 := Tryz.zeroValue20
  t37 := Tryz.underlying40
  a37 := Tryz.isAgg40
  z37 := Tryz.sizeOf40
  v37 := Tryz.zeroValue40
  t46 := Tryz.underlying208
  a46 := Tryz.isAgg208
  z46 := Tryz.sizeOf208
  v46 := Tryz.zeroValue208
  t51 := Tryz.underlying107
  a51 := Tryz.isAgg107
  z51 := Tryz.sizeOf107
  v51 := Tryz.zeroValue107
  t53 := Tryz.underlying183
  a53 := Tryz.isAgg183
  z53 := Tryz.sizeOf183
  v53 := Tryz.zeroValue183
  t171 := Tryz.underlying278
  a171 := Tryz.isAgg278
  z171 := Tryz.sizeOf278
  v171 := Tryz.zeroValue278
  t173 := Tryz.underlying281
  a173 := Tryz.isAgg281
  z173 := Tryz.sizeOf281
  v173 := Tryz.zeroValue281
  t212 := Tryz.underlying298
  a212 := Tryz.isAgg298
  z212 := Tryz.sizeOf298
  v212 := Tryz.zeroValue298
  t213 := Tryz.underlying299
  a213 := Tryz.isAgg299
  z213 := Tryz.sizeOf299
  t232 := Tryz.underlying311
  a232 := Tryz.isAgg311
  z232 := Tryz.sizeOf311
  v232 := Tryz.zeroValue311
  t233 := Tryz.underlying312
  a233 := Tryz.isAgg312
  z233 := Tryz.sizeOf312
  v233 := Tryz.zeroValue312
  g17 := by kernel_rfl
  g18 := by kernel_rfl
  g19 := by kernel_rfl
  i0 := by kernel_rfl
  i2 := by kernel_rfl
  i3 := by kernel_rfl
  i4 := by kernel_rfl
  i5 := by kernel_rfl
  i9 := by kernel_rfl
  i20 := by kernel_rfl
  i37 := by kernel_rfl
  i46 := by kernel_rfl
  i51 := by kernel_rfl
  i53 := by kernel_rfl
  i171 := by kernel_rfl
  i173 := by kernel_rfl
  i212 := by kernel_rfl
  i232 := by kernel_rfl
  i233 := by kernel_rfl
  m17 := by kernel_rfl
  m18 := by kernel_rfl
  m19 := by kernel_rfl }
open Go.RowKit Go.Sort Go.Lib in
/-- strconv.Itoa: "Itoa is equivalent to FormatInt(int64(i), 10).": i's DECIMAL NUMERAL ('Lib.itoa': a '-' where i is negative, then the digits), FOR EVERY int. The world behind the call: the world before it, new blocks behind the heap (the library's 'var a [24]byte'), draws. (LAID: no walk: one application.) -/
theorem Tryz.strconv_Itoa (n : Int) (h0 : -9223372036854775808 ≤ n) (h1 : n ≤ 9223372036854775807) (w : World) (htab : Lib.TabIs Tryz.prog w "internal/strconv.uint64pow10" .u64 Lib.pow10Tab) :
    Calls Tryz.prog 114 #[.int .i64 n] w fun e w' => e = .returned (.string ⟨(Lib.itoa n).toArray⟩) ∧ ∃ k os, w' = grow (w.drewN k) os := Any.strconv_Itoa Tryz.laysM171 n h0 h1 w htab
def Tryz.laysM173_ren : Go.Shelf.Ren := ⟨fun | 173 => 182 | 246 => 243 | 283 => 276 | 284 => 277 | 285 => 278 | 286 => 279 | 129 => 300 | 317 => 299 | 318 => 301 | 319 => 302 | 320 => 303 | 337 => 309 | 338 => 310 | n => n, fun | 2 => 2 | 3 => 3 | 9 => 9 | 4 => 4 | 171 => 278 | 0 => 0 | 53 => 183 | 37 => 40 | 5 => 5 | 173 => 281 | 212 => 298 | 51 => 107 | 20 => 20 | 213 => 299 | 46 => 208 | 232 => 311 | 233 => 312 | n => n, fun | 17 => 4 | 18 => 7 | 19 => 8 | n => n⟩
theorem Tryz.laysM173 : Go.Proofs.LaysM.n173 Tryz.prog Tryz.laysM173_ren := {
  mixed := by kernel_rfl
  f129 := Tryz.func300.trans (congrArg some (by kernel_rfl))
  f173 := Tryz.func182.trans (congrArg some (by kernel_rfl))
  f246 := Tryz.func243.trans (congrArg some (by kernel_rfl))
  f283 := Tryz.func276.trans (congrArg some (by kernel_rfl))
  f284 := Tryz.func277.trans (congrArg some (by kernel_rfl))
  f285 := Tryz.func278.trans (congrArg some (by kernel_rfl))
  f286 := Tryz.func279.trans (congrArg some (by kernel_rfl))
  f317 := Tryz.func299.trans (congrArg some (by kernel_rfl))
  f318 := Tryz.func301.trans (congrArg some (by kernel_rfl))
  f319 := Tryz.func302.trans (congrArg some (by kernel_rfl))
  f320 := Tryz.func303.trans (congrArg some (by kernel_rfl))
  f337 := Tryz.func309.trans (congrArg some (by kernel_rfl))
  f338 := Tryz.func310.trans (congrArg some (by kernel_rfl))
  t0 := Tryz.underlying0
  a0 := Tryz.isAgg0
  z0 := Tryz.sizeOf0
  v0 := Tryz.zeroValue0
  t2 := Tryz.underlying2
  a2 := Tryz.isAgg2
  z2 := Tryz.sizeOf2
  v2 := Tryz.zeroValue2
  t3 := Tryz.underlying3
  a3 := Tryz.isAgg3
  z3 := Tryz.sizeOf3
  v3 := Tryz.zeroValue3
  t4 := Tryz.underlying4
  a4 := Tryz.isAgg4
  z4 := Tryz.sizeOf4
  v4 := Tryz.zeroValue4
  t5 := Tryz.underlying5
  a5 := Tryz.isAgg5
  z5 := Tryz.sizeOf5
  v5 := Tryz.zeroValue5
  t9 := Tryz.underlying9
  a9 := Tryz.isAgg9
  z9 := Tryz.sizeOf9
  v9 := Tryz.zeroValue9
  t20 := Tryz.underlying20
  a20 := Tryz.isAgg20
  z20 := Tryz.sizeOf20
  v20 := Tryz.zeroValue20
  t37 := Tryz.underlying40
  a37 := Tryz.isAgg40
  z37 := Tryz.sizeOf40
  v37 := Tryz.zeroValue40
  t46 := Tryz.underlying208
  a46 := Tryz.isAgg208
  z46 := Tryz.sizeOf208
  v46 := Tryz.zeroValue208
  t51 := Tryz.underlying107
  a51 := Tryz.isAgg107
  z51 := Tryz.sizeOf107
  v51 := Tryz.zeroValue107
  t53 := Tryz.underlying183
  a53 := Tryz.isAgg183
  z53 := Tryz.sizeOf183
  v53 := Tryz.zeroValue183
  t171 := Tryz.underlying278
  a171 := Tryz.isAgg278
  z171 := Tryz.sizeOf278
  v171 := Tryz.zeroValue278
  t173 := Tryz.underlying281
  a173 := Tryz.isAgg281
  z173 := Tryz.sizeOf281
  v173 := Tryz.zeroValue281
  t212 := Tryz.underlying298
  a212 := Tryz.isAgg298
  z212 := Tryz.sizeOf298
  v212 := Tryz.zeroValue298
  t213 := Tryz.underlying299
  a213 := Tryz.isAgg299
  z213 := Tryz.sizeOf299
  t232 := Tryz.underlying311
  a232 := Tryz.isAgg311
  z232 := Tryz.sizeOf311
  v232 := Tryz.zeroValue311
  t233 := Tryz.underlying312
  a233 := Tryz.isAgg312
  z233 := Tryz.sizeOf312
  v233 := Tryz.zeroValue312
  g17 := by kernel_rfl
  g18 := by kernel_rfl
  g19 := by kernel_rfl
  i0 := by kernel_rfl
  i2 := by kernel_rfl
  i3 := by kernel_rfl
  i4 := by kernel_rfl
  i5 := by kernel_rfl
  i9 := by kernel_rfl
  i20 := by kernel_rfl
  i37 := by kernel_rfl
  i46 := by kernel_rfl
  i51 := by kernel_rfl
  i53 := by kernel_rfl
  i171 := by kernel_rfl
  i173 := by kernel_rfl
  i212 := by kernel_rfl
  i232 := by kernel_rfl
  i233 := by kernel_rfl
  m17 := by kernel_rfl
  m18 := by kernel_rfl
  m19 := by kernel_rfl }
open Go.RowKit Go.Sort Go.Lib in
/-- strconv.FormatInt: "FormatInt returns the string representation of i in the given base": AT BASE 10: i's decimal numeral, for every int64. (LAID: no walk: one application.) -/
theorem Tryz.strconv_FormatInt_10 (n : Int) (h0 : -9223372036854775808 ≤ n) (h1 : n ≤ 9223372036854775807) (w : World) (htab : Lib.TabIs Tryz.prog w "internal/strconv.uint64pow10" .u64 Lib.pow10Tab) :
    Calls Tryz.prog 182 #[.int .i64 n, .int .i64 10] w fun e w' => e = .returned (.string ⟨(Lib.itoa n).toArray⟩) ∧ ∃ k os, w' = grow (w.drewN k) os := Any.strconv_FormatInt_10 Tryz.laysM173 n h0 h1 w htab
def Tryz.laysC174_ren : Go.Shelf.Ren := ⟨fun | 174 => 171 | 247 => 237 | 245 => 218 | 287 => 217 | 279 => 262 | 280 => 263 | 281 => 264 | 282 => 265 | 321 => 260 | 322 => 261 | 316 => 292 | 171 => 114 | 205 => 293 | 243 => 193 | 246 => 243 | 283 => 276 | 284 => 277 | 285 => 278 | 286 => 279 | 129 => 300 | 317 => 299 | 318 => 301 | 319 => 302 | 320 => 303 | 337 => 309 | 338 => 310 | n => n, fun | 9 => 9 | 3 => 3 | 2 => 2 | 75 => 185 | 85 => 205 | 4 => 4 | 167 => 265 | 5 => 5 | 53 => 183 | 175 => 186 | 46 => 208 | 168 => 267 | 37 => 40 | 0 => 0 | 210 => 290 | 21 => 21 | 127 => 258 | 145 => 303 | 143 => 301 | 171 => 278 | 173 => 281 | 212 => 298 | 51 => 107 | 20 => 20 | 213 => 299 | 232 => 311 | 233 => 312 | 80 => 149 | n => n, fun | 15 => 2 | 16 => 3 | 17 => 4 | 18 => 7 | 19 => 8 | n => n⟩
theorem Tryz.laysC174 : Go.Proofs.LaysC.n174 Tryz.prog Tryz.laysC174_ren := {
  mixed := by kernel_rfl
  f129 := Tryz.func300.trans (congrArg some (by kernel_rfl))
  f171 := Tryz.func114.trans (congrArg some (by kernel_rfl))
  f174 := Tryz.func171.trans (congrArg some (by kernel_rfl))
  f205 := Tryz.func293.trans (congrArg some (by kernel_rfl))
  f243 := Tryz.func193.trans (congrArg some (by kernel_rfl))
  f245 := Tryz.func218.trans (congrArg some (by kernel_rfl))
  f246 := Tryz.func243.trans (congrArg some (by kernel_rfl))
  f247 := Tryz.func237.trans (congrArg some (by kernel_rfl))
  f279 := Tryz.func262.trans (congrArg some (by kernel_rfl))
  f280 := Tryz.func263.trans (congrArg some (by kernel_rfl))
  f281 := Tryz.func264.trans (congrArg some (by kernel_rfl))
  f282 := Tryz.func265.trans (congrArg some (by kernel_rfl))
  f283 := Tryz.func276.trans (congrArg some (by kernel_rfl))
  f284 := Tryz.func277.trans (congrArg some (by kernel_rfl))
  f285 := Tryz.func278.trans (congrArg some (by kernel_rfl))
  f286 := Tryz.func279.trans (congrArg some (by kernel_rfl))
  f287 := Tryz.func217.trans (congrArg some (by kernel_rfl))
  f316 := Tryz.func292.trans (congrArg some (by kernel_rfl))
  f317 := Tryz.func299.trans (congrArg some (by kernel_rfl))
  f318 := Tryz.func301.trans (congrArg some (by kernel_rfl))
  f319 := Tryz.func302.trans (congrArg some (by kernel_rfl))
  f320 := Tryz.func303.trans (congrArg some (by kernel_rfl))
  f321 := Tryz.func260.trans (congrArg some (by kernel_rfl))
  f322 := Tryz.func261.trans (congrArg some (by kernel_rfl))
  f337 := Tryz.func309.trans (congrArg some (by kernel_rfl))
  f338 := Tryz.func310.trans (congrArg some (by kernel_rfl))
  t0 := Tryz.underlying0
  a0 := Tryz.isAgg0
  z0 := Tryz.sizeOf0
  v0 := Tryz.zeroValue0
  t2 := Tryz.underlying2
  a2 := Tryz.isAgg2
  z2 := Tryz.sizeOf2
  v2 := Tryz.zeroValue2
  t3 := Tryz.underlying3
  a3 := Tryz.isAgg3
  z3 := Tryz.sizeOf3
  v3 := Tryz.zeroValue3
  t4 := Tryz.underlying4
  a4 := Tryz.isAgg4
  z4 := Tryz.sizeOf4
  v4 := Tryz.zeroValue4
  t5 := Tryz.underlying5
  a5 := Tryz.isAgg5
  z5 := Tryz.sizeOf5
  v5 := Tryz.zeroValue5
  t9 := Tryz.underlying9
  a9 := Tryz.isAgg9
  z9 := Tryz.sizeOf9
  v9 := Tryz.zeroValue9
  t20 := Tryz.underlying20
  a20 := Tryz.isAgg20
  z20 := Tryz.sizeOf20
  v20 := Tryz.zeroValue20
  t21 := Tryz.underlying21
  a21 := Tryz.isAgg21
  z21 := Tryz.sizeOf21
  v21 := Tryz.zeroValue21
  t37 := Tryz.underlying40
  a37 := Tryz.isAgg40
  z37 := Tryz.sizeOf40
  v37 := Tryz.zeroValue40
  t46 := Tryz.underlying208
  a46 := Tryz.isAgg208
  z46 := Tryz.sizeOf208
  v46 := Tryz.zeroValue208
  t51 := Tryz.underlying107
  a51 := Tryz.isAgg107
  z51 := Tryz.sizeOf107
  v51 := Tryz.zeroValue107
  t53 := Tryz.underlying183
  a53 := Tryz.isAgg183
  z53 := Tryz.sizeOf183
  v53 := Tryz.zeroValue183
  t75 := Tryz.underlying185
  a75 := Tryz.isAgg185
  z75 := Tryz.sizeOf185
  v75 := Tryz.zeroValue185
  t85 := Tryz.underlying205
  a85 := Tryz.isAgg205
  z85 := Tryz.sizeOf205
  v85 := Tryz.zeroValue205
  t127 := Tryz.underlying258
  a127 := Tryz.isAgg258
  z127 := Tryz.sizeOf258
  v127 := Tryz.zeroValue258
  t143 := Tryz.underlying301
  a143 := Tryz.isAgg301
  z143 := Tryz.sizeOf301
  v143 := Tryz.zeroValue301
  t145 := Tryz.underlying303
  a145 := Tryz.isAgg303
  z145 := Tryz.sizeOf303
  v145 := Tryz.zeroValue303
  t167 := Tryz.underlying265
  a167 := Tryz.isAgg265
  z167 := Tryz.sizeOf265
  v167 := Tryz.zeroValue265
  t168 := Tryz.underlying267
  a168 := Tryz.isAgg267
  z168 := Tryz.sizeOf267
  v168 := Tryz.zeroValue267
  t171 := Tryz.underlying278
  a171 := Tryz.isAgg278
  z171 := Tryz.sizeOf278
  v171 := Tryz.zeroValue278
  t173 := Tryz.underlying281
  a173 := Tryz.isAgg281
  z173 := Tryz.sizeOf281
  v173 := Tryz.zeroValue281
  t175 := Tryz.underlying186
  a175 := Tryz.isAgg186
  z175 := Tryz.sizeOf186
  v175 := Tryz.zeroValue186
  t210 := Tryz.underlying290
  a210 := Tryz.isAgg290
  z210 := Tryz.sizeOf290
  v210 := Tryz.zeroValue290
  t212 := Tryz.underlying298
  a212 := Tryz.isAgg298
  z212 := Tryz.sizeOf298
  v212 := Tryz.zeroValue298
  t213 := Tryz.underlying299
  a213 := Tryz.isAgg299
  z213 := Tryz.sizeOf299
  t232 := Tryz.underlying311
  a232 := Tryz.isAgg311
  z232 := Tryz.sizeOf311
  v232 := Tryz.zeroValue311
  t233 := Tryz.underlying312
  a233 := Tryz.isAgg312
  z233 := Tryz.sizeOf312
  v233 := Tryz.zeroValue312
  g15 := by kernel_rfl
  g16 := by kernel_rfl
  g17 := by kernel_rfl
  g18 := by kernel_rfl
  g19 := by kernel_rfl
  t80 := Tryz.underlying149
  a80 := Tryz.isAgg149
  z80 := Tryz.sizeOf149
  v80 := Tryz.zeroValue149
  i0 := by kernel_rfl
  i2 := by kernel_rfl
  i3 := by kernel_rfl
  i4 := by kernel_rfl
  i5 := by kernel_rfl
  i9 := by kernel_rfl
  i20 := by kernel_rfl
  i21 := by kernel_rfl
  i37 := by kernel_rfl
  i46 := by kernel_rfl
  i51 := by kernel_rfl
  i53 := by kernel_rfl
  i75 := by kernel_rfl
  i80 := by kernel_rfl
  i85 := by kernel_rfl
  i127 := by kernel_rfl
  i143 := by kernel_rfl
  i145 := by kernel_rfl
  i167 := by kernel_rfl
  i168 := by kernel_rfl
  i171 := by kernel_rfl
  i173 := by kernel_rfl
  i175 := by kernel_rfl
  i210 := by kernel_rfl
  i212 := by kernel_rfl
  i232 := by kernel_rfl
  i233 := by kernel_rfl
  m15 := by kernel_rfl
  m16 := by kernel_rfl
  m17 := by kernel_rfl
  m18 := by kernel_rfl
  m19 := by kernel_rfl
  c0 := by kernel_rfl
  c2 := by kernel_rfl
  c3 := by kernel_rfl
  c4 := by kernel_rfl
  c5 := by kernel_rfl
  c9 := by kernel_rfl
  c20 := by kernel_rfl
  c21 := by kernel_rfl
  c37 := by kernel_rfl
  c46 := by kernel_rfl
  c51 := by kernel_rfl
  c53 := by kernel_rfl
  c75 := by kernel_rfl
  c80 := by kernel_rfl
  c85 := by kernel_rfl
  c127 := by kernel_rfl
  c143 := by kernel_rfl
  c145 := by kernel_rfl
  c167 := by kernel_rfl
  c168 := by kernel_rfl
  c171 := by kernel_rfl
  c173 := by kernel_rfl
  c175 := by kernel_rfl
  c210 := by kernel_rfl
  c212 := by kernel_rfl
  c213 := by kernel_rfl
  c232 := by kernel_rfl
  c233 := by kernel_rfl }
open Go.RowKit in
/-- strconv.ParseInt(s, 10, 64), AT EVERY STRING THAT SPELLS AN int64 ('Lib.parseIntB 64 s.data.toList = .ok v'): v, AND NO ERROR. (LAID: no walk: one application.) -/
theorem Tryz.strconv_ParseInt_10_at64_ok (s : ByteArray) (hmax : s.size ≤ 9223372036854775806) (v : Int) (h : Lib.parseIntB 64 s.data.toList = .ok v) (w : World) :
    Calls Tryz.prog 171 #[.string s, .int .i64 10, .int .i64 64] w fun e w' => e = .returned (.tuple #[.int .i64 v, .nilIface]) ∧ (w' = w ∨ ∃ t, w' = Lib.bytesWorld w 5 t) := Any.strconv_ParseInt_10_at64_ok Tryz.laysC174 s hmax v h w
open Go.RowKit in
/-- strconv.ParseInt(s, 10, 64), AT EVERY STRING THAT IS NO DECIMAL NUMERAL: 0, AND AN ERROR THAT IS NOT nil: a *NumError in a new block N: {Func: "ParseInt", Num: s's bytes, Err: what the variable ErrSyntax holds}. Of what was there nothing has turned. (LAID: no walk: one application.) -/
theorem Tryz.strconv_ParseInt_10_at64_syntax (s : ByteArray) (hlim : s.size ≤ 281474976710656) (h : Lib.parseIntB 64 s.data.toList = Lib.parseIntB 64 []) (ev : Value) (w : World) (hv : w.cell? ⟨2, 0, none⟩ = some ev) (hev : ev = .nilIface ∨ ∃ te pe, ev = .iface te pe) :
    Calls Tryz.prog 171 #[.string s, .int .i64 10, .int .i64 64] w fun e w' => ∃ N, e = .returned (.tuple #[.int .i64 (0), .iface 267 (.pointer (some ⟨N, 0, none⟩))]) ∧ w.heap.size ≤ N ∧ w'.heap[N]? = some (.cells #[.string ⟨#[80, 97, 114, 115, 101, 73, 110, 116]⟩, .string s, ev] 290 (0, 0)) ∧ Below w.heap.size w w' := Any.strconv_ParseInt_10_at64_syntax Tryz.laysC174 s hlim h ev w hv hev
open Go.RowKit in
/-- strconv.ParseInt(s, 10, 64), AT EVERY NUMERAL THAT NO int64 HOLDS: THE GREATEST OR THE LEAST int64, BY THE SIGN ('Lib.intSat 64'), AND AN ERROR THAT IS NOT nil: a *NumError in a new block N: {Func: "ParseInt", Num: s's bytes, Err: what the variable ErrRange holds}. Of what was there nothing has turned. (LAID: no walk: one application.) -/
theorem Tryz.strconv_ParseInt_10_at64_range (s : ByteArray) (hlim : s.size ≤ 281474976710656) (h : Lib.parseIntB 64 s.data.toList = .range) (ev : Value) (w : World) (hv : w.cell? ⟨3, 0, none⟩ = some ev) (hev : ev = .nilIface ∨ ∃ te pe, ev = .iface te pe) :
    Calls Tryz.prog 171 #[.string s, .int .i64 10, .int .i64 64] w fun e w' => ∃ N, e = .returned (.tuple #[.int .i64 (Lib.intSat 64 s.data.toList), .iface 267 (.pointer (some ⟨N, 0, none⟩))]) ∧ w.heap.size ≤ N ∧ w'.heap[N]? = some (.cells #[.string ⟨#[80, 97, 114, 115, 101, 73, 110, 116]⟩, .string s, ev] 290 (0, 0)) ∧ Below w.heap.size w w' := Any.strconv_ParseInt_10_at64_range Tryz.laysC174 s hlim h ev w hv hev
def Tryz.laysPu14_ren : Go.Shelf.Ren := ⟨fun | 14 => 146 | 16 => 217 | 17 => 218 | 19 => 260 | 20 => 261 | 21 => 262 | 22 => 263 | 23 => 264 | 24 => 265 | 25 => 292 | 27 => 114 | 26 => 293 | 28 => 193 | 29 => 243 | 30 => 276 | 31 => 277 | 32 => 278 | 33 => 279 | 35 => 300 | 34 => 299 | 36 => 301 | 37 => 302 | 38 => 303 | 39 => 309 | 40 => 310 | n => n, fun | 9 => 9 | 3 => 3 | 22 => 183 | 24 => 185 | 25 => 186 | 4 => 4 | 34 => 265 | 5 => 5 | 36 => 208 | 37 => 40 | 0 => 0 | 39 => 267 | 21 => 21 | 44 => 290 | 47 => 258 | 50 => 303 | 48 => 301 | 2 => 2 | 52 => 278 | 55 => 281 | 59 => 298 | 60 => 107 | 20 => 20 | 61 => 299 | 65 => 311 | 66 => 312 | 67 => 149 | n => n, fun | 0 => 2 | 1 => 3 | 2 => 4 | 3 => 7 | 4 => 8 | n => n⟩
theorem Tryz.laysPu14 : Go.Proofs.LaysPu.n14 Tryz.prog Tryz.laysPu14_ren := {
  mixed := by kernel_rfl
  f14 := Tryz.func146.trans (congrArg some (by kernel_rfl))
  f16 := Tryz.func217.trans (congrArg some (by kernel_rfl))
  f17 := Tryz.func218.trans (congrArg some (by kernel_rfl))
  f19 := Tryz.func260.trans (congrArg some (by kernel_rfl))
  f20 := Tryz.func261.trans (congrArg some (by kernel_rfl))
  f21 := Tryz.func262.trans (congrArg some (by kernel_rfl))
  f22 := Tryz.func263.trans (congrArg some (by kernel_rfl))
  f23 := Tryz.func264.trans (congrArg some (by kernel_rfl))
  f24 := Tryz.func265.trans (congrArg some (by kernel_rfl))
  f25 := Tryz.func292.trans (congrArg some (by kernel_rfl))
  f26 := Tryz.func293.trans (congrArg some (by kernel_rfl))
  f27 := Tryz.func114.trans (congrArg some (by kernel_rfl))
  f28 := Tryz.func193.trans (congrArg some (by kernel_rfl))
  f29 := Tryz.func243.trans (congrArg some (by kernel_rfl))
  f30 := Tryz.func276.trans (congrArg some (by kernel_rfl))
  f31 := Tryz.func277.trans (congrArg some (by kernel_rfl))
  f32 := Tryz.func278.trans (congrArg some (by kernel_rfl))
  f33 := Tryz.func279.trans (congrArg some (by kernel_rfl))
  f34 := Tryz.func299.trans (congrArg some (by kernel_rfl))
  f35 := Tryz.func300.trans (congrArg some (by kernel_rfl))
  f36 := Tryz.func301.trans (congrArg some (by kernel_rfl))
  f37 := Tryz.func302.trans (congrArg some (by kernel_rfl))
  f38 := Tryz.func303.trans (congrArg some (by kernel_rfl))
  f39 := Tryz.func309.trans (congrArg some (by kernel_rfl))
  f40 := Tryz.func310.trans (congrArg some (by kernel_rfl))
  t0 := Tryz.underlying0
  a0 := Tryz.isAgg0
  z0 := Tryz.sizeOf0
  v0 := Tryz.zeroValue0
  i0 := by kernel_rfl
  t2 := Tryz.underlying2
  a2 := Tryz.isAgg2
  z2 := Tryz.sizeOf2
  v2 := Tryz.zeroValue2
  i2 := by kernel_rfl
  t3 := Tryz.underlying3
  a3 := Tryz.isAgg3
  z3 := Tryz.sizeOf3
  v3 := Tryz.zeroValue3
  i3 := by kernel_rfl
  t4 := Tryz.underlying4
  a4 := Tryz.isAgg4
  z4 := Tryz.sizeOf4
  v4 := Tryz.zeroValue4
  i4 := by kernel_rfl
  t5 := Tryz.underlying5
  a5 := Tryz.isAgg5
  z5 := Tryz.sizeOf5
  v5 := Tryz.zeroValue5
  i5 := by kernel_rfl
  t9 := Tryz.underlying9
  a9 := Tryz.isAgg9
  z9 := Tryz.sizeOf9
  v9 := Tryz.zeroValue9
  i9 := by kernel_rfl
  t20 := Tryz.underlying20
  a20 := Tryz.isAgg20
  z20 := Tryz.sizeOf20
  v20 := Tryz.zeroValue20
  i20 := by kernel_rfl
  t21 := Tryz.underlying21
  a21 := Tryz.isAgg21
  z21 := Tryz.sizeOf21
  v21 := Tryz.zeroValue21
  i21 := by kernel_rfl
  t22 := Tryz.underlying183
  a22 := Tryz.isAgg183
  z22 := Tryz.sizeOf183
  v22 := Tryz.zeroValue183
  i22 := by kernel_rfl
  t24 := Tryz.underlying185
  a24 := Tryz.isAgg185
  z24 := Tryz.sizeOf185
  v24 := Tryz.zeroValue185
  i24 := by kernel_rfl
  t25 := Tryz.underlying186
  a25 := Tryz.isAgg186
  z25 := Tryz.sizeOf186
  v25 := Tryz.zeroValue186
  i25 := by kernel_rfl
  t34 := Tryz.underlying265
  a34 := Tryz.isAgg265
  z34 := Tryz.sizeOf265
  v34 := Tryz.zeroValue265
  i34 := by kernel_rfl
  c34 := by kernel_rfl
  t36 := Tryz.underlying208
  a36 := Tryz.isAgg208
  z36 := Tryz.sizeOf208
  v36 := Tryz.zeroValue208
  i36 := by kernel_rfl
  t37 := Tryz.underlying40
  a37 := Tryz.isAgg40
  z37 := Tryz.sizeOf40
  v37 := Tryz.zeroValue40
  i37 := by kernel_rfl
  t39 := Tryz.underlying267
  a39 := Tryz.isAgg267
  z39 := Tryz.sizeOf267
  v39 := Tryz.zeroValue267
  i39 := by kernel_rfl
  t44 := Tryz.underlying290
  a44 := Tryz.isAgg290
  z44 := Tryz.sizeOf290
  v44 := Tryz.zeroValue290
  i44 := by kernel_rfl
  t47 := Tryz.underlying258
  a47 := Tryz.isAgg258
  z47 := Tryz.sizeOf258
  v47 := Tryz.zeroValue258
  i47 := by kernel_rfl
  t48 := Tryz.underlying301
  a48 := Tryz.isAgg301
  z48 := Tryz.sizeOf301
  v48 := Tryz.zeroValue301
  i48 := by kernel_rfl
  t50 := Tryz.underlying303
  a50 := Tryz.isAgg303
  z50 := Tryz.sizeOf303
  v50 := Tryz.zeroValue303
  i50 := by kernel_rfl
  t52 := Tryz.underlying278
  a52 := Tryz.isAgg278
  z52 := Tryz.sizeOf278
  v52 := Tryz.zeroValue278
  i52 := by kernel_rfl
  t55 := Tryz.underlying281
  a55 := Tryz.isAgg281
  z55 := Tryz.sizeOf281
  v55 := Tryz.zeroValue281
  i55 := by kernel_rfl
  t59 := Tryz.underlying298
  a59 := Tryz.isAgg298
  z59 := Tryz.sizeOf298
  v59 := Tryz.zeroValue298
  i59 := by kernel_rfl
  t60 := Tryz.underlying107
  a60 := Tryz.isAgg107
  z60 := Tryz.sizeOf107
  v60 := Tryz.zeroValue107
  i60 := by kernel_rfl
  t61 := Tryz.underlying299
  a61 := Tryz.isAgg299
  z61 := Tryz.sizeOf299
  t65 := Tryz.underlying311
  a65 := Tryz.isAgg311
  z65 := Tryz.sizeOf311
  v65 := Tryz.zeroValue311
  i65 := by kernel_rfl
  t66 := Tryz.underlying312
  a66 := Tryz.isAgg312
  z66 := Tryz.sizeOf312
  v66 := Tryz.zeroValue312
  i66 := by kernel_rfl
  t67 := Tryz.underlying149
  a67 := Tryz.isAgg149
  z67 := Tryz.sizeOf149
  v67 := Tryz.zeroValue149
  i67 := by kernel_rfl
  g0 := by kernel_rfl
  m0 := by kernel_rfl
  g1 := by kernel_rfl
  m1 := by kernel_rfl
  g2 := by kernel_rfl
  m2 := by kernel_rfl
  g3 := by kernel_rfl
  m3 := by kernel_rfl
  g4 := by kernel_rfl
  m4 := by kernel_rfl }
open Go.RowKit in
/-- strconv.ParseUint(s, 10, 64), AT EVERY STRING THAT SPELLS A uint64 ('Lib.parseUintB 64 s.data.toList = .ok u'): u, AND NO ERROR. (LAID: no walk: one application.) -/
theorem Tryz.strconv_ParseUint_10_at64_ok (s : ByteArray) (hmax : s.size ≤ 9223372036854775806) (u : Nat) (h : Lib.parseUintB 64 s.data.toList = .ok u) (w : World) :
    Calls Tryz.prog 146 #[.string s, .int .i64 10, .int .i64 64] w fun e w' => e = .returned (.tuple #[.int .u64 u, .nilIface]) ∧ (w' = w ∨ w' = Lib.bytesWorld w 5 s) := Any.strconv_ParseUint_10_at64_ok Tryz.laysPu14 s hmax u h w
open Go.RowKit in
/-- strconv.ParseUint(s, 10, 64), AT EVERY STRING THAT IS NO ROW OF DECIMAL DIGITS (a sign is a fault): 0, AND AN ERROR THAT IS NOT nil: a *NumError in a new block N: {Func: "ParseUint", Num: s's bytes, Err: what the variable ErrSyntax holds}. Of what was there nothing has turned. (LAID: no walk: one application.) -/
theorem Tryz.strconv_ParseUint_10_at64_syntax (s : ByteArray) (hlim : s.size ≤ 281474976710656) (h : Lib.parseUintB 64 s.data.toList = Lib.parseUintB 64 []) (ev : Value) (w : World) (hv : w.cell? ⟨2, 0, none⟩ = some ev) (hev : ev = .nilIface ∨ ∃ te pe, ev = .iface te pe) :
    Calls Tryz.prog 146 #[.string s, .int .i64 10, .int .i64 64] w fun e w' => ∃ N, e = .returned (.tuple #[.int .u64 0, .iface 267 (.pointer (some ⟨N, 0, none⟩))]) ∧ w.heap.size ≤ N ∧ w'.heap[N]? = some (.cells #[.string ⟨#[80, 97, 114, 115, 101, 85, 105, 110, 116]⟩, .string s, ev] 290 (0, 0)) ∧ Below w.heap.size w w' := Any.strconv_ParseUint_10_at64_syntax Tryz.laysPu14 s hlim h ev w hv hev
open Go.RowKit in
/-- strconv.ParseUint(s, 10, 64), AT EVERY NUMERAL THAT NO uint64 HOLDS: THE GREATEST uint64, AND AN ERROR THAT IS NOT nil: a *NumError in a new block N: {Func: "ParseUint", Num: s's bytes, Err: what the variable ErrRange holds}. Of what was there nothing has turned. (LAID: no walk: one application.) -/
theorem Tryz.strconv_ParseUint_10_at64_range (s : ByteArray) (hlim : s.size ≤ 281474976710656) (h : Lib.parseUintB 64 s.data.toList = .range) (ev : Value) (w : World) (hv : w.cell? ⟨3, 0, none⟩ = some ev) (hev : ev = .nilIface ∨ ∃ te pe, ev = .iface te pe) :
    Calls Tryz.prog 146 #[.string s, .int .i64 10, .int .i64 64] w fun e w' => ∃ N, e = .returned (.tuple #[.int .u64 18446744073709551615, .iface 267 (.pointer (some ⟨N, 0, none⟩))]) ∧ w.heap.size ≤ N ∧ w'.heap[N]? = some (.cells #[.string ⟨#[80, 97, 114, 115, 101, 85, 105, 110, 116]⟩, .string s, ev] 290 (0, 0)) ∧ Below w.heap.size w w' := Any.strconv_ParseUint_10_at64_range Tryz.laysPu14 s hlim h ev w hv hev
def Tryz.lays219_ren : Go.Shelf.Ren := ⟨fun | 219 => 273 | 217 => 291 | 225 => 290 | 224 => 289 | 267 => 298 | 266 => 306 | 314 => 308 | n => n, fun | 9 => 9 | 3 => 3 | 4 => 4 | 5 => 5 | 46 => 208 | 146 => 274 | 51 => 107 | n => n, fun | 1 => 1 | n => n⟩
theorem Tryz.lays219 : Go.Proofs.Lays.n219 Tryz.prog Tryz.lays219_ren := {
  mixed := by kernel_rfl
  f217 := Tryz.func291.trans (congrArg some (by kernel_rfl))
  f219 := Tryz.func273.trans (congrArg some (by kernel_rfl))
  f224 := Tryz.func289.trans (congrArg some (by kernel_rfl))
  f225 := Tryz.func290.trans (congrArg some (by kernel_rfl))
  f266 := Tryz.func306.trans (congrArg some (by kernel_rfl))
  f267 := Tryz.func298.trans (congrArg some (by kernel_rfl))
  f314 := Tryz.func308.trans (congrArg some (by kernel_rfl))
  t3 := Tryz.underlying3
  a3 := Tryz.isAgg3
  z3 := Tryz.sizeOf3
  v3 := Tryz.zeroValue3
  t4 := Tryz.underlying4
  a4 := Tryz.isAgg4
  z4 := Tryz.sizeOf4
  v4 := Tryz.zeroValue4
  t5 := Tryz.underlying5
  a5 := Tryz.isAgg5
  z5 := Tryz.sizeOf5
  v5 := Tryz.zeroValue5
  t9 := Tryz.underlying9
  a9 := Tryz.isAgg9
  z9 := Tryz.sizeOf9
  v9 := Tryz.zeroValue9
  t46 := Tryz.underlying208
  a46 := Tryz.isAgg208
  z46 := Tryz.sizeOf208
  v46 := Tryz.zeroValue208
  t51 := Tryz.underlying107
  a51 := Tryz.isAgg107
  z51 := Tryz.sizeOf107
  v51 := Tryz.zeroValue107
  t146 := Tryz.underlying274
  a146 := Tryz.isAgg274
  z146 := Tryz.sizeOf274
  v146 := Tryz.zeroValue274
  g1 := by kernel_rfl }
open Go.RowKit Go.Lib in
/-- internal/stringslite.Index (what strings.Index calls) AT A substr OF ONE BYTE c: IT RETURNS 'Lib.indexByte s c'; the world is as it was. (LAID: no walk: one application.) -/
theorem Tryz.stringslite_Index_one (s : ByteArray) (c : UInt8) (w : World) :
    Calls Tryz.prog 273 #[.string s, .string ⟨#[c]⟩] w fun e w' => e = .returned (.int .i64 (Lib.indexByte s.data.toList c)) ∧ w' = w := Any.stringslite_Index_one Tryz.lays219 s c w
open Go.RowKit Go.Lib in
/-- internal/stringslite.Index (what strings.Index calls) AT A substr OF WHATEVER LENGTH: IT RETURNS 'Lib.index s substr'; the world is as it was. 'm': what internal/bytealg.MaxLen holds: whatever. (LAID: no walk: one application.) -/
theorem Tryz.stringslite_Index (s sub : ByteArray) (m : Int) (w : World) (hs : s.size < 4294967281) (hm : w.cell? ⟨1, 0, none⟩ = some (.int .i64 m)) :
    Calls Tryz.prog 273 #[.string s, .string sub] w fun e w' => e = .returned (.int .i64 (Lib.index s.data.toList sub.data.toList)) ∧ w' = w := Any.stringslite_Index Tryz.lays219 s sub m w hs hm
def Tryz.lays143_ren : Go.Shelf.Ren := ⟨fun | 143 => 234 | 219 => 273 | 217 => 291 | 225 => 290 | 224 => 289 | 267 => 298 | 266 => 306 | 314 => 308 | n => n, fun | 9 => 9 | 3 => 3 | 4 => 4 | 5 => 5 | 46 => 208 | 146 => 274 | 51 => 107 | n => n, fun | 1 => 1 | n => n⟩
theorem Tryz.lays143 : Go.Proofs.Lays.n143 Tryz.prog Tryz.lays143_ren := {
  mixed := by kernel_rfl
  f143 := Tryz.func234.trans (congrArg some (by kernel_rfl))
  f217 := Tryz.func291.trans (congrArg some (by kernel_rfl))
  f219 := Tryz.func273.trans (congrArg some (by kernel_rfl))
  f224 := Tryz.func289.trans (congrArg some (by kernel_rfl))
  f225 := Tryz.func290.trans (congrArg some (by kernel_rfl))
  f266 := Tryz.func306.trans (congrArg some (by kernel_rfl))
  f267 := Tryz.func298.trans (congrArg some (by kernel_rfl))
  f314 := Tryz.func308.trans (congrArg some (by kernel_rfl))
  t3 := Tryz.underlying3
  a3 := Tryz.isAgg3
  z3 := Tryz.sizeOf3
  v3 := Tryz.zeroValue3
  t4 := Tryz.underlying4
  a4 := Tryz.isAgg4
  z4 := Tryz.sizeOf4
  v4 := Tryz.zeroValue4
  t5 := Tryz.underlying5
  a5 := Tryz.isAgg5
  z5 := Tryz.sizeOf5
  v5 := Tryz.zeroValue5
  t9 := Tryz.underlying9
  a9 := Tryz.isAgg9
  z9 := Tryz.sizeOf9
  v9 := Tryz.zeroValue9
  t46 := Tryz.underlying208
  a46 := Tryz.isAgg208
  z46 := Tryz.sizeOf208
  v46 := Tryz.zeroValue208
  t51 := Tryz.underlying107
  a51 := Tryz.isAgg107
  z51 := Tryz.sizeOf107
  v51 := Tryz.zeroValue107
  t146 := Tryz.underlying274
  a146 := Tryz.isAgg274
  z146 := Tryz.sizeOf274
  v146 := Tryz.zeroValue274
  g1 := by kernel_rfl }
open Go.RowKit Go.Lib in
/-- strings.Index: "Index returns the index of the first instance of substr in s, or -1 if substr is not present in s.": IT RETURNS 'Lib.index s substr'; the world is as it was. (LAID: no walk: one application.) -/
theorem Tryz.strings_Index (s sub : ByteArray) (m : Int) (w : World) (hs : s.size < 4294967281) (hm : w.cell? ⟨1, 0, none⟩ = some (.int .i64 m)) :
    Calls Tryz.prog 234 #[.string s, .string sub] w fun e w' => e = .returned (.int .i64 (Lib.index s.data.toList sub.data.toList)) ∧ w' = w := Any.strings_Index Tryz.lays143 s sub m w hs hm
def Tryz.lays220_ren : Go.Shelf.Ren := ⟨fun | 220 => 236 | 219 => 273 | 217 => 291 | 225 => 290 | 224 => 289 | 267 => 298 | 266 => 306 | 314 => 308 | n => n, fun | 9 => 9 | 4 => 4 | 3 => 3 | 5 => 5 | 46 => 208 | 146 => 274 | 51 => 107 | n => n, fun | 1 => 1 | n => n⟩
theorem Tryz.lays220 : Go.Proofs.Lays.n220 Tryz.prog Tryz.lays220_ren := {
  mixed := by kernel_rfl
  f217 := Tryz.func291.trans (congrArg some (by kernel_rfl))
  f219 := Tryz.func273.trans (congrArg some (by kernel_rfl))
  f220 := Tryz.func236.trans (congrArg some (by kernel_rfl))
  f224 := Tryz.func289.trans (congrArg some (by kernel_rfl))
  f225 := Tryz.func290.trans (congrArg some (by kernel_rfl))
  f266 := Tryz.func306.trans (congrArg some (by kernel_rfl))
  f267 := Tryz.func298.trans (congrArg some (by kernel_rfl))
  f314 := Tryz.func308.trans (congrArg some (by kernel_rfl))
  t3 := Tryz.underlying3
  a3 := Tryz.isAgg3
  z3 := Tryz.sizeOf3
  v3 := Tryz.zeroValue3
  t4 := Tryz.underlying4
  a4 := Tryz.isAgg4
  z4 := Tryz.sizeOf4
  v4 := Tryz.zeroValue4
  t5 := Tryz.underlying5
  a5 := Tryz.isAgg5
  z5 := Tryz.sizeOf5
  v5 := Tryz.zeroValue5
  t9 := Tryz.underlying9
  a9 := Tryz.isAgg9
  z9 := Tryz.sizeOf9
  v9 := Tryz.zeroValue9
  t46 := Tryz.underlying208
  a46 := Tryz.isAgg208
  z46 := Tryz.sizeOf208
  v46 := Tryz.zeroValue208
  t51 := Tryz.underlying107
  a51 := Tryz.isAgg107
  z51 := Tryz.sizeOf107
  v51 := Tryz.zeroValue107
  t146 := Tryz.underlying274
  a146 := Tryz.isAgg274
  z146 := Tryz.sizeOf274
  v146 := Tryz.zeroValue274
  g1 := by kernel_rfl }
open Go.RowKit Go.Lib in
/-- internal/stringslite.Cut (what strings.Cut calls): IT RETURNS 'Lib.cut s sep'; the world is as it was but for the count of draws. (LAID: no walk: one application.) -/
theorem Tryz.stringslite_Cut (s sep : ByteArray) (m : Int) (w : World) (hs : s.size < 4294967281) (hm : w.cell? ⟨1, 0, none⟩ = some (.int .i64 m)) :
    Calls Tryz.prog 236 #[.string s, .string sep] w fun e w' => e = .returned (.tuple #[.string ⟨(Lib.cut s.data.toList sep.data.toList).1.toArray⟩, .string ⟨(Lib.cut s.data.toList sep.data.toList).2.1.toArray⟩, .bool (Lib.cut s.data.toList sep.data.toList).2.2]) ∧ ∃ n, w' = w.drewN n := Any.stringslite_Cut Tryz.lays220 s sep m w hs hm
def Tryz.lays145_ren : Go.Shelf.Ren := ⟨fun | 145 => 168 | 220 => 236 | 219 => 273 | 217 => 291 | 225 => 290 | 224 => 289 | 267 => 298 | 266 => 306 | 314 => 308 | n => n, fun | 9 => 9 | 4 => 4 | 59 => 201 | 3 => 3 | 5 => 5 | 46 => 208 | 146 => 274 | 51 => 107 | n => n, fun | 1 => 1 | n => n⟩
theorem Tryz.lays145 : Go.Proofs.Lays.n145 Tryz.prog Tryz.lays145_ren := {
  mixed := by kernel_rfl
  f145 := Tryz.func168.trans (congrArg some (by kernel_rfl))
  f217 := Tryz.func291.trans (congrArg some (by kernel_rfl))
  f219 := Tryz.func273.trans (congrArg some (by kernel_rfl))
  f220 := Tryz.func236.trans (congrArg some (by kernel_rfl))
  f224 := Tryz.func289.trans (congrArg some (by kernel_rfl))
  f225 := Tryz.func290.trans (congrArg some (by kernel_rfl))
  f266 := Tryz.func306.trans (congrArg some (by kernel_rfl))
  f267 := Tryz.func298.trans (congrArg some (by kernel_rfl))
  f314 := Tryz.func308.trans (congrArg some (by kernel_rfl))
  t3 := Tryz.underlying3
  a3 := Tryz.isAgg3
  z3 := Tryz.sizeOf3
  v3 := Tryz.zeroValue3
  t4 := Tryz.underlying4
  a4 := Tryz.isAgg4
  z4 := Tryz.sizeOf4
  v4 := Tryz.zeroValue4
  t5 := Tryz.underlying5
  a5 := Tryz.isAgg5
  z5 := Tryz.sizeOf5
  v5 := Tryz.zeroValue5
  t9 := Tryz.underlying9
  a9 := Tryz.isAgg9
  z9 := Tryz.sizeOf9
  v9 := Tryz.zeroValue9
  t46 := Tryz.underlying208
  a46 := Tryz.isAgg208
  z46 := Tryz.sizeOf208
  v46 := Tryz.zeroValue208
  t51 := Tryz.underlying107
  a51 := Tryz.isAgg107
  z51 := Tryz.sizeOf107
  v51 := Tryz.zeroValue107
  t59 := Tryz.underlying201
  a59 := Tryz.isAgg201
  z59 := Tryz.sizeOf201
  v59 := Tryz.zeroValue201
  t146 := Tryz.underlying274
  a146 := Tryz.isAgg274
  z146 := Tryz.sizeOf274
  v146 := Tryz.zeroValue274
  g1 := by kernel_rfl }
open Go.RowKit Go.Lib in
/-- strings.Cut: "Cut slices s around the first instance of sep, returning the text before and after sep. The found result reports whether sep appears in s. If sep does not appear in s, cut returns s, "", false.": IT RETURNS 'Lib.cut s sep'; the world is as it was but for the count of draws. (LAID: no walk: one application.) -/
theorem Tryz.strings_Cut (s sep : ByteArray) (m : Int) (w : World) (hs : s.size < 4294967281) (hm : w.cell? ⟨1, 0, none⟩ = some (.int .i64 m)) :
    Calls Tryz.prog 168 #[.string s, .string sep] w fun e w' => e = .returned (.tuple #[.string ⟨(Lib.cut s.data.toList sep.data.toList).1.toArray⟩, .string ⟨(Lib.cut s.data.toList sep.data.toList).2.1.toArray⟩, .bool (Lib.cut s.data.toList sep.data.toList).2.2]) ∧ ∃ n, w' = w.drewN n := Any.strings_Cut Tryz.lays145 s sep m w hs hm
def Tryz.lays138_ren : Go.Shelf.Ren := ⟨fun | 138 => 233 | 195 => 270 | 218 => 272 | 143 => 234 | 219 => 273 | 217 => 291 | 225 => 290 | 224 => 289 | 267 => 298 | 266 => 306 | 314 => 308 | n => n, fun | 9 => 9 | 3 => 3 | 4 => 4 | 5 => 5 | 0 => 0 | 46 => 208 | 146 => 274 | 51 => 107 | n => n, fun | 1 => 1 | n => n⟩
theorem Tryz.lays138 : Go.Proofs.Lays.n138 Tryz.prog Tryz.lays138_ren := {
  mixed := by kernel_rfl
  f138 := Tryz.func233.trans (congrArg some (by kernel_rfl))
  f143 := Tryz.func234.trans (congrArg some (by kernel_rfl))
  f195 := Tryz.func270.trans (congrArg some (by kernel_rfl))
  f217 := Tryz.func291.trans (congrArg some (by kernel_rfl))
  f218 := Tryz.func272.trans (congrArg some (by kernel_rfl))
  f219 := Tryz.func273.trans (congrArg some (by kernel_rfl))
  f224 := Tryz.func289.trans (congrArg some (by kernel_rfl))
  f225 := Tryz.func290.trans (congrArg some (by kernel_rfl))
  f266 := Tryz.func306.trans (congrArg some (by kernel_rfl))
  f267 := Tryz.func298.trans (congrArg some (by kernel_rfl))
  f314 := Tryz.func308.trans (congrArg some (by kernel_rfl))
  t0 := Tryz.underlying0
  a0 := Tryz.isAgg0
  z0 := Tryz.sizeOf0
  v0 := Tryz.zeroValue0
  t3 := Tryz.underlying3
  a3 := Tryz.isAgg3
  z3 := Tryz.sizeOf3
  v3 := Tryz.zeroValue3
  t4 := Tryz.underlying4
  a4 := Tryz.isAgg4
  z4 := Tryz.sizeOf4
  v4 := Tryz.zeroValue4
  t5 := Tryz.underlying5
  a5 := Tryz.isAgg5
  z5 := Tryz.sizeOf5
  v5 := Tryz.zeroValue5
  t9 := Tryz.underlying9
  a9 := Tryz.isAgg9
  z9 := Tryz.sizeOf9
  v9 := Tryz.zeroValue9
  t46 := Tryz.underlying208
  a46 := Tryz.isAgg208
  z46 := Tryz.sizeOf208
  v46 := Tryz.zeroValue208
  t51 := Tryz.underlying107
  a51 := Tryz.isAgg107
  z51 := Tryz.sizeOf107
  v51 := Tryz.zeroValue107
  t146 := Tryz.underlying274
  a146 := Tryz.isAgg274
  z146 := Tryz.sizeOf274
  v146 := Tryz.zeroValue274
  g1 := by kernel_rfl }
open Go.RowKit Go.Lib in
/-- strings.Count AT A substr OF ONE BYTE ('hp'): "Count counts the number of non-overlapping instances of substr in s.": IT RETURNS 'Lib.countByte s (that byte)'; the world is as it was. ✋ NO CONTRACT HERE YET at an empty substr (utf8.RuneCountInString) or at a longer one (a loop over strings.Index). (LAID: no walk: one application.) -/
theorem Tryz.strings_Count_one (s : ByteArray) (c : UInt8) (w : World) :
    Calls Tryz.prog 233 #[.string s, .string ⟨#[c]⟩] w fun e w' => e = .returned (.int .i64 (Lib.countByte s.data.toList c)) ∧ w' = w := Any.strings_Count_one Tryz.lays138 s c w
open Go.RowKit Go.Lib in
/-- strings.Count AT A substr OF TWO BYTES OR MORE: "Count counts the number of non-overlapping instances of substr in s.": IT RETURNS 'Lib.count s substr'; the world is as it was. (LAID: no walk: one application.) -/
theorem Tryz.strings_Count (s sub : ByteArray) (m : Int) (w : World) (hs : s.size < 4294967281) (hm : w.cell? ⟨1, 0, none⟩ = some (.int .i64 m)) (h2 : 2 ≤ sub.size) :
    Calls Tryz.prog 233 #[.string s, .string sub] w fun e w' => e = .returned (.int .i64 (Lib.countB s sub)) ∧ w' = w := Any.strings_Count Tryz.lays138 s sub m w hs hm h2
def Tryz.lays207_ren : Go.Shelf.Ren := ⟨fun | 207 => 241 | n => n, fun | 9 => 9 | 4 => 4 | 3 => 3 | n => n, fun | n => n⟩
theorem Tryz.lays207 : Go.Proofs.Lays.n207 Tryz.prog Tryz.lays207_ren := {
  mixed := by kernel_rfl
  f207 := Tryz.func241.trans (congrArg some (by kernel_rfl))
  t3 := Tryz.underlying3
  a3 := Tryz.isAgg3
  z3 := Tryz.sizeOf3
  v3 := Tryz.zeroValue3
  t4 := Tryz.underlying4
  a4 := Tryz.isAgg4
  z4 := Tryz.sizeOf4
  v4 := Tryz.zeroValue4
  t9 := Tryz.underlying9
  a9 := Tryz.isAgg9
  z9 := Tryz.sizeOf9
  v9 := Tryz.zeroValue9 }
open Go.RowKit Go.Lib in
/-- internal/stringslite.HasSuffix (what strings.HasSuffix calls). (LAID: no walk: one application.) -/
theorem Tryz.stringslite_HasSuffix (s p : ByteArray) (w : World) (hs : s.size ≤ 9223372036854775807) :
    Calls Tryz.prog 241 #[.string s, .string p] w fun e w' => e = .returned (.bool (Lib.hasSuffix s.data.toList p.data.toList)) ∧ w' = w := Any.stringslite_HasSuffix Tryz.lays207 s p w hs
def Tryz.lays100_ren : Go.Shelf.Ren := ⟨fun | 100 => 176 | 207 => 241 | n => n, fun | 9 => 9 | 4 => 4 | 3 => 3 | n => n, fun | n => n⟩
theorem Tryz.lays100 : Go.Proofs.Lays.n100 Tryz.prog Tryz.lays100_ren := {
  mixed := by kernel_rfl
  f100 := Tryz.func176.trans (congrArg some (by kernel_rfl))
  f207 := Tryz.func241.trans (congrArg some (by kernel_rfl))
  t3 := Tryz.underlying3
  a3 := Tryz.isAgg3
  z3 := Tryz.sizeOf3
  v3 := Tryz.zeroValue3
  t4 := Tryz.underlying4
  a4 := Tryz.isAgg4
  z4 := Tryz.sizeOf4
  v4 := Tryz.zeroValue4
  t9 := Tryz.underlying9
  a9 := Tryz.isAgg9
  z9 := Tryz.sizeOf9
  v9 := Tryz.zeroValue9 }
open Go.RowKit Go.Lib in
/-- strings.HasSuffix: "HasSuffix reports whether the string s ends with suffix.": IT RETURNS 'Lib.hasSuffix s suffix'; the world is as it was. ('hs': no Go string is longer: a caller has it of every string that it was handed.) (LAID: no walk: one application.) -/
theorem Tryz.strings_HasSuffix (s p : ByteArray) (w : World) (hs : s.size ≤ 9223372036854775807) :
    Calls Tryz.prog 176 #[.string s, .string p] w fun e w' => e = .returned (.bool (Lib.hasSuffix s.data.toList p.data.toList)) ∧ w' = w := Any.strings_HasSuffix Tryz.lays100 s p w hs
def Tryz.lays221_ren : Go.Shelf.Ren := ⟨fun | 221 => 166 | 268 => 232 | 138 => 233 | 143 => 234 | 195 => 270 | 197 => 271 | 218 => 272 | 219 => 273 | 260 => 297 | 217 => 291 | 225 => 290 | 224 => 289 | 267 => 298 | 266 => 306 | 314 => 308 | n => n, fun | 9 => 9 | 3 => 3 | 31 => 43 | 4 => 4 | 0 => 0 | 105 => 272 | 21 => 21 | 5 => 5 | 46 => 208 | 119 => 305 | 139 => 308 | 138 => 307 | 146 => 274 | 51 => 107 | n => n, fun | 1 => 1 | 3 => 5 | 4 => 6 | n => n⟩
theorem Tryz.lays221 : Go.Proofs.Lays.n221 Tryz.prog Tryz.lays221_ren := {
  mixed := by kernel_rfl
  f138 := Tryz.func233.trans (congrArg some (by kernel_rfl))
  f143 := Tryz.func234.trans (congrArg some (by kernel_rfl))
  f195 := Tryz.func270.trans (congrArg some (by kernel_rfl))
  f197 := Tryz.func271.trans (congrArg some (by kernel_rfl))
  f217 := Tryz.func291.trans (congrArg some (by kernel_rfl))
  f218 := Tryz.func272.trans (congrArg some (by kernel_rfl))
  f219 := Tryz.func273.trans (congrArg some (by kernel_rfl))
  f221 := Tryz.func166.trans (congrArg some (by kernel_rfl))
  f224 := Tryz.func289.trans (congrArg some (by kernel_rfl))
  f225 := Tryz.func290.trans (congrArg some (by kernel_rfl))
  f260 := Tryz.func297.trans (congrArg some (by kernel_rfl))
  f266 := Tryz.func306.trans (congrArg some (by kernel_rfl))
  f267 := Tryz.func298.trans (congrArg some (by kernel_rfl))
  f268 := Tryz.func232.trans (congrArg some (by kernel_rfl))
  f314 := Tryz.func308.trans (congrArg some (by kernel_rfl))
  t0 := Tryz.underlying0
  a0 := Tryz.isAgg0
  z0 := Tryz.sizeOf0
  v0 := Tryz.zeroValue0
  t3 := Tryz.underlying3
  a3 := Tryz.isAgg3
  z3 := Tryz.sizeOf3
  v3 := Tryz.zeroValue3
  t4 := Tryz.underlying4
  a4 := Tryz.isAgg4
  z4 := Tryz.sizeOf4
  v4 := Tryz.zeroValue4
  t5 := Tryz.underlying5
  a5 := Tryz.isAgg5
  z5 := Tryz.sizeOf5
  v5 := Tryz.zeroValue5
  t9 := Tryz.underlying9
  a9 := Tryz.isAgg9
  z9 := Tryz.sizeOf9
  v9 := Tryz.zeroValue9
  t21 := Tryz.underlying21
  a21 := Tryz.isAgg21
  z21 := Tryz.sizeOf21
  v21 := Tryz.zeroValue21
  t31 := Tryz.underlying43
  a31 := Tryz.isAgg43
  z31 := Tryz.sizeOf43
  v31 := Tryz.zeroValue43
  t46 := Tryz.underlying208
  a46 := Tryz.isAgg208
  z46 := Tryz.sizeOf208
  v46 := Tryz.zeroValue208
  t51 := Tryz.underlying107
  a51 := Tryz.isAgg107
  z51 := Tryz.sizeOf107
  v51 := Tryz.zeroValue107
  t105 := Tryz.underlying272
  a105 := Tryz.isAgg272
  z105 := Tryz.sizeOf272
  v105 := Tryz.zeroValue272
  t119 := Tryz.underlying305
  a119 := Tryz.isAgg305
  z119 := Tryz.sizeOf305
  t138 := Tryz.underlying307
  a138 := Tryz.isAgg307
  z138 := Tryz.sizeOf307
  v138 := Tryz.zeroValue307
  t139 := Tryz.underlying308
  a139 := Tryz.isAgg308
  z139 := Tryz.sizeOf308
  v139 := Tryz.zeroValue308
  t146 := Tryz.underlying274
  a146 := Tryz.isAgg274
  z146 := Tryz.sizeOf274
  v146 := Tryz.zeroValue274
  g1 := by kernel_rfl
  g3 := by kernel_rfl
  g4 := by kernel_rfl }
open Go.RowKit Go.Lib in
theorem Tryz.strings_genSplit (s sep : ByteArray) (sv : Nat) (n : Int) (N : Nat) (m : Int) (w : World) (hs : s.size < 4294967281) (hm : w.cell? ⟨1, 0, none⟩ = some (.int .i64 m)) (h1 : 1 ≤ sep.size) (hsv : sv ≤ sep.size) (hn0 : n ≠ 0) (hn63 : n ≤ 9223372036854775807) (hN : (N : Int) = min (if n < 0 then (Lib.countB s sep : Int) + 1 else n) ((s.size : Int) + 1)) :
    Calls Tryz.prog 166 #[.string s, .string sep, .int .i64 sv, .int .i64 n] w fun e w' =>
      e = .returned (.slice (some ⟨w.heap.size, 0, none⟩) (Lib.splitB sep sv (N - 1) s).length N) ∧ w' = w.alloc (.cells (Lib.cellsOf (Lib.splitB sep sv (N - 1) s) N) 9) := Any.strings_genSplit Tryz.lays221 (by kernel_rfl) s sep sv n N m w hs hm h1 hsv hn0 hn63 hN
def Tryz.lays146_ren : Go.Shelf.Ren := ⟨fun | 146 => 95 | 221 => 166 | 268 => 232 | 138 => 233 | 143 => 234 | 195 => 270 | 197 => 271 | 218 => 272 | 219 => 273 | 260 => 297 | 217 => 291 | 225 => 290 | 224 => 289 | 267 => 298 | 266 => 306 | 314 => 308 | n => n, fun | 9 => 9 | 31 => 43 | 3 => 3 | 4 => 4 | 0 => 0 | 105 => 272 | 21 => 21 | 5 => 5 | 46 => 208 | 119 => 305 | 139 => 308 | 138 => 307 | 146 => 274 | 51 => 107 | n => n, fun | 1 => 1 | 3 => 5 | 4 => 6 | n => n⟩
theorem Tryz.lays146 : Go.Proofs.Lays.n146 Tryz.prog Tryz.lays146_ren := {
  mixed := by kernel_rfl
  f138 := Tryz.func233.trans (congrArg some (by kernel_rfl))
  f143 := Tryz.func234.trans (congrArg some (by kernel_rfl))
  f146 := Tryz.func95.trans (congrArg some (by kernel_rfl))
  f195 := Tryz.func270.trans (congrArg some (by kernel_rfl))
  f197 := Tryz.func271.trans (congrArg some (by kernel_rfl))
  f217 := Tryz.func291.trans (congrArg some (by kernel_rfl))
  f218 := Tryz.func272.trans (congrArg some (by kernel_rfl))
  f219 := Tryz.func273.trans (congrArg some (by kernel_rfl))
  f221 := Tryz.func166.trans (congrArg some (by kernel_rfl))
  f224 := Tryz.func289.trans (congrArg some (by kernel_rfl))
  f225 := Tryz.func290.trans (congrArg some (by kernel_rfl))
  f260 := Tryz.func297.trans (congrArg some (by kernel_rfl))
  f266 := Tryz.func306.trans (congrArg some (by kernel_rfl))
  f267 := Tryz.func298.trans (congrArg some (by kernel_rfl))
  f268 := Tryz.func232.trans (congrArg some (by kernel_rfl))
  f314 := Tryz.func308.trans (congrArg some (by kernel_rfl))
  t0 := Tryz.underlying0
  a0 := Tryz.isAgg0
  z0 := Tryz.sizeOf0
  v0 := Tryz.zeroValue0
  t3 := Tryz.underlying3
  a3 := Tryz.isAgg3
  z3 := Tryz.sizeOf3
  v3 := Tryz.zeroValue3
  t4 := Tryz.underlying4
  a4 := Tryz.isAgg4
  z4 := Tryz.sizeOf4
  v4 := Tryz.zeroValue4
  t5 := Tryz.underlying5
  a5 := Tryz.isAgg5
  z5 := Tryz.sizeOf5
  v5 := Tryz.zeroValue5
  t9 := Tryz.underlying9
  a9 := Tryz.isAgg9
  z9 := Tryz.sizeOf9
  v9 := Tryz.zeroValue9
  t21 := Tryz.underlying21
  a21 := Tryz.isAgg21
  z21 := Tryz.sizeOf21
  v21 := Tryz.zeroValue21
  t31 := Tryz.underlying43
  a31 := Tryz.isAgg43
  z31 := Tryz.sizeOf43
  v31 := Tryz.zeroValue43
  t46 := Tryz.underlying208
  a46 := Tryz.isAgg208
  z46 := Tryz.sizeOf208
  v46 := Tryz.zeroValue208
  t51 := Tryz.underlying107
  a51 := Tryz.isAgg107
  z51 := Tryz.sizeOf107
  v51 := Tryz.zeroValue107
  t105 := Tryz.underlying272
  a105 := Tryz.isAgg272
  z105 := Tryz.sizeOf272
  v105 := Tryz.zeroValue272
  t119 := Tryz.underlying305
  a119 := Tryz.isAgg305
  z119 := Tryz.sizeOf305
  t138 := Tryz.underlying307
  a138 := Tryz.isAgg307
  z138 := Tryz.sizeOf307
  v138 := Tryz.zeroValue307
  t139 := Tryz.underlying308
  a139 := Tryz.isAgg308
  z139 := Tryz.sizeOf308
  v139 := Tryz.zeroValue308
  t146 := Tryz.underlying274
  a146 := Tryz.isAgg274
  z146 := Tryz.sizeOf274
  v146 := Tryz.zeroValue274
  g1 := by kernel_rfl
  g3 := by kernel_rfl
  g4 := by kernel_rfl }
open Go.RowKit Go.Lib in
/-- strings.Split. (LAID: no walk: one application.) -/
theorem Tryz.strings_Split (s sep : ByteArray) (m : Int) (w : World) (hs : s.size < 4294967281) (hm : w.cell? ⟨1, 0, none⟩ = some (.int .i64 m)) (h1 : 1 ≤ sep.size) :
    Calls Tryz.prog 95 #[.string s, .string sep] w fun e w' =>
      e = .returned (.slice (some ⟨w.heap.size, 0, none⟩) (Lib.countB s sep + 1) (Lib.countB s sep + 1)) ∧ w' = w.alloc (.cells ((Lib.splitB sep 0 (Lib.countB s sep) s).map Value.string).toArray 9) := Any.strings_Split Tryz.lays146 (by kernel_rfl) s sep m w hs hm h1
def Tryz.lays197_ren : Go.Shelf.Ren := ⟨fun | 197 => 271 | 260 => 297 | n => n, fun | 9 => 9 | 21 => 21 | 3 => 3 | 4 => 4 | 5 => 5 | 105 => 272 | 119 => 305 | 0 => 0 | 46 => 208 | 139 => 308 | 138 => 307 | n => n, fun | 3 => 5 | 4 => 6 | n => n⟩
theorem Tryz.lays197 : Go.Proofs.Lays.n197 Tryz.prog Tryz.lays197_ren := {
  mixed := by kernel_rfl
  f197 := Tryz.func271.trans (congrArg some (by kernel_rfl))
  f260 := Tryz.func297.trans (congrArg some (by kernel_rfl))
  t0 := Tryz.underlying0
  a0 := Tryz.isAgg0
  z0 := Tryz.sizeOf0
  v0 := Tryz.zeroValue0
  t3 := Tryz.underlying3
  a3 := Tryz.isAgg3
  z3 := Tryz.sizeOf3
  v3 := Tryz.zeroValue3
  t4 := Tryz.underlying4
  a4 := Tryz.isAgg4
  z4 := Tryz.sizeOf4
  v4 := Tryz.zeroValue4
  t5 := Tryz.underlying5
  a5 := Tryz.isAgg5
  z5 := Tryz.sizeOf5
  v5 := Tryz.zeroValue5
  t9 := Tryz.underlying9
  a9 := Tryz.isAgg9
  z9 := Tryz.sizeOf9
  v9 := Tryz.zeroValue9
  t21 := Tryz.underlying21
  a21 := Tryz.isAgg21
  z21 := Tryz.sizeOf21
  v21 := Tryz.zeroValue21
  t46 := Tryz.underlying208
  a46 := Tryz.isAgg208
  z46 := Tryz.sizeOf208
  v46 := Tryz.zeroValue208
  t105 := Tryz.underlying272
  a105 := Tryz.isAgg272
  z105 := Tryz.sizeOf272
  v105 := Tryz.zeroValue272
  t119 := Tryz.underlying305
  a119 := Tryz.isAgg305
  z119 := Tryz.sizeOf305
  t138 := Tryz.underlying307
  a138 := Tryz.isAgg307
  z138 := Tryz.sizeOf307
  v138 := Tryz.zeroValue307
  t139 := Tryz.underlying308
  a139 := Tryz.isAgg308
  z139 := Tryz.sizeOf308
  v139 := Tryz.zeroValue308
  g3 := by kernel_rfl
  g4 := by kernel_rfl }
def Tryz.lays226_ren : Go.Shelf.Ren := ⟨fun | 226 => 256 | n => n, fun | 3 => 3 | 4 => 4 | n => n, fun | n => n⟩
theorem Tryz.lays226 : Go.Proofs.Lays.n226 Tryz.prog Tryz.lays226_ren := {
  mixed := by kernel_rfl
  f226 := Tryz.func256.trans (congrArg some (by kernel_rfl))
  t3 := Tryz.underlying3
  a3 := Tryz.isAgg3
  z3 := Tryz.sizeOf3
  v3 := Tryz.zeroValue3
  t4 := Tryz.underlying4
  a4 := Tryz.isAgg4
  z4 := Tryz.sizeOf4
  v4 := Tryz.zeroValue4 }
open Go.RowKit Go.Lib in
theorem Tryz.strings_shouldUseASCIISet (n : Int) (w : World) :
    Calls Tryz.prog 256 #[.int .i64 n] w fun e w' => e = .returned (.bool (decide (8 < n))) ∧ w' = w := Any.strings_shouldUseASCIISet Tryz.lays226 n w
def Tryz.lays153_ren : Go.Shelf.Ren := ⟨fun | 153 => 210 | 152 => 255 | 226 => 256 | 227 => 245 | 228 => 257 | 137 => 258 | 119 => 288 | 224 => 289 | 225 => 290 | 217 => 291 | 266 => 306 | n => n, fun | 9 => 9 | 3 => 3 | 4 => 4 | 5 => 5 | 21 => 21 | 117 => 254 | 116 => 253 | 0 => 0 | 46 => 208 | 124 => 257 | n => n, fun | n => n⟩
theorem Tryz.lays153 : Go.Proofs.Lays.n153 Tryz.prog Tryz.lays153_ren := {
  mixed := by kernel_rfl
  f119 := Tryz.func288.trans (congrArg some (by kernel_rfl))
  f137 := Tryz.func258.trans (congrArg some (by kernel_rfl))
  f152 := Tryz.func255.trans (congrArg some (by kernel_rfl))
  f153 := Tryz.func210.trans (congrArg some (by kernel_rfl))
  f217 := Tryz.func291.trans (congrArg some (by kernel_rfl))
  f224 := Tryz.func289.trans (congrArg some (by kernel_rfl))
  f225 := Tryz.func290.trans (congrArg some (by kernel_rfl))
  f226 := Tryz.func256.trans (congrArg some (by kernel_rfl))
  f227 := Tryz.func245.trans (congrArg some (by kernel_rfl))
  f228 := Tryz.func257.trans (congrArg some (by kernel_rfl))
  f266 := Tryz.func306.trans (congrArg some (by kernel_rfl))
  t0 := Tryz.underlying0
  a0 := Tryz.isAgg0
  z0 := Tryz.sizeOf0
  v0 := Tryz.zeroValue0
  t3 := Tryz.underlying3
  a3 := Tryz.isAgg3
  z3 := Tryz.sizeOf3
  v3 := Tryz.zeroValue3
  t4 := Tryz.underlying4
  a4 := Tryz.isAgg4
  z4 := Tryz.sizeOf4
  v4 := Tryz.zeroValue4
  t5 := Tryz.underlying5
  a5 := Tryz.isAgg5
  z5 := Tryz.sizeOf5
  v5 := Tryz.zeroValue5
  t9 := Tryz.underlying9
  a9 := Tryz.isAgg9
  z9 := Tryz.sizeOf9
  v9 := Tryz.zeroValue9
  t21 := Tryz.underlying21
  a21 := Tryz.isAgg21
  z21 := Tryz.sizeOf21
  v21 := Tryz.zeroValue21
  t46 := Tryz.underlying208
  a46 := Tryz.isAgg208
  z46 := Tryz.sizeOf208
  v46 := Tryz.zeroValue208
  t116 := Tryz.underlying253
  a116 := Tryz.isAgg253
  z116 := Tryz.sizeOf253
  t117 := Tryz.underlying254
  a117 := Tryz.isAgg254
  z117 := Tryz.sizeOf254
  v117 := Tryz.zeroValue254
  t124 := Tryz.underlying257
  a124 := Tryz.isAgg257
  z124 := Tryz.sizeOf257
  v124 := Tryz.zeroValue257 }
open Go.RowKit Go.Lib in
theorem Tryz.strings_IndexAny_long (hv116 : ∀ w, (zeroValue 253).run Tryz.prog w = .ok (.agg (Array.replicate 256 (.bool false))) w) (s chars : ByteArray) (w : World) (h2 : 2 ≤ chars.size) (h8 : 8 < s.size) (hs : s.size < 4294967281) (hcs : chars.size < 4294967281) (hascii : ∀ (j : Nat) b, chars.data.toList[j]? = some b → b.toNat < 128) :
    Calls Tryz.prog 210 #[.string s, .string chars] w fun e w' => e = .returned (.int .i64 (Lib.indexAny s.data.toList chars.data.toList)) ∧ w' = ((w.alloc (.cells (Lib.setCells chars.data.toList) 253)).alloc (.cells (Lib.setCells chars.data.toList) 253)) := Any.strings_IndexAny_long Tryz.lays153 hv116 (by kernel_rfl) s chars w h2 h8 hs hcs hascii
open Go.RowKit Go.Lib in
/-- strings.IndexAny ON ASCII BYTES: the four roads under one statement. (LAID: no walk: one application.) -/
theorem Tryz.strings_IndexAny (hv116 : ∀ w, (zeroValue 253).run Tryz.prog w = .ok (.agg (Array.replicate 256 (.bool false))) w) (s chars : ByteArray) (w : World) (hs : s.size < 4294967281) (hcs : chars.size < 4294967281) (has : ∀ (j : Nat) b, s.data.toList[j]? = some b → b.toNat < 128) (hac : ∀ (j : Nat) b, chars.data.toList[j]? = some b → b.toNat < 128) :
    Calls Tryz.prog 210 #[.string s, .string chars] w fun e w' => e = .returned (.int .i64 (Lib.indexAny s.data.toList chars.data.toList)) ∧ Below w.heap.size w w' := Any.strings_IndexAny Tryz.lays153 hv116 (by kernel_rfl) s chars w hs hcs has hac
def Tryz.lays150_ren : Go.Shelf.Ren := ⟨fun | 150 => 140 | 153 => 210 | 152 => 255 | 226 => 256 | 227 => 245 | 228 => 257 | 137 => 258 | 119 => 288 | 224 => 289 | 225 => 290 | 217 => 291 | 266 => 306 | n => n, fun | 9 => 9 | 4 => 4 | 3 => 3 | 5 => 5 | 21 => 21 | 117 => 254 | 116 => 253 | 0 => 0 | 46 => 208 | 124 => 257 | n => n, fun | n => n⟩
theorem Tryz.lays150 : Go.Proofs.Lays.n150 Tryz.prog Tryz.lays150_ren := {
  mixed := by kernel_rfl
  f119 := Tryz.func288.trans (congrArg some (by kernel_rfl))
  f137 := Tryz.func258.trans (congrArg some (by kernel_rfl))
  f150 := Tryz.func140.trans (congrArg some (by kernel_rfl))
  f152 := Tryz.func255.trans (congrArg some (by kernel_rfl))
  f153 := Tryz.func210.trans (congrArg some (by kernel_rfl))
  f217 := Tryz.func291.trans (congrArg some (by kernel_rfl))
  f224 := Tryz.func289.trans (congrArg some (by kernel_rfl))
  f225 := Tryz.func290.trans (congrArg some (by kernel_rfl))
  f226 := Tryz.func256.trans (congrArg some (by kernel_rfl))
  f227 := Tryz.func245.trans (congrArg some (by kernel_rfl))
  f228 := Tryz.func257.trans (congrArg some (by kernel_rfl))
  f266 := Tryz.func306.trans (congrArg some (by kernel_rfl))
  t0 := Tryz.underlying0
  a0 := Tryz.isAgg0
  z0 := Tryz.sizeOf0
  v0 := Tryz.zeroValue0
  t3 := Tryz.underlying3
  a3 := Tryz.isAgg3
  z3 := Tryz.sizeOf3
  v3 := Tryz.zeroValue3
  t4 := Tryz.underlying4
  a4 := Tryz.isAgg4
  z4 := Tryz.sizeOf4
  v4 := Tryz.zeroValue4
  t5 := Tryz.underlying5
  a5 := Tryz.isAgg5
  z5 := Tryz.sizeOf5
  v5 := Tryz.zeroValue5
  t9 := Tryz.underlying9
  a9 := Tryz.isAgg9
  z9 := Tryz.sizeOf9
  v9 := Tryz.zeroValue9
  t21 := Tryz.underlying21
  a21 := Tryz.isAgg21
  z21 := Tryz.sizeOf21
  v21 := Tryz.zeroValue21
  t46 := Tryz.underlying208
  a46 := Tryz.isAgg208
  z46 := Tryz.sizeOf208
  v46 := Tryz.zeroValue208
  t116 := Tryz.underlying253
  a116 := Tryz.isAgg253
  z116 := Tryz.sizeOf253
  t117 := Tryz.underlying254
  a117 := Tryz.isAgg254
  z117 := Tryz.sizeOf254
  v117 := Tryz.zeroValue254
  t124 := Tryz.underlying257
  a124 := Tryz.isAgg257
  z124 := Tryz.sizeOf257
  v124 := Tryz.zeroValue257 }
open Go.RowKit Go.Lib in
/-- strings.ContainsAny ON ASCII BYTES. (LAID: no walk: one application.) -/
theorem Tryz.strings_ContainsAny (hv116 : ∀ w, (zeroValue 253).run Tryz.prog w = .ok (.agg (Array.replicate 256 (.bool false))) w) (s chars : ByteArray) (w : World) (hs : s.size < 4294967281) (hcs : chars.size < 4294967281) (has : ∀ (j : Nat) b, s.data.toList[j]? = some b → b.toNat < 128) (hac : ∀ (j : Nat) b, chars.data.toList[j]? = some b → b.toNat < 128) :
    Calls Tryz.prog 140 #[.string s, .string chars] w fun e w' => e = .returned (.bool (Lib.containsAny s.data.toList chars.data.toList)) ∧ Below w.heap.size w w' := Any.strings_ContainsAny Tryz.lays150 hv116 (by kernel_rfl) s chars w hs hcs has hac
def Tryz.lays105_ren : Go.Shelf.Ren := ⟨fun | 105 => 172 | 212 => 238 | 99 => 145 | 165 => 184 | 166 => 185 | 170 => 239 | 169 => 186 | 263 => 274 | 264 => 275 | 206 => 216 | 240 => 248 | 241 => 249 | 276 => 282 | 277 => 283 | n => n, fun | 9 => 9 | 3 => 3 | 4 => 4 | 20 => 20 | 0 => 0 | 46 => 208 | 109 => 249 | 5 => 5 | 72 => 215 | 76 => 217 | 51 => 107 | 146 => 274 | 53 => 183 | 148 => 276 | 70 => 213 | 37 => 40 | 75 => 185 | 127 => 258 | 164 => 284 | 80 => 149 | n => n, fun | n => n⟩
theorem Tryz.lays105 : Go.Proofs.Lays.n105 Tryz.prog Tryz.lays105_ren := {
  mixed := by kernel_rfl
  f99 := Tryz.func145.trans (congrArg some (by kernel_rfl))
  f105 := Tryz.func172.trans (congrArg some (by kernel_rfl))
  f165 := Tryz.func184.trans (congrArg some (by kernel_rfl))
  f166 := Tryz.func185.trans (congrArg some (by kernel_rfl))
  f169 := Tryz.func186.trans (congrArg some (by kernel_rfl))
  f170 := Tryz.func239.trans (congrArg some (by kernel_rfl))
  f206 := Tryz.func216.trans (congrArg some (by kernel_rfl))
  f212 := Tryz.func238.trans (congrArg some (by kernel_rfl))
  f240 := Tryz.func248.trans (congrArg some (by kernel_rfl))
  f241 := Tryz.func249.trans (congrArg some (by kernel_rfl))
  f263 := Tryz.func274.trans (congrArg some (by kernel_rfl))
  f264 := Tryz.func275.trans (congrArg some (by kernel_rfl))
  f276 := Tryz.func282.trans (congrArg some (by kernel_rfl))
  f277 := Tryz.func283.trans (congrArg some (by kernel_rfl))
  t0 := Tryz.underlying0
  a0 := Tryz.isAgg0
  z0 := Tryz.sizeOf0
  v0 := Tryz.zeroValue0
  t3 := Tryz.underlying3
  a3 := Tryz.isAgg3
  z3 := Tryz.sizeOf3
  v3 := Tryz.zeroValue3
  t4 := Tryz.underlying4
  a4 := Tryz.isAgg4
  z4 := Tryz.sizeOf4
  v4 := Tryz.zeroValue4
  t5 := Tryz.underlying5
  a5 := Tryz.isAgg5
  z5 := Tryz.sizeOf5
  v5 := Tryz.zeroValue5
  t9 := Tryz.underlying9
  a9 := Tryz.isAgg9
  z9 := Tryz.sizeOf9
  v9 := Tryz.zeroValue9
  t20 := Tryz.underlying20
  a20 := Tryz.isAgg20
  z20 := Tryz.sizeOf20
  v20 := Tryz.zeroValue20
  t37 := Tryz.underlying40
  a37 := Tryz.isAgg40
  z37 := Tryz.sizeOf40
  v37 := Tryz.zeroValue40
  t46 := Tryz.underlying208
  a46 := Tryz.isAgg208
  z46 := Tryz.sizeOf208
  v46 := Tryz.zeroValue208
  t51 := Tryz.underlying107
  a51 := Tryz.isAgg107
  z51 := Tryz.sizeOf107
  v51 := Tryz.zeroValue107
  t53 := Tryz.underlying183
  a53 := Tryz.isAgg183
  z53 := Tryz.sizeOf183
  v53 := Tryz.zeroValue183
  t70 := Tryz.underlying213
  a70 := Tryz.isAgg213
  z70 := Tryz.sizeOf213
  v70 := Tryz.zeroValue213
  t72 := Tryz.underlying215
  a72 := Tryz.isAgg215
  z72 := Tryz.sizeOf215
  v72 := Tryz.zeroValue215
  t75 := Tryz.underlying185
  a75 := Tryz.isAgg185
  z75 := Tryz.sizeOf185
  v75 := Tryz.zeroValue185
  t76 := Tryz.underlying217
  a76 := Tryz.isAgg217
  z76 := Tryz.sizeOf217
  v76 := Tryz.zeroValue217
  t109 := Tryz.underlying249
  a109 := Tryz.isAgg249
  z109 := Tryz.sizeOf249
  v109 := Tryz.zeroValue249
  t127 := Tryz.underlying258
  a127 := Tryz.isAgg258
  z127 := Tryz.sizeOf258
  v127 := Tryz.zeroValue258
  t146 := Tryz.underlying274
  a146 := Tryz.isAgg274
  z146 := Tryz.sizeOf274
  v146 := Tryz.zeroValue274
  t148 := Tryz.underlying276
  a148 := Tryz.isAgg276
  z148 := Tryz.sizeOf276
  v148 := Tryz.zeroValue276
  t164 := Tryz.underlying284
  a164 := Tryz.isAgg284
  z164 := Tryz.sizeOf284
  v164 := Tryz.zeroValue284 }
theorem Tryz.Builder_Extra_105 : Builder.Extra Tryz.prog Tryz.lays105_ren := {
  sizeBuilder := by kernel_rfl
  liesBuilder := by kernel_rfl
  t5 := Tryz.underlying5
  a5 := Tryz.isAgg5
  z5 := Tryz.sizeOf5
  v5 := Tryz.zeroValue5
  infoByte := by kernel_rfl
  cellsByte := by kernel_rfl
  sizeByte := by kernel_rfl
  neB5 := by decide }
open Go.RowKit Go.Lib in
/-- **strings.Repeat: count ≥ 0, the result within one allocation: count copies of s.** (LAID: no walk: one application.) -/
theorem Tryz.strings_Repeat (s : ByteArray) (c : Nat) (w : World) (hc : c ≤ 9223372036854775807) (hlen : s.size * c ≤ 140737488355328) :
    Calls Tryz.prog 172 #[.string s, .int .i64 c] w fun e w' => e = .returned (.string ⟨(Lib.repeatL s.data.toList c).toArray⟩) ∧ Below w.heap.size w w' := Any.strings_Repeat Tryz.lays105 Tryz.Builder_Extra_105 s c w hc hlen
def Tryz.lays260_ren : Go.Shelf.Ren := ⟨fun | 260 => 297 | n => n, fun | 9 => 9 | 21 => 21 | 3 => 3 | 4 => 4 | 5 => 5 | 119 => 305 | 0 => 0 | 46 => 208 | 139 => 308 | 138 => 307 | n => n, fun | 3 => 5 | 4 => 6 | n => n⟩
theorem Tryz.lays260 : Go.Proofs.Lays.n260 Tryz.prog Tryz.lays260_ren := {
  mixed := by kernel_rfl
  f260 := Tryz.func297.trans (congrArg some (by kernel_rfl))
  t0 := Tryz.underlying0
  a0 := Tryz.isAgg0
  z0 := Tryz.sizeOf0
  v0 := Tryz.zeroValue0
  t3 := Tryz.underlying3
  a3 := Tryz.isAgg3
  z3 := Tryz.sizeOf3
  v3 := Tryz.zeroValue3
  t4 := Tryz.underlying4
  a4 := Tryz.isAgg4
  z4 := Tryz.sizeOf4
  v4 := Tryz.zeroValue4
  t5 := Tryz.underlying5
  a5 := Tryz.isAgg5
  z5 := Tryz.sizeOf5
  v5 := Tryz.zeroValue5
  t9 := Tryz.underlying9
  a9 := Tryz.isAgg9
  z9 := Tryz.sizeOf9
  v9 := Tryz.zeroValue9
  t21 := Tryz.underlying21
  a21 := Tryz.isAgg21
  z21 := Tryz.sizeOf21
  v21 := Tryz.zeroValue21
  t46 := Tryz.underlying208
  a46 := Tryz.isAgg208
  z46 := Tryz.sizeOf208
  v46 := Tryz.zeroValue208
  t119 := Tryz.underlying305
  a119 := Tryz.isAgg305
  z119 := Tryz.sizeOf305
  t138 := Tryz.underlying307
  a138 := Tryz.isAgg307
  z138 := Tryz.sizeOf307
  v138 := Tryz.zeroValue307
  t139 := Tryz.underlying308
  a139 := Tryz.isAgg308
  z139 := Tryz.sizeOf308
  v139 := Tryz.zeroValue308
  g3 := by kernel_rfl
  g4 := by kernel_rfl }
open Go.RowKit Go.Lib in
/-- **unicode/utf8.DecodeRuneInString AT EVERY STRING.** (LAID: no walk: one application.) -/
theorem Tryz.utf8_DecodeRuneInString (s : ByteArray) (w : World) (hT : Lib.Utf8Tabs 5 6 w) :
    Calls Tryz.prog 271 #[.string s] w fun e w' => e = .returned (.tuple #[.int .i32 (Lib.decodeGo s).1, .int .i64 (Lib.decodeGo s).2]) ∧ Below w.heap.size w w' := Any.utf8_DecodeRuneInString Tryz.lays197 s w hT
def Tryz.lays109_ren : Go.Shelf.Ren := ⟨fun | 109 => 96 | n => n, fun | 31 => 43 | 9 => 9 | 3 => 3 | 0 => 0 | 4 => 4 | n => n, fun | n => n⟩
theorem Tryz.lays109 : Go.Proofs.Lays.n109 Tryz.prog Tryz.lays109_ren := {
  mixed := by kernel_rfl
  f109 := Tryz.func96.trans (congrArg some (by kernel_rfl))
  t0 := Tryz.underlying0
  a0 := Tryz.isAgg0
  z0 := Tryz.sizeOf0
  v0 := Tryz.zeroValue0
  t3 := Tryz.underlying3
  a3 := Tryz.isAgg3
  z3 := Tryz.sizeOf3
  v3 := Tryz.zeroValue3
  t4 := Tryz.underlying4
  a4 := Tryz.isAgg4
  z4 := Tryz.sizeOf4
  v4 := Tryz.zeroValue4
  t9 := Tryz.underlying9
  a9 := Tryz.isAgg9
  z9 := Tryz.sizeOf9
  v9 := Tryz.zeroValue9
  t31 := Tryz.underlying43
  a31 := Tryz.isAgg43
  z31 := Tryz.sizeOf43
  v31 := Tryz.zeroValue43 }
open Go.Lib in
/-- slices.Index at []string: "Index returns the index of the first occurrence of v in s, or -1 if not present.": IT RETURNS 'Lib.idxOfS (the elements) v'; the world is as it was. 'zs': what the cells behind the slice's address hold (its spare capacity too, if you have it); 'zs.take n': its elements. (LAID: no walk: one application.) -/
theorem Tryz.slices_Index_string (b off n c : Nat) (zs : List ByteArray) (x : ByteArray) (w : World) (hz : n ≤ zs.length) (hbig : n ≤ 9223372036854775807) (hc : ∀ j, j < zs.length → w.cell? ⟨b, off + j, none⟩ = some (.string (zs.getD j ByteArray.empty))) :
    Calls Tryz.prog 96 #[.slice (some ⟨b, off, none⟩) n c, .string x] w fun e w' => e = .returned (.int .i64 (Lib.idxOfS (zs.take n) x)) ∧ w' = w := Any.slices_Index_string Tryz.lays109 b off n c zs x w hz hbig hc
end Go.Proofs


/- What the rows of a seat with laid tables and sentinels share: the tables, the witness. -/
set_option linter.unusedVariables false
set_option linter.unusedSimpArgs false
namespace Go.Proofs.YtogfcfgfkggmlaaGreatDoor.row
open Go Go.ChangeShapes Go.WideShapes Go.ChangeAt Go.RowKit Go.Proofs Go.Shelf Go.Proofs.YtogfcfgfkggmlaaGreatDoor.Eng Go.Proofs.YtogfcfgfkggmlaaGreatDoor.Eng.Rdv

theorem own : ownKnob Tryz.prog.godebug = none := by kernel_rfl
theorem laidOut : laidOutB Tryz.prog = true := by kernel_rfl
section
variable {H : Type} {enc : TypeId × Value → H} {P : Program} {w : World} {base : Nat} {sp : Nat → Bool} {held : Bool}
theorem arr_len {fuel : Nat} {t e : TypeId} {n : Nat} {cs : List Value} {d : DataW H} {p : List MemPlace} (ht : P.underlying t = some (.array n e)) (h : DataW.trod enc P w base sp held fuel t cs = some (d, p)) : cs.length = P.cellsOf t := by
  cases fuel with
  | zero => simp [DataW.trod] at h
  | succ fuel =>
    simp only [DataW.trod, ht] at h
    split at h
    · assumption
    · cases h
theorem iface_only {fuel : Nat} {t : TypeId} {ms : Array (String × TypeId)} {cs : List Value} {nm : String} {d : DataW H} {p : List MemPlace} (ht : P.underlying t = some (.interface ms)) (h : DataW.trod enc P w base sp held fuel t cs = some (.iface nm d, p)) : ∃ u v, cs = [.iface u v] := by
  cases fuel with
  | zero => simp [DataW.trod] at h
  | succ fuel =>
    simp only [DataW.trod, ht] at h
    split at h <;> first | exact ⟨_, _, rfl⟩ | (cases h; done) | simp_all
end
theorem add0 (g j : Nat) : (⟨g, 0, none⟩ : Addr).add j = ⟨g, j, none⟩ := by rw [add_lit', Nat.zero_add]
/-- A variable of so many leaves, cell by cell. -/
theorem glob_one {W : World} {g : Nat} {arr : Array Value} {name : String} (hn : Tryz.prog.globalNamed name = some g) (hv : W.var? Tryz.prog name = some arr) (cs : List AV) (f : Nat → Value) (hl : arr.size = cs.length) (hleaf : ∀ (j : Nat) (c : AV), cs[j]? = some c → c.leaf = true ∧ arr[j]? = some (f j) ∧ V (stab W) c (f j)) :
    V (stab W) (.eptr cs 0) (.pointer (some ⟨g, 0, none⟩)) ∧ ∃ arr t f, W.heap[g]? = some (.cells arr t f) ∧ arr.size = cs.length := by
  refine ⟨?_, ?_⟩
  · have := V.eptr (S := stab W) cs 0 ⟨g, 0, none⟩ f (fun j c h => (hleaf j c h).1) (fun j c h => by
      rw [add0]
      show W.cell? ⟨g, j, none⟩ = _
      rw [World.var?_cell hn hv j]
      exact (hleaf j c h).2.1) (fun j c h => (hleaf j c h).2.2)
    rwa [add0] at this
  · unfold World.var? at hv
    rw [hn, Option.bind_some] at hv
    split at hv
    · rename_i cs' t f' he
      obtain rfl := Option.some.inj hv
      exact ⟨_, _, _, he, hl⟩
    · cases hv
theorem ints_one {W : World} {g : Nat} {name : String} {k : IntKind} {zs : List Int} (hn : Tryz.prog.globalNamed name = some g) (hv : W.var? Tryz.prog name = some (zs.map fun z => Value.int k z).toArray) :
    V (stab W) (.eptr (zs.map fun z => .int k z) 0) (.pointer (some ⟨g, 0, none⟩)) ∧ ∃ arr t f, W.heap[g]? = some (.cells arr t f) ∧ arr.size = (zs.map fun z => AV.int k z).length := by
  refine glob_one hn hv _ (fun j => .int k (zs.getD j 0)) (by simp) fun j c hc => ?_
  rw [List.getElem?_map] at hc
  obtain ⟨z, hz, rfl⟩ := Option.map_eq_some_iff.1 hc
  refine ⟨rfl, ?_, ?_⟩
  · simp [List.getD_eq_getElem?_getD, hz]
  · rw [List.getD_eq_getElem?_getD, hz]; exact V.int _ _
theorem iface_one {W : World} {g : Nat} {name : String} {nm : String} {d : DataW Unit} {t : TypeId} {ms : Array (String × TypeId)} (hn : Tryz.prog.globalNamed name = some g) (hy : (Tryz.prog.globals[g]?).map (·.type) = some t) (hi : Tryz.prog.underlying t = some (.interface ms)) (h : Lib.VarReads Tryz.prog W name (.iface nm d)) :
    V (stab W) (.eptr [.ifc] 0) (.pointer (some ⟨g, 0, none⟩)) ∧ ∃ arr t f, W.heap[g]? = some (.cells arr t f) ∧ arr.size = [AV.ifc].length := by
  obtain ⟨g', t', cs, fuel, p, hg, hty, hvar, hd⟩ := h
  obtain rfl := Option.some.inj (hn.symm.trans hg)
  obtain rfl := Option.some.inj (hy.symm.trans hty)
  obtain ⟨u, v, e⟩ := iface_only hi hd
  obtain ⟨cs⟩ := cs
  obtain rfl : cs = [.iface u v] := e
  refine glob_one hn hvar _ (fun _ => .iface u v) rfl fun j c hc => ?_
  match j with
  | 0 => cases hc; exact ⟨rfl, rfl, V.ifc _ _⟩
  | j + 1 => simp at hc
theorem tab_var {W : World} {g : Nat} {name : String} {k : IntKind} {zs : List Int} {t e : TypeId} {n : Nat} (hn : Tryz.prog.globalNamed name = some g) (hy : (Tryz.prog.globals[g]?).map (·.type) = some t) (ht : Tryz.prog.underlying t = some (.array n e)) (he : Tryz.prog.underlying e = some (.int k)) (hce : Tryz.prog.cellsOf e = 1) (hct : Tryz.prog.cellsOf t = n) (h : Lib.VarReads Tryz.prog W name (Lib.tabData k zs)) : W.var? Tryz.prog name = some (zs.map fun z => Value.int k z).toArray := by
  obtain ⟨g', t', cs, fuel, p, hg, hty, hvar, hd⟩ := h
  obtain rfl := Option.some.inj (hn.symm.trans hg)
  obtain rfl := Option.some.inj (hy.symm.trans hty)
  rw [hvar, ← Lib.cells_of_tab ht he hce hct hd]
/-- What the row's laid variables give. -/
theorem tables {W : World} {l : List (String × DataW Unit)} (hl : l = [("math/bits.deBruijn32tab", Rows.laid_math_bits_deBruijn32tab), ("math/bits.deBruijn64tab", Rows.laid_math_bits_deBruijn64tab), ("internal/strconv.uint64pow10", Rows.laid_internal_strconv_uint64pow10), ("unicode/utf8.acceptRanges", Rows.laid_unicode_utf8_acceptRanges), ("strconv.ErrRange", Rows.laid_strconv_ErrRange), ("strconv.ErrSyntax", Rows.laid_strconv_ErrSyntax), ("unicode/utf8.first", Rows.laid_unicode_utf8_first)]) (h : laidMetH Tryz.prog l W) : GlobOk U.glob (stab W) W := by
  subst hl
  have h' : laidMet Tryz.prog [("math/bits.deBruijn32tab", Rows.laid_math_bits_deBruijn32tab), ("math/bits.deBruijn64tab", Rows.laid_math_bits_deBruijn64tab), ("internal/strconv.uint64pow10", Lib.tabData .u64 Lib.pow10Tab), ("unicode/utf8.acceptRanges", Lib.acceptData), ("strconv.ErrRange", Rows.laid_strconv_ErrRange), ("strconv.ErrSyntax", Rows.laid_strconv_ErrSyntax), ("unicode/utf8.first", Lib.firstData)] W := by
    have e1 : (Rows.laid_unicode_utf8_acceptRanges : DataW Unit) = Lib.acceptData := by kernel_rfl
    have e2 : Rows.laid_unicode_utf8_first = Lib.firstData := by kernel_rfl
    have e3 : (Rows.laid_internal_strconv_uint64pow10 : DataW Unit) = Lib.tabData .u64 Lib.pow10Tab := by kernel_rfl
    rw [← e1, ← e2, ← e3]
    exact h
  have r1 : Lib.VarReads Tryz.prog W "internal/strconv.uint64pow10" (Lib.tabData .u64 Lib.pow10Tab) := Lib.laidMet.reads h' (.tail _ (.tail _ (.head _)))
  have r3 : Lib.VarReads Tryz.prog W "strconv.ErrSyntax" Rows.laid_strconv_ErrSyntax := Lib.laidMet.reads h' (.tail _ (.tail _ (.tail _ (.tail _ (.tail _ (.head _))))))
  have r4 : Lib.VarReads Tryz.prog W "strconv.ErrRange" Rows.laid_strconv_ErrRange := Lib.laidMet.reads h' (.tail _ (.tail _ (.tail _ (.tail _ (.head _)))))
  have r7 : Lib.VarReads Tryz.prog W "unicode/utf8.first" Lib.firstData := Lib.laidMet.reads h' (.tail _ (.tail _ (.tail _ (.tail _ (.tail _ (.tail _ (.head _)))))))
  have r8 : Lib.VarReads Tryz.prog W "unicode/utf8.acceptRanges" Lib.acceptData := Lib.laidMet.reads h' (.tail _ (.tail _ (.tail _ (.head _))))
  have hU : Lib.Utf8Tabs 5 6 W := Go.Proofs.utf8Tabs_of_reads (P := Tryz.prog) (ρ := Tryz.lays260_ren) { Tryz.lays260 with } ⟨by kernel_rfl, by kernel_rfl, by kernel_rfl, by kernel_rfl, by kernel_rfl, by kernel_rfl, by kernel_rfl⟩ r7 r8
  intro g cs hg
  unfold U.glob at hg
  split at hg
  · rename_i h0
    subst h0
    obtain rfl := Option.some.inj hg
    have := ints_one (g := 5) (name := "unicode/utf8.first") (by kernel_rfl) (tab_var (g := 5) (t := 305) (e := 5) (n := 256) (by kernel_rfl) (by kernel_rfl) Tryz.underlying305 Tryz.underlying5 (by kernel_rfl) (by kernel_rfl) r7)
    rw [Lib.firstTab, List.map_map] at this
    exact this
  · split at hg
    · rename_i h0 h1
      subst h1
      obtain rfl := Option.some.inj hg
      obtain ⟨g', t', cs, fuel, p, hgn, hty, hvar, hd⟩ := r8
      obtain rfl := Option.some.inj ((show Tryz.prog.globalNamed "unicode/utf8.acceptRanges" = some 6 by kernel_rfl).symm.trans hgn)
      obtain rfl := Option.some.inj ((show (Tryz.prog.globals[6]?).map (·.type) = some 308 by kernel_rfl).symm.trans hty)
      have hlen := arr_len Tryz.underlying308 hd
      have hsz : Tryz.prog.cellsOf 308 = 32 := by kernel_rfl
      rw [hsz, Array.length_toList] at hlen
      refine glob_one hgn hvar _ (fun i => .int .u8 (((if i % 2 = 0 then Lib.accLo (i / 2) else Lib.accHi (i / 2) : Nat) : Int))) (by simp [hlen]) fun j c hc => ?_
      rw [List.getElem?_map] at hc
      obtain ⟨x, hx, rfl⟩ := Option.map_eq_some_iff.1 hc
      obtain ⟨hj, rfl⟩ := List.getElem?_eq_some_iff.1 hx
      rw [List.length_range] at hj
      rw [List.getElem_range]
      refine ⟨rfl, ?_, V.int _ _⟩
      rw [← World.var?_cell hgn hvar j]
      obtain ⟨h2, h3⟩ := hU.2 (j / 2) (by omega)
      by_cases hm : j % 2 = 0
      · rw [if_pos hm]
        rwa [show 2 * (j / 2) = j from by omega] at h2
      · rw [if_neg hm]
        rwa [show 2 * (j / 2) + 1 = j from by omega] at h3
    · split at hg
      · rename_i h0 h1 h2
        subst h2
        obtain rfl := Option.some.inj hg
        exact ints_one (g := 4) (name := "internal/strconv.uint64pow10") (by kernel_rfl) (tab_var (g := 4) (t := 298) (e := 183) (n := 20) (by kernel_rfl) (by kernel_rfl) Tryz.underlying298 Tryz.underlying183 (by kernel_rfl) (by kernel_rfl) r1)
      · split at hg
        · rename_i h0 h1 h2 h3
          subst h3
          obtain rfl := Option.some.inj hg
          exact iface_one (name := "strconv.ErrSyntax") (by kernel_rfl) (t := 185) (by kernel_rfl) Tryz.underlying185 r3
        · split at hg
          · rename_i h0 h1 h2 h3 h4
            subst h4
            obtain rfl := Option.some.inj hg
            exact iface_one (name := "strconv.ErrRange") (by kernel_rfl) (t := 185) (by kernel_rfl) Tryz.underlying185 r4
          · cases hg
/-- The cells that a datum of numbers is. -/
def litV : DataW Unit → Value
  | .lit (.int k n) => .int k n
  | _ => .nilIface
def rowV : DataW Unit → Array Value
  | .agg l => (l.map litV).toArray
  | _ => #[]
/-- So many blocks has the settled world. -/
noncomputable def low : Nat := (World.holding Tryz.prog default ⟨#[], #[], []⟩).heap.size
/-- The witness: the settled memory with the two errors' texts behind it, the variables holding what their initialisers lay. -/
noncomputable def laidWorld (os : Os) : World :=
  let w0 := World.holding Tryz.prog os ⟨#[.cells #[.string ⟨#[118, 97, 108, 117, 101, 32, 111, 117, 116, 32, 111, 102, 32, 114, 97, 110, 103, 101]⟩] 303, .cells #[.string ⟨#[105, 110, 118, 97, 108, 105, 100, 32, 115, 121, 110, 116, 97, 120]⟩] 303], #[], []⟩
  let put (h : Array Obj) (g : Nat) (cs : Array Value) : Array Obj := h.modify g fun
    | .cells _ t frozen => .cells cs t frozen
    | o => o
  let h1 := put w0.heap 5 (Lib.firstTab.map fun z => Value.int .u8 z).toArray
  let h2 := put h1 6 ((List.range 16).flatMap fun i => [Value.int .u8 (Lib.accLo i), Value.int .u8 (Lib.accHi i)]).toArray
  let h3 := put h2 7 (rowV Rows.laid_math_bits_deBruijn32tab)
  let h4 := put h3 8 (rowV Rows.laid_math_bits_deBruijn64tab)
  let h5 := put h4 4 (rowV Rows.laid_internal_strconv_uint64pow10)
  let h6 := put h5 3 #[.iface 301 (.pointer (some ⟨low, 0, none⟩))]
  let h7 := put h6 2 #[.iface 301 (.pointer (some ⟨low + 1, 0, none⟩))]
  { w0 with heap := h7 }
noncomputable abbrev laidBlocks : List Nat := [7, 8, 4, 6, 3, 2, 5, low, low + 1]
theorem cells_str (s : ByteArray) : (Value.string s).cells.toList = [Value.string s] := rfl
end Go.Proofs.YtogfcfgfkggmlaaGreatDoor.row


/- What functions answer, as the engine evaluates their code. Printed by gen2.py. -/
set_option linter.unusedVariables false
namespace Go.Proofs.YtogfcfgfkggmlaaGreatDoor.Eng.U
open Go Go.Proofs Go.Proofs.YtogfcfgfkggmlaaGreatDoor.Eng
/- oakum/oakumlaw20.TaleHeads -/
theorem law20_TaleHeads_eq {E : Ext} [Core E] (k n : Nat) (a0 : ByteArray) : kp E k (n + 1) law20_TaleHeads [(.str a0)] =
  (callB (kp E k n law20_alive []) fun vq2 => (bif (!vq2) then (some (.bool false)) else (bif (decide ((((ByteArray.size a0) : Nat) : Int) > (3000 : Int))) then (some (.bool true)) else (callT (kp E k n tale_Head [(.str a0)]) fun vt4 => (tupG 14 vt4 fun vg5 vt6 => (cellI .i64 vg5 0 fun vn7 => (cellS vg5 1 fun vs8 => (cellS vg5 2 fun vs9 => (cellI .i64 vg5 3 fun vn10 => (cellI .i64 vg5 4 fun vn11 => (cellI .i64 vg5 5 fun vn12 => (cellI .i64 vg5 6 fun vn13 => (cellI .i64 vg5 7 fun vn14 => (cellI .i64 vg5 8 fun vn15 => (cellS vg5 9 fun vs16 => (cellS vg5 10 fun vs17 => (cellI .i64 vg5 11 fun vn18 => (cellI .i64 vg5 12 fun vn19 => (cellL 2 vg5 13 fun vl20 => (tupI .u8 vt6 fun vn21 vt22 => (atNil vt22 (callT (kp E k n ref20_Head [(.str a0)]) fun vt24 => (tupG 14 vt24 fun vg25 vt26 => (cellI .i64 vg25 0 fun vn27 => (cellS vg25 1 fun vs28 => (cellS vg25 2 fun vs29 => (cellI .i64 vg25 3 fun vn30 => (cellI .i64 vg25 4 fun vn31 => (cellI .i64 vg25 5 fun vn32 => (cellI .i64 vg25 6 fun vn33 => (cellI .i64 vg25 7 fun vn34 => (cellI .i64 vg25 8 fun vn35 => (cellS vg25 9 fun vs36 => (cellS vg25 10 fun vs37 => (cellI .i64 vg25 11 fun vn38 => (cellI .i64 vg25 12 fun vn39 => (cellL 2 vg25 13 fun vl40 => (tupB vt26 fun vq41 vt42 => (atNil vt42 (bif vq41 then (bif (decide ((IntKind.wrap .i64 vn21) = (0 : Int))) then (callB (kp E k n ref08_SameHead [(.agg [(.int .i64 vn7), (.str vs8), (.str vs9), (.int .i64 vn10), (.int .i64 vn11), (.int .i64 vn12), (.int .i64 vn13), (.int .i64 vn14), (.int .i64 vn15), (.str vs16), (.str vs17), (.int .i64 vn18), (.int .i64 vn19), (.list 2 vl20)]), (.agg [(.int .i64 vn27), (.str vs28), (.str vs29), (.int .i64 vn30), (.int .i64 vn31), (.int .i64 vn32), (.int .i64 vn33), (.int .i64 vn34), (.int .i64 vn35), (.str vs36), (.str vs37), (.int .i64 vn38), (.int .i64 vn39), (.list 2 vl40)])]) fun vq44 => (some (.bool vq44))) else (bif (!vq41) then (bif (decide ((IntKind.wrap .i64 vn21) = (15 : Int))) then (callB (kp E k n ref08_SameHead [(.agg [(.int .i64 vn7), (.str vs8), (.str vs9), (.int .i64 vn10), (.int .i64 vn11), (.int .i64 vn12), (.int .i64 vn13), (.int .i64 vn14), (.int .i64 vn15), (.str vs16), (.str vs17), (.int .i64 vn18), (.int .i64 vn19), (.list 2 vl20)]), (.agg [(.int .i64 vn27), (.str vs28), (.str vs29), (.int .i64 vn30), (.int .i64 vn31), (.int .i64 vn32), (.int .i64 vn33), (.int .i64 vn34), (.int .i64 vn35), (.str vs36), (.str vs37), (.int .i64 vn38), (.int .i64 vn39), (.list 2 vl40)])]) fun vq46 => (some (.bool vq46))) else (some (.bool false))) else (some (.bool false)))) else (bif (!vq41) then (bif (decide ((IntKind.wrap .i64 vn21) = (15 : Int))) then (callB (kp E k n ref08_SameHead [(.agg [(.int .i64 vn7), (.str vs8), (.str vs9), (.int .i64 vn10), (.int .i64 vn11), (.int .i64 vn12), (.int .i64 vn13), (.int .i64 vn14), (.int .i64 vn15), (.str vs16), (.str vs17), (.int .i64 vn18), (.int .i64 vn19), (.list 2 vl20)]), (.agg [(.int .i64 vn27), (.str vs28), (.str vs29), (.int .i64 vn30), (.int .i64 vn31), (.int .i64 vn32), (.int .i64 vn33), (.int .i64 vn34), (.int .i64 vn35), (.str vs36), (.str vs37), (.int .i64 vn38), (.int .i64 vn39), (.list 2 vl40)])]) fun vq48 => (some (.bool vq48))) else (some (.bool false))) else (some (.bool false))))))))))))))))))))))))))))))))))))))))))) := (kp_at (by kernel_rfl)).trans (by kernel_rfl)
/- oakum/oakumlaw20.TaleBack -/
/- oakum/oakumlaw20.TaleLines -/
/- oakum/oakumlaw20.TaleOutcomes -/
/- oakum/oakumlaw17.Many -/
/- oakum/oakumlaw20.alive -/
theorem law20_alive_eq {E : Ext} [Core E] (k n : Nat)  : kp E k (n + 1) law20_alive [] =
  (callT (kp E k n tale_Line [(.agg [(.int .i64 (1 : Int)), (.str (str [97])), (.str (str [])), (.int .i64 (420 : Int)), (.int .i64 (0 : Int)), (.int .i64 (0 : Int)), (.int .i64 (3 : Int)), (.int .i64 (0 : Int)), (.int .i64 (0 : Int)), (.str (str [])), (.str (str [])), (.int .i64 (0 : Int)), (.int .i64 (0 : Int)), (.list 2 [])])]) fun vt2 => (tupS vt2 fun vs3 vt4 => (tupI .u8 vt4 fun vn5 vt6 => (atNil vt6 (callT (kp E k n tale_Head [(.str (str [102, 105, 108, 101, 32, 52, 50, 48, 32, 48, 32, 48, 32, 51, 32, 48, 32, 61, 32, 61, 32, 48, 32, 48, 32, 61, 97, 32, 61]))]) fun vt8 => (tupG 14 vt8 fun vg9 vt10 => (cellI .i64 vg9 0 fun vn11 => (cellS vg9 1 fun vs12 => (cellS vg9 2 fun vs13 => (cellI .i64 vg9 3 fun vn14 => (cellI .i64 vg9 4 fun vn15 => (cellI .i64 vg9 5 fun vn16 => (cellI .i64 vg9 6 fun vn17 => (cellI .i64 vg9 7 fun vn18 => (cellI .i64 vg9 8 fun vn19 => (cellS vg9 9 fun vs20 => (cellS vg9 10 fun vs21 => (cellI .i64 vg9 11 fun vn22 => (cellI .i64 vg9 12 fun vn23 => (cellL 2 vg9 13 fun vl24 => (tupI .u8 vt10 fun vn25 vt26 => (atNil vt26 (bif (decide ((IntKind.wrap .i64 ((IntKind.wrap .i64 vn5) + (IntKind.wrap .i64 vn25))) = (0 : Int))) then (bif (decide (vs3 = (str [102, 105, 108, 101, 32, 52, 50, 48, 32, 48, 32, 48, 32, 51, 32, 48, 32, 61, 32, 61, 32, 48, 32, 48, 32, 61, 97, 32, 61]))) then (bif (decide (vs12 = (str [97]))) then (some (.bool (decide (vn17 = (3 : Int))))) else (some (.bool false))) else (some (.bool false))) else (some (.bool false))))))))))))))))))))))))) := (kp_at (by kernel_rfl)).trans (by kernel_rfl)
/- oakum/tale.Head -/
noncomputable def tale_Head_bd : Code := Tryz.f43.body.getD .skip
noncomputable def tale_Head_L0 (kap : FuncId → List AV → Option AV) (k : Nat) (k0 : Nat) (s0 : ByteArray) (b2_0 : Int) (b2_1 : ByteArray) (b2_2 : ByteArray) (b2_3 : Int) (b2_4 : Int) (b2_5 : Int) (b2_6 : Int) (b2_7 : Int) (b2_8 : Int) (b2_9 : ByteArray) (b2_10 : ByteArray) (b2_11 : Int) (b2_12 : Int) (b4_0 : List AV) (b4_1 : Bool) (b5_0 : Int) (b5_1 : ByteArray) (b5_2 : ByteArray) (b5_3 : Int) (b5_4 : Int) (b5_5 : Int) (b5_6 : Int) (b5_7 : Int) (b5_8 : Int) (b5_9 : ByteArray) (b5_10 : ByteArray) (b5_11 : Int) (b5_12 : Int) (x178 : List AV) (x181 : List AV) : Option AV :=
  loop (fun fr K => code ((bs E0 k).cfg kap tale_Head) (sel tale_Head_bd [1, 1, 1, 1, 1, 1, 1, 1, 1, 1, 1, 1, 1, 0, 0, 0]) fr K) (canon ((bs E0 k).cfg kap tale_Head) (firstReg (sel tale_Head_bd [1, 1, 1, 1, 1, 1, 1, 1, 1, 1, 1, 1, 1, 0, 0, 0]))) k0 (mkFr 88 [(0, (.str s0)), (2, (.loc 2 0)), (4, (.loc 4 0)), (5, (.loc 5 0))] [(2, (.box [(.int .i64 b2_0), (.str b2_1), (.str b2_2), (.int .i64 b2_3), (.int .i64 b2_4), (.int .i64 b2_5), (.int .i64 b2_6), (.int .i64 b2_7), (.int .i64 b2_8), (.str b2_9), (.str b2_10), (.int .i64 b2_11), (.int .i64 b2_12), (.own 178)])), (4, (.box [(.list 1 b4_0), (.bool b4_1)])), (5, (.box [(.int .i64 b5_0), (.str b5_1), (.str b5_2), (.int .i64 b5_3), (.int .i64 b5_4), (.int .i64 b5_5), (.int .i64 b5_6), (.int .i64 b5_7), (.int .i64 b5_8), (.str b5_9), (.str b5_10), (.int .i64 b5_11), (.int .i64 b5_12), (.own 181)])), (178, (.row 29 x178 false)), (181, (.row 29 x181 false))]) (plug ((bs E0 k).cfg kap tale_Head) (retK ((bs E0 k).cfg kap tale_Head) [] Tryz.f43 [] some) [.blk 2, .seqR (sel tale_Head_bd [1, 1, 1, 1, 1, 1, 1, 1, 1, 1, 1, 1, 1, 1])])
theorem tale_Head_L0_s (kap : FuncId → List AV → Option AV) (k : Nat) (k0 : Nat) (s0 : ByteArray) (b2_0 : Int) (b2_1 : ByteArray) (b2_2 : ByteArray) (b2_3 : Int) (b2_4 : Int) (b2_5 : Int) (b2_6 : Int) (b2_7 : Int) (b2_8 : Int) (b2_9 : ByteArray) (b2_10 : ByteArray) (b2_11 : Int) (b2_12 : Int) (b4_0 : List AV) (b4_1 : Bool) (b5_0 : Int) (b5_1 : ByteArray) (b5_2 : ByteArray) (b5_3 : Int) (b5_4 : Int) (b5_5 : Int) (b5_6 : Int) (b5_7 : Int) (b5_8 : Int) (b5_9 : ByteArray) (b5_10 : ByteArray) (b5_11 : Int) (b5_12 : Int) (x178 : List AV) (x181 : List AV) : tale_Head_L0 kap (k + 6) (k0 + 1) s0 b2_0 b2_1 b2_2 b2_3 b2_4 b2_5 b2_6 b2_7 b2_8 b2_9 b2_10 b2_11 b2_12 b4_0 b4_1 b5_0 b5_1 b5_2 b5_3 b5_4 b5_5 b5_6 b5_7 b5_8 b5_9 b5_10 b5_11 b5_12 x178 x181 =
  (bif (decide ((((List.length b4_0) : Nat) : Int) > (0 : Int))) then (callX (kap tale_reader_text [(.lent [(.list 1 b4_0), (.bool b4_1)])]) fun vb123 vz124 => (nxX vz124 fun vx126 vz125 => (nxL 1 vx126 fun vl128 vx127 => (nxB vx127 fun vq130 vx129 => (atNil vx129 (atNil vz125 (callS (some vb123) fun vs131 => (callX (kap tale_reader_text [(.lent [(.list 1 vl128), (.bool vq130)])]) fun vb132 vz133 => (nxX vz133 fun vx135 vz134 => (nxL 1 vx135 fun vl137 vx136 => (nxB vx136 fun vq139 vx138 => (atNil vx138 (atNil vz134 (callS (some vb132) fun vs140 => (bif (decide (((List.length x181) + 1) * 32 ≤ 140737488355328) && decide (((List.length x181) + 1) ≤ 9223372036854775807)) then (tale_Head_L0 kap (k + 6) k0 s0 b2_0 b2_1 b2_2 b2_3 b2_4 b2_5 b2_6 b2_7 b2_8 b2_9 b2_10 b2_11 b2_12 vl137 vq139 b5_0 b5_1 b5_2 b5_3 b5_4 b5_5 b5_6 b5_7 b5_8 b5_9 b5_10 b5_11 b5_12 x178 (x181 ++ [(.agg [(.str vs131), (.str vs140)])])) else none))))))))))))))) else (callT (kap tale_Line [(.agg [(.int .i64 b5_0), (.str b5_1), (.str b5_2), (.int .i64 b5_3), (.int .i64 b5_4), (.int .i64 b5_5), (.int .i64 b5_6), (.int .i64 b5_7), (.int .i64 b5_8), (.str b5_9), (.str b5_10), (.int .i64 b5_11), (.int .i64 b5_12), (.list 2 x181)])]) fun vt142 => (tupS vt142 fun vs143 vt144 => (tupI .u8 vt144 fun vn145 vt146 => (atNil vt146 (bif b4_1 then (some (.tup [(.agg [(.int .i64 (0 : Int)), (.str (str [])), (.str (str [])), (.int .i64 (0 : Int)), (.int .i64 (0 : Int)), (.int .i64 (0 : Int)), (.int .i64 (0 : Int)), (.int .i64 (0 : Int)), (.int .i64 (0 : Int)), (.str (str [])), (.str (str [])), (.int .i64 (0 : Int)), (.int .i64 (0 : Int)), (.list 2 [])]), (.int .u8 (15 : Int))])) else (bif (!(decide (vn145 = (0 : Int)))) then (some (.tup [(.agg [(.int .i64 (0 : Int)), (.str (str [])), (.str (str [])), (.int .i64 (0 : Int)), (.int .i64 (0 : Int)), (.int .i64 (0 : Int)), (.int .i64 (0 : Int)), (.int .i64 (0 : Int)), (.int .i64 (0 : Int)), (.str (str [])), (.str (str [])), (.int .i64 (0 : Int)), (.int .i64 (0 : Int)), (.list 2 [])]), (.int .u8 (15 : Int))])) else (bif (!(decide (vs143 = s0))) then (some (.tup [(.agg [(.int .i64 (0 : Int)), (.str (str [])), (.str (str [])), (.int .i64 (0 : Int)), (.int .i64 (0 : Int)), (.int .i64 (0 : Int)), (.int .i64 (0 : Int)), (.int .i64 (0 : Int)), (.int .i64 (0 : Int)), (.str (str [])), (.str (str [])), (.int .i64 (0 : Int)), (.int .i64 (0 : Int)), (.list 2 [])]), (.int .u8 (15 : Int))])) else (some (.tup [(.agg [(.int .i64 b5_0), (.str b5_1), (.str b5_2), (.int .i64 b5_3), (.int .i64 b5_4), (.int .i64 b5_5), (.int .i64 b5_6), (.int .i64 b5_7), (.int .i64 b5_8), (.str b5_9), (.str b5_10), (.int .i64 b5_11), (.int .i64 b5_12), (.list 2 x181)]), (.int .u8 (0 : Int))])))))))))) := by kernel_rfl
theorem tale_Head_eq {E : Ext} [Core E] (k n : Nat) (a0 : ByteArray) : kp E (k + 6) (n + 1) tale_Head [(.str a0)] =
  (callL 1 (kp E (k + 6) n strings_Split [(.str a0), (.str (str [32]))]) fun vl2 => (callL 1 (kp E (k + 6) n tale_kinds []) fun vl4 => (callX (kp E (k + 6) n tale_reader_next [(.lent [(.list 1 vl2), (.bool false)])]) fun vb5 vz6 => (nxX vz6 fun vx8 vz7 => (nxL 1 vx8 fun vl10 vx9 => (nxB vx9 fun vq12 vx11 => (atNil vx11 (atNil vz7 (callS (some vb5) fun vs13 => (callI .i64 (kp E (k + 6) n slices_Index_string [(.list 1 vl4), (.str vs13)]) fun vn15 => (callX (kp E (k + 6) n tale_reader_number [(.lent [(.list 1 vl10), (.bool vq12)])]) fun vb16 vz17 => (nxX vz17 fun vx19 vz18 => (nxL 1 vx19 fun vl21 vx20 => (nxB vx20 fun vq23 vx22 => (atNil vx22 (atNil vz18 (callI .i64 (some vb16) fun vn24 => (callX (kp E (k + 6) n tale_reader_number [(.lent [(.list 1 vl21), (.bool vq23)])]) fun vb25 vz26 => (nxX vz26 fun vx28 vz27 => (nxL 1 vx28 fun vl30 vx29 => (nxB vx29 fun vq32 vx31 => (atNil vx31 (atNil vz27 (callI .i64 (some vb25) fun vn33 => (callX (kp E (k + 6) n tale_reader_number [(.lent [(.list 1 vl30), (.bool vq32)])]) fun vb34 vz35 => (nxX vz35 fun vx37 vz36 => (nxL 1 vx37 fun vl39 vx38 => (nxB vx38 fun vq41 vx40 => (atNil vx40 (atNil vz36 (callI .i64 (some vb34) fun vn42 => (callX (kp E (k + 6) n tale_reader_number [(.lent [(.list 1 vl39), (.bool vq41)])]) fun vb43 vz44 => (nxX vz44 fun vx46 vz45 => (nxL 1 vx46 fun vl48 vx47 => (nxB vx47 fun vq50 vx49 => (atNil vx49 (atNil vz45 (callI .i64 (some vb43) fun vn51 => (callX (kp E (k + 6) n tale_reader_next [(.lent [(.list 1 vl48), (.bool vq50)])]) fun vb52 vz53 => (nxX vz53 fun vx55 vz54 => (nxL 1 vx55 fun vl57 vx56 => (nxB vx56 fun vq59 vx58 => (atNil vx58 (atNil vz54 (callS (some vb52) fun vs60 => (callT (kp E (k + 6) n dec_Time [(.str vs60)]) fun vt62 => (tupG 2 vt62 fun vg63 vt64 => (cellI .i64 vg63 0 fun vn65 => (cellI .i64 vg63 1 fun vn66 => (tupI .u8 vt64 fun vn67 vt68 => (atNil vt68 (bif vq59 then (callX (kp E (k + 6) n tale_reader_text [(.lent [(.list 1 vl57), (.bool true)])]) fun vb69 vz70 => (nxX vz70 fun vx72 vz71 => (nxL 1 vx72 fun vl74 vx73 => (nxB vx73 fun vq76 vx75 => (atNil vx75 (atNil vz71 (callS (some vb69) fun vs77 => (callX (kp E (k + 6) n tale_reader_text [(.lent [(.list 1 vl74), (.bool vq76)])]) fun vb78 vz79 => (nxX vz79 fun vx81 vz80 => (nxL 1 vx81 fun vl83 vx82 => (nxB vx82 fun vq85 vx84 => (atNil vx84 (atNil vz80 (callS (some vb78) fun vs86 => (callX (kp E (k + 6) n tale_reader_number [(.lent [(.list 1 vl83), (.bool vq85)])]) fun vb87 vz88 => (nxX vz88 fun vx90 vz89 => (nxL 1 vx90 fun vl92 vx91 => (nxB vx91 fun vq94 vx93 => (atNil vx93 (atNil vz89 (callI .i64 (some vb87) fun vn95 => (callX (kp E (k + 6) n tale_reader_number [(.lent [(.list 1 vl92), (.bool vq94)])]) fun vb96 vz97 => (nxX vz97 fun vx99 vz98 => (nxL 1 vx99 fun vl101 vx100 => (nxB vx100 fun vq103 vx102 => (atNil vx102 (atNil vz98 (callI .i64 (some vb96) fun vn104 => (callX (kp E (k + 6) n tale_reader_text [(.lent [(.list 1 vl101), (.bool vq103)])]) fun vb105 vz106 => (nxX vz106 fun vx108 vz107 => (nxL 1 vx108 fun vl110 vx109 => (nxB vx109 fun vq112 vx111 => (atNil vx111 (atNil vz107 (callS (some vb105) fun vs113 => (callX (kp E (k + 6) n tale_reader_text [(.lent [(.list 1 vl110), (.bool vq112)])]) fun vb114 vz115 => (nxX vz115 fun vx117 vz116 => (nxL 1 vx117 fun vl119 vx118 => (nxB vx118 fun vq121 vx120 => (atNil vx120 (atNil vz116 (callS (some vb114) fun vs122 => (tale_Head_L0 (kp E (k + 6) n) (k + 6) (k + 6) a0 (0 : Int) (str []) (str []) (0 : Int) (0 : Int) (0 : Int) (0 : Int) (0 : Int) (0 : Int) (str []) (str []) (0 : Int) (0 : Int) vl119 vq121 (if vn15 > (0 : Int) then vn15 else (0 : Int)) vs113 vs122 vn24 vn33 vn42 vn51 vn65 vn66 vs77 vs86 vn95 vn104 [] []))))))))))))))))))))))))))))))))))))))))))) else (callX (kp E (k + 6) n tale_reader_text [(.lent [(.list 1 vl57), (.bool (!(decide (vn67 = (0 : Int)))))])]) fun vb147 vz148 => (nxX vz148 fun vx150 vz149 => (nxL 1 vx150 fun vl152 vx151 => (nxB vx151 fun vq154 vx153 => (atNil vx153 (atNil vz149 (callS (some vb147) fun vs155 => (callX (kp E (k + 6) n tale_reader_text [(.lent [(.list 1 vl152), (.bool vq154)])]) fun vb156 vz157 => (nxX vz157 fun vx159 vz158 => (nxL 1 vx159 fun vl161 vx160 => (nxB vx160 fun vq163 vx162 => (atNil vx162 (atNil vz158 (callS (some vb156) fun vs164 => (callX (kp E (k + 6) n tale_reader_number [(.lent [(.list 1 vl161), (.bool vq163)])]) fun vb165 vz166 => (nxX vz166 fun vx168 vz167 => (nxL 1 vx168 fun vl170 vx169 => (nxB vx169 fun vq172 vx171 => (atNil vx171 (atNil vz167 (callI .i64 (some vb165) fun vn173 => (callX (kp E (k + 6) n tale_reader_number [(.lent [(.list 1 vl170), (.bool vq172)])]) fun vb174 vz175 => (nxX vz175 fun vx177 vz176 => (nxL 1 vx177 fun vl179 vx178 => (nxB vx178 fun vq181 vx180 => (atNil vx180 (atNil vz176 (callI .i64 (some vb174) fun vn182 => (callX (kp E (k + 6) n tale_reader_text [(.lent [(.list 1 vl179), (.bool vq181)])]) fun vb183 vz184 => (nxX vz184 fun vx186 vz185 => (nxL 1 vx186 fun vl188 vx187 => (nxB vx187 fun vq190 vx189 => (atNil vx189 (atNil vz185 (callS (some vb183) fun vs191 => (callX (kp E (k + 6) n tale_reader_text [(.lent [(.list 1 vl188), (.bool vq190)])]) fun vb192 vz193 => (nxX vz193 fun vx195 vz194 => (nxL 1 vx195 fun vl197 vx196 => (nxB vx196 fun vq199 vx198 => (atNil vx198 (atNil vz194 (callS (some vb192) fun vs200 => (tale_Head_L0 (kp E (k + 6) n) (k + 6) (k + 6) a0 (0 : Int) (str []) (str []) (0 : Int) (0 : Int) (0 : Int) (0 : Int) (0 : Int) (0 : Int) (str []) (str []) (0 : Int) (0 : Int) vl197 vq199 (if vn15 > (0 : Int) then vn15 else (0 : Int)) vs191 vs200 vn24 vn33 vn42 vn51 vn65 vn66 vs155 vs164 vn173 vn182 [] []))))))))))))))))))))))))))))))))))))))))))))))))))))))))))))))))))))))))))))))))))))))))))))))) := (kp_at (by kernel_rfl)).trans (by kernel_rfl)
/- oakum/tale.Line -/
noncomputable def tale_Line_bd : Code := Tryz.f46.body.getD .skip
noncomputable def tale_Line_L0 (kap : FuncId → List AV → Option AV) (k : Nat) (k0 : Nat) (s56 : List AV) (s57 : Int) (s58 : Int) (x6 : List AV) : Option AV :=
  loop (fun fr K => code ((bs E0 k).cfg kap tale_Line) (sel tale_Line_bd [1, 1, 1, 1, 0, 1, 0, 0]) fr K) (canon ((bs E0 k).cfg kap tale_Line) (firstReg (sel tale_Line_bd [1, 1, 1, 1, 0, 1, 0, 0]))) k0 (mkFr 74 [(6, (.own 6)), (56, (.list 2 s56)), (57, (.int .i64 s57)), (58, (.int .i64 s58))] [(6, (.row 9 x6 false))]) (plug ((bs E0 k).cfg kap tale_Line) (retK ((bs E0 k).cfg kap tale_Line) [] Tryz.f46 [] some) [.blk 0, .seqR (sel tale_Line_bd [1, 1, 1, 1, 1])])
theorem tale_Line_L0_s (kap : FuncId → List AV → Option AV) (k : Nat) (k0 : Nat) (s56 : List AV) (s57 : Int) (s58 : Int) (x6 : List AV) : tale_Line_L0 kap k (k0 + 1) s56 s57 s58 x6 =
  (bif (decide (s58 < s57)) then (bif ((decide ((0 : Int) ≤ s58)) && (decide (s58 < (((List.length s56) : Nat) : Int)))) then ((s56[(Int.toNat s58)]?).bind fun vy33 => (cellS (AV.cells vy33) 0 fun vs34 => (cellS (AV.cells vy33) 1 fun vs35 => (callS (kap tale_word [(.str vs34)]) fun vs37 => (callS (kap tale_word [(.str vs35)]) fun vs39 => (bif (decide (((List.length x6) + 2) * 16 ≤ 140737488355328) && decide (((List.length x6) + 2) ≤ 9223372036854775807)) then (tale_Line_L0 kap k k0 s56 s57 (IntKind.wrap .i64 (s58 + (1 : Int))) (x6 ++ [(.str vs37), (.str vs39)])) else none)))))) else none) else (callS (kap strings_Join [(.list 1 x6), (.str (str [32]))]) fun vs41 => (some (.tup [(.str vs41), (.int .u8 (0 : Int))])))) := by kernel_rfl
theorem tale_Line_eq {E : Ext} [Core E] (k n : Nat) (a0_0 : Int) (a0_1 : ByteArray) (a0_2 : ByteArray) (a0_3 : Int) (a0_4 : Int) (a0_5 : Int) (a0_6 : Int) (a0_7 : Int) (a0_8 : Int) (a0_9 : ByteArray) (a0_10 : ByteArray) (a0_11 : Int) (a0_12 : Int) (a0_13 : List AV) : kp E k (n + 1) tale_Line [(.agg [(.int .i64 a0_0), (.str a0_1), (.str a0_2), (.int .i64 a0_3), (.int .i64 a0_4), (.int .i64 a0_5), (.int .i64 a0_6), (.int .i64 a0_7), (.int .i64 a0_8), (.str a0_9), (.str a0_10), (.int .i64 a0_11), (.int .i64 a0_12), (.list 2 a0_13)])] =
  (callI .i64 (kp E k n item_Wrong [(.agg [(.int .i64 a0_0), (.str a0_1), (.str a0_2), (.int .i64 a0_3), (.int .i64 a0_4), (.int .i64 a0_5), (.int .i64 a0_6), (.int .i64 a0_7), (.int .i64 a0_8), (.str a0_9), (.str a0_10), (.int .i64 a0_11), (.int .i64 a0_12), (.list 2 a0_13)])]) fun vn2 => (bif (!(decide (vn2 = (0 : Int)))) then (some (.tup [(.str (str [])), (.int .u8 (15 : Int))])) else (callT (kp E k n dec_Print [(.agg [(.int .i64 a0_7), (.int .i64 a0_8)])]) fun vt4 => (tupS vt4 fun vs5 vt6 => (tupI .u8 vt6 fun vn7 vt8 => (atNil vt8 (callL 1 (kp E k n tale_kinds []) fun vl10 => (bif ((decide ((0 : Int) ≤ a0_0)) && (decide (a0_0 < (((List.length vl10) : Nat) : Int)))) then ((vl10[(Int.toNat a0_0)]?).bind fun vy11 => (cellS (AV.cells vy11) 0 fun vs12 => (callS (kp E k n dec_Text [(.int .i64 a0_3)]) fun vs14 => (callS (kp E k n dec_Text [(.int .i64 a0_4)]) fun vs16 => (callS (kp E k n dec_Text [(.int .i64 a0_5)]) fun vs18 => (callS (kp E k n dec_Text [(.int .i64 a0_6)]) fun vs20 => (callS (kp E k n tale_word [(.str a0_9)]) fun vs22 => (callS (kp E k n tale_word [(.str a0_10)]) fun vs24 => (callS (kp E k n dec_Text [(.int .i64 a0_11)]) fun vs26 => (callS (kp E k n dec_Text [(.int .i64 a0_12)]) fun vs28 => (callS (kp E k n tale_word [(.str a0_1)]) fun vs30 => (callS (kp E k n tale_word [(.str a0_2)]) fun vs32 => (tale_Line_L0 (kp E k n) k k a0_13 (((List.length a0_13) : Nat) : Int) (0 : Int) [(.str vs12), (.str vs14), (.str vs16), (.str vs18), (.str vs20), (.str vs5), (.str vs22), (.str vs24), (.str vs26), (.str vs28), (.str vs30), (.str vs32)]))))))))))))) else none)))))))) := (kp_at (by kernel_rfl)).trans (by kernel_rfl)
/- oakum/tale.Lines -/
/- oakum/oakumref20.Line -/
noncomputable def ref20_Line_bd : Code := Tryz.f49.body.getD .skip
noncomputable def ref20_Line_L0 (kap : FuncId → List AV → Option AV) (k : Nat) (k0 : Nat) (s3 : ByteArray) (s4 : Int) (b1_0 : Int) (b1_1 : ByteArray) (b1_2 : ByteArray) (b1_3 : Int) (b1_4 : Int) (b1_5 : Int) (b1_6 : Int) (b1_7 : Int) (b1_8 : Int) (b1_9 : ByteArray) (b1_10 : ByteArray) (b1_11 : Int) (b1_12 : Int) (b1_13 : List AV) : Option AV :=
  loop (fun fr K => code ((bs E0 k).cfg kap ref20_Line) (sel ref20_Line_bd [1, 1, 1, 0, 1, 0, 0]) fr K) (canon ((bs E0 k).cfg kap ref20_Line) (firstReg (sel ref20_Line_bd [1, 1, 1, 0, 1, 0, 0]))) k0 (mkFr 94 [(1, (.loc 1 0)), (3, (.str s3)), (4, (.int .i64 s4))] [(1, (.box [(.int .i64 b1_0), (.str b1_1), (.str b1_2), (.int .i64 b1_3), (.int .i64 b1_4), (.int .i64 b1_5), (.int .i64 b1_6), (.int .i64 b1_7), (.int .i64 b1_8), (.str b1_9), (.str b1_10), (.int .i64 b1_11), (.int .i64 b1_12), (.list 2 b1_13)]))]) (plug ((bs E0 k).cfg kap ref20_Line) (retK ((bs E0 k).cfg kap ref20_Line) [] Tryz.f49 [] some) [.blk 0, .seqR (sel ref20_Line_bd [1, 1, 1, 1])])
theorem ref20_Line_L0_s (kap : FuncId → List AV → Option AV) (k : Nat) (k0 : Nat) (s3 : ByteArray) (s4 : Int) (b1_0 : Int) (b1_1 : ByteArray) (b1_2 : ByteArray) (b1_3 : Int) (b1_4 : Int) (b1_5 : Int) (b1_6 : Int) (b1_7 : Int) (b1_8 : Int) (b1_9 : ByteArray) (b1_10 : ByteArray) (b1_11 : Int) (b1_12 : Int) (b1_13 : List AV) : ref20_Line_L0 kap k (k0 + 1) s3 s4 b1_0 b1_1 b1_2 b1_3 b1_4 b1_5 b1_6 b1_7 b1_8 b1_9 b1_10 b1_11 b1_12 b1_13 =
  (bif (decide (s4 < (((List.length b1_13) : Nat) : Int))) then (bif (decide ((ByteArray.size s3) + 2 ≤ 9223372036854775807)) then (bif ((decide ((0 : Int) ≤ s4)) && (decide (s4 < (((List.length b1_13) : Nat) : Int)))) then ((b1_13[(Int.toNat s4)]?).bind fun vy27 => (cellS (AV.cells vy27) 0 fun vs28 => (callS (kap ref02_Quote [(.str vs28)]) fun vs30 => (bif (decide ((ByteArray.size (s3 ++ (str [32, 61]))) + (ByteArray.size vs30) ≤ 9223372036854775807)) then (bif (decide ((ByteArray.size ((s3 ++ (str [32, 61])) ++ vs30)) + 2 ≤ 9223372036854775807)) then (bif ((decide ((0 : Int) ≤ s4)) && (decide (s4 < (((List.length b1_13) : Nat) : Int)))) then ((b1_13[(Int.toNat s4)]?).bind fun vy31 => (cellS (AV.cells vy31) 1 fun vs32 => (callS (kap ref02_Quote [(.str vs32)]) fun vs34 => (bif (decide ((ByteArray.size (((s3 ++ (str [32, 61])) ++ vs30) ++ (str [32, 61]))) + (ByteArray.size vs34) ≤ 9223372036854775807)) then (ref20_Line_L0 kap k k0 ((((s3 ++ (str [32, 61])) ++ vs30) ++ (str [32, 61])) ++ vs34) (IntKind.wrap .i64 (s4 + (1 : Int))) b1_0 b1_1 b1_2 b1_3 b1_4 b1_5 b1_6 b1_7 b1_8 b1_9 b1_10 b1_11 b1_12 b1_13) else none)))) else none) else none) else none)))) else none) else none) else (some (.str s3))) := by kernel_rfl
theorem ref20_Line_eq {E : Ext} [Core E] (k n : Nat) (a0_0 : Int) (a0_1 : ByteArray) (a0_2 : ByteArray) (a0_3 : Int) (a0_4 : Int) (a0_5 : Int) (a0_6 : Int) (a0_7 : Int) (a0_8 : Int) (a0_9 : ByteArray) (a0_10 : ByteArray) (a0_11 : Int) (a0_12 : Int) (a0_13 : List AV) : kp E k (n + 1) ref20_Line [(.agg [(.int .i64 a0_0), (.str a0_1), (.str a0_2), (.int .i64 a0_3), (.int .i64 a0_4), (.int .i64 a0_5), (.int .i64 a0_6), (.int .i64 a0_7), (.int .i64 a0_8), (.str a0_9), (.str a0_10), (.int .i64 a0_11), (.int .i64 a0_12), (.list 2 a0_13)])] =
  (callL 1 (kp E k n ref20_Kinds []) fun vl2 => (bif ((decide ((0 : Int) ≤ (IntKind.wrap .i64 (a0_0 - (1 : Int))))) && (decide ((IntKind.wrap .i64 (a0_0 - (1 : Int))) < (((List.length vl2) : Nat) : Int)))) then ((vl2[(Int.toNat (IntKind.wrap .i64 (a0_0 - (1 : Int))))]?).bind fun vy3 => (cellS (AV.cells vy3) 0 fun vs4 => (bif (decide ((ByteArray.size vs4) + 1 ≤ 9223372036854775807)) then (callS (kp E k n ref20_num [(.int .i64 a0_3)]) fun vs6 => (bif (decide ((ByteArray.size (vs4 ++ (str [32]))) + (ByteArray.size vs6) ≤ 9223372036854775807)) then (bif (decide ((ByteArray.size ((vs4 ++ (str [32])) ++ vs6)) + 1 ≤ 9223372036854775807)) then (callS (kp E k n ref20_num [(.int .i64 a0_4)]) fun vs8 => (bif (decide ((ByteArray.size (((vs4 ++ (str [32])) ++ vs6) ++ (str [32]))) + (ByteArray.size vs8) ≤ 9223372036854775807)) then (bif (decide ((ByteArray.size ((((vs4 ++ (str [32])) ++ vs6) ++ (str [32])) ++ vs8)) + 1 ≤ 9223372036854775807)) then (callS (kp E k n ref20_num [(.int .i64 a0_5)]) fun vs10 => (bif (decide ((ByteArray.size (((((vs4 ++ (str [32])) ++ vs6) ++ (str [32])) ++ vs8) ++ (str [32]))) + (ByteArray.size vs10) ≤ 9223372036854775807)) then (bif (decide ((ByteArray.size ((((((vs4 ++ (str [32])) ++ vs6) ++ (str [32])) ++ vs8) ++ (str [32])) ++ vs10)) + 1 ≤ 9223372036854775807)) then (callS (kp E k n ref20_num [(.int .i64 a0_6)]) fun vs12 => (bif (decide ((ByteArray.size (((((((vs4 ++ (str [32])) ++ vs6) ++ (str [32])) ++ vs8) ++ (str [32])) ++ vs10) ++ (str [32]))) + (ByteArray.size vs12) ≤ 9223372036854775807)) then (bif (decide ((ByteArray.size ((((((((vs4 ++ (str [32])) ++ vs6) ++ (str [32])) ++ vs8) ++ (str [32])) ++ vs10) ++ (str [32])) ++ vs12)) + 1 ≤ 9223372036854775807)) then (callS (kp E k n ref04_Print [(.agg [(.int .i64 a0_7), (.int .i64 a0_8)])]) fun vs14 => (bif (decide ((ByteArray.size (((((((((vs4 ++ (str [32])) ++ vs6) ++ (str [32])) ++ vs8) ++ (str [32])) ++ vs10) ++ (str [32])) ++ vs12) ++ (str [32]))) + (ByteArray.size vs14) ≤ 9223372036854775807)) then (bif (decide ((ByteArray.size ((((((((((vs4 ++ (str [32])) ++ vs6) ++ (str [32])) ++ vs8) ++ (str [32])) ++ vs10) ++ (str [32])) ++ vs12) ++ (str [32])) ++ vs14)) + 2 ≤ 9223372036854775807)) then (callS (kp E k n ref02_Quote [(.str a0_9)]) fun vs16 => (bif (decide ((ByteArray.size (((((((((((vs4 ++ (str [32])) ++ vs6) ++ (str [32])) ++ vs8) ++ (str [32])) ++ vs10) ++ (str [32])) ++ vs12) ++ (str [32])) ++ vs14) ++ (str [32, 61]))) + (ByteArray.size vs16) ≤ 9223372036854775807)) then (bif (decide ((ByteArray.size ((((((((((((vs4 ++ (str [32])) ++ vs6) ++ (str [32])) ++ vs8) ++ (str [32])) ++ vs10) ++ (str [32])) ++ vs12) ++ (str [32])) ++ vs14) ++ (str [32, 61])) ++ vs16)) + 2 ≤ 9223372036854775807)) then (callS (kp E k n ref02_Quote [(.str a0_10)]) fun vs18 => (bif (decide ((ByteArray.size (((((((((((((vs4 ++ (str [32])) ++ vs6) ++ (str [32])) ++ vs8) ++ (str [32])) ++ vs10) ++ (str [32])) ++ vs12) ++ (str [32])) ++ vs14) ++ (str [32, 61])) ++ vs16) ++ (str [32, 61]))) + (ByteArray.size vs18) ≤ 9223372036854775807)) then (bif (decide ((ByteArray.size ((((((((((((((vs4 ++ (str [32])) ++ vs6) ++ (str [32])) ++ vs8) ++ (str [32])) ++ vs10) ++ (str [32])) ++ vs12) ++ (str [32])) ++ vs14) ++ (str [32, 61])) ++ vs16) ++ (str [32, 61])) ++ vs18)) + 1 ≤ 9223372036854775807)) then (callS (kp E k n ref20_num [(.int .i64 a0_11)]) fun vs20 => (bif (decide ((ByteArray.size (((((((((((((((vs4 ++ (str [32])) ++ vs6) ++ (str [32])) ++ vs8) ++ (str [32])) ++ vs10) ++ (str [32])) ++ vs12) ++ (str [32])) ++ vs14) ++ (str [32, 61])) ++ vs16) ++ (str [32, 61])) ++ vs18) ++ (str [32]))) + (ByteArray.size vs20) ≤ 9223372036854775807)) then (bif (decide ((ByteArray.size ((((((((((((((((vs4 ++ (str [32])) ++ vs6) ++ (str [32])) ++ vs8) ++ (str [32])) ++ vs10) ++ (str [32])) ++ vs12) ++ (str [32])) ++ vs14) ++ (str [32, 61])) ++ vs16) ++ (str [32, 61])) ++ vs18) ++ (str [32])) ++ vs20)) + 1 ≤ 9223372036854775807)) then (callS (kp E k n ref20_num [(.int .i64 a0_12)]) fun vs22 => (bif (decide ((ByteArray.size (((((((((((((((((vs4 ++ (str [32])) ++ vs6) ++ (str [32])) ++ vs8) ++ (str [32])) ++ vs10) ++ (str [32])) ++ vs12) ++ (str [32])) ++ vs14) ++ (str [32, 61])) ++ vs16) ++ (str [32, 61])) ++ vs18) ++ (str [32])) ++ vs20) ++ (str [32]))) + (ByteArray.size vs22) ≤ 9223372036854775807)) then (bif (decide ((ByteArray.size ((((((((((((((((((vs4 ++ (str [32])) ++ vs6) ++ (str [32])) ++ vs8) ++ (str [32])) ++ vs10) ++ (str [32])) ++ vs12) ++ (str [32])) ++ vs14) ++ (str [32, 61])) ++ vs16) ++ (str [32, 61])) ++ vs18) ++ (str [32])) ++ vs20) ++ (str [32])) ++ vs22)) + 2 ≤ 9223372036854775807)) then (callS (kp E k n ref02_Quote [(.str a0_1)]) fun vs24 => (bif (decide ((ByteArray.size (((((((((((((((((((vs4 ++ (str [32])) ++ vs6) ++ (str [32])) ++ vs8) ++ (str [32])) ++ vs10) ++ (str [32])) ++ vs12) ++ (str [32])) ++ vs14) ++ (str [32, 61])) ++ vs16) ++ (str [32, 61])) ++ vs18) ++ (str [32])) ++ vs20) ++ (str [32])) ++ vs22) ++ (str [32, 61]))) + (ByteArray.size vs24) ≤ 9223372036854775807)) then (bif (decide ((ByteArray.size ((((((((((((((((((((vs4 ++ (str [32])) ++ vs6) ++ (str [32])) ++ vs8) ++ (str [32])) ++ vs10) ++ (str [32])) ++ vs12) ++ (str [32])) ++ vs14) ++ (str [32, 61])) ++ vs16) ++ (str [32, 61])) ++ vs18) ++ (str [32])) ++ vs20) ++ (str [32])) ++ vs22) ++ (str [32, 61])) ++ vs24)) + 2 ≤ 9223372036854775807)) then (callS (kp E k n ref02_Quote [(.str a0_2)]) fun vs26 => (bif (decide ((ByteArray.size (((((((((((((((((((((vs4 ++ (str [32])) ++ vs6) ++ (str [32])) ++ vs8) ++ (str [32])) ++ vs10) ++ (str [32])) ++ vs12) ++ (str [32])) ++ vs14) ++ (str [32, 61])) ++ vs16) ++ (str [32, 61])) ++ vs18) ++ (str [32])) ++ vs20) ++ (str [32])) ++ vs22) ++ (str [32, 61])) ++ vs24) ++ (str [32, 61]))) + (ByteArray.size vs26) ≤ 9223372036854775807)) then (ref20_Line_L0 (kp E k n) k k ((((((((((((((((((((((vs4 ++ (str [32])) ++ vs6) ++ (str [32])) ++ vs8) ++ (str [32])) ++ vs10) ++ (str [32])) ++ vs12) ++ (str [32])) ++ vs14) ++ (str [32, 61])) ++ vs16) ++ (str [32, 61])) ++ vs18) ++ (str [32])) ++ vs20) ++ (str [32])) ++ vs22) ++ (str [32, 61])) ++ vs24) ++ (str [32, 61])) ++ vs26) (0 : Int) a0_0 a0_1 a0_2 a0_3 a0_4 a0_5 a0_6 a0_7 a0_8 a0_9 a0_10 a0_11 a0_12 a0_13) else none)) else none) else none)) else none) else none)) else none) else none)) else none) else none)) else none) else none)) else none) else none)) else none) else none)) else none) else none)) else none) else none)) else none) else none)) else none))) else none)) := (kp_at (by kernel_rfl)).trans (by kernel_rfl)
/- oakum/oakumref20.Fields -/
/- oakum/tale.Outcome -/
/- oakum/oakumref20.Outcome -/
/- oakum/tale.Field -/
/- oakum/tale.FieldOf -/
/- strings.Split -/
theorem strings_Split_eq {E : Ext} [Core E] (k n : Nat) (a0 : ByteArray) (a1 : ByteArray) : kp E k (n + 1) strings_Split [(.str a0), (.str a1)] =
  (callL 1 (kp E k n strings_genSplit [(.str a0), (.str a1), (.int .i64 (0 : Int)), (.int .i64 (-1 : Int))]) fun vl2 => (some (.list 1 vl2))) := (kp_at (by kernel_rfl)).trans (by kernel_rfl)
/- oakum/tale.kinds -/
theorem tale_kinds_eq {E : Ext} [Core E] (k n : Nat)  : kp E k (n + 1) tale_kinds [] =
  (some (.list 1 [(.str (str [])), (.str (str [102, 105, 108, 101])), (.str (str [108, 105, 110, 107])), (.str (str [115, 121, 109])), (.str (str [99, 104, 97, 114])), (.str (str [98, 108, 111, 99, 107])), (.str (str [100, 105, 114])), (.str (str [102, 105, 102, 111]))])) := (kp_at (by kernel_rfl)).trans (by kernel_rfl)
/- (*oakum/tale.reader).next -/
theorem tale_reader_next_eq {E : Ext} [Core E] (k n : Nat) (a0_0 : List AV) (a0_1 : Bool) : kp E k (n + 1) tale_reader_next [(.lent [(.list 1 a0_0), (.bool a0_1)])] =
  (bif (decide ((((List.length a0_0) : Nat) : Int) = (0 : Int))) then (some (.lback (.str (str [])) [(.lent [(.list 1 a0_0), (.bool true)])])) else (bif (decide ((0 : Int) < (((List.length a0_0) : Nat) : Int))) then ((a0_0[0]?).bind fun vy1 => (cellS (AV.cells vy1) 0 fun vs2 => (bif (decide ((1 : Int) ≤ (((List.length a0_0) : Nat) : Int))) then (some (.lback (.str vs2) [(.lent [(.list 1 (List.drop 1 (List.take (List.length a0_0) a0_0))), (.bool a0_1)])])) else none))) else none)) := (kp_at (by kernel_rfl)).trans (by kernel_rfl)
/- (*oakum/tale.reader).number -/
theorem tale_reader_number_eq {E : Ext} [Core E] (k n : Nat) (a0_0 : List AV) (a0_1 : Bool) : kp E k (n + 1) tale_reader_number [(.lent [(.list 1 a0_0), (.bool a0_1)])] =
  (callX (kp E k n tale_reader_next [(.lent [(.list 1 a0_0), (.bool a0_1)])]) fun vb1 vz2 => (nxX vz2 fun vx4 vz3 => (nxL 1 vx4 fun vl6 vx5 => (nxB vx5 fun vq8 vx7 => (atNil vx7 (atNil vz3 (callS (some vb1) fun vs9 => (callT (kp E k n dec_Number [(.str vs9)]) fun vt11 => (tupI .i64 vt11 fun vn12 vt13 => (tupI .u8 vt13 fun vn14 vt15 => (atNil vt15 (bif vq8 then (some (.lback (.int .i64 vn12) [(.lent [(.list 1 vl6), (.bool true)])])) else (some (.lback (.int .i64 vn12) [(.lent [(.list 1 vl6), (.bool (!(decide (vn14 = (0 : Int)))))])])))))))))))))) := (kp_at (by kernel_rfl)).trans (by kernel_rfl)
/- (*oakum/tale.reader).text -/
theorem tale_reader_text_eq {E : Ext} [Core E] (k n : Nat) (a0_0 : List AV) (a0_1 : Bool) : kp E k (n + 1) tale_reader_text [(.lent [(.list 1 a0_0), (.bool a0_1)])] =
  (callX (kp E k n tale_reader_next [(.lent [(.list 1 a0_0), (.bool a0_1)])]) fun vb1 vz2 => (nxX vz2 fun vx4 vz3 => (nxL 1 vx4 fun vl6 vx5 => (nxB vx5 fun vq8 vx7 => (atNil vx7 (atNil vz3 (callS (some vb1) fun vs9 => (callT (kp E k n strings_CutPrefix [(.str vs9), (.str (str [61]))]) fun vt11 => (tupS vt11 fun vs12 vt13 => (tupB vt13 fun vq14 vt15 => (atNil vt15 (callT (kp E k n text_Unquote [(.str vs12)]) fun vt17 => (tupS vt17 fun vs18 vt19 => (tupI .u8 vt19 fun vn20 vt21 => (atNil vt21 (bif vq8 then (some (.lback (.str vs18) [(.lent [(.list 1 vl6), (.bool true)])])) else (bif (!vq14) then (some (.lback (.str vs18) [(.lent [(.list 1 vl6), (.bool true)])])) else (some (.lback (.str vs18) [(.lent [(.list 1 vl6), (.bool (!(decide (vn20 = (0 : Int)))))])]))))))))))))))))))) := (kp_at (by kernel_rfl)).trans (by kernel_rfl)
/- oakum/oakumref20.Words -/
noncomputable def ref20_Words_bd : Code := Tryz.f102.body.getD .skip
noncomputable def ref20_Words_L0 (kap : FuncId → List AV → Option AV) (k : Nat) (k0 : Nat) (s0 : ByteArray) (s4 : Int) (s5 : Int) (x3 : List AV) : Option AV :=
  loop (fun fr K => code ((bs E0 k).cfg kap ref20_Words) (sel ref20_Words_bd [1, 1, 1, 0, 1, 0, 0]) fr K) (canon ((bs E0 k).cfg kap ref20_Words) (firstReg (sel ref20_Words_bd [1, 1, 1, 0, 1, 0, 0]))) k0 (mkFr 32 [(0, (.str s0)), (3, (.own 3)), (4, (.int .i64 s4)), (5, (.int .i64 s5))] [(3, (.row 9 x3 false))]) (plug ((bs E0 k).cfg kap ref20_Words) (retK ((bs E0 k).cfg kap ref20_Words) [] Tryz.f102 [] some) [.blk 0, .seqR (sel ref20_Words_bd [1, 1, 1, 1])])
theorem ref20_Words_L0_s (kap : FuncId → List AV → Option AV) (k : Nat) (k0 : Nat) (s0 : ByteArray) (s4 : Int) (s5 : Int) (x3 : List AV) : ref20_Words_L0 kap k (k0 + 1) s0 s4 s5 x3 =
  (bif (decide (s5 ≤ (((ByteArray.size s0) : Nat) : Int))) then (bif (decide (s5 = (((ByteArray.size s0) : Nat) : Int))) then (bif ((decide ((0 : Int) ≤ s5)) && (decide (s5 ≤ (((ByteArray.size s0) : Nat) : Int)))) then (bif ((decide ((0 : Int) ≤ s4)) && (decide (s4 ≤ (((Int.toNat s5) : Nat) : Int)))) then (bif (decide (((List.length x3) + 1) * 16 ≤ 140737488355328) && decide (((List.length x3) + 1) ≤ 9223372036854775807)) then (ref20_Words_L0 kap k k0 s0 (IntKind.wrap .i64 (s5 + (1 : Int))) (IntKind.wrap .i64 (s5 + (1 : Int))) (x3 ++ [(.str (ByteArray.extract s0 (Int.toNat s4) (Int.toNat s5)))])) else none) else none) else none) else (bif ((decide ((0 : Int) ≤ s5)) && (decide (s5 < (((ByteArray.size s0) : Nat) : Int)))) then (bif (decide ((byteAt s0 (Int.toNat s5)) = (32 : Int))) then (bif ((decide ((0 : Int) ≤ s5)) && (decide (s5 ≤ (((ByteArray.size s0) : Nat) : Int)))) then (bif ((decide ((0 : Int) ≤ s4)) && (decide (s4 ≤ (((Int.toNat s5) : Nat) : Int)))) then (bif (decide (((List.length x3) + 1) * 16 ≤ 140737488355328) && decide (((List.length x3) + 1) ≤ 9223372036854775807)) then (ref20_Words_L0 kap k k0 s0 (IntKind.wrap .i64 (s5 + (1 : Int))) (IntKind.wrap .i64 (s5 + (1 : Int))) (x3 ++ [(.str (ByteArray.extract s0 (Int.toNat s4) (Int.toNat s5)))])) else none) else none) else none) else (ref20_Words_L0 kap k k0 s0 s4 (IntKind.wrap .i64 (s5 + (1 : Int))) x3)) else none)) else (some (.list 1 x3))) := by kernel_rfl
theorem ref20_Words_eq {E : Ext} [Core E] (k n : Nat) (a0 : ByteArray) : kp E k (n + 1) ref20_Words [(.str a0)] =
  (ref20_Words_L0 (kp E k n) k k a0 (0 : Int) (0 : Int) []) := (kp_at (by kernel_rfl)).trans (by kernel_rfl)
/- oakum/oakumref20.Kinds -/
theorem ref20_Kinds_eq {E : Ext} [Core E] (k n : Nat)  : kp E k (n + 1) ref20_Kinds [] =
  (some (.list 1 [(.str (str [102, 105, 108, 101])), (.str (str [108, 105, 110, 107])), (.str (str [115, 121, 109])), (.str (str [99, 104, 97, 114])), (.str (str [98, 108, 111, 99, 107])), (.str (str [100, 105, 114])), (.str (str [102, 105, 102, 111]))])) := (kp_at (by kernel_rfl)).trans (by kernel_rfl)
/- oakum/oakumref20.text -/
theorem ref20_text_eq {E : Ext} [Core E] (k n : Nat) (a0 : ByteArray) : kp E k (n + 1) ref20_text [(.str a0)] =
  (bif (decide (a0 = (str []))) then (some (.tup [(.str (str [])), (.bool false)])) else (bif (decide ((0 : Int) < (((ByteArray.size a0) : Nat) : Int))) then (bif (!(decide ((byteAt a0 0) = (61 : Int)))) then (some (.tup [(.str (str [])), (.bool false)])) else (bif (decide ((1 : Int) ≤ (((ByteArray.size a0) : Nat) : Int))) then (callT (kp E k n ref02_Unquote [(.str (ByteArray.extract a0 1 (ByteArray.size a0)))]) fun vt2 => (tupS vt2 fun vs3 vt4 => (tupB vt4 fun vq5 vt6 => (atNil vt6 (some (.tup [(.str vs3), (.bool vq5)])))))) else none)) else none)) := (kp_at (by kernel_rfl)).trans (by kernel_rfl)
/- oakum/tale.word -/
theorem tale_word_eq {E : Ext} [Core E] (k n : Nat) (a0 : ByteArray) : kp E k (n + 1) tale_word [(.str a0)] =
  (callS (kp E k n text_Quote [(.str a0)]) fun vs2 => (bif (decide (1 + (ByteArray.size vs2) ≤ 9223372036854775807)) then (some (.str ((str [61]) ++ vs2))) else none)) := (kp_at (by kernel_rfl)).trans (by kernel_rfl)
/- oakum/oakumref20.num -/
theorem ref20_num_eq {E : Ext} [Core E] (k n : Nat) (a0 : Int) : kp E k (n + 1) ref20_num [(.int .i64 a0)] =
  (callS (kp E k n ref04_Text [(.int .i64 a0)]) fun vs2 => (some (.str vs2))) := (kp_at (by kernel_rfl)).trans (by kernel_rfl)
/- (oakum/api.Code).String -/
/- oakum/oakumref20.Codes -/
/- oakum/tale.fields -/
/- oakum/text.Blocks -/
/- oakum/text.Unquote -/
noncomputable def text_Unquote_bd : Code := Tryz.f148.body.getD .skip
noncomputable def text_Unquote_L0 (kap : FuncId → List AV → Option AV) (k : Nat) (k0 : Nat) (s0 : ByteArray) (x4 : List AV) : Option AV :=
  loop (fun fr K => code ((bs E0 k).cfg kap text_Unquote) (sel text_Unquote_bd [1, 1, 0, 0, 0]) fr K) (canon ((bs E0 k).cfg kap text_Unquote) (firstReg (sel text_Unquote_bd [1, 1, 0, 0, 0]))) k0 (mkFr 73 [(0, (.str s0)), (4, (.own 4))] [(4, (.row 5 x4 false))]) (plug ((bs E0 k).cfg kap text_Unquote) (retK ((bs E0 k).cfg kap text_Unquote) [] Tryz.f148 [] some) [.blk 0, .seqR (sel text_Unquote_bd [1, 1, 1])])
theorem text_Unquote_L0_s (kap : FuncId → List AV → Option AV) (k : Nat) (k0 : Nat) (s0 : ByteArray) (x4 : List AV) : text_Unquote_L0 kap k (k0 + 1) s0 x4 =
  (bif (decide ((((ByteArray.size s0) : Nat) : Int) > (0 : Int))) then (bif (decide ((0 : Int) < (((ByteArray.size s0) : Nat) : Int))) then (callB (kap text_open [(.int .u8 (byteAt s0 0))]) fun vq2 => (bif vq2 then (bif (decide ((0 : Int) < (((ByteArray.size s0) : Nat) : Int))) then (bif (decide (((List.length x4) + 1) * 1 ≤ 140737488355328) && decide (((List.length x4) + 1) ≤ 9223372036854775807)) then (bif (decide ((1 : Int) ≤ (((ByteArray.size s0) : Nat) : Int))) then (text_Unquote_L0 kap k k0 (ByteArray.extract s0 1 (ByteArray.size s0)) (x4 ++ [(.int .u8 (byteAt s0 0))])) else none) else none) else none) else (bif (decide ((0 : Int) < (((ByteArray.size s0) : Nat) : Int))) then (bif (!(decide ((byteAt s0 0) = (92 : Int)))) then (some (.tup [(.str (str [])), (.int .u8 (15 : Int))])) else (bif (decide ((((ByteArray.size s0) : Nat) : Int) < (4 : Int))) then (some (.tup [(.str (str [])), (.int .u8 (15 : Int))])) else (bif (decide ((1 : Int) < (((ByteArray.size s0) : Nat) : Int))) then (bif (decide ((byteAt s0 1) > (51 : Int))) then (some (.tup [(.str (str [])), (.int .u8 (15 : Int))])) else (bif (decide ((1 : Int) < (((ByteArray.size s0) : Nat) : Int))) then (callB (kap text_digit [(.int .u8 (byteAt s0 1))]) fun vq4 => (bif (!vq4) then (some (.tup [(.str (str [])), (.int .u8 (15 : Int))])) else (bif (decide ((2 : Int) < (((ByteArray.size s0) : Nat) : Int))) then (callB (kap text_digit [(.int .u8 (byteAt s0 2))]) fun vq6 => (bif (!vq6) then (some (.tup [(.str (str [])), (.int .u8 (15 : Int))])) else (bif (decide ((3 : Int) < (((ByteArray.size s0) : Nat) : Int))) then (callB (kap text_digit [(.int .u8 (byteAt s0 3))]) fun vq8 => (bif (!vq8) then (some (.tup [(.str (str [])), (.int .u8 (15 : Int))])) else (bif (decide ((1 : Int) < (((ByteArray.size s0) : Nat) : Int))) then (bif (decide ((2 : Int) < (((ByteArray.size s0) : Nat) : Int))) then (bif (decide ((3 : Int) < (((ByteArray.size s0) : Nat) : Int))) then (callB (kap text_open [(.int .u8 (IntKind.wrap .u8 ((BitVec.ofInt (IntKind.bits .u8) (IntKind.wrap .u8 ((BitVec.ofInt (IntKind.bits .u8) (IntKind.wrap .u8 ((IntKind.wrap .u8 ((BitVec.ofInt (IntKind.bits .u8) (byteAt s0 1) &&& BitVec.ofInt (IntKind.bits .u8) (7 : Int)).toNat : Int)) * 2 ^ (min (Int.toNat (6 : Int)) (IntKind.bits .u8)))) ||| BitVec.ofInt (IntKind.bits .u8) (IntKind.wrap .u8 ((IntKind.wrap .u8 ((BitVec.ofInt (IntKind.bits .u8) (byteAt s0 2) &&& BitVec.ofInt (IntKind.bits .u8) (7 : Int)).toNat : Int)) * 2 ^ (min (Int.toNat (3 : Int)) (IntKind.bits .u8))))).toNat : Int)) ||| BitVec.ofInt (IntKind.bits .u8) (IntKind.wrap .u8 ((BitVec.ofInt (IntKind.bits .u8) (byteAt s0 3) &&& BitVec.ofInt (IntKind.bits .u8) (7 : Int)).toNat : Int))).toNat : Int)))]) fun vq10 => (bif vq10 then (some (.tup [(.str (str [])), (.int .u8 (15 : Int))])) else (bif (decide (((List.length x4) + 1) * 1 ≤ 140737488355328) && decide (((List.length x4) + 1) ≤ 9223372036854775807)) then (bif (decide ((4 : Int) ≤ (((ByteArray.size s0) : Nat) : Int))) then (text_Unquote_L0 kap k k0 (ByteArray.extract s0 4 (ByteArray.size s0)) (x4 ++ [(.int .u8 (IntKind.wrap .u8 ((BitVec.ofInt (IntKind.bits .u8) (IntKind.wrap .u8 ((BitVec.ofInt (IntKind.bits .u8) (IntKind.wrap .u8 ((IntKind.wrap .u8 ((BitVec.ofInt (IntKind.bits .u8) (byteAt s0 1) &&& BitVec.ofInt (IntKind.bits .u8) (7 : Int)).toNat : Int)) * 2 ^ (min (Int.toNat (6 : Int)) (IntKind.bits .u8)))) ||| BitVec.ofInt (IntKind.bits .u8) (IntKind.wrap .u8 ((IntKind.wrap .u8 ((BitVec.ofInt (IntKind.bits .u8) (byteAt s0 2) &&& BitVec.ofInt (IntKind.bits .u8) (7 : Int)).toNat : Int)) * 2 ^ (min (Int.toNat (3 : Int)) (IntKind.bits .u8))))).toNat : Int)) ||| BitVec.ofInt (IntKind.bits .u8) (IntKind.wrap .u8 ((BitVec.ofInt (IntKind.bits .u8) (byteAt s0 3) &&& BitVec.ofInt (IntKind.bits .u8) (7 : Int)).toNat : Int))).toNat : Int)))])) else none) else none))) else none) else none) else none))) else none))) else none))) else none)) else none))) else none))) else none) else ((toBytes x4).bind fun vl11 => (some (.tup [(.str (str vl11)), (.int .u8 (0 : Int))])))) := by kernel_rfl
theorem text_Unquote_eq {E : Ext} [Core E] (k n : Nat) (a0 : ByteArray) : kp E k (n + 1) text_Unquote [(.str a0)] =
  (text_Unquote_L0 (kp E k n) k k a0 []) := (kp_at (by kernel_rfl)).trans (by kernel_rfl)
/- strings.genSplit -/
noncomputable def strings_genSplit_bd : Code := Tryz.f166.body.getD .skip
noncomputable def strings_genSplit_L0 (kap : FuncId → List AV → Option AV) (k : Nat) (k0 : Nat) (s0 : ByteArray) (s1 : ByteArray) (s2 : Int) (s3 : Int) (s10 : Int) (x9 : List AV) : Option AV :=
  loop (fun fr K => code ((bs E0 k).cfg kap strings_genSplit) (sel strings_genSplit_bd [1, 1, 1, 1, 1, 1, 1, 1, 0, 0, 0]) fr K) (canon ((bs E0 k).cfg kap strings_genSplit) (firstReg (sel strings_genSplit_bd [1, 1, 1, 1, 1, 1, 1, 1, 0, 0, 0]))) k0 (mkFr 66 [(0, (.str s0)), (1, (.str s1)), (2, (.int .i64 s2)), (3, (.int .i64 s3)), (9, (.own 9)), (10, (.int .i64 s10))] [(9, (.row 9 x9 false))]) (plug ((bs E0 k).cfg kap strings_genSplit) (retK ((bs E0 k).cfg kap strings_genSplit) [] Tryz.f166 [] some) [.blk 0, .seqR (sel strings_genSplit_bd [1, 1, 1, 1, 1, 1, 1, 1, 1])])
theorem strings_genSplit_L0_s (kap : FuncId → List AV → Option AV) (k : Nat) (k0 : Nat) (s0 : ByteArray) (s1 : ByteArray) (s2 : Int) (s3 : Int) (s10 : Int) (x9 : List AV) : strings_genSplit_L0 kap k (k0 + 1) s0 s1 s2 s3 s10 x9 =
  (bif (decide (s10 < s3)) then (callI .i64 (kap strings_Index [(.str s0), (.str s1)]) fun vn6 => (bif (decide (vn6 < (0 : Int))) then (bif ((decide ((0 : Int) ≤ s10)) && (decide (s10 < (((List.length x9) : Nat) : Int)))) then ((x9[(Int.toNat s10)]?).bind fun vy7 => (bif (decide (0 + 1 ≤ (AV.cells vy7).length) && true) then (bif ((decide ((0 : Int) ≤ (IntKind.wrap .i64 (s10 + (1 : Int))))) && (decide ((IntKind.wrap .i64 (s10 + (1 : Int))) ≤ (((List.length (List.set x9 (Int.toNat s10) (mkElem 1 (splice (AV.cells vy7) 0 [(.str s0)]) vy7))) : Nat) : Int)))) then (some (.list 1 (List.take (Int.toNat (IntKind.wrap .i64 (s10 + (1 : Int)))) (List.set x9 (Int.toNat s10) (mkElem 1 (splice (AV.cells vy7) 0 [(.str s0)]) vy7))))) else none) else none)) else none) else (bif ((decide ((0 : Int) ≤ (IntKind.wrap .i64 (vn6 + s2)))) && (decide ((IntKind.wrap .i64 (vn6 + s2)) ≤ (((ByteArray.size s0) : Nat) : Int)))) then (bif ((decide ((0 : Int) ≤ s10)) && (decide (s10 < (((List.length x9) : Nat) : Int)))) then ((x9[(Int.toNat s10)]?).bind fun vy8 => (bif (decide (0 + 1 ≤ (AV.cells vy8).length) && true) then (bif ((decide ((0 : Int) ≤ (IntKind.wrap .i64 (vn6 + (((ByteArray.size s1) : Nat) : Int))))) && (decide ((IntKind.wrap .i64 (vn6 + (((ByteArray.size s1) : Nat) : Int))) ≤ (((ByteArray.size s0) : Nat) : Int)))) then (strings_genSplit_L0 kap k k0 (ByteArray.extract s0 (Int.toNat (IntKind.wrap .i64 (vn6 + (((ByteArray.size s1) : Nat) : Int)))) (ByteArray.size s0)) s1 s2 s3 (IntKind.wrap .i64 (s10 + (1 : Int))) (List.set x9 (Int.toNat s10) (mkElem 1 (splice (AV.cells vy8) 0 [(.str (ByteArray.extract s0 0 (Int.toNat (IntKind.wrap .i64 (vn6 + s2)))))]) vy8))) else none) else none)) else none) else none))) else (bif ((decide ((0 : Int) ≤ s10)) && (decide (s10 < (((List.length x9) : Nat) : Int)))) then ((x9[(Int.toNat s10)]?).bind fun vy9 => (bif (decide (0 + 1 ≤ (AV.cells vy9).length) && true) then (bif ((decide ((0 : Int) ≤ (IntKind.wrap .i64 (s10 + (1 : Int))))) && (decide ((IntKind.wrap .i64 (s10 + (1 : Int))) ≤ (((List.length (List.set x9 (Int.toNat s10) (mkElem 1 (splice (AV.cells vy9) 0 [(.str s0)]) vy9))) : Nat) : Int)))) then (some (.list 1 (List.take (Int.toNat (IntKind.wrap .i64 (s10 + (1 : Int)))) (List.set x9 (Int.toNat s10) (mkElem 1 (splice (AV.cells vy9) 0 [(.str s0)]) vy9))))) else none) else none)) else none)) := by kernel_rfl
theorem strings_genSplit_eq {E : Ext} [Core E] (k n : Nat) (a0 : ByteArray) (a1 : ByteArray) (a2 : Int) (a3 : Int) : kp E k (n + 1) strings_genSplit [(.str a0), (.str a1), (.int .i64 a2), (.int .i64 a3)] =
  (bif (decide (a3 = (0 : Int))) then (some (.list 1 [])) else (bif (decide (a1 = (str []))) then (callL 1 (kp E k n strings_explode [(.str a0), (.int .i64 a3)]) fun vl2 => (some (.list 1 vl2))) else (bif (decide (a3 < (0 : Int))) then (callI .i64 (kp E k n strings_Count [(.str a0), (.str a1)]) fun vn4 => (bif (((decide ((0 : Int) ≤ (if (IntKind.wrap .i64 ((((ByteArray.size a0) : Nat) : Int) + (1 : Int))) < (IntKind.wrap .i64 (vn4 + (1 : Int))) then (IntKind.wrap .i64 ((((ByteArray.size a0) : Nat) : Int) + (1 : Int))) else (IntKind.wrap .i64 (vn4 + (1 : Int)))))) && (decide ((if (IntKind.wrap .i64 ((((ByteArray.size a0) : Nat) : Int) + (1 : Int))) < (IntKind.wrap .i64 (vn4 + (1 : Int))) then (IntKind.wrap .i64 ((((ByteArray.size a0) : Nat) : Int) + (1 : Int))) else (IntKind.wrap .i64 (vn4 + (1 : Int)))) ≤ (if (IntKind.wrap .i64 ((((ByteArray.size a0) : Nat) : Int) + (1 : Int))) < (IntKind.wrap .i64 (vn4 + (1 : Int))) then (IntKind.wrap .i64 ((((ByteArray.size a0) : Nat) : Int) + (1 : Int))) else (IntKind.wrap .i64 (vn4 + (1 : Int)))))) && (decide ((if (IntKind.wrap .i64 ((((ByteArray.size a0) : Nat) : Int) + (1 : Int))) < (IntKind.wrap .i64 (vn4 + (1 : Int))) then (IntKind.wrap .i64 ((((ByteArray.size a0) : Nat) : Int) + (1 : Int))) else (IntKind.wrap .i64 (vn4 + (1 : Int)))) * 16 ≤ 140737488355328)) && (decide ((if (IntKind.wrap .i64 ((((ByteArray.size a0) : Nat) : Int) + (1 : Int))) < (IntKind.wrap .i64 (vn4 + (1 : Int))) then (IntKind.wrap .i64 ((((ByteArray.size a0) : Nat) : Int) + (1 : Int))) else (IntKind.wrap .i64 (vn4 + (1 : Int)))) ≤ (9223372036854775807 : Int)))) && true && true) then (strings_genSplit_L0 (kp E k n) k k a0 a1 a2 (IntKind.wrap .i64 ((if (IntKind.wrap .i64 ((((ByteArray.size a0) : Nat) : Int) + (1 : Int))) < (IntKind.wrap .i64 (vn4 + (1 : Int))) then (IntKind.wrap .i64 ((((ByteArray.size a0) : Nat) : Int) + (1 : Int))) else (IntKind.wrap .i64 (vn4 + (1 : Int)))) - (1 : Int))) (0 : Int) (List.replicate (Int.toNat (if (IntKind.wrap .i64 ((((ByteArray.size a0) : Nat) : Int) + (1 : Int))) < (IntKind.wrap .i64 (vn4 + (1 : Int))) then (IntKind.wrap .i64 ((((ByteArray.size a0) : Nat) : Int) + (1 : Int))) else (IntKind.wrap .i64 (vn4 + (1 : Int))))) (.str (str [])))) else none)) else (bif (((decide ((0 : Int) ≤ (if (IntKind.wrap .i64 ((((ByteArray.size a0) : Nat) : Int) + (1 : Int))) < a3 then (IntKind.wrap .i64 ((((ByteArray.size a0) : Nat) : Int) + (1 : Int))) else a3))) && (decide ((if (IntKind.wrap .i64 ((((ByteArray.size a0) : Nat) : Int) + (1 : Int))) < a3 then (IntKind.wrap .i64 ((((ByteArray.size a0) : Nat) : Int) + (1 : Int))) else a3) ≤ (if (IntKind.wrap .i64 ((((ByteArray.size a0) : Nat) : Int) + (1 : Int))) < a3 then (IntKind.wrap .i64 ((((ByteArray.size a0) : Nat) : Int) + (1 : Int))) else a3))) && (decide ((if (IntKind.wrap .i64 ((((ByteArray.size a0) : Nat) : Int) + (1 : Int))) < a3 then (IntKind.wrap .i64 ((((ByteArray.size a0) : Nat) : Int) + (1 : Int))) else a3) * 16 ≤ 140737488355328)) && (decide ((if (IntKind.wrap .i64 ((((ByteArray.size a0) : Nat) : Int) + (1 : Int))) < a3 then (IntKind.wrap .i64 ((((ByteArray.size a0) : Nat) : Int) + (1 : Int))) else a3) ≤ (9223372036854775807 : Int)))) && true && true) then (strings_genSplit_L0 (kp E k n) k k a0 a1 a2 (IntKind.wrap .i64 ((if (IntKind.wrap .i64 ((((ByteArray.size a0) : Nat) : Int) + (1 : Int))) < a3 then (IntKind.wrap .i64 ((((ByteArray.size a0) : Nat) : Int) + (1 : Int))) else a3) - (1 : Int))) (0 : Int) (List.replicate (Int.toNat (if (IntKind.wrap .i64 ((((ByteArray.size a0) : Nat) : Int) + (1 : Int))) < a3 then (IntKind.wrap .i64 ((((ByteArray.size a0) : Nat) : Int) + (1 : Int))) else a3)) (.str (str [])))) else none)))) := (kp_at (by kernel_rfl)).trans (by kernel_rfl)
/- oakum/text.Blank -/
/- oakum/text.Rest -/
/- oakum/text.open -/
theorem text_open_eq {E : Ext} [Core E] (k n : Nat) (a0 : Int) : kp E k (n + 1) text_open [(.int .u8 a0)] =
  (bif (decide (a0 > (32 : Int))) then (bif (decide (a0 < (127 : Int))) then (some (.bool (!(decide (a0 = (92 : Int)))))) else (some (.bool false))) else (some (.bool false))) := (kp_at (by kernel_rfl)).trans (by kernel_rfl)
/- oakum/text.digit -/
theorem text_digit_eq {E : Ext} [Core E] (k n : Nat) (a0 : Int) : kp E k (n + 1) text_digit [(.int .u8 a0)] =
  (bif (decide (a0 ≥ (48 : Int))) then (some (.bool (decide (a0 ≤ (55 : Int))))) else (some (.bool false))) := (kp_at (by kernel_rfl)).trans (by kernel_rfl)
/- strings.Index -/
theorem strings_Index_eq {E : Ext} [Core E] (k n : Nat) (a0 : ByteArray) (a1 : ByteArray) : kp E k (n + 1) strings_Index [(.str a0), (.str a1)] =
  (callI .i64 (kp E k n stringslite_Index [(.str a0), (.str a1)]) fun vn2 => (some (.int .i64 vn2))) := (kp_at (by kernel_rfl)).trans (by kernel_rfl)
end Go.Proofs.YtogfcfgfkggmlaaGreatDoor.Eng.U


/- What functions answer, as the engine evaluates their code. Printed by gen2.py. -/
set_option linter.unusedVariables false
namespace Go.Proofs.YtogfcfgfkggmlaaGreatDoor.Eng.U
open Go Go.Proofs Go.Proofs.YtogfcfgfkggmlaaGreatDoor.Eng
/- oakum/oakumlaw08.OverAgain -/
/- oakum/oakumlaw08.OverLays -/
/- oakum/oakumlaw08.alive -/
/- oakum/oakumlaw08.few -/
/- oakum/oakumref07.Same -/
noncomputable def ref07_Same_bd : Code := Tryz.f18.body.getD .skip
noncomputable def ref07_Same_L0 (kap : FuncId → List AV → Option AV) (k : Nat) (k0 : Nat) (s0 : List AV) (s1 : List AV) (s5 : Int) : Option AV :=
  loop (fun fr K => code ((bs E0 k).cfg kap ref07_Same) (sel ref07_Same_bd [1, 1, 0, 1, 0, 0]) fr K) (canon ((bs E0 k).cfg kap ref07_Same) (firstReg (sel ref07_Same_bd [1, 1, 0, 1, 0, 0]))) k0 (mkFr 26 [(0, (.list 2 s0)), (1, (.list 2 s1)), (5, (.int .i64 s5))] []) (plug ((bs E0 k).cfg kap ref07_Same) (retK ((bs E0 k).cfg kap ref07_Same) [] Tryz.f18 [] some) [.blk 0, .seqR (sel ref07_Same_bd [1, 1, 1])])
theorem ref07_Same_L0_s (kap : FuncId → List AV → Option AV) (k : Nat) (k0 : Nat) (s0 : List AV) (s1 : List AV) (s5 : Int) : ref07_Same_L0 kap k (k0 + 1) s0 s1 s5 =
  (bif (decide (s5 < (((List.length s0) : Nat) : Int))) then (bif ((decide ((0 : Int) ≤ s5)) && (decide (s5 < (((List.length s0) : Nat) : Int)))) then ((s0[(Int.toNat s5)]?).bind fun vy1 => (cellS (AV.cells vy1) 0 fun vs2 => (cellS (AV.cells vy1) 1 fun vs3 => (bif ((decide ((0 : Int) ≤ s5)) && (decide (s5 < (((List.length s1) : Nat) : Int)))) then ((s1[(Int.toNat s5)]?).bind fun vy4 => (cellS (AV.cells vy4) 0 fun vs5 => (cellS (AV.cells vy4) 1 fun vs6 => (bif (!((decide (vs2 = vs5)) && ((decide (vs3 = vs6)) && true))) then (some (.bool false)) else (ref07_Same_L0 kap k k0 s0 s1 (IntKind.wrap .i64 (s5 + (1 : Int)))))))) else none)))) else none) else (some (.bool true))) := by kernel_rfl
theorem ref07_Same_eq {E : Ext} [Core E] (k n : Nat) (a0 : List AV) (a1 : List AV) : kp E k (n + 1) ref07_Same [(.list 2 a0), (.list 2 a1)] =
  (bif (!(decide ((((List.length a0) : Nat) : Int) = (((List.length a1) : Nat) : Int)))) then (some (.bool false)) else (ref07_Same_L0 (kp E k n) k k a0 a1 (0 : Int))) := (kp_at (by kernel_rfl)).trans (by kernel_rfl)
/- oakum/oakumref07.Right -/
noncomputable def ref07_Right_bd : Code := Tryz.f19.body.getD .skip
noncomputable def ref07_Right_L0 (kap : FuncId → List AV → Option AV) (k : Nat) (k0 : Nat) (s3 : Int) (b1_0 : ByteArray) (b1_1 : ByteArray) : Option AV :=
  loop (fun fr K => code ((bs E0 k).cfg kap ref07_Right) (sel ref07_Right_bd [1, 1, 0, 1, 0, 0]) fr K) (canon ((bs E0 k).cfg kap ref07_Right) (firstReg (sel ref07_Right_bd [1, 1, 0, 1, 0, 0]))) k0 (mkFr 73 [(1, (.loc 1 0)), (3, (.int .i64 s3))] [(1, (.box [(.str b1_0), (.str b1_1)]))]) (plug ((bs E0 k).cfg kap ref07_Right) (retK ((bs E0 k).cfg kap ref07_Right) [] Tryz.f19 [] some) [.blk 0, .seqR (sel ref07_Right_bd [1, 1, 1])])
theorem ref07_Right_L0_s (kap : FuncId → List AV → Option AV) (k : Nat) (k0 : Nat) (s3 : Int) (b1_0 : ByteArray) (b1_1 : ByteArray) : ref07_Right_L0 kap k (k0 + 1) s3 b1_0 b1_1 =
  (bif (decide (s3 < (((ByteArray.size b1_0) : Nat) : Int))) then (bif ((decide ((0 : Int) ≤ s3)) && (decide (s3 < (((ByteArray.size b1_0) : Nat) : Int)))) then (bif (decide ((byteAt b1_0 (Int.toNat s3)) = (61 : Int))) then (some (.bool false)) else (ref07_Right_L0 kap k k0 (IntKind.wrap .i64 (s3 + (1 : Int))) b1_0 b1_1)) else none) else (callI .i64 (kap ref07_Which [(.str b1_0)]) fun vn8 => (bif (decide (b1_1 = (str []))) then (some (.bool true)) else (bif (decide (vn8 < (0 : Int))) then (some (.bool true)) else (bif (decide (vn8 < (4 : Int))) then (callB (kap ref02_Clean [(.str b1_1)]) fun vq10 => (some (.bool vq10))) else (bif (decide (vn8 < (7 : Int))) then (callT (kap ref04_Number [(.str b1_1)]) fun vt12 => (tupI .i64 vt12 fun vn13 vt14 => (tupB vt14 fun vq15 vt16 => (atNil vt16 (some (.bool vq15)))))) else (callT (kap ref04_Time [(.str b1_1)]) fun vt18 => (tupG 2 vt18 fun vg19 vt20 => (cellI .i64 vg19 0 fun vn21 => (cellI .i64 vg19 1 fun vn22 => (tupB vt20 fun vq23 vt24 => (atNil vt24 (some (.bool vq23)))))))))))))) := by kernel_rfl
theorem ref07_Right_eq {E : Ext} [Core E] (k n : Nat) (a0_0 : ByteArray) (a0_1 : ByteArray) : kp E k (n + 1) ref07_Right [(.agg [(.str a0_0), (.str a0_1)])] =
  (bif (decide (a0_0 = (str []))) then (some (.bool false)) else (callI .i64 (kp E k n ref05_First [(.str a0_0)]) fun vn2 => (bif (decide (vn2 ≥ (0 : Int))) then (some (.bool false)) else (callI .i64 (kp E k n ref05_First [(.str a0_1)]) fun vn4 => (bif (decide (vn4 ≥ (0 : Int))) then (some (.bool false)) else (callB (kp E k n ref02_Clean [(.str a0_0)]) fun vq6 => (bif (!vq6) then (some (.bool false)) else (ref07_Right_L0 (kp E k n) k k (0 : Int) a0_0 a0_1)))))))) := (kp_at (by kernel_rfl)).trans (by kernel_rfl)
/- oakum/oakumref08.Lay -/
noncomputable def ref08_Lay_bd : Code := Tryz.f22.body.getD .skip
noncomputable def ref08_Lay_L0 (kap : FuncId → List AV → Option AV) (k : Nat) (k0 : Nat) (s7 : ByteArray) (s8 : Bool) (x5 : List AV) (x6 : List AV) : Option AV :=
  loop (fun fr K => code ((bs E0 k).cfg kap ref08_Lay) (sel ref08_Lay_bd [1, 1, 1, 1, 0, 0]) fr K) (canon ((bs E0 k).cfg kap ref08_Lay) (firstReg (sel ref08_Lay_bd [1, 1, 1, 1, 0, 0]))) k0 (mkFr 64 [(5, (.own 5)), (6, (.own 6)), (7, (.str s7)), (8, (.bool s8))] [(5, (.row 29 x5 true)), (6, (.row 29 x6 false))]) (plug ((bs E0 k).cfg kap ref08_Lay) (retK ((bs E0 k).cfg kap ref08_Lay) [] Tryz.f22 [] some) [.blk 0])
noncomputable def ref08_Lay_L1 (kap : FuncId → List AV → Option AV) (k : Nat) (k0 : Nat) (k1 : Nat) (s7 : ByteArray) (s8 : Bool) (s9 : ByteArray) (s10 : Bool) (s11 : Int) (x5 : List AV) (x6 : List AV) : Option AV :=
  loop (fun fr K => code ((bs E0 k).cfg kap ref08_Lay) (sel ref08_Lay_bd [1, 1, 1, 1, 0, 0, 0, 1, 0, 1, 0, 0]) fr K) (canon ((bs E0 k).cfg kap ref08_Lay) (firstReg (sel ref08_Lay_bd [1, 1, 1, 1, 0, 0, 0, 1, 0, 1, 0, 0]))) k1 (mkFr 64 [(5, (.own 5)), (6, (.own 6)), (7, (.str s7)), (8, (.bool s8)), (9, (.str s9)), (10, (.bool s10)), (11, (.int .i64 s11))] [(5, (.row 29 x5 true)), (6, (.row 29 x6 false))]) (plug ((bs E0 k).cfg kap ref08_Lay) (retK ((bs E0 k).cfg kap ref08_Lay) [] Tryz.f22 [] some) [.blk 2, .seqR (sel ref08_Lay_bd [1, 1, 1, 1, 0, 0, 0, 1, 1]), .blk 1, .lp (sel ref08_Lay_bd [1, 1, 1, 1, 0, 0]) k0, .blk 0])
theorem ref08_Lay_L0_s (kap : FuncId → List AV → Option AV) (k : Nat) (k0 : Nat) (s7 : ByteArray) (s8 : Bool) (x5 : List AV) (x6 : List AV) : ref08_Lay_L0 kap k (k0 + 1) s7 s8 x5 x6 =
  (ref08_Lay_L1 kap k k0 k s7 s8 (str []) false (0 : Int) x5 x6) := by kernel_rfl
theorem ref08_Lay_L1_s (kap : FuncId → List AV → Option AV) (k : Nat) (k0 : Nat) (k1 : Nat) (s7 : ByteArray) (s8 : Bool) (s9 : ByteArray) (s10 : Bool) (s11 : Int) (x5 : List AV) (x6 : List AV) : ref08_Lay_L1 kap k k0 (k1 + 1) s7 s8 s9 s10 s11 x5 x6 =
  (bif (decide (s11 < (((List.length x5) : Nat) : Int))) then (bif ((decide ((0 : Int) ≤ s11)) && (decide (s11 < (((List.length x5) : Nat) : Int)))) then ((x5[(Int.toNat s11)]?).bind fun vy1 => (cellS (AV.cells vy1) 0 fun vs2 => (bif s8 then (bif (!s10) then (ref08_Lay_L1 kap k k0 k1 s7 s8 vs2 true (IntKind.wrap .i64 (s11 + (1 : Int))) x5 x6) else (bif (Op.bytesLess (ByteArray.toList vs2) (ByteArray.toList s9)) then (ref08_Lay_L1 kap k k0 k1 s7 s8 vs2 true (IntKind.wrap .i64 (s11 + (1 : Int))) x5 x6) else (ref08_Lay_L1 kap k k0 k1 s7 s8 s9 s10 (IntKind.wrap .i64 (s11 + (1 : Int))) x5 x6))) else (bif (!((Op.bytesLess (ByteArray.toList vs2) (ByteArray.toList s7)) || (decide (vs2 = s7)))) then (bif (!s10) then (ref08_Lay_L1 kap k k0 k1 s7 s8 vs2 true (IntKind.wrap .i64 (s11 + (1 : Int))) x5 x6) else (bif (Op.bytesLess (ByteArray.toList vs2) (ByteArray.toList s9)) then (ref08_Lay_L1 kap k k0 k1 s7 s8 vs2 true (IntKind.wrap .i64 (s11 + (1 : Int))) x5 x6) else (ref08_Lay_L1 kap k k0 k1 s7 s8 s9 s10 (IntKind.wrap .i64 (s11 + (1 : Int))) x5 x6))) else (ref08_Lay_L1 kap k k0 k1 s7 s8 s9 s10 (IntKind.wrap .i64 (s11 + (1 : Int))) x5 x6))))) else none) else (bif (!s10) then (some (.list 2 x6)) else (callT (kap ref08_Last [(.list 2 x5), (.str s9)]) fun vt4 => (tupS vt4 fun vs5 vt6 => (tupB vt6 fun vq7 vt8 => (atNil vt8 (bif vq7 then (bif (decide (((List.length x6) + 1) * 32 ≤ 140737488355328) && decide (((List.length x6) + 1) ≤ 9223372036854775807)) then (ref08_Lay_L0 kap k k0 s9 false x5 (x6 ++ [(.agg [(.str s9), (.str vs5)])])) else none) else (ref08_Lay_L0 kap k k0 s9 false x5 x6)))))))) := by kernel_rfl
theorem ref08_Lay_eq {E : Ext} [Core E] (k n : Nat) (a0 : List AV) (a1 : List AV) : kp E k (n + 1) ref08_Lay [(.list 2 a0), (.list 2 a1)] =
  (bif (decide ((0 + (List.length a0)) * 32 ≤ 140737488355328) && decide ((0 + (List.length a0)) ≤ 9223372036854775807)) then (bif (decide (((List.length ([] ++ a0)) + (List.length a1)) * 32 ≤ 140737488355328) && decide (((List.length ([] ++ a0)) + (List.length a1)) ≤ 9223372036854775807)) then (ref08_Lay_L0 (kp E k n) k k (str []) true (([] ++ a0) ++ a1) []) else none) else none) := (kp_at (by kernel_rfl)).trans (by kernel_rfl)
/- oakum/oakumref08.Right -/
noncomputable def ref08_Right_bd : Code := Tryz.f23.body.getD .skip
noncomputable def ref08_Right_L0 (kap : FuncId → List AV → Option AV) (k : Nat) (k0 : Nat) (s0 : List AV) (s3 : Int) : Option AV :=
  loop (fun fr K => code ((bs E0 k).cfg kap ref08_Right) (sel ref08_Right_bd [1, 0, 1, 0, 0]) fr K) (canon ((bs E0 k).cfg kap ref08_Right) (firstReg (sel ref08_Right_bd [1, 0, 1, 0, 0]))) k0 (mkFr 20 [(0, (.list 2 s0)), (3, (.int .i64 s3))] []) (plug ((bs E0 k).cfg kap ref08_Right) (retK ((bs E0 k).cfg kap ref08_Right) [] Tryz.f23 [] some) [.blk 0, .seqR (sel ref08_Right_bd [1, 1])])
theorem ref08_Right_L0_s (kap : FuncId → List AV → Option AV) (k : Nat) (k0 : Nat) (s0 : List AV) (s3 : Int) : ref08_Right_L0 kap k (k0 + 1) s0 s3 =
  (bif (decide (s3 < (((List.length s0) : Nat) : Int))) then (bif ((decide ((0 : Int) ≤ s3)) && (decide (s3 < (((List.length s0) : Nat) : Int)))) then ((s0[(Int.toNat s3)]?).bind fun vy1 => (cellS (AV.cells vy1) 0 fun vs2 => (cellS (AV.cells vy1) 1 fun vs3 => (callB (kap ref07_Right [(.agg [(.str vs2), (.str vs3)])]) fun vq5 => (bif (!vq5) then (some (.bool false)) else (ref08_Right_L0 kap k k0 s0 (IntKind.wrap .i64 (s3 + (1 : Int))))))))) else none) else (callL 2 (kap ref08_Lay [(.list 2 s0), (.list 2 [])]) fun vl7 => (callB (kap ref07_Same [(.list 2 vl7), (.list 2 s0)]) fun vq9 => (some (.bool vq9))))) := by kernel_rfl
theorem ref08_Right_eq {E : Ext} [Core E] (k n : Nat) (a0 : List AV) : kp E k (n + 1) ref08_Right [(.list 2 a0)] =
  (ref08_Right_L0 (kp E k n) k k a0 (0 : Int)) := (kp_at (by kernel_rfl)).trans (by kernel_rfl)
/- oakum/oakumref09.Right -/
/- oakum/oakumref08.SameHead -/
theorem ref08_SameHead_eq {E : Ext} [Core E] (k n : Nat) (a0_0 : Int) (a0_1 : ByteArray) (a0_2 : ByteArray) (a0_3 : Int) (a0_4 : Int) (a0_5 : Int) (a0_6 : Int) (a0_7 : Int) (a0_8 : Int) (a0_9 : ByteArray) (a0_10 : ByteArray) (a0_11 : Int) (a0_12 : Int) (a0_13 : List AV) (a1_0 : Int) (a1_1 : ByteArray) (a1_2 : ByteArray) (a1_3 : Int) (a1_4 : Int) (a1_5 : Int) (a1_6 : Int) (a1_7 : Int) (a1_8 : Int) (a1_9 : ByteArray) (a1_10 : ByteArray) (a1_11 : Int) (a1_12 : Int) (a1_13 : List AV) : kp E k (n + 1) ref08_SameHead [(.agg [(.int .i64 a0_0), (.str a0_1), (.str a0_2), (.int .i64 a0_3), (.int .i64 a0_4), (.int .i64 a0_5), (.int .i64 a0_6), (.int .i64 a0_7), (.int .i64 a0_8), (.str a0_9), (.str a0_10), (.int .i64 a0_11), (.int .i64 a0_12), (.list 2 a0_13)]), (.agg [(.int .i64 a1_0), (.str a1_1), (.str a1_2), (.int .i64 a1_3), (.int .i64 a1_4), (.int .i64 a1_5), (.int .i64 a1_6), (.int .i64 a1_7), (.int .i64 a1_8), (.str a1_9), (.str a1_10), (.int .i64 a1_11), (.int .i64 a1_12), (.list 2 a1_13)])] =
  (bif (decide (a0_0 = a1_0)) then (bif (decide (a0_1 = a1_1)) then (bif (decide (a0_2 = a1_2)) then (bif (decide (a0_3 = a1_3)) then (bif (decide (a0_4 = a1_4)) then (bif (decide (a0_5 = a1_5)) then (bif (decide (a0_6 = a1_6)) then (bif ((decide (a0_7 = a1_7)) && ((decide (a0_8 = a1_8)) && true)) then (bif (decide (a0_9 = a1_9)) then (bif (decide (a0_10 = a1_10)) then (bif (decide (a0_11 = a1_11)) then (bif (decide (a0_12 = a1_12)) then (callB (kp E k n ref07_Same [(.list 2 a0_13), (.list 2 a1_13)]) fun vq2 => (some (.bool vq2))) else (some (.bool false))) else (some (.bool false))) else (some (.bool false))) else (some (.bool false))) else (some (.bool false))) else (some (.bool false))) else (some (.bool false))) else (some (.bool false))) else (some (.bool false))) else (some (.bool false))) else (some (.bool false))) else (some (.bool false))) := (kp_at (by kernel_rfl)).trans (by kernel_rfl)
/- oakum/oakumref09.Wrong -/
noncomputable def ref09_Wrong_bd : Code := Tryz.f48.body.getD .skip
noncomputable def ref09_Wrong_L0 (kap : FuncId → List AV → Option AV) (k : Nat) (k0 : Nat) (s4 : Int) (b3_0 : Bool) (b3_1 : Bool) (b3_2 : Bool) (b3_3 : Bool) (b3_4 : Bool) (b3_5 : Bool) (b3_6 : Bool) (b3_7 : Bool) (b3_8 : Bool) (b3_9 : Bool) (b3_10 : Bool) (b3_11 : Bool) (b3_12 : Bool) (b3_13 : Bool) : Option AV :=
  loop (fun fr K => code ((bs E0 k).cfg kap ref09_Wrong) (sel ref09_Wrong_bd [1, 1, 0, 1, 0, 0]) fr K) (canon ((bs E0 k).cfg kap ref09_Wrong) (firstReg (sel ref09_Wrong_bd [1, 1, 0, 1, 0, 0]))) k0 (mkFr 16 [(3, (.loc 3 0)), (4, (.int .i64 s4))] [(3, (.box [(.bool b3_0), (.bool b3_1), (.bool b3_2), (.bool b3_3), (.bool b3_4), (.bool b3_5), (.bool b3_6), (.bool b3_7), (.bool b3_8), (.bool b3_9), (.bool b3_10), (.bool b3_11), (.bool b3_12), (.bool b3_13)]))]) (plug ((bs E0 k).cfg kap ref09_Wrong) (retK ((bs E0 k).cfg kap ref09_Wrong) [] Tryz.f48 [] some) [.blk 0, .seqR (sel ref09_Wrong_bd [1, 1, 1])])
theorem ref09_Wrong_L0_s (kap : FuncId → List AV → Option AV) (k : Nat) (k0 : Nat) (s4 : Int) (b3_0 : Bool) (b3_1 : Bool) (b3_2 : Bool) (b3_3 : Bool) (b3_4 : Bool) (b3_5 : Bool) (b3_6 : Bool) (b3_7 : Bool) (b3_8 : Bool) (b3_9 : Bool) (b3_10 : Bool) (b3_11 : Bool) (b3_12 : Bool) (b3_13 : Bool) : ref09_Wrong_L0 kap k (k0 + 1) s4 b3_0 b3_1 b3_2 b3_3 b3_4 b3_5 b3_6 b3_7 b3_8 b3_9 b3_10 b3_11 b3_12 b3_13 =
  (bif (decide (s4 < (14 : Int))) then (bif ((decide ((0 : Int) ≤ s4)) && (decide (s4 < (14 : Int)))) then (cellB [(.bool b3_0), (.bool b3_1), (.bool b3_2), (.bool b3_3), (.bool b3_4), (.bool b3_5), (.bool b3_6), (.bool b3_7), (.bool b3_8), (.bool b3_9), (.bool b3_10), (.bool b3_11), (.bool b3_12), (.bool b3_13)] (0 + (Int.toNat s4) * 1) fun vq17 => (bif (!vq17) then (some (.int .i64 s4)) else (ref09_Wrong_L0 kap k k0 (IntKind.wrap .i64 (s4 + (1 : Int))) b3_0 b3_1 b3_2 b3_3 b3_4 b3_5 b3_6 b3_7 b3_8 b3_9 b3_10 b3_11 b3_12 b3_13))) else none) else (some (.int .i64 (0 : Int)))) := by kernel_rfl
theorem ref09_Wrong_eq {E : Ext} [Core E] (k n : Nat) (a0_0 : Int) (a0_1 : ByteArray) (a0_2 : ByteArray) (a0_3 : Int) (a0_4 : Int) (a0_5 : Int) (a0_6 : Int) (a0_7 : Int) (a0_8 : Int) (a0_9 : ByteArray) (a0_10 : ByteArray) (a0_11 : Int) (a0_12 : Int) (a0_13 : List AV) : kp E k (n + 1) ref09_Wrong [(.agg [(.int .i64 a0_0), (.str a0_1), (.str a0_2), (.int .i64 a0_3), (.int .i64 a0_4), (.int .i64 a0_5), (.int .i64 a0_6), (.int .i64 a0_7), (.int .i64 a0_8), (.str a0_9), (.str a0_10), (.int .i64 a0_11), (.int .i64 a0_12), (.list 2 a0_13)])] =
  (callG 14 (kp E k n ref09_fields [(.agg [(.int .i64 a0_0), (.str a0_1), (.str a0_2), (.int .i64 a0_3), (.int .i64 a0_4), (.int .i64 a0_5), (.int .i64 a0_6), (.int .i64 a0_7), (.int .i64 a0_8), (.str a0_9), (.str a0_10), (.int .i64 a0_11), (.int .i64 a0_12), (.list 2 a0_13)])]) fun vg2 => (cellB vg2 0 fun vq3 => (cellB vg2 1 fun vq4 => (cellB vg2 2 fun vq5 => (cellB vg2 3 fun vq6 => (cellB vg2 4 fun vq7 => (cellB vg2 5 fun vq8 => (cellB vg2 6 fun vq9 => (cellB vg2 7 fun vq10 => (cellB vg2 8 fun vq11 => (cellB vg2 9 fun vq12 => (cellB vg2 10 fun vq13 => (cellB vg2 11 fun vq14 => (cellB vg2 12 fun vq15 => (cellB vg2 13 fun vq16 => (ref09_Wrong_L0 (kp E k n) k k (1 : Int) vq3 vq4 vq5 vq6 vq7 vq8 vq9 vq10 vq11 vq12 vq13 vq14 vq15 vq16)))))))))))))))) := (kp_at (by kernel_rfl)).trans (by kernel_rfl)
/- oakum/oakumref02.Blocks -/
/- oakum/oakumref09.Same -/
/- oakum/oakumref05.First -/
noncomputable def ref05_First_bd : Code := Tryz.f63.body.getD .skip
noncomputable def ref05_First_L0 (kap : FuncId → List AV → Option AV) (k : Nat) (k0 : Nat) (s3 : List AV) (s4 : Int) : Option AV :=
  loop (fun fr K => code ((bs E0 k).cfg kap ref05_First) (sel ref05_First_bd [1, 1, 0, 1, 0, 0]) fr K) (canon ((bs E0 k).cfg kap ref05_First) (firstReg (sel ref05_First_bd [1, 1, 0, 1, 0, 0]))) k0 (mkFr 24 [(3, (.list 1 s3)), (4, (.int .i64 s4))] []) (plug ((bs E0 k).cfg kap ref05_First) (retK ((bs E0 k).cfg kap ref05_First) [] Tryz.f63 [] some) [.blk 0, .seqR (sel ref05_First_bd [1, 1, 1])])
theorem ref05_First_L0_s (kap : FuncId → List AV → Option AV) (k : Nat) (k0 : Nat) (s3 : List AV) (s4 : Int) : ref05_First_L0 kap k (k0 + 1) s3 s4 =
  (bif (decide (s4 < (((List.length s3) : Nat) : Int))) then (bif ((decide ((0 : Int) ≤ s4)) && (decide (s4 < (((List.length s3) : Nat) : Int)))) then ((s3[(Int.toNat s4)]?).bind fun vy3 => (cellI .i64 (AV.cells vy3) 0 fun vn4 => (bif (decide (vn4 < (0 : Int))) then (bif ((decide ((0 : Int) ≤ s4)) && (decide (s4 < (((List.length s3) : Nat) : Int)))) then ((s3[(Int.toNat s4)]?).bind fun vy5 => (cellI .i64 (AV.cells vy5) 0 fun vn6 => (some (.int .i64 (IntKind.wrap .i64 ((IntKind.wrap .i64 (0 - vn6)) - (1 : Int))))))) else none) else (ref05_First_L0 kap k k0 s3 (IntKind.wrap .i64 (s4 + (1 : Int))))))) else none) else (some (.int .i64 (-1 : Int)))) := by kernel_rfl
theorem ref05_First_eq {E : Ext} [Core E] (k n : Nat) (a0 : ByteArray) : kp E k (n + 1) ref05_First [(.str a0)] =
  (callL 1 (kp E k n ref05_Ends [(.str a0)]) fun vl2 => (ref05_First_L0 (kp E k n) k k vl2 (0 : Int))) := (kp_at (by kernel_rfl)).trans (by kernel_rfl)
/- oakum/oakumref02.Clean -/
theorem ref02_Clean_eq {E : Ext} [Core E] (k n : Nat) (a0 : ByteArray) : kp E k (n + 1) ref02_Clean [(.str a0)] =
  (callS (kp E k n ref02_Get [(.list 1 (bytesAV a0))]) fun vs2 => (some (.bool (decide (vs2 = a0))))) := (kp_at (by kernel_rfl)).trans (by kernel_rfl)
/- oakum/oakumref07.Which -/
noncomputable def ref07_Which_bd : Code := Tryz.f65.body.getD .skip
noncomputable def ref07_Which_L0 (kap : FuncId → List AV → Option AV) (k : Nat) (k0 : Nat) (s0 : ByteArray) (s3 : List AV) (s4 : Int) : Option AV :=
  loop (fun fr K => code ((bs E0 k).cfg kap ref07_Which) (sel ref07_Which_bd [1, 1, 0, 1, 0, 0]) fr K) (canon ((bs E0 k).cfg kap ref07_Which) (firstReg (sel ref07_Which_bd [1, 1, 0, 1, 0, 0]))) k0 (mkFr 19 [(0, (.str s0)), (3, (.list 1 s3)), (4, (.int .i64 s4))] []) (plug ((bs E0 k).cfg kap ref07_Which) (retK ((bs E0 k).cfg kap ref07_Which) [] Tryz.f65 [] some) [.blk 0, .seqR (sel ref07_Which_bd [1, 1, 1])])
theorem ref07_Which_L0_s (kap : FuncId → List AV → Option AV) (k : Nat) (k0 : Nat) (s0 : ByteArray) (s3 : List AV) (s4 : Int) : ref07_Which_L0 kap k (k0 + 1) s0 s3 s4 =
  (bif (decide (s4 < (((List.length s3) : Nat) : Int))) then (bif ((decide ((0 : Int) ≤ s4)) && (decide (s4 < (((List.length s3) : Nat) : Int)))) then ((s3[(Int.toNat s4)]?).bind fun vy3 => (cellS (AV.cells vy3) 0 fun vs4 => (bif (decide (vs4 = s0)) then (some (.int .i64 s4)) else (ref07_Which_L0 kap k k0 s0 s3 (IntKind.wrap .i64 (s4 + (1 : Int))))))) else none) else (some (.int .i64 (-1 : Int)))) := by kernel_rfl
theorem ref07_Which_eq {E : Ext} [Core E] (k n : Nat) (a0 : ByteArray) : kp E k (n + 1) ref07_Which [(.str a0)] =
  (callL 1 (kp E k n ref07_Keys []) fun vl2 => (ref07_Which_L0 (kp E k n) k k a0 vl2 (0 : Int))) := (kp_at (by kernel_rfl)).trans (by kernel_rfl)
/- oakum/oakumref08.Last -/
noncomputable def ref08_Last_bd : Code := Tryz.f71.body.getD .skip
noncomputable def ref08_Last_L0 (kap : FuncId → List AV → Option AV) (k : Nat) (k0 : Nat) (s0 : List AV) (s1 : ByteArray) (s6 : Int) : Option AV :=
  loop (fun fr K => code ((bs E0 k).cfg kap ref08_Last) (sel ref08_Last_bd [1, 0, 1, 0, 0]) fr K) (canon ((bs E0 k).cfg kap ref08_Last) (firstReg (sel ref08_Last_bd [1, 0, 1, 0, 0]))) k0 (mkFr 32 [(0, (.list 2 s0)), (1, (.str s1)), (6, (.int .i64 s6))] []) (plug ((bs E0 k).cfg kap ref08_Last) (retK ((bs E0 k).cfg kap ref08_Last) [] Tryz.f71 [] some) [.blk 0, .seqR (sel ref08_Last_bd [1, 1])])
theorem ref08_Last_L0_s (kap : FuncId → List AV → Option AV) (k : Nat) (k0 : Nat) (s0 : List AV) (s1 : ByteArray) (s6 : Int) : ref08_Last_L0 kap k (k0 + 1) s0 s1 s6 =
  (bif (decide (s6 ≥ (0 : Int))) then (bif ((decide ((0 : Int) ≤ s6)) && (decide (s6 < (((List.length s0) : Nat) : Int)))) then ((s0[(Int.toNat s6)]?).bind fun vy1 => (cellS (AV.cells vy1) 0 fun vs2 => (bif (decide (vs2 = s1)) then (bif ((decide ((0 : Int) ≤ s6)) && (decide (s6 < (((List.length s0) : Nat) : Int)))) then ((s0[(Int.toNat s6)]?).bind fun vy3 => (cellS (AV.cells vy3) 1 fun vs4 => (bif ((decide ((0 : Int) ≤ s6)) && (decide (s6 < (((List.length s0) : Nat) : Int)))) then ((s0[(Int.toNat s6)]?).bind fun vy5 => (cellS (AV.cells vy5) 1 fun vs6 => (some (.tup [(.str vs4), (.bool (!(decide (vs6 = (str [])))))])))) else none))) else none) else (ref08_Last_L0 kap k k0 s0 s1 (IntKind.wrap .i64 (s6 - (1 : Int))))))) else none) else (some (.tup [(.str (str [])), (.bool false)]))) := by kernel_rfl
theorem ref08_Last_eq {E : Ext} [Core E] (k n : Nat) (a0 : List AV) (a1 : ByteArray) : kp E k (n + 1) ref08_Last [(.list 2 a0), (.str a1)] =
  (ref08_Last_L0 (kp E k n) k k a0 a1 (IntKind.wrap .i64 ((((List.length a0) : Nat) : Int) - (1 : Int)))) := (kp_at (by kernel_rfl)).trans (by kernel_rfl)
/- oakum/oakumref09.fields -/
noncomputable def ref09_fields_bd : Code := Tryz.f110.body.getD .skip
noncomputable def ref09_fields_J0 (kap : FuncId → List AV → Option AV) (k : Nat) (kj : Nat) (s3 : Bool) (b1_0 : Int) (b1_1 : ByteArray) (b1_2 : ByteArray) (b1_3 : Int) (b1_4 : Int) (b1_5 : Int) (b1_6 : Int) (b1_7 : Int) (b1_8 : Int) (b1_9 : ByteArray) (b1_10 : ByteArray) (b1_11 : Int) (b1_12 : Int) (b1_13 : List AV) (b2_0 : Bool) (b2_1 : Bool) (b2_2 : Bool) (b2_3 : Bool) (b2_4 : Bool) (b2_5 : Bool) (b2_6 : Bool) (b2_7 : Bool) (b2_8 : Bool) (b2_9 : Bool) (b2_10 : Bool) (b2_11 : Bool) (b2_12 : Bool) (b2_13 : Bool) : Option AV :=
  gate kj fun _ => code ((bs E0 k).cfg kap ref09_fields) (sel ref09_fields_bd [1, 1]) (mkFr 160 [(1, (.loc 1 0)), (2, (.loc 2 0)), (3, (.bool s3))] [(1, (.box [(.int .i64 b1_0), (.str b1_1), (.str b1_2), (.int .i64 b1_3), (.int .i64 b1_4), (.int .i64 b1_5), (.int .i64 b1_6), (.int .i64 b1_7), (.int .i64 b1_8), (.str b1_9), (.str b1_10), (.int .i64 b1_11), (.int .i64 b1_12), (.list 2 b1_13)])), (2, (.box [(.bool b2_0), (.bool b2_1), (.bool b2_2), (.bool b2_3), (.bool b2_4), (.bool b2_5), (.bool b2_6), (.bool b2_7), (.bool b2_8), (.bool b2_9), (.bool b2_10), (.bool b2_11), (.bool b2_12), (.bool b2_13)]))]) (plug ((bs E0 k).cfg kap ref09_fields) (retK ((bs E0 k).cfg kap ref09_fields) [] Tryz.f110 [] some) [])
noncomputable def ref09_fields_J1 (kap : FuncId → List AV → Option AV) (k : Nat) (kj : Nat) (s3 : Bool) (s4 : Bool) (b1_0 : Int) (b1_1 : ByteArray) (b1_2 : ByteArray) (b1_3 : Int) (b1_4 : Int) (b1_5 : Int) (b1_6 : Int) (b1_7 : Int) (b1_8 : Int) (b1_9 : ByteArray) (b1_10 : ByteArray) (b1_11 : Int) (b1_12 : Int) (b1_13 : List AV) (b2_0 : Bool) (b2_1 : Bool) (b2_2 : Bool) (b2_3 : Bool) (b2_4 : Bool) (b2_5 : Bool) (b2_6 : Bool) (b2_7 : Bool) (b2_8 : Bool) (b2_9 : Bool) (b2_10 : Bool) (b2_11 : Bool) (b2_12 : Bool) (b2_13 : Bool) : Option AV :=
  gate kj fun _ => code ((bs E0 k).cfg kap ref09_fields) (sel ref09_fields_bd [1, 1, 1]) (mkFr 160 [(1, (.loc 1 0)), (2, (.loc 2 0)), (3, (.bool s3)), (4, (.bool s4))] [(1, (.box [(.int .i64 b1_0), (.str b1_1), (.str b1_2), (.int .i64 b1_3), (.int .i64 b1_4), (.int .i64 b1_5), (.int .i64 b1_6), (.int .i64 b1_7), (.int .i64 b1_8), (.str b1_9), (.str b1_10), (.int .i64 b1_11), (.int .i64 b1_12), (.list 2 b1_13)])), (2, (.box [(.bool b2_0), (.bool b2_1), (.bool b2_2), (.bool b2_3), (.bool b2_4), (.bool b2_5), (.bool b2_6), (.bool b2_7), (.bool b2_8), (.bool b2_9), (.bool b2_10), (.bool b2_11), (.bool b2_12), (.bool b2_13)]))]) (plug ((bs E0 k).cfg kap ref09_fields) (retK ((bs E0 k).cfg kap ref09_fields) [] Tryz.f110 [] some) [])
noncomputable def ref09_fields_J2 (kap : FuncId → List AV → Option AV) (k : Nat) (kj : Nat) (s3 : Bool) (s4 : Bool) (b1_0 : Int) (b1_1 : ByteArray) (b1_2 : ByteArray) (b1_3 : Int) (b1_4 : Int) (b1_5 : Int) (b1_6 : Int) (b1_7 : Int) (b1_8 : Int) (b1_9 : ByteArray) (b1_10 : ByteArray) (b1_11 : Int) (b1_12 : Int) (b1_13 : List AV) (b2_0 : Bool) (b2_1 : Bool) (b2_2 : Bool) (b2_3 : Bool) (b2_4 : Bool) (b2_5 : Bool) (b2_6 : Bool) (b2_7 : Bool) (b2_8 : Bool) (b2_9 : Bool) (b2_10 : Bool) (b2_11 : Bool) (b2_12 : Bool) (b2_13 : Bool) (b5_0 : Bool) (b5_1 : Bool) (b5_2 : Bool) (b5_3 : Bool) (b5_4 : Bool) (b5_5 : Bool) (b5_6 : Bool) (b5_7 : Bool) (b5_8 : Bool) (b5_9 : Bool) (b5_10 : Bool) (b5_11 : Bool) (b5_12 : Bool) (b5_13 : Bool) : Option AV :=
  gate kj fun _ => code ((bs E0 k).cfg kap ref09_fields) (sel ref09_fields_bd [1, 1, 1, 1, 1]) (mkFr 160 [(1, (.loc 1 0)), (2, (.loc 2 0)), (3, (.bool s3)), (4, (.bool s4)), (5, (.loc 5 0))] [(1, (.box [(.int .i64 b1_0), (.str b1_1), (.str b1_2), (.int .i64 b1_3), (.int .i64 b1_4), (.int .i64 b1_5), (.int .i64 b1_6), (.int .i64 b1_7), (.int .i64 b1_8), (.str b1_9), (.str b1_10), (.int .i64 b1_11), (.int .i64 b1_12), (.list 2 b1_13)])), (2, (.box [(.bool b2_0), (.bool b2_1), (.bool b2_2), (.bool b2_3), (.bool b2_4), (.bool b2_5), (.bool b2_6), (.bool b2_7), (.bool b2_8), (.bool b2_9), (.bool b2_10), (.bool b2_11), (.bool b2_12), (.bool b2_13)])), (5, (.box [(.bool b5_0), (.bool b5_1), (.bool b5_2), (.bool b5_3), (.bool b5_4), (.bool b5_5), (.bool b5_6), (.bool b5_7), (.bool b5_8), (.bool b5_9), (.bool b5_10), (.bool b5_11), (.bool b5_12), (.bool b5_13)]))]) (plug ((bs E0 k).cfg kap ref09_fields) (retK ((bs E0 k).cfg kap ref09_fields) [] Tryz.f110 [] some) [])
noncomputable def ref09_fields_J3 (kap : FuncId → List AV → Option AV) (k : Nat) (kj : Nat) (s3 : Bool) (s4 : Bool) (b1_0 : Int) (b1_1 : ByteArray) (b1_2 : ByteArray) (b1_3 : Int) (b1_4 : Int) (b1_5 : Int) (b1_6 : Int) (b1_7 : Int) (b1_8 : Int) (b1_9 : ByteArray) (b1_10 : ByteArray) (b1_11 : Int) (b1_12 : Int) (b1_13 : List AV) (b2_0 : Bool) (b2_1 : Bool) (b2_2 : Bool) (b2_3 : Bool) (b2_4 : Bool) (b2_5 : Bool) (b2_6 : Bool) (b2_7 : Bool) (b2_8 : Bool) (b2_9 : Bool) (b2_10 : Bool) (b2_11 : Bool) (b2_12 : Bool) (b2_13 : Bool) (b5_0 : Bool) (b5_1 : Bool) (b5_2 : Bool) (b5_3 : Bool) (b5_4 : Bool) (b5_5 : Bool) (b5_6 : Bool) (b5_7 : Bool) (b5_8 : Bool) (b5_9 : Bool) (b5_10 : Bool) (b5_11 : Bool) (b5_12 : Bool) (b5_13 : Bool) : Option AV :=
  gate kj fun _ => code ((bs E0 k).cfg kap ref09_fields) (sel ref09_fields_bd [1, 1, 1, 1, 1, 1]) (mkFr 160 [(1, (.loc 1 0)), (2, (.loc 2 0)), (3, (.bool s3)), (4, (.bool s4)), (5, (.loc 5 0))] [(1, (.box [(.int .i64 b1_0), (.str b1_1), (.str b1_2), (.int .i64 b1_3), (.int .i64 b1_4), (.int .i64 b1_5), (.int .i64 b1_6), (.int .i64 b1_7), (.int .i64 b1_8), (.str b1_9), (.str b1_10), (.int .i64 b1_11), (.int .i64 b1_12), (.list 2 b1_13)])), (2, (.box [(.bool b2_0), (.bool b2_1), (.bool b2_2), (.bool b2_3), (.bool b2_4), (.bool b2_5), (.bool b2_6), (.bool b2_7), (.bool b2_8), (.bool b2_9), (.bool b2_10), (.bool b2_11), (.bool b2_12), (.bool b2_13)])), (5, (.box [(.bool b5_0), (.bool b5_1), (.bool b5_2), (.bool b5_3), (.bool b5_4), (.bool b5_5), (.bool b5_6), (.bool b5_7), (.bool b5_8), (.bool b5_9), (.bool b5_10), (.bool b5_11), (.bool b5_12), (.bool b5_13)]))]) (plug ((bs E0 k).cfg kap ref09_fields) (retK ((bs E0 k).cfg kap ref09_fields) [] Tryz.f110 [] some) [])
noncomputable def ref09_fields_J4 (kap : FuncId → List AV → Option AV) (k : Nat) (kj : Nat) (s4 : Bool) (b1_0 : Int) (b1_1 : ByteArray) (b1_2 : ByteArray) (b1_3 : Int) (b1_4 : Int) (b1_5 : Int) (b1_6 : Int) (b1_7 : Int) (b1_8 : Int) (b1_9 : ByteArray) (b1_10 : ByteArray) (b1_11 : Int) (b1_12 : Int) (b1_13 : List AV) (b2_0 : Bool) (b2_1 : Bool) (b2_2 : Bool) (b2_3 : Bool) (b2_4 : Bool) (b2_5 : Bool) (b2_6 : Bool) (b2_7 : Bool) (b2_8 : Bool) (b2_9 : Bool) (b2_10 : Bool) (b2_11 : Bool) (b2_12 : Bool) (b2_13 : Bool) (b5_0 : Bool) (b5_1 : Bool) (b5_2 : Bool) (b5_3 : Bool) (b5_4 : Bool) (b5_5 : Bool) (b5_6 : Bool) (b5_7 : Bool) (b5_8 : Bool) (b5_9 : Bool) (b5_10 : Bool) (b5_11 : Bool) (b5_12 : Bool) (b5_13 : Bool) : Option AV :=
  gate kj fun _ => code ((bs E0 k).cfg kap ref09_fields) (sel ref09_fields_bd [1, 1, 1, 1, 1, 1, 1]) (mkFr 160 [(1, (.loc 1 0)), (2, (.loc 2 0)), (4, (.bool s4)), (5, (.loc 5 0))] [(1, (.box [(.int .i64 b1_0), (.str b1_1), (.str b1_2), (.int .i64 b1_3), (.int .i64 b1_4), (.int .i64 b1_5), (.int .i64 b1_6), (.int .i64 b1_7), (.int .i64 b1_8), (.str b1_9), (.str b1_10), (.int .i64 b1_11), (.int .i64 b1_12), (.list 2 b1_13)])), (2, (.box [(.bool b2_0), (.bool b2_1), (.bool b2_2), (.bool b2_3), (.bool b2_4), (.bool b2_5), (.bool b2_6), (.bool b2_7), (.bool b2_8), (.bool b2_9), (.bool b2_10), (.bool b2_11), (.bool b2_12), (.bool b2_13)])), (5, (.box [(.bool b5_0), (.bool b5_1), (.bool b5_2), (.bool b5_3), (.bool b5_4), (.bool b5_5), (.bool b5_6), (.bool b5_7), (.bool b5_8), (.bool b5_9), (.bool b5_10), (.bool b5_11), (.bool b5_12), (.bool b5_13)]))]) (plug ((bs E0 k).cfg kap ref09_fields) (retK ((bs E0 k).cfg kap ref09_fields) [] Tryz.f110 [] some) [])
noncomputable def ref09_fields_J5 (kap : FuncId → List AV → Option AV) (k : Nat) (kj : Nat) (s4 : Bool) (b1_0 : Int) (b1_1 : ByteArray) (b1_2 : ByteArray) (b1_3 : Int) (b1_4 : Int) (b1_5 : Int) (b1_6 : Int) (b1_7 : Int) (b1_8 : Int) (b1_9 : ByteArray) (b1_10 : ByteArray) (b1_11 : Int) (b1_12 : Int) (b1_13 : List AV) (b2_0 : Bool) (b2_1 : Bool) (b2_2 : Bool) (b2_3 : Bool) (b2_4 : Bool) (b2_5 : Bool) (b2_6 : Bool) (b2_7 : Bool) (b2_8 : Bool) (b2_9 : Bool) (b2_10 : Bool) (b2_11 : Bool) (b2_12 : Bool) (b2_13 : Bool) (b5_0 : Bool) (b5_1 : Bool) (b5_2 : Bool) (b5_3 : Bool) (b5_4 : Bool) (b5_5 : Bool) (b5_6 : Bool) (b5_7 : Bool) (b5_8 : Bool) (b5_9 : Bool) (b5_10 : Bool) (b5_11 : Bool) (b5_12 : Bool) (b5_13 : Bool) : Option AV :=
  gate kj fun _ => code ((bs E0 k).cfg kap ref09_fields) (sel ref09_fields_bd [1, 1, 1, 1, 1, 1, 1, 1, 1, 1, 1]) (mkFr 160 [(1, (.loc 1 0)), (2, (.loc 2 0)), (4, (.bool s4)), (5, (.loc 5 0))] [(1, (.box [(.int .i64 b1_0), (.str b1_1), (.str b1_2), (.int .i64 b1_3), (.int .i64 b1_4), (.int .i64 b1_5), (.int .i64 b1_6), (.int .i64 b1_7), (.int .i64 b1_8), (.str b1_9), (.str b1_10), (.int .i64 b1_11), (.int .i64 b1_12), (.list 2 b1_13)])), (2, (.box [(.bool b2_0), (.bool b2_1), (.bool b2_2), (.bool b2_3), (.bool b2_4), (.bool b2_5), (.bool b2_6), (.bool b2_7), (.bool b2_8), (.bool b2_9), (.bool b2_10), (.bool b2_11), (.bool b2_12), (.bool b2_13)])), (5, (.box [(.bool b5_0), (.bool b5_1), (.bool b5_2), (.bool b5_3), (.bool b5_4), (.bool b5_5), (.bool b5_6), (.bool b5_7), (.bool b5_8), (.bool b5_9), (.bool b5_10), (.bool b5_11), (.bool b5_12), (.bool b5_13)]))]) (plug ((bs E0 k).cfg kap ref09_fields) (retK ((bs E0 k).cfg kap ref09_fields) [] Tryz.f110 [] some) [])
noncomputable def ref09_fields_J6 (kap : FuncId → List AV → Option AV) (k : Nat) (kj : Nat) (s4 : Bool) (b1_0 : Int) (b1_1 : ByteArray) (b1_2 : ByteArray) (b1_3 : Int) (b1_4 : Int) (b1_5 : Int) (b1_6 : Int) (b1_7 : Int) (b1_8 : Int) (b1_9 : ByteArray) (b1_10 : ByteArray) (b1_11 : Int) (b1_12 : Int) (b1_13 : List AV) (b2_0 : Bool) (b2_1 : Bool) (b2_2 : Bool) (b2_3 : Bool) (b2_4 : Bool) (b2_5 : Bool) (b2_6 : Bool) (b2_7 : Bool) (b2_8 : Bool) (b2_9 : Bool) (b2_10 : Bool) (b2_11 : Bool) (b2_12 : Bool) (b2_13 : Bool) (b5_0 : Bool) (b5_1 : Bool) (b5_2 : Bool) (b5_3 : Bool) (b5_4 : Bool) (b5_5 : Bool) (b5_6 : Bool) (b5_7 : Bool) (b5_8 : Bool) (b5_9 : Bool) (b5_10 : Bool) (b5_11 : Bool) (b5_12 : Bool) (b5_13 : Bool) : Option AV :=
  gate kj fun _ => code ((bs E0 k).cfg kap ref09_fields) (sel ref09_fields_bd [1, 1, 1, 1, 1, 1, 1, 1, 1, 1, 1, 1, 1]) (mkFr 160 [(1, (.loc 1 0)), (2, (.loc 2 0)), (4, (.bool s4)), (5, (.loc 5 0))] [(1, (.box [(.int .i64 b1_0), (.str b1_1), (.str b1_2), (.int .i64 b1_3), (.int .i64 b1_4), (.int .i64 b1_5), (.int .i64 b1_6), (.int .i64 b1_7), (.int .i64 b1_8), (.str b1_9), (.str b1_10), (.int .i64 b1_11), (.int .i64 b1_12), (.list 2 b1_13)])), (2, (.box [(.bool b2_0), (.bool b2_1), (.bool b2_2), (.bool b2_3), (.bool b2_4), (.bool b2_5), (.bool b2_6), (.bool b2_7), (.bool b2_8), (.bool b2_9), (.bool b2_10), (.bool b2_11), (.bool b2_12), (.bool b2_13)])), (5, (.box [(.bool b5_0), (.bool b5_1), (.bool b5_2), (.bool b5_3), (.bool b5_4), (.bool b5_5), (.bool b5_6), (.bool b5_7), (.bool b5_8), (.bool b5_9), (.bool b5_10), (.bool b5_11), (.bool b5_12), (.bool b5_13)]))]) (plug ((bs E0 k).cfg kap ref09_fields) (retK ((bs E0 k).cfg kap ref09_fields) [] Tryz.f110 [] some) [])
noncomputable def ref09_fields_J7 (kap : FuncId → List AV → Option AV) (k : Nat) (kj : Nat) (s4 : Bool) (b1_0 : Int) (b1_1 : ByteArray) (b1_2 : ByteArray) (b1_3 : Int) (b1_4 : Int) (b1_5 : Int) (b1_6 : Int) (b1_7 : Int) (b1_8 : Int) (b1_9 : ByteArray) (b1_10 : ByteArray) (b1_11 : Int) (b1_12 : Int) (b1_13 : List AV) (b2_0 : Bool) (b2_1 : Bool) (b2_2 : Bool) (b2_3 : Bool) (b2_4 : Bool) (b2_5 : Bool) (b2_6 : Bool) (b2_7 : Bool) (b2_8 : Bool) (b2_9 : Bool) (b2_10 : Bool) (b2_11 : Bool) (b2_12 : Bool) (b2_13 : Bool) (b5_0 : Bool) (b5_1 : Bool) (b5_2 : Bool) (b5_3 : Bool) (b5_4 : Bool) (b5_5 : Bool) (b5_6 : Bool) (b5_7 : Bool) (b5_8 : Bool) (b5_9 : Bool) (b5_10 : Bool) (b5_11 : Bool) (b5_12 : Bool) (b5_13 : Bool) : Option AV :=
  gate kj fun _ => code ((bs E0 k).cfg kap ref09_fields) (sel ref09_fields_bd [1, 1, 1, 1, 1, 1, 1, 1, 1, 1, 1, 1, 1, 1]) (mkFr 160 [(1, (.loc 1 0)), (2, (.loc 2 0)), (4, (.bool s4)), (5, (.loc 5 0))] [(1, (.box [(.int .i64 b1_0), (.str b1_1), (.str b1_2), (.int .i64 b1_3), (.int .i64 b1_4), (.int .i64 b1_5), (.int .i64 b1_6), (.int .i64 b1_7), (.int .i64 b1_8), (.str b1_9), (.str b1_10), (.int .i64 b1_11), (.int .i64 b1_12), (.list 2 b1_13)])), (2, (.box [(.bool b2_0), (.bool b2_1), (.bool b2_2), (.bool b2_3), (.bool b2_4), (.bool b2_5), (.bool b2_6), (.bool b2_7), (.bool b2_8), (.bool b2_9), (.bool b2_10), (.bool b2_11), (.bool b2_12), (.bool b2_13)])), (5, (.box [(.bool b5_0), (.bool b5_1), (.bool b5_2), (.bool b5_3), (.bool b5_4), (.bool b5_5), (.bool b5_6), (.bool b5_7), (.bool b5_8), (.bool b5_9), (.bool b5_10), (.bool b5_11), (.bool b5_12), (.bool b5_13)]))]) (plug ((bs E0 k).cfg kap ref09_fields) (retK ((bs E0 k).cfg kap ref09_fields) [] Tryz.f110 [] some) [])
noncomputable def ref09_fields_J8 (kap : FuncId → List AV → Option AV) (k : Nat) (kj : Nat) (s4 : Bool) (b1_0 : Int) (b1_1 : ByteArray) (b1_2 : ByteArray) (b1_3 : Int) (b1_4 : Int) (b1_5 : Int) (b1_6 : Int) (b1_7 : Int) (b1_8 : Int) (b1_9 : ByteArray) (b1_10 : ByteArray) (b1_11 : Int) (b1_12 : Int) (b1_13 : List AV) (b2_0 : Bool) (b2_1 : Bool) (b2_2 : Bool) (b2_3 : Bool) (b2_4 : Bool) (b2_5 : Bool) (b2_6 : Bool) (b2_7 : Bool) (b2_8 : Bool) (b2_9 : Bool) (b2_10 : Bool) (b2_11 : Bool) (b2_12 : Bool) (b2_13 : Bool) (b5_0 : Bool) (b5_1 : Bool) (b5_2 : Bool) (b5_3 : Bool) (b5_4 : Bool) (b5_5 : Bool) (b5_6 : Bool) (b5_7 : Bool) (b5_8 : Bool) (b5_9 : Bool) (b5_10 : Bool) (b5_11 : Bool) (b5_12 : Bool) (b5_13 : Bool) : Option AV :=
  gate kj fun _ => code ((bs E0 k).cfg kap ref09_fields) (sel ref09_fields_bd [1, 1, 1, 1, 1, 1, 1, 1, 1, 1, 1, 1, 1, 1, 1]) (mkFr 160 [(1, (.loc 1 0)), (2, (.loc 2 0)), (4, (.bool s4)), (5, (.loc 5 0))] [(1, (.box [(.int .i64 b1_0), (.str b1_1), (.str b1_2), (.int .i64 b1_3), (.int .i64 b1_4), (.int .i64 b1_5), (.int .i64 b1_6), (.int .i64 b1_7), (.int .i64 b1_8), (.str b1_9), (.str b1_10), (.int .i64 b1_11), (.int .i64 b1_12), (.list 2 b1_13)])), (2, (.box [(.bool b2_0), (.bool b2_1), (.bool b2_2), (.bool b2_3), (.bool b2_4), (.bool b2_5), (.bool b2_6), (.bool b2_7), (.bool b2_8), (.bool b2_9), (.bool b2_10), (.bool b2_11), (.bool b2_12), (.bool b2_13)])), (5, (.box [(.bool b5_0), (.bool b5_1), (.bool b5_2), (.bool b5_3), (.bool b5_4), (.bool b5_5), (.bool b5_6), (.bool b5_7), (.bool b5_8), (.bool b5_9), (.bool b5_10), (.bool b5_11), (.bool b5_12), (.bool b5_13)]))]) (plug ((bs E0 k).cfg kap ref09_fields) (retK ((bs E0 k).cfg kap ref09_fields) [] Tryz.f110 [] some) [])
noncomputable def ref09_fields_J9 (kap : FuncId → List AV → Option AV) (k : Nat) (kj : Nat) (b1_0 : Int) (b1_1 : ByteArray) (b1_2 : ByteArray) (b1_3 : Int) (b1_4 : Int) (b1_5 : Int) (b1_6 : Int) (b1_7 : Int) (b1_8 : Int) (b1_9 : ByteArray) (b1_10 : ByteArray) (b1_11 : Int) (b1_12 : Int) (b1_13 : List AV) (b2_0 : Bool) (b2_1 : Bool) (b2_2 : Bool) (b2_3 : Bool) (b2_4 : Bool) (b2_5 : Bool) (b2_6 : Bool) (b2_7 : Bool) (b2_8 : Bool) (b2_9 : Bool) (b2_10 : Bool) (b2_11 : Bool) (b2_12 : Bool) (b2_13 : Bool) (b5_0 : Bool) (b5_1 : Bool) (b5_2 : Bool) (b5_3 : Bool) (b5_4 : Bool) (b5_5 : Bool) (b5_6 : Bool) (b5_7 : Bool) (b5_8 : Bool) (b5_9 : Bool) (b5_10 : Bool) (b5_11 : Bool) (b5_12 : Bool) (b5_13 : Bool) : Option AV :=
  gate kj fun _ => code ((bs E0 k).cfg kap ref09_fields) (sel ref09_fields_bd [1, 1, 1, 1, 1, 1, 1, 1, 1, 1, 1, 1, 1, 1, 1, 1]) (mkFr 160 [(1, (.loc 1 0)), (2, (.loc 2 0)), (5, (.loc 5 0))] [(1, (.box [(.int .i64 b1_0), (.str b1_1), (.str b1_2), (.int .i64 b1_3), (.int .i64 b1_4), (.int .i64 b1_5), (.int .i64 b1_6), (.int .i64 b1_7), (.int .i64 b1_8), (.str b1_9), (.str b1_10), (.int .i64 b1_11), (.int .i64 b1_12), (.list 2 b1_13)])), (2, (.box [(.bool b2_0), (.bool b2_1), (.bool b2_2), (.bool b2_3), (.bool b2_4), (.bool b2_5), (.bool b2_6), (.bool b2_7), (.bool b2_8), (.bool b2_9), (.bool b2_10), (.bool b2_11), (.bool b2_12), (.bool b2_13)])), (5, (.box [(.bool b5_0), (.bool b5_1), (.bool b5_2), (.bool b5_3), (.bool b5_4), (.bool b5_5), (.bool b5_6), (.bool b5_7), (.bool b5_8), (.bool b5_9), (.bool b5_10), (.bool b5_11), (.bool b5_12), (.bool b5_13)]))]) (plug ((bs E0 k).cfg kap ref09_fields) (retK ((bs E0 k).cfg kap ref09_fields) [] Tryz.f110 [] some) [])
noncomputable def ref09_fields_L10 (kap : FuncId → List AV → Option AV) (k : Nat) (k10 : Nat) (s6 : Int) (b1_0 : Int) (b1_1 : ByteArray) (b1_2 : ByteArray) (b1_3 : Int) (b1_4 : Int) (b1_5 : Int) (b1_6 : Int) (b1_7 : Int) (b1_8 : Int) (b1_9 : ByteArray) (b1_10 : ByteArray) (b1_11 : Int) (b1_12 : Int) (b1_13 : List AV) (b2_0 : Bool) (b2_1 : Bool) (b2_2 : Bool) (b2_3 : Bool) (b2_4 : Bool) (b2_5 : Bool) (b2_6 : Bool) (b2_7 : Bool) (b2_8 : Bool) (b2_9 : Bool) (b2_10 : Bool) (b2_11 : Bool) (b2_12 : Bool) (b2_13 : Bool) (b5_0 : Bool) (b5_1 : Bool) (b5_2 : Bool) (b5_3 : Bool) (b5_4 : Bool) (b5_5 : Bool) (b5_6 : Bool) (b5_7 : Bool) (b5_8 : Bool) (b5_9 : Bool) (b5_10 : Bool) (b5_11 : Bool) (b5_12 : Bool) (b5_13 : Bool) : Option AV :=
  loop (fun fr K => code ((bs E0 k).cfg kap ref09_fields) (sel ref09_fields_bd [1, 1, 1, 1, 1, 1, 1, 1, 1, 1, 1, 1, 1, 1, 1, 1, 1, 0, 1, 0, 0]) fr K) (canon ((bs E0 k).cfg kap ref09_fields) (firstReg (sel ref09_fields_bd [1, 1, 1, 1, 1, 1, 1, 1, 1, 1, 1, 1, 1, 1, 1, 1, 1, 0, 1, 0, 0]))) k10 (mkFr 160 [(1, (.loc 1 0)), (2, (.loc 2 0)), (5, (.loc 5 0)), (6, (.int .i64 s6))] [(1, (.box [(.int .i64 b1_0), (.str b1_1), (.str b1_2), (.int .i64 b1_3), (.int .i64 b1_4), (.int .i64 b1_5), (.int .i64 b1_6), (.int .i64 b1_7), (.int .i64 b1_8), (.str b1_9), (.str b1_10), (.int .i64 b1_11), (.int .i64 b1_12), (.list 2 b1_13)])), (2, (.box [(.bool b2_0), (.bool b2_1), (.bool b2_2), (.bool b2_3), (.bool b2_4), (.bool b2_5), (.bool b2_6), (.bool b2_7), (.bool b2_8), (.bool b2_9), (.bool b2_10), (.bool b2_11), (.bool b2_12), (.bool b2_13)])), (5, (.box [(.bool b5_0), (.bool b5_1), (.bool b5_2), (.bool b5_3), (.bool b5_4), (.bool b5_5), (.bool b5_6), (.bool b5_7), (.bool b5_8), (.bool b5_9), (.bool b5_10), (.bool b5_11), (.bool b5_12), (.bool b5_13)]))]) (plug ((bs E0 k).cfg kap ref09_fields) (retK ((bs E0 k).cfg kap ref09_fields) [] Tryz.f110 [] some) [.blk 0, .seqR (sel ref09_fields_bd [1, 1, 1, 1, 1, 1, 1, 1, 1, 1, 1, 1, 1, 1, 1, 1, 1, 1])])
theorem ref09_fields_J0_s (kap : FuncId → List AV → Option AV) (k : Nat) (kj : Nat) (s3 : Bool) (b1_0 : Int) (b1_1 : ByteArray) (b1_2 : ByteArray) (b1_3 : Int) (b1_4 : Int) (b1_5 : Int) (b1_6 : Int) (b1_7 : Int) (b1_8 : Int) (b1_9 : ByteArray) (b1_10 : ByteArray) (b1_11 : Int) (b1_12 : Int) (b1_13 : List AV) (b2_0 : Bool) (b2_1 : Bool) (b2_2 : Bool) (b2_3 : Bool) (b2_4 : Bool) (b2_5 : Bool) (b2_6 : Bool) (b2_7 : Bool) (b2_8 : Bool) (b2_9 : Bool) (b2_10 : Bool) (b2_11 : Bool) (b2_12 : Bool) (b2_13 : Bool) : ref09_fields_J0 kap k (kj + 1) s3 b1_0 b1_1 b1_2 b1_3 b1_4 b1_5 b1_6 b1_7 b1_8 b1_9 b1_10 b1_11 b1_12 b1_13 b2_0 b2_1 b2_2 b2_3 b2_4 b2_5 b2_6 b2_7 b2_8 b2_9 b2_10 b2_11 b2_12 b2_13 =
  (bif (decide (b1_0 = (4 : Int))) then (ref09_fields_J1 kap k k s3 true b1_0 b1_1 b1_2 b1_3 b1_4 b1_5 b1_6 b1_7 b1_8 b1_9 b1_10 b1_11 b1_12 b1_13 b2_0 b2_1 b2_2 b2_3 b2_4 b2_5 b2_6 b2_7 b2_8 b2_9 b2_10 b2_11 b2_12 b2_13) else (ref09_fields_J1 kap k k s3 (decide (b1_0 = (5 : Int))) b1_0 b1_1 b1_2 b1_3 b1_4 b1_5 b1_6 b1_7 b1_8 b1_9 b1_10 b1_11 b1_12 b1_13 b2_0 b2_1 b2_2 b2_3 b2_4 b2_5 b2_6 b2_7 b2_8 b2_9 b2_10 b2_11 b2_12 b2_13)) := by kernel_rfl
theorem ref09_fields_J1_s (kap : FuncId → List AV → Option AV) (k : Nat) (kj : Nat) (s3 : Bool) (s4 : Bool) (b1_0 : Int) (b1_1 : ByteArray) (b1_2 : ByteArray) (b1_3 : Int) (b1_4 : Int) (b1_5 : Int) (b1_6 : Int) (b1_7 : Int) (b1_8 : Int) (b1_9 : ByteArray) (b1_10 : ByteArray) (b1_11 : Int) (b1_12 : Int) (b1_13 : List AV) (b2_0 : Bool) (b2_1 : Bool) (b2_2 : Bool) (b2_3 : Bool) (b2_4 : Bool) (b2_5 : Bool) (b2_6 : Bool) (b2_7 : Bool) (b2_8 : Bool) (b2_9 : Bool) (b2_10 : Bool) (b2_11 : Bool) (b2_12 : Bool) (b2_13 : Bool) : ref09_fields_J1 kap k (kj + 1) s3 s4 b1_0 b1_1 b1_2 b1_3 b1_4 b1_5 b1_6 b1_7 b1_8 b1_9 b1_10 b1_11 b1_12 b1_13 b2_0 b2_1 b2_2 b2_3 b2_4 b2_5 b2_6 b2_7 b2_8 b2_9 b2_10 b2_11 b2_12 b2_13 =
  (bif (decide (b1_0 ≥ (1 : Int))) then (ref09_fields_J2 kap k k s3 s4 b1_0 b1_1 b1_2 b1_3 b1_4 b1_5 b1_6 b1_7 b1_8 b1_9 b1_10 b1_11 b1_12 b1_13 b2_0 b2_1 b2_2 b2_3 b2_4 b2_5 b2_6 b2_7 b2_8 b2_9 b2_10 b2_11 b2_12 b2_13 false (decide (b1_0 ≤ (7 : Int))) false false false false false false false false false false false false) else (ref09_fields_J2 kap k k s3 s4 b1_0 b1_1 b1_2 b1_3 b1_4 b1_5 b1_6 b1_7 b1_8 b1_9 b1_10 b1_11 b1_12 b1_13 b2_0 b2_1 b2_2 b2_3 b2_4 b2_5 b2_6 b2_7 b2_8 b2_9 b2_10 b2_11 b2_12 b2_13 false false false false false false false false false false false false false false)) := by kernel_rfl
theorem ref09_fields_J2_s (kap : FuncId → List AV → Option AV) (k : Nat) (kj : Nat) (s3 : Bool) (s4 : Bool) (b1_0 : Int) (b1_1 : ByteArray) (b1_2 : ByteArray) (b1_3 : Int) (b1_4 : Int) (b1_5 : Int) (b1_6 : Int) (b1_7 : Int) (b1_8 : Int) (b1_9 : ByteArray) (b1_10 : ByteArray) (b1_11 : Int) (b1_12 : Int) (b1_13 : List AV) (b2_0 : Bool) (b2_1 : Bool) (b2_2 : Bool) (b2_3 : Bool) (b2_4 : Bool) (b2_5 : Bool) (b2_6 : Bool) (b2_7 : Bool) (b2_8 : Bool) (b2_9 : Bool) (b2_10 : Bool) (b2_11 : Bool) (b2_12 : Bool) (b2_13 : Bool) (b5_0 : Bool) (b5_1 : Bool) (b5_2 : Bool) (b5_3 : Bool) (b5_4 : Bool) (b5_5 : Bool) (b5_6 : Bool) (b5_7 : Bool) (b5_8 : Bool) (b5_9 : Bool) (b5_10 : Bool) (b5_11 : Bool) (b5_12 : Bool) (b5_13 : Bool) : ref09_fields_J2 kap k (kj + 1) s3 s4 b1_0 b1_1 b1_2 b1_3 b1_4 b1_5 b1_6 b1_7 b1_8 b1_9 b1_10 b1_11 b1_12 b1_13 b2_0 b2_1 b2_2 b2_3 b2_4 b2_5 b2_6 b2_7 b2_8 b2_9 b2_10 b2_11 b2_12 b2_13 b5_0 b5_1 b5_2 b5_3 b5_4 b5_5 b5_6 b5_7 b5_8 b5_9 b5_10 b5_11 b5_12 b5_13 =
  (callB (kap ref09_name [(.str b1_1)]) fun vq2 => (bif vq2 then (bif (decide (b1_0 = (1 : Int))) then (callB (kap ref09_Slash [(.str b1_1)]) fun vq4 => (ref09_fields_J3 kap k k s3 s4 b1_0 b1_1 b1_2 b1_3 b1_4 b1_5 b1_6 b1_7 b1_8 b1_9 b1_10 b1_11 b1_12 b1_13 b2_0 b2_1 b2_2 b2_3 b2_4 b2_5 b2_6 b2_7 b2_8 b2_9 b2_10 b2_11 b2_12 b2_13 b5_0 b5_1 (!vq4) b5_3 b5_4 b5_5 b5_6 b5_7 b5_8 b5_9 b5_10 b5_11 b5_12 b5_13)) else (ref09_fields_J3 kap k k s3 s4 b1_0 b1_1 b1_2 b1_3 b1_4 b1_5 b1_6 b1_7 b1_8 b1_9 b1_10 b1_11 b1_12 b1_13 b2_0 b2_1 b2_2 b2_3 b2_4 b2_5 b2_6 b2_7 b2_8 b2_9 b2_10 b2_11 b2_12 b2_13 b5_0 b5_1 true b5_3 b5_4 b5_5 b5_6 b5_7 b5_8 b5_9 b5_10 b5_11 b5_12 b5_13)) else (ref09_fields_J3 kap k k s3 s4 b1_0 b1_1 b1_2 b1_3 b1_4 b1_5 b1_6 b1_7 b1_8 b1_9 b1_10 b1_11 b1_12 b1_13 b2_0 b2_1 b2_2 b2_3 b2_4 b2_5 b2_6 b2_7 b2_8 b2_9 b2_10 b2_11 b2_12 b2_13 b5_0 b5_1 false b5_3 b5_4 b5_5 b5_6 b5_7 b5_8 b5_9 b5_10 b5_11 b5_12 b5_13))) := by kernel_rfl
theorem ref09_fields_J3_s (kap : FuncId → List AV → Option AV) (k : Nat) (kj : Nat) (s3 : Bool) (s4 : Bool) (b1_0 : Int) (b1_1 : ByteArray) (b1_2 : ByteArray) (b1_3 : Int) (b1_4 : Int) (b1_5 : Int) (b1_6 : Int) (b1_7 : Int) (b1_8 : Int) (b1_9 : ByteArray) (b1_10 : ByteArray) (b1_11 : Int) (b1_12 : Int) (b1_13 : List AV) (b2_0 : Bool) (b2_1 : Bool) (b2_2 : Bool) (b2_3 : Bool) (b2_4 : Bool) (b2_5 : Bool) (b2_6 : Bool) (b2_7 : Bool) (b2_8 : Bool) (b2_9 : Bool) (b2_10 : Bool) (b2_11 : Bool) (b2_12 : Bool) (b2_13 : Bool) (b5_0 : Bool) (b5_1 : Bool) (b5_2 : Bool) (b5_3 : Bool) (b5_4 : Bool) (b5_5 : Bool) (b5_6 : Bool) (b5_7 : Bool) (b5_8 : Bool) (b5_9 : Bool) (b5_10 : Bool) (b5_11 : Bool) (b5_12 : Bool) (b5_13 : Bool) : ref09_fields_J3 kap k (kj + 1) s3 s4 b1_0 b1_1 b1_2 b1_3 b1_4 b1_5 b1_6 b1_7 b1_8 b1_9 b1_10 b1_11 b1_12 b1_13 b2_0 b2_1 b2_2 b2_3 b2_4 b2_5 b2_6 b2_7 b2_8 b2_9 b2_10 b2_11 b2_12 b2_13 b5_0 b5_1 b5_2 b5_3 b5_4 b5_5 b5_6 b5_7 b5_8 b5_9 b5_10 b5_11 b5_12 b5_13 =
  (bif s3 then (callB (kap ref09_name [(.str b1_2)]) fun vq6 => (bif vq6 then (ref09_fields_J4 kap k k s4 b1_0 b1_1 b1_2 b1_3 b1_4 b1_5 b1_6 b1_7 b1_8 b1_9 b1_10 b1_11 b1_12 b1_13 b2_0 b2_1 b2_2 b2_3 b2_4 b2_5 b2_6 b2_7 b2_8 b2_9 b2_10 b2_11 b2_12 b2_13 b5_0 b5_1 b5_2 true b5_4 b5_5 b5_6 b5_7 b5_8 b5_9 b5_10 b5_11 b5_12 b5_13) else (bif (!s3) then (ref09_fields_J4 kap k k s4 b1_0 b1_1 b1_2 b1_3 b1_4 b1_5 b1_6 b1_7 b1_8 b1_9 b1_10 b1_11 b1_12 b1_13 b2_0 b2_1 b2_2 b2_3 b2_4 b2_5 b2_6 b2_7 b2_8 b2_9 b2_10 b2_11 b2_12 b2_13 b5_0 b5_1 b5_2 (decide (b1_2 = (str []))) b5_4 b5_5 b5_6 b5_7 b5_8 b5_9 b5_10 b5_11 b5_12 b5_13) else (ref09_fields_J4 kap k k s4 b1_0 b1_1 b1_2 b1_3 b1_4 b1_5 b1_6 b1_7 b1_8 b1_9 b1_10 b1_11 b1_12 b1_13 b2_0 b2_1 b2_2 b2_3 b2_4 b2_5 b2_6 b2_7 b2_8 b2_9 b2_10 b2_11 b2_12 b2_13 b5_0 b5_1 b5_2 false b5_4 b5_5 b5_6 b5_7 b5_8 b5_9 b5_10 b5_11 b5_12 b5_13)))) else (bif (!s3) then (ref09_fields_J4 kap k k s4 b1_0 b1_1 b1_2 b1_3 b1_4 b1_5 b1_6 b1_7 b1_8 b1_9 b1_10 b1_11 b1_12 b1_13 b2_0 b2_1 b2_2 b2_3 b2_4 b2_5 b2_6 b2_7 b2_8 b2_9 b2_10 b2_11 b2_12 b2_13 b5_0 b5_1 b5_2 (decide (b1_2 = (str []))) b5_4 b5_5 b5_6 b5_7 b5_8 b5_9 b5_10 b5_11 b5_12 b5_13) else (ref09_fields_J4 kap k k s4 b1_0 b1_1 b1_2 b1_3 b1_4 b1_5 b1_6 b1_7 b1_8 b1_9 b1_10 b1_11 b1_12 b1_13 b2_0 b2_1 b2_2 b2_3 b2_4 b2_5 b2_6 b2_7 b2_8 b2_9 b2_10 b2_11 b2_12 b2_13 b5_0 b5_1 b5_2 false b5_4 b5_5 b5_6 b5_7 b5_8 b5_9 b5_10 b5_11 b5_12 b5_13))) := by kernel_rfl
theorem ref09_fields_J4_s (kap : FuncId → List AV → Option AV) (k : Nat) (kj : Nat) (s4 : Bool) (b1_0 : Int) (b1_1 : ByteArray) (b1_2 : ByteArray) (b1_3 : Int) (b1_4 : Int) (b1_5 : Int) (b1_6 : Int) (b1_7 : Int) (b1_8 : Int) (b1_9 : ByteArray) (b1_10 : ByteArray) (b1_11 : Int) (b1_12 : Int) (b1_13 : List AV) (b2_0 : Bool) (b2_1 : Bool) (b2_2 : Bool) (b2_3 : Bool) (b2_4 : Bool) (b2_5 : Bool) (b2_6 : Bool) (b2_7 : Bool) (b2_8 : Bool) (b2_9 : Bool) (b2_10 : Bool) (b2_11 : Bool) (b2_12 : Bool) (b2_13 : Bool) (b5_0 : Bool) (b5_1 : Bool) (b5_2 : Bool) (b5_3 : Bool) (b5_4 : Bool) (b5_5 : Bool) (b5_6 : Bool) (b5_7 : Bool) (b5_8 : Bool) (b5_9 : Bool) (b5_10 : Bool) (b5_11 : Bool) (b5_12 : Bool) (b5_13 : Bool) : ref09_fields_J4 kap k (kj + 1) s4 b1_0 b1_1 b1_2 b1_3 b1_4 b1_5 b1_6 b1_7 b1_8 b1_9 b1_10 b1_11 b1_12 b1_13 b2_0 b2_1 b2_2 b2_3 b2_4 b2_5 b2_6 b2_7 b2_8 b2_9 b2_10 b2_11 b2_12 b2_13 b5_0 b5_1 b5_2 b5_3 b5_4 b5_5 b5_6 b5_7 b5_8 b5_9 b5_10 b5_11 b5_12 b5_13 =
  (bif (decide (b1_6 = (0 : Int))) then (ref09_fields_J5 kap k k s4 b1_0 b1_1 b1_2 b1_3 b1_4 b1_5 b1_6 b1_7 b1_8 b1_9 b1_10 b1_11 b1_12 b1_13 b2_0 b2_1 b2_2 b2_3 b2_4 b2_5 b2_6 b2_7 b2_8 b2_9 b2_10 b2_11 b2_12 b2_13 b5_0 b5_1 b5_2 b5_3 (decide (b1_3 ≥ (0 : Int))) (decide (b1_4 ≥ (0 : Int))) (decide (b1_5 ≥ (0 : Int))) true b5_8 b5_9 b5_10 b5_11 b5_12 b5_13) else (bif (decide (b1_6 > (0 : Int))) then (ref09_fields_J5 kap k k s4 b1_0 b1_1 b1_2 b1_3 b1_4 b1_5 b1_6 b1_7 b1_8 b1_9 b1_10 b1_11 b1_12 b1_13 b2_0 b2_1 b2_2 b2_3 b2_4 b2_5 b2_6 b2_7 b2_8 b2_9 b2_10 b2_11 b2_12 b2_13 b5_0 b5_1 b5_2 b5_3 (decide (b1_3 ≥ (0 : Int))) (decide (b1_4 ≥ (0 : Int))) (decide (b1_5 ≥ (0 : Int))) (decide (b1_0 = (1 : Int))) b5_8 b5_9 b5_10 b5_11 b5_12 b5_13) else (ref09_fields_J5 kap k k s4 b1_0 b1_1 b1_2 b1_3 b1_4 b1_5 b1_6 b1_7 b1_8 b1_9 b1_10 b1_11 b1_12 b1_13 b2_0 b2_1 b2_2 b2_3 b2_4 b2_5 b2_6 b2_7 b2_8 b2_9 b2_10 b2_11 b2_12 b2_13 b5_0 b5_1 b5_2 b5_3 (decide (b1_3 ≥ (0 : Int))) (decide (b1_4 ≥ (0 : Int))) (decide (b1_5 ≥ (0 : Int))) false b5_8 b5_9 b5_10 b5_11 b5_12 b5_13))) := by kernel_rfl
theorem ref09_fields_J5_s (kap : FuncId → List AV → Option AV) (k : Nat) (kj : Nat) (s4 : Bool) (b1_0 : Int) (b1_1 : ByteArray) (b1_2 : ByteArray) (b1_3 : Int) (b1_4 : Int) (b1_5 : Int) (b1_6 : Int) (b1_7 : Int) (b1_8 : Int) (b1_9 : ByteArray) (b1_10 : ByteArray) (b1_11 : Int) (b1_12 : Int) (b1_13 : List AV) (b2_0 : Bool) (b2_1 : Bool) (b2_2 : Bool) (b2_3 : Bool) (b2_4 : Bool) (b2_5 : Bool) (b2_6 : Bool) (b2_7 : Bool) (b2_8 : Bool) (b2_9 : Bool) (b2_10 : Bool) (b2_11 : Bool) (b2_12 : Bool) (b2_13 : Bool) (b5_0 : Bool) (b5_1 : Bool) (b5_2 : Bool) (b5_3 : Bool) (b5_4 : Bool) (b5_5 : Bool) (b5_6 : Bool) (b5_7 : Bool) (b5_8 : Bool) (b5_9 : Bool) (b5_10 : Bool) (b5_11 : Bool) (b5_12 : Bool) (b5_13 : Bool) : ref09_fields_J5 kap k (kj + 1) s4 b1_0 b1_1 b1_2 b1_3 b1_4 b1_5 b1_6 b1_7 b1_8 b1_9 b1_10 b1_11 b1_12 b1_13 b2_0 b2_1 b2_2 b2_3 b2_4 b2_5 b2_6 b2_7 b2_8 b2_9 b2_10 b2_11 b2_12 b2_13 b5_0 b5_1 b5_2 b5_3 b5_4 b5_5 b5_6 b5_7 b5_8 b5_9 b5_10 b5_11 b5_12 b5_13 =
  (callB (kap ref04_Right [(.agg [(.int .i64 b1_7), (.int .i64 b1_8)])]) fun vq8 => (bif (decide (b1_9 = (str []))) then (ref09_fields_J6 kap k k s4 b1_0 b1_1 b1_2 b1_3 b1_4 b1_5 b1_6 b1_7 b1_8 b1_9 b1_10 b1_11 b1_12 b1_13 b2_0 b2_1 b2_2 b2_3 b2_4 b2_5 b2_6 b2_7 b2_8 b2_9 b2_10 b2_11 b2_12 b2_13 b5_0 b5_1 b5_2 b5_3 b5_4 b5_5 b5_6 b5_7 vq8 true b5_10 b5_11 b5_12 b5_13) else (callB (kap ref09_name [(.str b1_9)]) fun vq18 => (ref09_fields_J6 kap k k s4 b1_0 b1_1 b1_2 b1_3 b1_4 b1_5 b1_6 b1_7 b1_8 b1_9 b1_10 b1_11 b1_12 b1_13 b2_0 b2_1 b2_2 b2_3 b2_4 b2_5 b2_6 b2_7 b2_8 b2_9 b2_10 b2_11 b2_12 b2_13 b5_0 b5_1 b5_2 b5_3 b5_4 b5_5 b5_6 b5_7 vq8 vq18 b5_10 b5_11 b5_12 b5_13)))) := by kernel_rfl
theorem ref09_fields_J6_s (kap : FuncId → List AV → Option AV) (k : Nat) (kj : Nat) (s4 : Bool) (b1_0 : Int) (b1_1 : ByteArray) (b1_2 : ByteArray) (b1_3 : Int) (b1_4 : Int) (b1_5 : Int) (b1_6 : Int) (b1_7 : Int) (b1_8 : Int) (b1_9 : ByteArray) (b1_10 : ByteArray) (b1_11 : Int) (b1_12 : Int) (b1_13 : List AV) (b2_0 : Bool) (b2_1 : Bool) (b2_2 : Bool) (b2_3 : Bool) (b2_4 : Bool) (b2_5 : Bool) (b2_6 : Bool) (b2_7 : Bool) (b2_8 : Bool) (b2_9 : Bool) (b2_10 : Bool) (b2_11 : Bool) (b2_12 : Bool) (b2_13 : Bool) (b5_0 : Bool) (b5_1 : Bool) (b5_2 : Bool) (b5_3 : Bool) (b5_4 : Bool) (b5_5 : Bool) (b5_6 : Bool) (b5_7 : Bool) (b5_8 : Bool) (b5_9 : Bool) (b5_10 : Bool) (b5_11 : Bool) (b5_12 : Bool) (b5_13 : Bool) : ref09_fields_J6 kap k (kj + 1) s4 b1_0 b1_1 b1_2 b1_3 b1_4 b1_5 b1_6 b1_7 b1_8 b1_9 b1_10 b1_11 b1_12 b1_13 b2_0 b2_1 b2_2 b2_3 b2_4 b2_5 b2_6 b2_7 b2_8 b2_9 b2_10 b2_11 b2_12 b2_13 b5_0 b5_1 b5_2 b5_3 b5_4 b5_5 b5_6 b5_7 b5_8 b5_9 b5_10 b5_11 b5_12 b5_13 =
  (bif (decide (b1_10 = (str []))) then (ref09_fields_J7 kap k k s4 b1_0 b1_1 b1_2 b1_3 b1_4 b1_5 b1_6 b1_7 b1_8 b1_9 b1_10 b1_11 b1_12 b1_13 b2_0 b2_1 b2_2 b2_3 b2_4 b2_5 b2_6 b2_7 b2_8 b2_9 b2_10 b2_11 b2_12 b2_13 b5_0 b5_1 b5_2 b5_3 b5_4 b5_5 b5_6 b5_7 b5_8 b5_9 true b5_11 b5_12 b5_13) else (callB (kap ref09_name [(.str b1_10)]) fun vq16 => (ref09_fields_J7 kap k k s4 b1_0 b1_1 b1_2 b1_3 b1_4 b1_5 b1_6 b1_7 b1_8 b1_9 b1_10 b1_11 b1_12 b1_13 b2_0 b2_1 b2_2 b2_3 b2_4 b2_5 b2_6 b2_7 b2_8 b2_9 b2_10 b2_11 b2_12 b2_13 b5_0 b5_1 b5_2 b5_3 b5_4 b5_5 b5_6 b5_7 b5_8 b5_9 vq16 b5_11 b5_12 b5_13))) := by kernel_rfl
theorem ref09_fields_J7_s (kap : FuncId → List AV → Option AV) (k : Nat) (kj : Nat) (s4 : Bool) (b1_0 : Int) (b1_1 : ByteArray) (b1_2 : ByteArray) (b1_3 : Int) (b1_4 : Int) (b1_5 : Int) (b1_6 : Int) (b1_7 : Int) (b1_8 : Int) (b1_9 : ByteArray) (b1_10 : ByteArray) (b1_11 : Int) (b1_12 : Int) (b1_13 : List AV) (b2_0 : Bool) (b2_1 : Bool) (b2_2 : Bool) (b2_3 : Bool) (b2_4 : Bool) (b2_5 : Bool) (b2_6 : Bool) (b2_7 : Bool) (b2_8 : Bool) (b2_9 : Bool) (b2_10 : Bool) (b2_11 : Bool) (b2_12 : Bool) (b2_13 : Bool) (b5_0 : Bool) (b5_1 : Bool) (b5_2 : Bool) (b5_3 : Bool) (b5_4 : Bool) (b5_5 : Bool) (b5_6 : Bool) (b5_7 : Bool) (b5_8 : Bool) (b5_9 : Bool) (b5_10 : Bool) (b5_11 : Bool) (b5_12 : Bool) (b5_13 : Bool) : ref09_fields_J7 kap k (kj + 1) s4 b1_0 b1_1 b1_2 b1_3 b1_4 b1_5 b1_6 b1_7 b1_8 b1_9 b1_10 b1_11 b1_12 b1_13 b2_0 b2_1 b2_2 b2_3 b2_4 b2_5 b2_6 b2_7 b2_8 b2_9 b2_10 b2_11 b2_12 b2_13 b5_0 b5_1 b5_2 b5_3 b5_4 b5_5 b5_6 b5_7 b5_8 b5_9 b5_10 b5_11 b5_12 b5_13 =
  (bif (decide (b1_11 = (0 : Int))) then (ref09_fields_J8 kap k k s4 b1_0 b1_1 b1_2 b1_3 b1_4 b1_5 b1_6 b1_7 b1_8 b1_9 b1_10 b1_11 b1_12 b1_13 b2_0 b2_1 b2_2 b2_3 b2_4 b2_5 b2_6 b2_7 b2_8 b2_9 b2_10 b2_11 b2_12 b2_13 b5_0 b5_1 b5_2 b5_3 b5_4 b5_5 b5_6 b5_7 b5_8 b5_9 b5_10 true b5_12 b5_13) else (bif (decide (b1_11 > (0 : Int))) then (ref09_fields_J8 kap k k s4 b1_0 b1_1 b1_2 b1_3 b1_4 b1_5 b1_6 b1_7 b1_8 b1_9 b1_10 b1_11 b1_12 b1_13 b2_0 b2_1 b2_2 b2_3 b2_4 b2_5 b2_6 b2_7 b2_8 b2_9 b2_10 b2_11 b2_12 b2_13 b5_0 b5_1 b5_2 b5_3 b5_4 b5_5 b5_6 b5_7 b5_8 b5_9 b5_10 s4 b5_12 b5_13) else (ref09_fields_J8 kap k k s4 b1_0 b1_1 b1_2 b1_3 b1_4 b1_5 b1_6 b1_7 b1_8 b1_9 b1_10 b1_11 b1_12 b1_13 b2_0 b2_1 b2_2 b2_3 b2_4 b2_5 b2_6 b2_7 b2_8 b2_9 b2_10 b2_11 b2_12 b2_13 b5_0 b5_1 b5_2 b5_3 b5_4 b5_5 b5_6 b5_7 b5_8 b5_9 b5_10 false b5_12 b5_13))) := by kernel_rfl
theorem ref09_fields_J8_s (kap : FuncId → List AV → Option AV) (k : Nat) (kj : Nat) (s4 : Bool) (b1_0 : Int) (b1_1 : ByteArray) (b1_2 : ByteArray) (b1_3 : Int) (b1_4 : Int) (b1_5 : Int) (b1_6 : Int) (b1_7 : Int) (b1_8 : Int) (b1_9 : ByteArray) (b1_10 : ByteArray) (b1_11 : Int) (b1_12 : Int) (b1_13 : List AV) (b2_0 : Bool) (b2_1 : Bool) (b2_2 : Bool) (b2_3 : Bool) (b2_4 : Bool) (b2_5 : Bool) (b2_6 : Bool) (b2_7 : Bool) (b2_8 : Bool) (b2_9 : Bool) (b2_10 : Bool) (b2_11 : Bool) (b2_12 : Bool) (b2_13 : Bool) (b5_0 : Bool) (b5_1 : Bool) (b5_2 : Bool) (b5_3 : Bool) (b5_4 : Bool) (b5_5 : Bool) (b5_6 : Bool) (b5_7 : Bool) (b5_8 : Bool) (b5_9 : Bool) (b5_10 : Bool) (b5_11 : Bool) (b5_12 : Bool) (b5_13 : Bool) : ref09_fields_J8 kap k (kj + 1) s4 b1_0 b1_1 b1_2 b1_3 b1_4 b1_5 b1_6 b1_7 b1_8 b1_9 b1_10 b1_11 b1_12 b1_13 b2_0 b2_1 b2_2 b2_3 b2_4 b2_5 b2_6 b2_7 b2_8 b2_9 b2_10 b2_11 b2_12 b2_13 b5_0 b5_1 b5_2 b5_3 b5_4 b5_5 b5_6 b5_7 b5_8 b5_9 b5_10 b5_11 b5_12 b5_13 =
  (bif (decide (b1_12 = (0 : Int))) then (ref09_fields_J9 kap k k b1_0 b1_1 b1_2 b1_3 b1_4 b1_5 b1_6 b1_7 b1_8 b1_9 b1_10 b1_11 b1_12 b1_13 b2_0 b2_1 b2_2 b2_3 b2_4 b2_5 b2_6 b2_7 b2_8 b2_9 b2_10 b2_11 b2_12 b2_13 b5_0 b5_1 b5_2 b5_3 b5_4 b5_5 b5_6 b5_7 b5_8 b5_9 b5_10 b5_11 true b5_13) else (bif (decide (b1_12 > (0 : Int))) then (ref09_fields_J9 kap k k b1_0 b1_1 b1_2 b1_3 b1_4 b1_5 b1_6 b1_7 b1_8 b1_9 b1_10 b1_11 b1_12 b1_13 b2_0 b2_1 b2_2 b2_3 b2_4 b2_5 b2_6 b2_7 b2_8 b2_9 b2_10 b2_11 b2_12 b2_13 b5_0 b5_1 b5_2 b5_3 b5_4 b5_5 b5_6 b5_7 b5_8 b5_9 b5_10 b5_11 s4 b5_13) else (ref09_fields_J9 kap k k b1_0 b1_1 b1_2 b1_3 b1_4 b1_5 b1_6 b1_7 b1_8 b1_9 b1_10 b1_11 b1_12 b1_13 b2_0 b2_1 b2_2 b2_3 b2_4 b2_5 b2_6 b2_7 b2_8 b2_9 b2_10 b2_11 b2_12 b2_13 b5_0 b5_1 b5_2 b5_3 b5_4 b5_5 b5_6 b5_7 b5_8 b5_9 b5_10 b5_11 false b5_13))) := by kernel_rfl
theorem ref09_fields_J9_s (kap : FuncId → List AV → Option AV) (k : Nat) (kj : Nat) (b1_0 : Int) (b1_1 : ByteArray) (b1_2 : ByteArray) (b1_3 : Int) (b1_4 : Int) (b1_5 : Int) (b1_6 : Int) (b1_7 : Int) (b1_8 : Int) (b1_9 : ByteArray) (b1_10 : ByteArray) (b1_11 : Int) (b1_12 : Int) (b1_13 : List AV) (b2_0 : Bool) (b2_1 : Bool) (b2_2 : Bool) (b2_3 : Bool) (b2_4 : Bool) (b2_5 : Bool) (b2_6 : Bool) (b2_7 : Bool) (b2_8 : Bool) (b2_9 : Bool) (b2_10 : Bool) (b2_11 : Bool) (b2_12 : Bool) (b2_13 : Bool) (b5_0 : Bool) (b5_1 : Bool) (b5_2 : Bool) (b5_3 : Bool) (b5_4 : Bool) (b5_5 : Bool) (b5_6 : Bool) (b5_7 : Bool) (b5_8 : Bool) (b5_9 : Bool) (b5_10 : Bool) (b5_11 : Bool) (b5_12 : Bool) (b5_13 : Bool) : ref09_fields_J9 kap k (kj + 1) b1_0 b1_1 b1_2 b1_3 b1_4 b1_5 b1_6 b1_7 b1_8 b1_9 b1_10 b1_11 b1_12 b1_13 b2_0 b2_1 b2_2 b2_3 b2_4 b2_5 b2_6 b2_7 b2_8 b2_9 b2_10 b2_11 b2_12 b2_13 b5_0 b5_1 b5_2 b5_3 b5_4 b5_5 b5_6 b5_7 b5_8 b5_9 b5_10 b5_11 b5_12 b5_13 =
  (callB (kap ref08_Right [(.list 2 b1_13)]) fun vq10 => (ref09_fields_L10 kap k k (0 : Int) b1_0 b1_1 b1_2 b1_3 b1_4 b1_5 b1_6 b1_7 b1_8 b1_9 b1_10 b1_11 b1_12 b1_13 b2_0 b2_1 b2_2 b2_3 b2_4 b2_5 b2_6 b2_7 b2_8 b2_9 b2_10 b2_11 b2_12 b2_13 b5_0 b5_1 b5_2 b5_3 b5_4 b5_5 b5_6 b5_7 b5_8 b5_9 b5_10 b5_11 b5_12 vq10)) := by kernel_rfl
theorem ref09_fields_L10_s (kap : FuncId → List AV → Option AV) (k : Nat) (k10 : Nat) (s6 : Int) (b1_0 : Int) (b1_1 : ByteArray) (b1_2 : ByteArray) (b1_3 : Int) (b1_4 : Int) (b1_5 : Int) (b1_6 : Int) (b1_7 : Int) (b1_8 : Int) (b1_9 : ByteArray) (b1_10 : ByteArray) (b1_11 : Int) (b1_12 : Int) (b1_13 : List AV) (b2_0 : Bool) (b2_1 : Bool) (b2_2 : Bool) (b2_3 : Bool) (b2_4 : Bool) (b2_5 : Bool) (b2_6 : Bool) (b2_7 : Bool) (b2_8 : Bool) (b2_9 : Bool) (b2_10 : Bool) (b2_11 : Bool) (b2_12 : Bool) (b2_13 : Bool) (b5_0 : Bool) (b5_1 : Bool) (b5_2 : Bool) (b5_3 : Bool) (b5_4 : Bool) (b5_5 : Bool) (b5_6 : Bool) (b5_7 : Bool) (b5_8 : Bool) (b5_9 : Bool) (b5_10 : Bool) (b5_11 : Bool) (b5_12 : Bool) (b5_13 : Bool) : ref09_fields_L10 kap k (k10 + 1) s6 b1_0 b1_1 b1_2 b1_3 b1_4 b1_5 b1_6 b1_7 b1_8 b1_9 b1_10 b1_11 b1_12 b1_13 b2_0 b2_1 b2_2 b2_3 b2_4 b2_5 b2_6 b2_7 b2_8 b2_9 b2_10 b2_11 b2_12 b2_13 b5_0 b5_1 b5_2 b5_3 b5_4 b5_5 b5_6 b5_7 b5_8 b5_9 b5_10 b5_11 b5_12 b5_13 =
  (bif (decide (s6 < (((List.length b1_13) : Nat) : Int))) then (bif b5_13 then (bif ((decide ((0 : Int) ≤ s6)) && (decide (s6 < (((List.length b1_13) : Nat) : Int)))) then ((b1_13[(Int.toNat s6)]?).bind fun vy11 => (cellS (AV.cells vy11) 0 fun vs12 => (callI .i64 (kap ref07_Which [(.str vs12)]) fun vn14 => (ref09_fields_L10 kap k k10 (IntKind.wrap .i64 (s6 + (1 : Int))) b1_0 b1_1 b1_2 b1_3 b1_4 b1_5 b1_6 b1_7 b1_8 b1_9 b1_10 b1_11 b1_12 b1_13 b2_0 b2_1 b2_2 b2_3 b2_4 b2_5 b2_6 b2_7 b2_8 b2_9 b2_10 b2_11 b2_12 b2_13 b5_0 b5_1 b5_2 b5_3 b5_4 b5_5 b5_6 b5_7 b5_8 b5_9 b5_10 b5_11 b5_12 (decide (vn14 < (0 : Int))))))) else none) else (ref09_fields_L10 kap k k10 (IntKind.wrap .i64 (s6 + (1 : Int))) b1_0 b1_1 b1_2 b1_3 b1_4 b1_5 b1_6 b1_7 b1_8 b1_9 b1_10 b1_11 b1_12 b1_13 b2_0 b2_1 b2_2 b2_3 b2_4 b2_5 b2_6 b2_7 b2_8 b2_9 b2_10 b2_11 b2_12 b2_13 b5_0 b5_1 b5_2 b5_3 b5_4 b5_5 b5_6 b5_7 b5_8 b5_9 b5_10 b5_11 b5_12 false)) else (some (.agg [(.bool b5_0), (.bool b5_1), (.bool b5_2), (.bool b5_3), (.bool b5_4), (.bool b5_5), (.bool b5_6), (.bool b5_7), (.bool b5_8), (.bool b5_9), (.bool b5_10), (.bool b5_11), (.bool b5_12), (.bool b5_13)]))) := by kernel_rfl
theorem ref09_fields_eq {E : Ext} [Core E] (k n : Nat) (a0_0 : Int) (a0_1 : ByteArray) (a0_2 : ByteArray) (a0_3 : Int) (a0_4 : Int) (a0_5 : Int) (a0_6 : Int) (a0_7 : Int) (a0_8 : Int) (a0_9 : ByteArray) (a0_10 : ByteArray) (a0_11 : Int) (a0_12 : Int) (a0_13 : List AV) : kp E k (n + 1) ref09_fields [(.agg [(.int .i64 a0_0), (.str a0_1), (.str a0_2), (.int .i64 a0_3), (.int .i64 a0_4), (.int .i64 a0_5), (.int .i64 a0_6), (.int .i64 a0_7), (.int .i64 a0_8), (.str a0_9), (.str a0_10), (.int .i64 a0_11), (.int .i64 a0_12), (.list 2 a0_13)])] =
  (bif (decide (a0_0 = (2 : Int))) then (ref09_fields_J0 (kp E k n) k k true a0_0 a0_1 a0_2 a0_3 a0_4 a0_5 a0_6 a0_7 a0_8 a0_9 a0_10 a0_11 a0_12 a0_13 false false false false false false false false false false false false false false) else (ref09_fields_J0 (kp E k n) k k (decide (a0_0 = (3 : Int))) a0_0 a0_1 a0_2 a0_3 a0_4 a0_5 a0_6 a0_7 a0_8 a0_9 a0_10 a0_11 a0_12 a0_13 false false false false false false false false false false false false false false)) := (kp_at (by kernel_rfl)).trans (by kernel_rfl)
/- oakum/oakumref02.Quote -/
noncomputable def ref02_Quote_bd : Code := Tryz.f113.body.getD .skip
noncomputable def ref02_Quote_L0 (kap : FuncId → List AV → Option AV) (k : Nat) (k0 : Nat) (s0 : ByteArray) (s3 : ByteArray) (s4 : Int) : Option AV :=
  loop (fun fr K => code ((bs E0 k).cfg kap ref02_Quote) (sel ref02_Quote_bd [1, 1, 0, 1, 0, 0]) fr K) (canon ((bs E0 k).cfg kap ref02_Quote) (firstReg (sel ref02_Quote_bd [1, 1, 0, 1, 0, 0]))) k0 (mkFr 29 [(0, (.str s0)), (3, (.str s3)), (4, (.int .i64 s4))] []) (plug ((bs E0 k).cfg kap ref02_Quote) (retK ((bs E0 k).cfg kap ref02_Quote) [] Tryz.f113 [] some) [.blk 0, .seqR (sel ref02_Quote_bd [1, 1, 1])])
theorem ref02_Quote_L0_s (kap : FuncId → List AV → Option AV) (k : Nat) (k0 : Nat) (s0 : ByteArray) (s3 : ByteArray) (s4 : Int) : ref02_Quote_L0 kap k (k0 + 1) s0 s3 s4 =
  (bif (decide (s4 < (((ByteArray.size s0) : Nat) : Int))) then (bif ((decide ((0 : Int) ≤ s4)) && (decide (s4 < (((ByteArray.size s0) : Nat) : Int)))) then (callB (kap ref02_open [(.int .u8 (byteAt s0 (Int.toNat s4)))]) fun vq2 => (bif vq2 then (bif ((decide ((0 : Int) ≤ (IntKind.wrap .i64 (s4 + (1 : Int))))) && (decide ((IntKind.wrap .i64 (s4 + (1 : Int))) ≤ (((ByteArray.size s0) : Nat) : Int)))) then (bif ((decide ((0 : Int) ≤ s4)) && (decide (s4 ≤ (((Int.toNat (IntKind.wrap .i64 (s4 + (1 : Int)))) : Nat) : Int)))) then (bif (decide ((ByteArray.size s3) + (ByteArray.size (ByteArray.extract s0 (Int.toNat s4) (Int.toNat (IntKind.wrap .i64 (s4 + (1 : Int)))))) ≤ 9223372036854775807)) then (ref02_Quote_L0 kap k k0 s0 (s3 ++ (ByteArray.extract s0 (Int.toNat s4) (Int.toNat (IntKind.wrap .i64 (s4 + (1 : Int)))))) (IntKind.wrap .i64 (s4 + (1 : Int)))) else none) else none) else none) else (bif ((decide ((0 : Int) ≤ s4)) && (decide (s4 < (((ByteArray.size s0) : Nat) : Int)))) then (callS (kap ref02_code [(.int .u8 (byteAt s0 (Int.toNat s4)))]) fun vs4 => (bif (decide ((ByteArray.size s3) + (ByteArray.size vs4) ≤ 9223372036854775807)) then (ref02_Quote_L0 kap k k0 s0 (s3 ++ vs4) (IntKind.wrap .i64 (s4 + (1 : Int)))) else none)) else none))) else none) else (some (.str s3))) := by kernel_rfl
theorem ref02_Quote_eq {E : Ext} [Core E] (k n : Nat) (a0 : ByteArray) : kp E k (n + 1) ref02_Quote [(.str a0)] =
  (ref02_Quote_L0 (kp E k n) k k a0 (str []) (0 : Int)) := (kp_at (by kernel_rfl)).trans (by kernel_rfl)
/- oakum/oakumref02.Rest -/
/- oakum/oakumref01.Same -/
/- oakum/oakumref05.Ends -/
noncomputable def ref05_Ends_bd : Code := Tryz.f134.body.getD .skip
noncomputable def ref05_Ends_L0 (kap : FuncId → List AV → Option AV) (k : Nat) (k0 : Nat) (s0 : ByteArray) (s4 : Int) (x3 : List AV) : Option AV :=
  loop (fun fr K => code ((bs E0 k).cfg kap ref05_Ends) (sel ref05_Ends_bd [1, 1, 0, 1, 0, 0]) fr K) (canon ((bs E0 k).cfg kap ref05_Ends) (firstReg (sel ref05_Ends_bd [1, 1, 0, 1, 0, 0]))) k0 (mkFr 30 [(0, (.str s0)), (3, (.own 3)), (4, (.int .i64 s4))] [(3, (.row 3 x3 false))]) (plug ((bs E0 k).cfg kap ref05_Ends) (retK ((bs E0 k).cfg kap ref05_Ends) [] Tryz.f134 [] some) [.blk 0, .seqR (sel ref05_Ends_bd [1, 1, 1])])
theorem ref05_Ends_L0_s (kap : FuncId → List AV → Option AV) (k : Nat) (k0 : Nat) (s0 : ByteArray) (s4 : Int) (x3 : List AV) : ref05_Ends_L0 kap k (k0 + 1) s0 s4 x3 =
  (bif (decide (s4 < (((ByteArray.size s0) : Nat) : Int))) then (callI .i64 (kap ref05_size [(.str s0), (.int .i64 s4)]) fun vn2 => (bif (decide (vn2 = (0 : Int))) then (bif (decide (((List.length x3) + 1) * 8 ≤ 140737488355328) && decide (((List.length x3) + 1) ≤ 9223372036854775807)) then (ref05_Ends_L0 kap k k0 s0 (IntKind.wrap .i64 (s4 + (1 : Int))) (x3 ++ [(.int .i64 (IntKind.wrap .i64 (0 - (IntKind.wrap .i64 (s4 + (1 : Int))))))])) else none) else (bif (decide (((List.length x3) + 1) * 8 ≤ 140737488355328) && decide (((List.length x3) + 1) ≤ 9223372036854775807)) then (ref05_Ends_L0 kap k k0 s0 (IntKind.wrap .i64 (s4 + vn2)) (x3 ++ [(.int .i64 (IntKind.wrap .i64 (s4 + vn2)))])) else none))) else (some (.list 1 x3))) := by kernel_rfl
theorem ref05_Ends_eq {E : Ext} [Core E] (k n : Nat) (a0 : ByteArray) : kp E k (n + 1) ref05_Ends [(.str a0)] =
  (ref05_Ends_L0 (kp E k n) k k a0 (0 : Int) []) := (kp_at (by kernel_rfl)).trans (by kernel_rfl)
/- oakum/oakumref02.Get -/
noncomputable def ref02_Get_bd : Code := Tryz.f135.body.getD .skip
noncomputable def ref02_Get_L0 (kap : FuncId → List AV → Option AV) (k : Nat) (k0 : Nat) (s0 : List AV) (s4 : Int) (x3 : List AV) : Option AV :=
  loop (fun fr K => code ((bs E0 k).cfg kap ref02_Get) (sel ref02_Get_bd [1, 1, 0, 1, 0, 0]) fr K) (canon ((bs E0 k).cfg kap ref02_Get) (firstReg (sel ref02_Get_bd [1, 1, 0, 1, 0, 0]))) k0 (mkFr 28 [(0, (.list 1 s0)), (3, (.own 3)), (4, (.int .i64 s4))] [(3, (.row 5 x3 false))]) (plug ((bs E0 k).cfg kap ref02_Get) (retK ((bs E0 k).cfg kap ref02_Get) [] Tryz.f135 [] some) [.blk 0, .seqR (sel ref02_Get_bd [1, 1, 1])])
theorem ref02_Get_L0_s (kap : FuncId → List AV → Option AV) (k : Nat) (k0 : Nat) (s0 : List AV) (s4 : Int) (x3 : List AV) : ref02_Get_L0 kap k (k0 + 1) s0 s4 x3 =
  (bif (decide (s4 < (((List.length s0) : Nat) : Int))) then (bif ((decide ((0 : Int) ≤ s4)) && (decide (s4 < (((List.length s0) : Nat) : Int)))) then ((s0[(Int.toNat s4)]?).bind fun vy1 => (cellI .u8 (AV.cells vy1) 0 fun vn2 => (bif (!(decide (vn2 = (0 : Int)))) then (bif ((decide ((0 : Int) ≤ s4)) && (decide (s4 < (((List.length s0) : Nat) : Int)))) then ((s0[(Int.toNat s4)]?).bind fun vy3 => (cellI .u8 (AV.cells vy3) 0 fun vn4 => (bif (decide (((List.length x3) + 1) * 1 ≤ 140737488355328) && decide (((List.length x3) + 1) ≤ 9223372036854775807)) then (ref02_Get_L0 kap k k0 s0 (IntKind.wrap .i64 (s4 + (1 : Int))) (x3 ++ [(.int .u8 vn4)])) else none))) else none) else ((toBytes x3).bind fun vl5 => (some (.str (str vl5))))))) else none) else ((toBytes x3).bind fun vl6 => (some (.str (str vl6))))) := by kernel_rfl
theorem ref02_Get_eq {E : Ext} [Core E] (k n : Nat) (a0 : List AV) : kp E k (n + 1) ref02_Get [(.list 1 a0)] =
  (ref02_Get_L0 (kp E k n) k k a0 (0 : Int) []) := (kp_at (by kernel_rfl)).trans (by kernel_rfl)
/- oakum/oakumref07.Keys -/
theorem ref07_Keys_eq {E : Ext} [Core E] (k n : Nat)  : kp E k (n + 1) ref07_Keys [] =
  (some (.list 1 [(.str (str [112, 97, 116, 104])), (.str (str [108, 105, 110, 107, 112, 97, 116, 104])), (.str (str [117, 110, 97, 109, 101])), (.str (str [103, 110, 97, 109, 101])), (.str (str [117, 105, 100])), (.str (str [103, 105, 100])), (.str (str [115, 105, 122, 101])), (.str (str [109, 116, 105, 109, 101]))])) := (kp_at (by kernel_rfl)).trans (by kernel_rfl)
/- oakum/oakumref02.Unquote -/
noncomputable def ref02_Unquote_bd : Code := Tryz.f173.body.getD .skip
noncomputable def ref02_Unquote_L0 (kap : FuncId → List AV → Option AV) (k : Nat) (k0 : Nat) (s0 : ByteArray) (s5 : Int) (x4 : List AV) : Option AV :=
  loop (fun fr K => code ((bs E0 k).cfg kap ref02_Unquote) (sel ref02_Unquote_bd [1, 1, 1, 0, 0, 0]) fr K) (canon ((bs E0 k).cfg kap ref02_Unquote) (firstReg (sel ref02_Unquote_bd [1, 1, 1, 0, 0, 0]))) k0 (mkFr 66 [(0, (.str s0)), (4, (.own 4)), (5, (.int .i64 s5))] [(4, (.row 5 x4 false))]) (plug ((bs E0 k).cfg kap ref02_Unquote) (retK ((bs E0 k).cfg kap ref02_Unquote) [] Tryz.f173 [] some) [.blk 0, .seqR (sel ref02_Unquote_bd [1, 1, 1, 1])])
noncomputable def ref02_Unquote_L1 (kap : FuncId → List AV → Option AV) (k : Nat) (k0 : Nat) (k1 : Nat) (s0 : ByteArray) (s5 : Int) (s6 : Bool) (s7 : Int) (x4 : List AV) : Option AV :=
  loop (fun fr K => code ((bs E0 k).cfg kap ref02_Unquote) (sel ref02_Unquote_bd [1, 1, 1, 0, 0, 0, 1, 0, 1, 1, 0, 1, 0, 0]) fr K) (canon ((bs E0 k).cfg kap ref02_Unquote) (firstReg (sel ref02_Unquote_bd [1, 1, 1, 0, 0, 0, 1, 0, 1, 1, 0, 1, 0, 0]))) k1 (mkFr 66 [(0, (.str s0)), (4, (.own 4)), (5, (.int .i64 s5)), (6, (.bool s6)), (7, (.int .i64 s7))] [(4, (.row 5 x4 false))]) (plug ((bs E0 k).cfg kap ref02_Unquote) (retK ((bs E0 k).cfg kap ref02_Unquote) [] Tryz.f173 [] some) [.blk 2, .seqR (sel ref02_Unquote_bd [1, 1, 1, 0, 0, 0, 1, 0, 1, 1, 1]), .blk 1, .lp (sel ref02_Unquote_bd [1, 1, 1, 0, 0, 0]) k0, .blk 0, .seqR (sel ref02_Unquote_bd [1, 1, 1, 1])])
theorem ref02_Unquote_L0_s (kap : FuncId → List AV → Option AV) (k : Nat) (k0 : Nat) (s0 : ByteArray) (s5 : Int) (x4 : List AV) : ref02_Unquote_L0 kap k (k0 + 1) s0 s5 x4 =
  (bif (decide (s5 < (((ByteArray.size s0) : Nat) : Int))) then (bif ((decide ((0 : Int) ≤ s5)) && (decide (s5 < (((ByteArray.size s0) : Nat) : Int)))) then (callB (kap ref02_open [(.int .u8 (byteAt s0 (Int.toNat s5)))]) fun vq2 => (bif vq2 then (bif ((decide ((0 : Int) ≤ s5)) && (decide (s5 < (((ByteArray.size s0) : Nat) : Int)))) then (bif (decide (((List.length x4) + 1) * 1 ≤ 140737488355328) && decide (((List.length x4) + 1) ≤ 9223372036854775807)) then (ref02_Unquote_L0 kap k k0 s0 (IntKind.wrap .i64 (s5 + (1 : Int))) (x4 ++ [(.int .u8 (byteAt s0 (Int.toNat s5)))])) else none) else none) else (ref02_Unquote_L1 kap k k0 k s0 s5 false (0 : Int) x4))) else none) else ((toBytes x4).bind fun vl7 => (some (.tup [(.str (str vl7)), (.bool true)])))) := by kernel_rfl
theorem ref02_Unquote_L1_s (kap : FuncId → List AV → Option AV) (k : Nat) (k0 : Nat) (k1 : Nat) (s0 : ByteArray) (s5 : Int) (s6 : Bool) (s7 : Int) (x4 : List AV) : ref02_Unquote_L1 kap k k0 (k1 + 1) s0 s5 s6 s7 x4 =
  (bif (decide (s7 < (256 : Int))) then (bif (decide ((IntKind.wrap .i64 (s5 + (4 : Int))) ≤ (((ByteArray.size s0) : Nat) : Int))) then (bif (!s6) then (callB (kap ref02_open [(.int .u8 (IntKind.wrap .u8 s7))]) fun vq4 => (bif (!vq4) then (bif ((decide ((0 : Int) ≤ (IntKind.wrap .i64 (s5 + (4 : Int))))) && (decide ((IntKind.wrap .i64 (s5 + (4 : Int))) ≤ (((ByteArray.size s0) : Nat) : Int)))) then (bif ((decide ((0 : Int) ≤ s5)) && (decide (s5 ≤ (((Int.toNat (IntKind.wrap .i64 (s5 + (4 : Int)))) : Nat) : Int)))) then (callS (kap ref02_code [(.int .u8 (IntKind.wrap .u8 s7))]) fun vs6 => (bif (decide ((ByteArray.extract s0 (Int.toNat s5) (Int.toNat (IntKind.wrap .i64 (s5 + (4 : Int))))) = vs6)) then (bif (decide (((List.length x4) + 1) * 1 ≤ 140737488355328) && decide (((List.length x4) + 1) ≤ 9223372036854775807)) then (ref02_Unquote_L1 kap k k0 k1 s0 s5 true (IntKind.wrap .i64 (s7 + (1 : Int))) (x4 ++ [(.int .u8 (IntKind.wrap .u8 s7))])) else none) else (ref02_Unquote_L1 kap k k0 k1 s0 s5 s6 (IntKind.wrap .i64 (s7 + (1 : Int))) x4))) else none) else none) else (ref02_Unquote_L1 kap k k0 k1 s0 s5 s6 (IntKind.wrap .i64 (s7 + (1 : Int))) x4))) else (bif (!s6) then (some (.tup [(.str (str [])), (.bool false)])) else (ref02_Unquote_L0 kap k k0 s0 (IntKind.wrap .i64 (s5 + (4 : Int))) x4))) else (bif (!s6) then (some (.tup [(.str (str [])), (.bool false)])) else (ref02_Unquote_L0 kap k k0 s0 (IntKind.wrap .i64 (s5 + (4 : Int))) x4))) else (bif (!s6) then (some (.tup [(.str (str [])), (.bool false)])) else (ref02_Unquote_L0 kap k k0 s0 (IntKind.wrap .i64 (s5 + (4 : Int))) x4))) := by kernel_rfl
theorem ref02_Unquote_eq {E : Ext} [Core E] (k n : Nat) (a0 : ByteArray) : kp E k (n + 1) ref02_Unquote [(.str a0)] =
  (ref02_Unquote_L0 (kp E k n) k k a0 (0 : Int) []) := (kp_at (by kernel_rfl)).trans (by kernel_rfl)
/- oakum/oakumref09.name -/
theorem ref09_name_eq {E : Ext} [Core E] (k n : Nat) (a0 : ByteArray) : kp E k (n + 1) ref09_name [(.str a0)] =
  (bif (!(decide (a0 = (str [])))) then (bif (decide ((((ByteArray.size a0) : Nat) : Int) ≤ (65536 : Int))) then (callB (kp E k n ref02_Clean [(.str a0)]) fun vq2 => (some (.bool vq2))) else (some (.bool false))) else (some (.bool false))) := (kp_at (by kernel_rfl)).trans (by kernel_rfl)
/- oakum/oakumref09.Slash -/
theorem ref09_Slash_eq {E : Ext} [Core E] (k n : Nat) (a0 : ByteArray) : kp E k (n + 1) ref09_Slash [(.str a0)] =
  (bif (!(decide (a0 = (str [])))) then (bif ((decide ((0 : Int) ≤ (IntKind.wrap .i64 ((((ByteArray.size a0) : Nat) : Int) - (1 : Int))))) && (decide ((IntKind.wrap .i64 ((((ByteArray.size a0) : Nat) : Int) - (1 : Int))) < (((ByteArray.size a0) : Nat) : Int)))) then (some (.bool (decide ((byteAt a0 (Int.toNat (IntKind.wrap .i64 ((((ByteArray.size a0) : Nat) : Int) - (1 : Int))))) = (47 : Int))))) else none) else (some (.bool false))) := (kp_at (by kernel_rfl)).trans (by kernel_rfl)
/- oakum/oakumref02.open -/
theorem ref02_open_eq {E : Ext} [Core E] (k n : Nat) (a0 : Int) : kp E k (n + 1) ref02_open [(.int .u8 a0)] =
  (bif (decide (a0 ≥ (33 : Int))) then (bif (decide (a0 ≤ (126 : Int))) then (some (.bool (!(decide (a0 = (92 : Int)))))) else (some (.bool false))) else (some (.bool false))) := (kp_at (by kernel_rfl)).trans (by kernel_rfl)
/- oakum/oakumref02.code -/
theorem ref02_code_eq {E : Ext} [Core E] (k n : Nat) (a0 : Int) : kp E k (n + 1) ref02_code [(.int .u8 a0)] =
  ((toBytes [(.int .u8 (92 : Int)), (.int .u8 (IntKind.wrap .u8 ((48 : Int) + (IntKind.wrap .u8 (Int.tdiv a0 (64 : Int)))))), (.int .u8 (IntKind.wrap .u8 ((48 : Int) + (Int.tmod (IntKind.wrap .u8 (Int.tdiv a0 (8 : Int))) (8 : Int))))), (.int .u8 (IntKind.wrap .u8 ((48 : Int) + (Int.tmod a0 (8 : Int)))))]).bind fun vl1 => (some (.str (str vl1)))) := (kp_at (by kernel_rfl)).trans (by kernel_rfl)
/- oakum/oakumref02.Blank -/
/- oakum/oakumref05.size -/
noncomputable def ref05_size_bd : Code := Tryz.f208.body.getD .skip
noncomputable def ref05_size_L0 (kap : FuncId → List AV → Option AV) (k : Nat) (k0 : Nat) (s0 : ByteArray) (s1 : Int) (s6 : Int) (s7 : Int) (s8 : Int) : Option AV :=
  loop (fun fr K => code ((bs E0 k).cfg kap ref05_size) (sel ref05_size_bd [1, 1, 1, 1, 1, 1, 0, 1, 0, 0]) fr K) (canon ((bs E0 k).cfg kap ref05_size) (firstReg (sel ref05_size_bd [1, 1, 1, 1, 1, 1, 0, 1, 0, 0]))) k0 (mkFr 103 [(0, (.str s0)), (1, (.int .i64 s1)), (6, (.int .i64 s6)), (7, (.int .i64 s7)), (8, (.int .i64 s8))] []) (plug ((bs E0 k).cfg kap ref05_size) (retK ((bs E0 k).cfg kap ref05_size) [] Tryz.f208 [] some) [.blk 1, .seqR (sel ref05_size_bd [1, 1, 1, 1, 1, 1, 1])])
theorem ref05_size_L0_s (kap : FuncId → List AV → Option AV) (k : Nat) (k0 : Nat) (s0 : ByteArray) (s1 : Int) (s6 : Int) (s7 : Int) (s8 : Int) : ref05_size_L0 kap k (k0 + 1) s0 s1 s6 s7 s8 =
  (bif (decide (s8 < s6)) then (bif ((decide ((0 : Int) ≤ (IntKind.wrap .i64 (s1 + s8)))) && (decide ((IntKind.wrap .i64 (s1 + s8)) < (((ByteArray.size s0) : Nat) : Int)))) then (bif (decide ((byteAt s0 (Int.toNat (IntKind.wrap .i64 (s1 + s8)))) < (128 : Int))) then (some (.int .i64 (0 : Int))) else (bif ((decide ((0 : Int) ≤ (IntKind.wrap .i64 (s1 + s8)))) && (decide ((IntKind.wrap .i64 (s1 + s8)) < (((ByteArray.size s0) : Nat) : Int)))) then (bif (decide ((byteAt s0 (Int.toNat (IntKind.wrap .i64 (s1 + s8)))) ≥ (192 : Int))) then (some (.int .i64 (0 : Int))) else (bif ((decide ((0 : Int) ≤ (IntKind.wrap .i64 (s1 + s8)))) && (decide ((IntKind.wrap .i64 (s1 + s8)) < (((ByteArray.size s0) : Nat) : Int)))) then (ref05_size_L0 kap k k0 s0 s1 s6 (IntKind.wrap .i64 ((IntKind.wrap .i64 ((IntKind.wrap .i64 ((64 : Int) * s7)) + (IntKind.wrap .i64 (byteAt s0 (Int.toNat (IntKind.wrap .i64 (s1 + s8))))))) - (128 : Int))) (IntKind.wrap .i64 (s8 + (1 : Int)))) else none)) else none)) else none) else (bif ((decide ((0 : Int) ≤ s6)) && (decide (s6 < (5 : Int)))) then (([(.int .i64 (0 : Int)), (.int .i64 (0 : Int)), (.int .i64 (128 : Int)), (.int .i64 (2048 : Int)), (.int .i64 (65536 : Int))][(Int.toNat s6)]?).bind fun vy1 => (cellI .i64 (AV.cells vy1) 0 fun vn2 => (bif (decide (s7 < vn2)) then (some (.int .i64 (0 : Int))) else (bif (decide (s7 > (1114111 : Int))) then (some (.int .i64 (0 : Int))) else (bif (decide (s7 ≥ (55296 : Int))) then (bif (decide (s7 ≤ (57343 : Int))) then (some (.int .i64 (0 : Int))) else (some (.int .i64 s6))) else (some (.int .i64 s6))))))) else none)) := by kernel_rfl
theorem ref05_size_eq {E : Ext} [Core E] (k n : Nat) (a0 : ByteArray) (a1 : Int) : kp E k (n + 1) ref05_size [(.str a0), (.int .i64 a1)] =
  (bif ((decide ((0 : Int) ≤ a1)) && (decide (a1 < (((ByteArray.size a0) : Nat) : Int)))) then (bif (decide ((IntKind.wrap .i64 (byteAt a0 (Int.toNat a1))) < (128 : Int))) then (some (.int .i64 (1 : Int))) else (bif (decide ((IntKind.wrap .i64 (byteAt a0 (Int.toNat a1))) ≥ (192 : Int))) then (bif (decide ((IntKind.wrap .i64 (byteAt a0 (Int.toNat a1))) < (224 : Int))) then (bif (decide ((IntKind.wrap .i64 (a1 + (2 : Int))) > (((ByteArray.size a0) : Nat) : Int))) then (some (.int .i64 (0 : Int))) else (ref05_size_L0 (kp E k n) k k a0 a1 (2 : Int) (IntKind.wrap .i64 ((IntKind.wrap .i64 (byteAt a0 (Int.toNat a1))) - (192 : Int))) (1 : Int))) else (bif (decide ((IntKind.wrap .i64 (byteAt a0 (Int.toNat a1))) ≥ (224 : Int))) then (bif (decide ((IntKind.wrap .i64 (byteAt a0 (Int.toNat a1))) < (240 : Int))) then (bif (decide ((IntKind.wrap .i64 (a1 + (3 : Int))) > (((ByteArray.size a0) : Nat) : Int))) then (some (.int .i64 (0 : Int))) else (ref05_size_L0 (kp E k n) k k a0 a1 (3 : Int) (IntKind.wrap .i64 ((IntKind.wrap .i64 (byteAt a0 (Int.toNat a1))) - (224 : Int))) (1 : Int))) else (bif (decide ((IntKind.wrap .i64 (byteAt a0 (Int.toNat a1))) ≥ (240 : Int))) then (bif (decide ((IntKind.wrap .i64 (byteAt a0 (Int.toNat a1))) < (248 : Int))) then (bif (decide ((IntKind.wrap .i64 (a1 + (4 : Int))) > (((ByteArray.size a0) : Nat) : Int))) then (some (.int .i64 (0 : Int))) else (ref05_size_L0 (kp E k n) k k a0 a1 (4 : Int) (IntKind.wrap .i64 ((IntKind.wrap .i64 (byteAt a0 (Int.toNat a1))) - (240 : Int))) (1 : Int))) else (some (.int .i64 (0 : Int)))) else (some (.int .i64 (0 : Int))))) else (bif (decide ((IntKind.wrap .i64 (byteAt a0 (Int.toNat a1))) ≥ (240 : Int))) then (bif (decide ((IntKind.wrap .i64 (byteAt a0 (Int.toNat a1))) < (248 : Int))) then (bif (decide ((IntKind.wrap .i64 (a1 + (4 : Int))) > (((ByteArray.size a0) : Nat) : Int))) then (some (.int .i64 (0 : Int))) else (ref05_size_L0 (kp E k n) k k a0 a1 (4 : Int) (IntKind.wrap .i64 ((IntKind.wrap .i64 (byteAt a0 (Int.toNat a1))) - (240 : Int))) (1 : Int))) else (some (.int .i64 (0 : Int)))) else (some (.int .i64 (0 : Int)))))) else (bif (decide ((IntKind.wrap .i64 (byteAt a0 (Int.toNat a1))) ≥ (224 : Int))) then (bif (decide ((IntKind.wrap .i64 (byteAt a0 (Int.toNat a1))) < (240 : Int))) then (bif (decide ((IntKind.wrap .i64 (a1 + (3 : Int))) > (((ByteArray.size a0) : Nat) : Int))) then (some (.int .i64 (0 : Int))) else (ref05_size_L0 (kp E k n) k k a0 a1 (3 : Int) (IntKind.wrap .i64 ((IntKind.wrap .i64 (byteAt a0 (Int.toNat a1))) - (224 : Int))) (1 : Int))) else (bif (decide ((IntKind.wrap .i64 (byteAt a0 (Int.toNat a1))) ≥ (240 : Int))) then (bif (decide ((IntKind.wrap .i64 (byteAt a0 (Int.toNat a1))) < (248 : Int))) then (bif (decide ((IntKind.wrap .i64 (a1 + (4 : Int))) > (((ByteArray.size a0) : Nat) : Int))) then (some (.int .i64 (0 : Int))) else (ref05_size_L0 (kp E k n) k k a0 a1 (4 : Int) (IntKind.wrap .i64 ((IntKind.wrap .i64 (byteAt a0 (Int.toNat a1))) - (240 : Int))) (1 : Int))) else (some (.int .i64 (0 : Int)))) else (some (.int .i64 (0 : Int))))) else (bif (decide ((IntKind.wrap .i64 (byteAt a0 (Int.toNat a1))) ≥ (240 : Int))) then (bif (decide ((IntKind.wrap .i64 (byteAt a0 (Int.toNat a1))) < (248 : Int))) then (bif (decide ((IntKind.wrap .i64 (a1 + (4 : Int))) > (((ByteArray.size a0) : Nat) : Int))) then (some (.int .i64 (0 : Int))) else (ref05_size_L0 (kp E k n) k k a0 a1 (4 : Int) (IntKind.wrap .i64 ((IntKind.wrap .i64 (byteAt a0 (Int.toNat a1))) - (240 : Int))) (1 : Int))) else (some (.int .i64 (0 : Int)))) else (some (.int .i64 (0 : Int))))))) else none) := (kp_at (by kernel_rfl)).trans (by kernel_rfl)
end Go.Proofs.YtogfcfgfkggmlaaGreatDoor.Eng.U

