/- Several texts of this proof in one file: Core, Shelf, RowT, RT, R7, R09, Q02, Api, S02, Ext, R04. -/
import Derived.Test.YtogfcfgfkggmlaaGreatDoorMETaleOutcomes2
import Derived.Test.YtogfcfgfkggmlaaGreatDoorProg
import Derived.Lib.DecodeN
import Derived.Lib.ItoaNum
import Derived.Shelf.Strings.Builder1
import Derived.Shelf.Strings.Builder2
import Derived.Shelf.Strings.OnBuilder
import Derived.Shelf.Strings.Trim
import Derived.Shelf.Small.Utf8
import Derived.Shelf.Small.Strs
import Derived.Shelf.Small.Wraps
import Derived.Shelf.Strings.BuilderF
import Derived.Shelf.Strings.BuilderK
import Derived.Shelf.Utf8.RuneCount
import Derived.Shelf.Strings.Builder2Cap
import Derived.Shelf.Strconv.Itoa0
import Derived.Shelf.Strconv.Itoa1
import Derived.Shelf.LaysM
import Derived.Shelf.Strconv.Itoa2
import Derived.Shelf.Strconv.Itoa3
import Derived.Shelf.Strconv.Itoa4
import Derived.Shelf.Bytes.Len
import Derived.Shelf.Bytes.TryGrow
import Derived.Shelf.Bytes.GrowSliceCatch
import Derived.Shelf.Bytes.GrowSlice
import Derived.Shelf.Bytes.GrowRow0
import Derived.Shelf.Bytes.GrowRow
import Derived.Shelf.Bytes.GrowNil
import Derived.Shelf.Bytes.Grow
import Derived.Shelf.Bytes.WriteString
import Derived.Shelf.Bytes.Reset
import Derived.Shelf.Bytes.Bytes
import Derived.Shelf.Strconv.ParseIntEmpty
import Derived.Shelf.Strconv.Clone
import Derived.Shelf.Strconv.SyntaxError
import Derived.Shelf.LaysC
import Derived.Shelf.Strconv.ToError
import Derived.Shelf.Strconv.Lower
import Derived.Shelf.Strconv.ParseUint10
import Derived.Shelf.Strconv.ParseUint10Empty
import Derived.Shelf.Strconv.ParseUint10Any
import Derived.Shelf.Strconv.ParseInt10
import Derived.Shelf.Strconv.RangeError
import Derived.Shelf.Strconv.ToErrorRange
import Derived.Shelf.Strconv.ParseUintEmpty
import Derived.Shelf.Strconv.ParseUint10b64
import Derived.Shelf.Strconv.ParseUint10b32
import Derived.Shelf.Strconv.ParseUint10b16
import Derived.Shelf.Strconv.ParseUint10b8
import Derived.Shelf.Strconv.ParseUint10At
import Derived.Shelf.Strconv.ParseInt10At64
import Derived.Shelf.Strconv.ParseInt10At32
import Derived.Shelf.Strconv.ParseInt10At16
import Derived.Shelf.Strconv.ParseInt10At8
import Derived.Shelf.Strconv.ParseInt10All
import Derived.Shelf.Strconv.ParseIntPublic10
import Derived.Shelf.Strconv.ErrVarParseInt
import Derived.Ground.MpProg
import Derived.Shelf.Pu.ParseUintPublic10
import Derived.Shelf.Pu.ErrVarParseUint
import Derived.Shelf.Strings.Search1
import Derived.Shelf.Bytes.GrowRow0Kept
import Derived.Shelf.Strings.Search2
import Derived.Shelf.Bytes.GrowRowKept
import Derived.Shelf.Strings.Search3
import Derived.Shelf.Bytes.GrowNilKept
import Derived.Shelf.Strings.Cut
import Derived.Shelf.Bytes.GrowKept
import Derived.Shelf.Strings.Count
import Derived.Shelf.Strings.Shaped
import Derived.Shelf.Bytes.WriteStringKept
import Derived.Shelf.Bytes.ResetKept
import Derived.Shelf.Bytes.BufferK
import Derived.Shelf.Bytes.GrowRow0Own
import Derived.Shelf.Bytes.GrowRowOwn
import Derived.Shelf.Bytes.GrowNilOwn
import Derived.Shelf.Bytes.GrowOwn
import Derived.Shelf.Bytes.LenAt
import Derived.Shelf.Bytes.TryGrowAt
import Derived.Shelf.Bytes.GrowRow0At
import Derived.Shelf.Bytes.GrowRowAt
import Derived.Shelf.GgClosure.StringsIndexFunc
import Derived.Shelf.Bytes.GrowNilAt
import Derived.Shelf.Bytes.GrowAt
import Derived.Ground.GgwProg
import Derived.Shelf.GgClosure.StringsIndexFuncTop
import Derived.Shelf.GgClosure.StringsRunes
import Derived.Shelf.Bytes.WriteStringAt
import Derived.Shelf.Strings.Prefix
import Derived.Shelf.Strings.Split
import Derived.Shelf.Strings.SplitShaped
import Derived.Shelf.Unicode.Decode
import Derived.Shelf.Strings.Runes
import Derived.Shelf.Strings.RuneCount
import Derived.Shelf.Strings.IndexAny
import Derived.Shelf.Strings.AsciiSet
import Derived.Shelf.Strings.IndexAnyAll
import Derived.Shelf.Strings.Explode
import Derived.Shelf.Bits.Mul64
import Derived.Shelf.Strings.Repeat
import Derived.Shelf.Unicode.DecodeSlow
import Derived.Shelf.Unicode.DecodeAny
import Derived.Shelf.Unicode.DecodeLast
import Derived.Shelf.Strings.FuncGrows
import Derived.Shelf.Strings.BuilderCap
import Derived.Shelf.Slices.Turned
import Derived.Shelf.Slices.Equal
import Derived.Shelf.Slices.Empties2
import Derived.Test.YtogfcfgfkggmlaaGreatDoorCards
import Derived.Test.YtogfcfgfkggmlaaGreatDoorTie
import Derived.Lib.LaidIn
import Derived.Lib.LaidU8
import Derived.PinnedBridge
import Derived.Deep.DeepHandedRow
import Derived.ChangeSlices
import Derived.WalkKit
import Derived.ProofKit
import Derived.OpenShut
import Derived.ShutString
import Derived.ChangeOld
import Derived.ChangeSame
import Derived.Below
import Derived.BigCall
import Derived.WalkSmall
import Derived.Lib.OthersKept
import Derived.Lib.FrozenHead2
/- The functions of a seat, by their names; what each loop keeps; a base open at its given functions. Printed by gen2.py. -/
set_option linter.unusedVariables false
namespace Go.Proofs.YtogfcfgfkggmlaaGreatDoor.Eng.U
open Go Go.Proofs Go.Proofs.YtogfcfgfkggmlaaGreatDoor.Eng
def law20_TaleOutcomes : FuncId := 13
def over_Right : FuncId := 20
def law20_alive : FuncId := 42
def tale_Head : FuncId := 43
def tale_Line : FuncId := 46
def ref20_Fields : FuncId := 50
def tale_Outcome : FuncId := 51
def ref20_Outcome : FuncId := 52
def tale_Field : FuncId := 53
def tale_FieldOf : FuncId := 54
def pax_Right : FuncId := 68
def slices_IndexFunc_api_Pair : FuncId := 69
def strings_Split : FuncId := 95
def slices_Index_string : FuncId := 96
def tale_kinds : FuncId := 97
def tale_reader_next : FuncId := 98
def tale_reader_number : FuncId := 99
def dec_Time : FuncId := 100
def tale_reader_text : FuncId := 101
def item_Wrong : FuncId := 105
def dec_Print : FuncId := 106
def dec_Text : FuncId := 107
def tale_word : FuncId := 108
def strings_Join : FuncId := 109
def ref20_num : FuncId := 111
def strconv_Itoa : FuncId := 114
def api_Code_String : FuncId := 115
def ref20_Codes : FuncId := 116
def tale_fields : FuncId := 117
def ref04_Text : FuncId := 123
def pax_Known : FuncId := 129
def slices_Delete_api_Pair : FuncId := 132
def slices_Insert_api_Pair : FuncId := 133
def utf_Right : FuncId := 139
def strings_ContainsAny : FuncId := 140
def pax_value : FuncId := 141
def text_Quote : FuncId := 144
def strconv_ParseUint : FuncId := 146
def dec_Number : FuncId := 147
def text_Unquote : FuncId := 148
def strings_genSplit : FuncId := 166
def strings_CutPrefix : FuncId := 167
def strings_Cut : FuncId := 168
def dec_natural : FuncId := 169
def dec_digits : FuncId := 170
def strconv_ParseInt : FuncId := 171
def strings_Repeat : FuncId := 172
def ref02_Unquote : FuncId := 173
def item_Flag : FuncId := 174
def item_named : FuncId := 175
def strings_HasSuffix : FuncId := 176
def item_link : FuncId := 177
def dec_Right : FuncId := 178
def item_plain : FuncId := 179
def item_device : FuncId := 180
def item_extra : FuncId := 181
def strconv_FormatInt : FuncId := 182
def strings_TrimRight : FuncId := 183
def ref04_Digits : FuncId := 190
def slices_ContainsFunc_api_Pair : FuncId := 195
def strings_Compare : FuncId := 205
def utf_First : FuncId := 209
def strings_IndexAny : FuncId := 210
def pax_clean : FuncId := 211
def text_open : FuncId := 214
def text_digit : FuncId := 219
def strings_explode : FuncId := 232
def strings_Count : FuncId := 233
def strings_Index : FuncId := 234
def stringslite_Cut : FuncId := 236
def text_Clean : FuncId := 240
def stringslite_HasSuffix : FuncId := 241
def item_extra_1 : FuncId := 242
def utf_wrong : FuncId := 254
def strings_IndexRune : FuncId := 255
def strings_shouldUseASCIISet : FuncId := 256
def strings_IndexByte : FuncId := 258
def unicode_utf8_DecodeRuneInString : FuncId := 271
def stringslite_Index : FuncId := 273
def unicode_utf8_ValidRune : FuncId := 288
def dirs : FuncId → Nat → Option Dir
  | 3, 12 => some { slots := [(0, .keep), (1, .keep), (6, .keep), (8, .keep), (9, .keep)], boxes := [] }
  | 3, 16 => some { slots := [(0, .keep), (1, .keep), (6, .keep), (8, .keep), (10, .keep)], boxes := [] }
  | 3, 23 => some { slots := [(1, .keep), (6, .keep), (11, .keep), (12, .keep)], boxes := [] }
  | 4, 8 => some { slots := [(0, .keep), (1, .keep), (2, .keep), (7, .keep), (8, .keep), (9, .keep), (10, .keep)], boxes := [] }
  | 6, 10 => some { slots := [(0, .keep), (6, .keep), (7, .keep), (8, .keep)], boxes := [] }
  | 7, 6 => some { slots := [(0, .keep), (3, .own 9 false), (4, .keep), (5, .keep)], boxes := [] }
  | 8, 8 => some { slots := [(0, .keep), (1, .keep), (5, .keep), (6, .keep), (7, .keep), (8, .keep), (9, .keep)], boxes := [] }
  | 8, 11 => some { slots := [(0, .keep), (1, .keep), (5, .keep), (6, .keep), (7, .keep), (8, .keep), (9, .keep), (10, .keep)], boxes := [] }
  | 8, 19 => some { slots := [(0, .keep), (1, .keep), (5, .keep), (6, .keep), (7, .keep), (8, .keep), (9, .keep), (10, .keep), (11, .keep), (12, .keep)], boxes := [] }
  | 9, 6 => some { slots := [(0, .keep), (3, .keep)], boxes := [] }
  | 9, 13 => some { slots := [(0, .keep), (3, .keep), (4, .keep), (5, .keep), (6, .keep)], boxes := [4] }
  | 12, 8 => some { slots := [(0, .keep), (3, .keep), (4, .keep), (5, .keep), (6, .keep)], boxes := [] }
  | 13, 6 => some { slots := [(1, .keep), (2, .keep), (3, .keep), (7, .keep), (8, .keep), (9, .keep), (10, .keep)], boxes := [3] }
  | 16, 3 => some { slots := [(0, .keep), (3, .keep), (4, .keep)], boxes := [] }
  | 17, 3 => some { slots := [(1, .keep), (5, .own 29 false), (10, .keep), (11, .keep), (12, .keep)], boxes := [] }
  | 17, 8 => some { slots := [(5, .own 29 false), (20, .keep), (21, .keep), (22, .keep)], boxes := [] }
  | 18, 4 => some { slots := [(0, .keep), (1, .keep), (5, .keep)], boxes := [] }
  | 19, 4 => some { slots := [(1, .keep), (3, .keep)], boxes := [1] }
  | 20, 2 => some { slots := [(0, .keep), (5, .keep), (6, .keep), (7, .keep)], boxes := [] }
  | 22, 4 => some { slots := [(5, .own 29 true), (6, .own 29 false), (7, .keep), (8, .keep)], boxes := [] }
  | 22, 6 => some { slots := [(5, .own 29 true), (6, .own 29 false), (7, .keep), (8, .keep), (9, .keep), (10, .keep), (11, .keep)], boxes := [] }
  | 23, 2 => some { slots := [(0, .keep), (3, .keep)], boxes := [] }
  | 24, 3 => some { slots := [(3, .keep), (6, .keep), (7, .keep), (8, .keep)], boxes := [] }
  | 26, 3 => some { slots := [(0, .keep), (3, .keep), (4, .keep)], boxes := [] }
  | 26, 8 => some { slots := [(0, .keep), (3, .keep), (4, .keep), (5, .keep), (6, .keep)], boxes := [5] }
  | 27, 3 => some { slots := [(4, .own 9 false), (7, .keep), (8, .keep), (9, .keep)], boxes := [] }
  | 30, 2 => some { slots := [(0, .keep), (3, .keep)], boxes := [] }
  | 34, 12 => some { slots := [(7, .keep), (9, .keep)], boxes := [7] }
  | 34, 33 => some { slots := [(0, .keep), (1, .keep), (2, .keep), (7, .keep), (8, .keep), (12, .keep), (13, .keep)], boxes := [7] }
  | 37, 2 => some { slots := [(0, .keep), (3, .keep)], boxes := [] }
  | 39, 2 => some { slots := [(0, .keep), (3, .keep)], boxes := [] }
  | 41, 3 => some { slots := [(0, .keep), (3, .own 42 false), (7, .keep), (8, .keep), (9, .keep)], boxes := [] }
  | 43, 17 => some { slots := [(0, .keep), (2, .keep), (4, .keep), (5, .keep)], boxes := [2, 4, 5, 178, 181], rows := [⟨2, 13, 29, 178⟩, ⟨5, 13, 29, 181⟩] }
  | 44, 6 => some { slots := [(0, .keep), (2, .keep), (4, .keep), (5, .keep), (6, .keep)], boxes := [2, 5, 374, 377], rows := [⟨2, 13, 29, 374⟩, ⟨5, 13, 29, 377⟩] }
  | 44, 14 => some { slots := [(0, .keep), (2, .keep), (4, .keep), (5, .keep), (7, .keep), (8, .keep), (9, .own 3 false), (10, .keep)], boxes := [2, 5, 8, 374, 377], rows := [⟨2, 13, 29, 374⟩, ⟨5, 13, 29, 377⟩] }
  | 44, 25 => some { slots := [(0, .keep), (2, .keep), (4, .keep), (5, .keep), (7, .keep), (15, .own 9 false), (16, .keep)], boxes := [2, 5, 374, 377], rows := [⟨2, 13, 29, 374⟩, ⟨5, 13, 29, 377⟩] }
  | 44, 33 => some { slots := [(0, .keep), (2, .keep), (5, .keep), (7, .keep), (15, .own 9 false), (19, .keep)], boxes := [2, 5, 374, 377], rows := [⟨2, 13, 29, 374⟩, ⟨5, 13, 29, 377⟩] }
  | 46, 6 => some { slots := [(6, .own 9 false), (56, .keep), (57, .keep), (58, .keep)], boxes := [] }
  | 47, 3 => some { slots := [(4, .own 9 false), (9, .keep), (10, .keep), (11, .keep)], boxes := [] }
  | 48, 3 => some { slots := [(3, .keep), (4, .keep)], boxes := [3] }
  | 49, 4 => some { slots := [(1, .keep), (3, .keep), (4, .keep)], boxes := [1] }
  | 61, 5 => some { slots := [(2, .keep), (4, .keep), (13, .keep), (14, .keep), (15, .keep)], boxes := [2, 4, 66, 68], rows := [⟨2, 13, 29, 66⟩, ⟨4, 13, 29, 68⟩] }
  | 63, 3 => some { slots := [(3, .keep), (4, .keep)], boxes := [] }
  | 65, 3 => some { slots := [(0, .keep), (3, .keep), (4, .keep)], boxes := [] }
  | 67, 6 => some { slots := [(0, .keep), (2, .keep), (4, .keep), (5, .keep), (6, .keep)], boxes := [2] }
  | 67, 17 => some { slots := [(2, .keep), (4, .keep), (7, .keep), (8, .keep), (9, .keep), (10, .keep), (11, .keep)], boxes := [2] }
  | 69, 2 => some { slots := [(0, .keep), (1, .keep), (7, .keep), (8, .keep)], boxes := [] }
  | 71, 2 => some { slots := [(0, .keep), (1, .keep), (6, .keep)], boxes := [] }
  | 83, 2 => some { slots := [(0, .keep), (3, .frz)], boxes := [] }
  | 83, 4 => some { slots := [(0, .keep), (3, .frz), (4, .keep), (5, .keep)], boxes := [] }
  | 83, 10 => some { slots := [(0, .keep), (3, .frz)], boxes := [] }
  | 84, 3 => some { slots := [(0, .keep), (1, .keep), (5, .keep), (6, .keep)], boxes := [] }
  | 87, 3 => some { slots := [(1, .keep), (2, .keep), (7, .keep), (8, .keep)], boxes := [] }
  | 89, 5 => some { slots := [(5, .keep), (6, .keep), (7, .keep)], boxes := [] }
  | 90, 4 => some { slots := [(0, .keep), (1, .keep), (5, .keep)], boxes := [] }
  | 91, 4 => some { slots := [(0, .keep), (3, .own 4 false), (4, .own 3 false), (13, .keep), (14, .keep)], boxes := [] }
  | 91, 7 => some { slots := [(0, .keep), (3, .own 4 false), (4, .own 3 false), (5, .keep), (13, .keep), (14, .keep), (17, .keep), (18, .keep)], boxes := [] }
  | 91, 14 => some { slots := [(0, .keep), (3, .own 4 false), (4, .own 3 false), (5, .keep), (6, .keep), (7, .keep), (13, .keep), (14, .keep), (17, .keep), (18, .keep), (29, .keep), (30, .keep)], boxes := [] }
  | 92, 2 => some { slots := [(0, .keep), (6, .keep), (7, .keep)], boxes := [] }
  | 92, 5 => some { slots := [(0, .keep), (3, .keep), (4, .keep), (6, .keep), (7, .keep)], boxes := [] }
  | 96, 2 => some { slots := [(0, .keep), (1, .keep), (7, .keep), (8, .keep)], boxes := [] }
  | 102, 4 => some { slots := [(0, .keep), (3, .own 9 false), (4, .keep), (5, .keep)], boxes := [] }
  | 110, 2 => some { slots := [(1, .keep), (2, .keep), (3, .keep)], boxes := [1, 2], gate := true }
  | 110, 3 => some { slots := [(1, .keep), (2, .keep), (3, .keep), (4, .keep)], boxes := [1, 2], gate := true }
  | 110, 5 => some { slots := [(1, .keep), (2, .keep), (3, .keep), (4, .keep), (5, .keep)], boxes := [1, 2, 5], gate := true }
  | 110, 6 => some { slots := [(1, .keep), (2, .keep), (3, .keep), (4, .keep), (5, .keep)], boxes := [1, 2, 5], gate := true }
  | 110, 7 => some { slots := [(1, .keep), (2, .keep), (4, .keep), (5, .keep)], boxes := [1, 2, 5], gate := true }
  | 110, 11 => some { slots := [(1, .keep), (2, .keep), (4, .keep), (5, .keep)], boxes := [1, 2, 5], gate := true }
  | 110, 13 => some { slots := [(1, .keep), (2, .keep), (4, .keep), (5, .keep)], boxes := [1, 2, 5], gate := true }
  | 110, 14 => some { slots := [(1, .keep), (2, .keep), (4, .keep), (5, .keep)], boxes := [1, 2, 5], gate := true }
  | 110, 15 => some { slots := [(1, .keep), (2, .keep), (4, .keep), (5, .keep)], boxes := [1, 2, 5], gate := true }
  | 110, 16 => some { slots := [(1, .keep), (2, .keep), (5, .keep)], boxes := [1, 2, 5], gate := true }
  | 110, 18 => some { slots := [(1, .keep), (2, .keep), (5, .keep), (6, .keep)], boxes := [1, 2, 5] }
  | 112, 9 => some { slots := [(4, .keep), (5, .keep)], boxes := [] }
  | 113, 3 => some { slots := [(0, .keep), (3, .keep), (4, .keep)], boxes := [] }
  | 118, 4 => some { slots := [(0, .keep), (3, .own 165 false), (4, .keep), (5, .keep)], boxes := [] }
  | 121, 2 => some { slots := [(1, .keep), (3, .keep)], boxes := [1] }
  | 121, 5 => some { slots := [(1, .keep), (3, .keep), (4, .keep)], boxes := [1] }
  | 134, 3 => some { slots := [(0, .keep), (3, .own 3 false), (4, .keep)], boxes := [] }
  | 135, 3 => some { slots := [(0, .keep), (3, .own 5 false), (4, .keep)], boxes := [] }
  | 137, 5 => some { slots := [(0, .keep), (4, .keep), (5, .keep)], boxes := [] }
  | 138, 2 => some { slots := [(0, .keep), (3, .keep)], boxes := [] }
  | 148, 2 => some { slots := [(0, .keep), (4, .own 5 false)], boxes := [] }
  | 157, 2 => some { slots := [(0, .keep), (1, .keep), (7, .keep), (8, .keep)], boxes := [] }
  | 158, 4 => some { slots := [(0, .keep), (3, .own 9 false), (4, .keep), (5, .keep)], boxes := [] }
  | 159, 5 => some { slots := [(1, .keep), (5, .keep), (6, .keep)], boxes := [] }
  | 162, 3 => some { slots := [(0, .keep), (3, .own 9 false), (6, .keep), (7, .keep)], boxes := [] }
  | 166, 11 => some { slots := [(0, .keep), (1, .keep), (2, .keep), (3, .keep), (9, .own 9 false), (10, .keep)], boxes := [] }
  | 170, 2 => some { slots := [(0, .keep), (5, .keep), (6, .keep)], boxes := [] }
  | 173, 3 => some { slots := [(0, .keep), (4, .own 5 false), (5, .keep)], boxes := [] }
  | 173, 9 => some { slots := [(0, .keep), (4, .own 5 false), (5, .keep), (6, .keep), (7, .keep)], boxes := [] }
  | 194, 2 => some { slots := [(5, .keep), (6, .keep), (7, .keep)], boxes := [] }
  | 202, 2 => some { slots := [(0, .keep), (3, .keep)], boxes := [] }
  | 203, 3 => some { slots := [(0, .keep), (1, .keep), (2, .keep), (8, .keep), (9, .keep), (10, .keep)], boxes := [0] }
  | 208, 15 => some { slots := [(0, .keep), (1, .keep), (6, .keep), (7, .keep), (8, .keep)], boxes := [] }
  | 209, 2 => some { slots := [(0, .keep), (6, .keep)], boxes := [6] }
  | 210, 12 => some { slots := [(0, .keep), (6, .keep), (8, .keep)], boxes := [6] }
  | 210, 18 => some { slots := [(1, .keep), (45, .keep)], boxes := [45] }
  | 222, 3 => some { slots := [(0, .keep), (3, .own 9 false), (7, .keep), (8, .keep), (9, .keep)], boxes := [] }
  | 228, 5 => some { slots := [(1, .keep), (5, .keep), (6, .keep)], boxes := [] }
  | 232, 6 => some { slots := [(0, .keep), (1, .keep), (6, .own 9 false), (7, .keep)], boxes := [] }
  | 244, 1 => some { slots := [(0, .keep), (1, .keep)], boxes := [] }
  | 247, 1 => some { slots := [(0, .keep), (1, .keep)], boxes := [] }
  | 255, 5 => some { slots := [(0, .keep), (7, .keep), (8, .keep), (9, .keep)], boxes := [] }
  | 255, 12 => some { slots := [(0, .keep), (7, .keep), (8, .keep), (9, .keep), (12, .keep)], boxes := [] }
  | 255, 25 => some { slots := [(0, .keep), (7, .keep), (8, .keep), (9, .keep), (14, .keep), (15, .keep)], boxes := [] }
  | 255, 29 => some { slots := [(0, .keep), (7, .keep), (8, .keep), (9, .keep), (14, .keep), (15, .keep), (16, .keep)], boxes := [] }
  | 255, 38 => some { slots := [(175, .keep)], boxes := [175] }
  | 261, 10 => some { slots := [(0, .keep), (3, .keep), (4, .keep), (5, .keep)], boxes := [] }
  | 270, 2 => some { slots := [(2, .keep), (4, .keep)], boxes := [4] }
  | 280, 10 => some { slots := [(0, .keep), (4, .keep), (5, .keep), (6, .keep)], boxes := [] }
  | 296, 4 => some { slots := [(0, .keep), (1, .keep), (12, .keep), (13, .keep)], boxes := [] }
  | 298, 5 => some { slots := [(0, .keep), (1, .keep), (5, .keep), (6, .keep), (7, .keep), (8, .keep), (9, .keep)], boxes := [] }
  | 298, 11 => some { slots := [(0, .keep), (1, .keep), (5, .keep), (6, .keep), (7, .keep), (8, .keep), (10, .keep)], boxes := [] }
  | 308, 3 => some { slots := [(0, .keep), (4, .keep), (5, .keep)], boxes := [] }
  | 308, 8 => some { slots := [(4, .keep), (6, .keep), (7, .keep), (8, .keep)], boxes := [] }
  | _, _ => none
def fl : FuncId → List Bool
  | 62 => [true]
  | 132 => [true]
  | 133 => [true]
  | _ => []
def ln : FuncId → List Nat
  | 62 => [2, 0]
  | 98 => [1]
  | 99 => [1]
  | 101 => [1]
  | 130 => [1, 0]
  | 131 => [1, 0]
  | 132 => [2, 0, 0]
  | 133 => [2, 0, 2]
  | 203 => [1, 0, 0]
  | _ => []
def hd : FuncId → List Nat
  | 130 => [13]
  | _ => []
def glob (g : Nat) : Option (List AV) :=
  if g = 5 then some ((List.range 256).map fun c => .int .u8 (Lib.firstT c : Int)) else if g = 6 then some ((List.range 32).map fun i => .int .u8 ((if i % 2 = 0 then Lib.accLo (i / 2) else Lib.accHi (i / 2) : Nat) : Int)) else if g = 4 then some (Lib.pow10Tab.map fun z => .int .u64 z) else if g = 2 then some [.ifc] else if g = 3 then some [.ifc] else none
def coreFs : List FuncId := [3, 4, 6, 7, 8, 9, 10, 11, 12, 13, 14, 15, 16, 17, 18, 19, 20, 22, 23, 24, 25, 26, 27, 29, 30, 32, 33, 34, 35, 36, 37, 38, 39, 41, 42, 43, 44, 45, 46, 47, 48, 49, 50, 51, 52, 53, 54, 55, 58, 59, 60, 61, 62, 63, 64, 65, 66, 67, 68, 69, 70, 71, 72, 73, 74, 75, 79, 80, 81, 82, 83, 84, 85, 86, 87, 89, 90, 91, 92, 94, 95, 96, 97, 98, 99, 100, 101, 102, 103, 104, 105, 106, 107, 108, 110, 111, 112, 113, 115, 116, 117, 118, 119, 121, 123, 125, 126, 127, 128, 129, 130, 131, 134, 135, 136, 137, 138, 139, 140, 141, 143, 145, 147, 148, 149, 150, 152, 153, 157, 158, 159, 160, 161, 162, 166, 168, 169, 170, 173, 174, 175, 176, 177, 178, 179, 180, 181, 187, 188, 189, 190, 191, 192, 193, 194, 195, 196, 200, 202, 203, 204, 207, 208, 209, 211, 213, 214, 216, 219, 220, 221, 222, 223, 225, 226, 227, 228, 229, 232, 234, 235, 236, 238, 240, 241, 242, 244, 247, 252, 253, 254, 255, 256, 260, 261, 268, 270, 274, 275, 276, 280, 281, 288, 289, 291, 296, 298, 299, 300, 301, 302, 303, 304, 307, 308]
noncomputable def bs (E : Ext) (k : Nat) : Base := { P := Tryz.prog, fs := E.fs, isBase := E.isBase, base := E.base, fl := fl, ln := ln, hd := hd, glob := glob, dirs := dirs, k := k }
/-- An extension that has no given functions: for what doesn't look at them. -/
def E0 : Ext := { fs := [], isBase := fun _ => false, base := fun _ _ => none }
class Core (E : Ext) : Prop where
  isB : ∀ f, coreFs.contains f = true → E.isBase f = false
  has : ∀ f, coreFs.contains f = true → E.fs.contains f = true
/-- What a function answers, calls nested n deep, k rounds of each loop. -/
noncomputable def kp (E : Ext) (k n : Nat) : FuncId → List AV → Option AV := (bs E k).kap n
theorem kp_at {E : Ext} [h : Core E] {k n : Nat} {f : FuncId} {args : List AV} (hf : coreFs.contains f = true) : kp E k (n + 1) f args = (bs E k).at (kp E k n) f args := Base.kap_at (h.isB f hf) (h.has f hf) args
theorem kp_base {E : Ext} {k n : Nat} {f : FuncId} {args : List AV} (hf : E.isBase f = true) : kp E k n f args = E.base f args := Base.kap_base (B := bs E k) hf args
end Go.Proofs.YtogfcfgfkggmlaaGreatDoor.Eng.U


/-
  DERIVED: THE SHELF's CONTRACTS AT THIS DUMP, IN PLAIN WORDS (tools/lay-plain.mjs out of 'TryzShelf.lean', which tools/lay-shelf.mjs wrote): THE SAME DECLARATIONS UNDER THE SAME NAMES: 'import', 'namespace', 'open', 'def', 'theorem' AND NOTHING ELSE: no command of the shelf's: FOR A HAND-IN. Each laying: the table of numbers ('.._ren') and one theorem, a field a fact of the dump's own or the kernel's comparison; each contract: ONE APPLICATION.
-/
namespace Go.Proofs
open Go.Shelf
def Tryz.lays169_ren : Go.Shelf.Ren := ⟨fun | 169 => 186 | n => n, fun | 70 => 213 | 9 => 9 | 0 => 0 | 72 => 215 | 37 => 40 | 127 => 258 | 3 => 3 | 5 => 5 | n => n, fun | n => n⟩
theorem Tryz.lays169 : Go.Proofs.Lays.n169 Tryz.prog Tryz.lays169_ren := {
  mixed := by kernel_rfl
  f169 := Tryz.func186.trans (congrArg some (by kernel_rfl))
  t0 := Tryz.underlying0
  a0 := Tryz.isAgg0
  z0 := Tryz.sizeOf0
  v0 := Tryz.zeroValue0
  t3 := Tryz.underlying3
  a3 := Tryz.isAgg3
  z3 := Tryz.sizeOf3
  v3 := Tryz.zeroValue3
  t9 := Tryz.underlying9
  a9 := Tryz.isAgg9
  z9 := Tryz.sizeOf9
  v9 := Tryz.zeroValue9
  t37 := Tryz.underlying40
  a37 := Tryz.isAgg40
  z37 := Tryz.sizeOf40
  v37 := Tryz.zeroValue40
  t70 := Tryz.underlying213
  a70 := Tryz.isAgg213
  z70 := Tryz.sizeOf213
  v70 := Tryz.zeroValue213
  t72 := Tryz.underlying215
  a72 := Tryz.isAgg215
  z72 := Tryz.sizeOf215
  v72 := Tryz.zeroValue215
  t127 := Tryz.underlying258
  a127 := Tryz.isAgg258
  z127 := Tryz.sizeOf258
  v127 := Tryz.zeroValue258 }
theorem Tryz.Builder_Extra_169 : Builder.Extra Tryz.prog Tryz.lays169_ren := {
  sizeBuilder := by kernel_rfl
  liesBuilder := by kernel_rfl
  t5 := Tryz.underlying5
  a5 := Tryz.isAgg5
  z5 := Tryz.sizeOf5
  v5 := Tryz.zeroValue5
  infoByte := by kernel_rfl
  cellsByte := by kernel_rfl
  sizeByte := by kernel_rfl
  neB5 := by decide }
def Tryz.lays156_ren : Go.Shelf.Ren := ⟨fun | 156 => 109 | 165 => 184 | 166 => 185 | 169 => 186 | 240 => 248 | 241 => 249 | 276 => 282 | 277 => 283 | n => n, fun | 31 => 43 | 9 => 9 | 3 => 3 | 4 => 4 | 0 => 0 | 20 => 20 | 72 => 215 | 76 => 217 | 70 => 213 | 37 => 40 | 75 => 185 | 127 => 258 | 164 => 284 | 5 => 5 | 80 => 149 | n => n, fun | n => n⟩
theorem Tryz.lays156 : Go.Proofs.Lays.n156 Tryz.prog Tryz.lays156_ren := {
  mixed := by kernel_rfl
  f156 := Tryz.func109.trans (congrArg some (by kernel_rfl))
  f165 := Tryz.func184.trans (congrArg some (by kernel_rfl))
  f166 := Tryz.func185.trans (congrArg some (by kernel_rfl))
  f169 := Tryz.func186.trans (congrArg some (by kernel_rfl))
  f240 := Tryz.func248.trans (congrArg some (by kernel_rfl))
  f241 := Tryz.func249.trans (congrArg some (by kernel_rfl))
  f276 := Tryz.func282.trans (congrArg some (by kernel_rfl))
  f277 := Tryz.func283.trans (congrArg some (by kernel_rfl))
  t0 := Tryz.underlying0
  a0 := Tryz.isAgg0
  z0 := Tryz.sizeOf0
  v0 := Tryz.zeroValue0
  t3 := Tryz.underlying3
  a3 := Tryz.isAgg3
  z3 := Tryz.sizeOf3
  v3 := Tryz.zeroValue3
  t4 := Tryz.underlying4
  a4 := Tryz.isAgg4
  z4 := Tryz.sizeOf4
  v4 := Tryz.zeroValue4
  t9 := Tryz.underlying9
  a9 := Tryz.isAgg9
  z9 := Tryz.sizeOf9
  v9 := Tryz.zeroValue9
  t20 := Tryz.underlying20
  a20 := Tryz.isAgg20
  z20 := Tryz.sizeOf20
  v20 := Tryz.zeroValue20
  t31 := Tryz.underlying43
  a31 := Tryz.isAgg43
  z31 := Tryz.sizeOf43
  v31 := Tryz.zeroValue43
  t37 := Tryz.underlying40
  a37 := Tryz.isAgg40
  z37 := Tryz.sizeOf40
  v37 := Tryz.zeroValue40
  t70 := Tryz.underlying213
  a70 := Tryz.isAgg213
  z70 := Tryz.sizeOf213
  v70 := Tryz.zeroValue213
  t72 := Tryz.underlying215
  a72 := Tryz.isAgg215
  z72 := Tryz.sizeOf215
  v72 := Tryz.zeroValue215
  t75 := Tryz.underlying185
  a75 := Tryz.isAgg185
  z75 := Tryz.sizeOf185
  v75 := Tryz.zeroValue185
  t76 := Tryz.underlying217
  a76 := Tryz.isAgg217
  z76 := Tryz.sizeOf217
  v76 := Tryz.zeroValue217
  t127 := Tryz.underlying258
  a127 := Tryz.isAgg258
  z127 := Tryz.sizeOf258
  v127 := Tryz.zeroValue258
  t164 := Tryz.underlying284
  a164 := Tryz.isAgg284
  z164 := Tryz.sizeOf284
  v164 := Tryz.zeroValue284 }
theorem Tryz.Builder_Extra_156 : Builder.Extra Tryz.prog Tryz.lays156_ren := {
  sizeBuilder := by kernel_rfl
  liesBuilder := by kernel_rfl
  t5 := Tryz.underlying5
  a5 := Tryz.isAgg5
  z5 := Tryz.sizeOf5
  v5 := Tryz.zeroValue5
  infoByte := by kernel_rfl
  cellsByte := by kernel_rfl
  sizeByte := by kernel_rfl
  neB5 := by decide }
open Go.RowKit in
/-- No element: the empty string; the world is as it was. (Whatever the slice's address and capacity: a nil slice too.) (LAID: no walk: one application.) -/
theorem Tryz.strings_Join_none (a : Option Addr) (c : Nat) (sep : ByteArray) (w : World) :
    Calls Tryz.prog 109 #[.slice a 0 c, .string sep] w fun e w' => e = .returned (.string ⟨#[]⟩) ∧ w' = w := Any.strings_Join_none Tryz.lays156 Tryz.Builder_Extra_156 a c sep w
open Go.RowKit in
/-- strings.Join: "Join concatenates the elements of its first argument to create a single string. The separator string sep is placed between elements in the resulting string.": HOWEVER MANY ELEMENTS. Below the heap's end the world is as it was. (LAID: no walk: one application.) -/
theorem Tryz.strings_Join (bk o c : Nat) (xs : List ByteArray) (sep : ByteArray) (w : World) (hcells : ∀ (j : Nat) x, xs[j]? = some x → w.cell? ⟨bk, o + j, none⟩ = some (.string x)) (hbk : bk < w.heap.size) (hN : xs.length ≤ 140737488355328) (hcap : xs.length ≤ c) (hlen : (Lib.join (xs.map (·.data.toList)) sep.data.toList).length ≤ 140737488355328) :
    Calls Tryz.prog 109 #[.slice (some ⟨bk, o, none⟩) xs.length c, .string sep] w fun e w' => e = .returned (.string ⟨(Lib.join (xs.map (·.data.toList)) sep.data.toList).toArray⟩) ∧ Below w.heap.size w w' := Any.strings_Join Tryz.lays156 Tryz.Builder_Extra_156 bk o c xs sep w hcells hbk hN hcap hlen
def Tryz.lays162_ren : Go.Shelf.Ren := ⟨fun | 162 => 183 | 232 => 244 | 227 => 245 | 234 => 246 | 236 => 247 | 228 => 257 | 271 => 280 | 151 => 281 | 120 => 304 | 197 => 271 | 152 => 255 | 260 => 297 | 137 => 258 | 119 => 288 | 224 => 289 | 225 => 290 | 217 => 291 | 266 => 306 | n => n, fun | 9 => 9 | 4 => 4 | 3 => 3 | 5 => 5 | 117 => 254 | 116 => 253 | 0 => 0 | 124 => 257 | 21 => 21 | 105 => 272 | 46 => 208 | 119 => 305 | 139 => 308 | 138 => 307 | n => n, fun | 3 => 5 | 4 => 6 | n => n⟩
theorem Tryz.lays162 : Go.Proofs.Lays.n162 Tryz.prog Tryz.lays162_ren := {
  mixed := by kernel_rfl
  f119 := Tryz.func288.trans (congrArg some (by kernel_rfl))
  f120 := Tryz.func304.trans (congrArg some (by kernel_rfl))
  f137 := Tryz.func258.trans (congrArg some (by kernel_rfl))
  f151 := Tryz.func281.trans (congrArg some (by kernel_rfl))
  f152 := Tryz.func255.trans (congrArg some (by kernel_rfl))
  f162 := Tryz.func183.trans (congrArg some (by kernel_rfl))
  f197 := Tryz.func271.trans (congrArg some (by kernel_rfl))
  f217 := Tryz.func291.trans (congrArg some (by kernel_rfl))
  f224 := Tryz.func289.trans (congrArg some (by kernel_rfl))
  f225 := Tryz.func290.trans (congrArg some (by kernel_rfl))
  f227 := Tryz.func245.trans (congrArg some (by kernel_rfl))
  f228 := Tryz.func257.trans (congrArg some (by kernel_rfl))
  f232 := Tryz.func244.trans (congrArg some (by kernel_rfl))
  f234 := Tryz.func246.trans (congrArg some (by kernel_rfl))
  f236 := Tryz.func247.trans (congrArg some (by kernel_rfl))
  f260 := Tryz.func297.trans (congrArg some (by kernel_rfl))
  f266 := Tryz.func306.trans (congrArg some (by kernel_rfl))
  f271 := Tryz.func280.trans (congrArg some (by kernel_rfl))
  t0 := Tryz.underlying0
  a0 := Tryz.isAgg0
  z0 := Tryz.sizeOf0
  v0 := Tryz.zeroValue0
  t3 := Tryz.underlying3
  a3 := Tryz.isAgg3
  z3 := Tryz.sizeOf3
  v3 := Tryz.zeroValue3
  t4 := Tryz.underlying4
  a4 := Tryz.isAgg4
  z4 := Tryz.sizeOf4
  v4 := Tryz.zeroValue4
  t5 := Tryz.underlying5
  a5 := Tryz.isAgg5
  z5 := Tryz.sizeOf5
  v5 := Tryz.zeroValue5
  t9 := Tryz.underlying9
  a9 := Tryz.isAgg9
  z9 := Tryz.sizeOf9
  v9 := Tryz.zeroValue9
  t21 := Tryz.underlying21
  a21 := Tryz.isAgg21
  z21 := Tryz.sizeOf21
  v21 := Tryz.zeroValue21
  t46 := Tryz.underlying208
  a46 := Tryz.isAgg208
  z46 := Tryz.sizeOf208
  v46 := Tryz.zeroValue208
  t105 := Tryz.underlying272
  a105 := Tryz.isAgg272
  z105 := Tryz.sizeOf272
  v105 := Tryz.zeroValue272
  t116 := Tryz.underlying253
  a116 := Tryz.isAgg253
  z116 := Tryz.sizeOf253
  t117 := Tryz.underlying254
  a117 := Tryz.isAgg254
  z117 := Tryz.sizeOf254
  v117 := Tryz.zeroValue254
  t119 := Tryz.underlying305
  a119 := Tryz.isAgg305
  z119 := Tryz.sizeOf305
  t124 := Tryz.underlying257
  a124 := Tryz.isAgg257
  z124 := Tryz.sizeOf257
  v124 := Tryz.zeroValue257
  t138 := Tryz.underlying307
  a138 := Tryz.isAgg307
  z138 := Tryz.sizeOf307
  v138 := Tryz.zeroValue307
  t139 := Tryz.underlying308
  a139 := Tryz.isAgg308
  z139 := Tryz.sizeOf308
  v139 := Tryz.zeroValue308
  g3 := by kernel_rfl
  g4 := by kernel_rfl }
open Go.RowKit in
/-- strings.TrimRight: "TrimRight returns a slice of the string s, with all trailing Unicode code points contained in cutset removed.": AT A cutset OF ONE ASCII BYTE. The world is as it was. (LAID: no walk: one application.) -/
theorem Tryz.strings_TrimRight_one (s : ByteArray) (c : UInt8) (hc : c.toNat < 128) (w : World) (hs : s.size ≤ 9223372036854775807) :
    Calls Tryz.prog 183 #[.string s, .string ⟨#[c]⟩] w fun e w' => e = .returned (.string ⟨(Lib.trimRightB s.data.toList c).toArray⟩) ∧ w' = w := Any.strings_TrimRight_one Tryz.lays162 s c hc w hs
def Tryz.lays106_ren : Go.Shelf.Ren := ⟨fun | 106 => 205 | 213 => 252 | 265 => 286 | n => n, fun | 9 => 9 | 3 => 3 | n => n, fun | n => n⟩
theorem Tryz.lays106 : Go.Proofs.Lays.n106 Tryz.prog Tryz.lays106_ren := {
  mixed := by kernel_rfl
  f106 := Tryz.func205.trans (congrArg some (by kernel_rfl))
  f213 := Tryz.func252.trans (congrArg some (by kernel_rfl))
  f265 := Tryz.func286.trans (congrArg some (by kernel_rfl))
  t3 := Tryz.underlying3
  a3 := Tryz.isAgg3
  z3 := Tryz.sizeOf3
  v3 := Tryz.zeroValue3
  t9 := Tryz.underlying9
  a9 := Tryz.isAgg9
  z9 := Tryz.sizeOf9
  v9 := Tryz.zeroValue9 }
open Go.RowKit in
/-- strings.Compare: "Compare returns an integer comparing two strings lexicographically. The result will be 0 if a == b, -1 if a < b, and +1 if a > b.": IT RETURNS 'Lib.compareBytes a b'; the world is as it was. (LAID: no walk: one application.) -/
theorem Tryz.strings_Compare (a b : ByteArray) (w : World) :
    Calls Tryz.prog 205 #[.string a, .string b] w fun e w' => e = .returned (.int .i64 (Lib.compareBytes a.data.toList b.data.toList)) ∧ w' = w := Any.strings_Compare Tryz.lays106 a b w
def Tryz.lays137_ren : Go.Shelf.Ren := ⟨fun | 137 => 258 | 217 => 291 | 266 => 306 | n => n, fun | 9 => 9 | 5 => 5 | 3 => 3 | n => n, fun | n => n⟩
theorem Tryz.lays137 : Go.Proofs.Lays.n137 Tryz.prog Tryz.lays137_ren := {
  mixed := by kernel_rfl
  f137 := Tryz.func258.trans (congrArg some (by kernel_rfl))
  f217 := Tryz.func291.trans (congrArg some (by kernel_rfl))
  f266 := Tryz.func306.trans (congrArg some (by kernel_rfl))
  t3 := Tryz.underlying3
  a3 := Tryz.isAgg3
  z3 := Tryz.sizeOf3
  v3 := Tryz.zeroValue3
  t5 := Tryz.underlying5
  a5 := Tryz.isAgg5
  z5 := Tryz.sizeOf5
  v5 := Tryz.zeroValue5
  t9 := Tryz.underlying9
  a9 := Tryz.isAgg9
  z9 := Tryz.sizeOf9
  v9 := Tryz.zeroValue9 }
open Go.RowKit in
/-- strings.IndexByte: "IndexByte returns the index of the first instance of c in s, or -1 if c is not present in s.": IT RETURNS 'Lib.indexByte s c'; the world is as it was. (LAID: no walk: one application.) -/
theorem Tryz.strings_IndexByte (s : ByteArray) (c : Int) (w : World) :
    Calls Tryz.prog 258 #[.string s, .int .u8 c] w fun e w' => e = .returned (.int .i64 (Lib.indexByte s.data.toList c.toNat.toUInt8)) ∧ w' = w := Any.strings_IndexByte Tryz.lays137 s c w
def Tryz.lays103_ren : Go.Shelf.Ren := ⟨fun | 103 => 167 | 210 => 235 | 206 => 216 | n => n, fun | 9 => 9 | 4 => 4 | 24 => 30 | 3 => 3 | n => n, fun | n => n⟩
theorem Tryz.lays103 : Go.Proofs.Lays.n103 Tryz.prog Tryz.lays103_ren := {
  mixed := by kernel_rfl
  f103 := Tryz.func167.trans (congrArg some (by kernel_rfl))
  f206 := Tryz.func216.trans (congrArg some (by kernel_rfl))
  f210 := Tryz.func235.trans (congrArg some (by kernel_rfl))
  t3 := Tryz.underlying3
  a3 := Tryz.isAgg3
  z3 := Tryz.sizeOf3
  v3 := Tryz.zeroValue3
  t4 := Tryz.underlying4
  a4 := Tryz.isAgg4
  z4 := Tryz.sizeOf4
  v4 := Tryz.zeroValue4
  t9 := Tryz.underlying9
  a9 := Tryz.isAgg9
  z9 := Tryz.sizeOf9
  v9 := Tryz.zeroValue9
  t24 := Tryz.underlying30
  a24 := Tryz.isAgg30
  z24 := Tryz.sizeOf30
  v24 := Tryz.zeroValue30 }
open Go.RowKit in
/-- strings.CutPrefix: "CutPrefix returns s without the provided leading prefix string and reports whether it found the prefix. If s doesn't start with prefix, CutPrefix returns s, false. If prefix is the empty string, CutPrefix returns s, true.": IT RETURNS '(Lib.trimPrefix s p, Lib.hasPrefix s p)'; the world is as it was. (LAID: no walk: one application.) -/
theorem Tryz.strings_CutPrefix (s p : ByteArray) (w : World) :
    Calls Tryz.prog 167 #[.string s, .string p] w fun e w' => e = .returned (.tuple #[.string ⟨(Lib.trimPrefix s.data.toList p.data.toList).toArray⟩, .bool (Lib.hasPrefix s.data.toList p.data.toList)]) ∧ w' = w := Any.strings_CutPrefix Tryz.lays103 s p w
open Go.RowKit in
/-- (*strings.Builder).String: "String returns the accumulated string.": WHATEVER THE BUILDER HOLDS; THE FORM '_k': OVER 'Lib.IsBuilderF' (a builder that 'String()' may have read), AND WITH THE FRAME THAT REACHES ABOVE THE BUILDER: 'Lib.OthersKept': every block that is not b and is no row of uint8's stands as it stood: the iterator of a range among them. (LAID: no walk: one application.) -/
theorem Tryz.Builder_String_any_k (B b : Nat) (l : List UInt8) (w : World) (h : Lib.IsBuilderF 215 5 B b (Lib.byteCells l) w) (hBw : B ≤ w.heap.size) :
    Calls Tryz.prog 186 #[.pointer (some ⟨b, 0, none⟩)] w fun e w' => e = .returned (.string ⟨l.toArray⟩) ∧ (Lib.IsBuilderF 215 5 B b (Lib.byteCells l) w' ∧ Below B w w' ∧ Lib.OthersKept 5 (some b) w w') := Any.Builder_String_any_k Tryz.lays169 Tryz.Builder_Extra_169 B b l w h hBw
def Tryz.laysM171_ren : Go.Shelf.Ren := ⟨fun | 171 => 114 | 243 => 193 | 246 => 243 | 283 => 276 | 284 => 277 | 285 => 278 | 286 => 279 | 129 => 300 | 317 => 299 | 318 => 301 | 319 => 302 | 320 => 303 | 337 => 309 | 338 => 310 | n => n, fun | 3 => 3 | 9 => 9 | 2 => 2 | 4 => 4 | 171 => 278 | 0 => 0 | 53 => 183 | 37 => 40 | 5 => 5 | 173 => 281 | 212 => 298 | 51 => 107 | 20 => 20 | 213 => 299 | 46 => 208 | 232 => 311 | 233 => 312 | n => n, fun | 17 => 4 | 18 => 7 | 19 => 8 | n => n⟩
theorem Tryz.laysM171 : Go.Proofs.LaysM.n171 Tryz.prog Tryz.laysM171_ren := {
  mixed := by kernel_rfl
  f129 := Tryz.func300.trans (congrArg some (by kernel_rfl))
  f171 := Tryz.func114.trans (congrArg some (by kernel_rfl))
  f243 := Tryz.func193.trans (congrArg some (by kernel_rfl))
  f246 := Tryz.func243.trans (congrArg some (by kernel_rfl))
  f283 := Tryz.func276.trans (congrArg some (by kernel_rfl))
  f284 := Tryz.func277.trans (congrArg some (by kernel_rfl))
  f285 := Tryz.func278.trans (congrArg some (by kernel_rfl))
  f286 := Tryz.func279.trans (congrArg some (by kernel_rfl))
  f317 := Tryz.func299.trans (congrArg some (by kernel_rfl))
  f318 := Tryz.func301.trans (congrArg some (by kernel_rfl))
  f319 := Tryz.func302.trans (congrArg some (by kernel_rfl))
  f320 := Tryz.func303.trans (congrArg some (by kernel_rfl))
  f337 := Tryz.func309.trans (congrArg some (by kernel_rfl))
  f338 := Tryz.func310.trans (congrArg some (by kernel_rfl))
  t0 := Tryz.underlying0
  a0 := Tryz.isAgg0
  z0 := Tryz.sizeOf0
  v0 := Tryz.zeroValue0
  t2 := Tryz.underlying2
  a2 := Tryz.isAgg2
  z2 := Tryz.sizeOf2
  v2 := Tryz.zeroValue2
  t3 := Tryz.underlying3
  a3 := Tryz.isAgg3
  z3 := Tryz.sizeOf3
  v3 := Tryz.zeroValue3
  t4 := Tryz.underlying4
  a4 := Tryz.isAgg4
  z4 := Tryz.sizeOf4
  v4 := Tryz.zeroValue4
  t5 := Tryz.underlying5
  a5 := Tryz.isAgg5
  z5 := Tryz.sizeOf5
  v5 := Tryz.zeroValue5
  t9 := Tryz.underlying9
  a9 := Tryz.isAgg9
  z9 := Tryz.sizeOf9
  v9 := Tryz.zeroValue9
  t20 := Tryz.underlying20
  a20 := Tryz.isAgg20
  z20 := Tryz.sizeOf20
  v20 := Tryz.zeroValue20
  t37 := Tryz.underlying40
  a37 := Tryz.isAgg40
  z37 := Tryz.sizeOf40
  v37 := Tryz.zeroValue40
  t46 := Tryz.underlying208
  a46 := Tryz.isAgg208
  z46 := Tryz.sizeOf208
  v46 := Tryz.zeroValue208
  t51 := Tryz.underlying107
  a51 := Tryz.isAgg107
  z51 := Tryz.sizeOf107
  v51 := Tryz.zeroValue107
  t53 := Tryz.underlying183
  a53 := Tryz.isAgg183
  z53 := Tryz.sizeOf183
  v53 := Tryz.zeroValue183
  t171 := Tryz.underlying278
  a171 := Tryz.isAgg278
  z171 := Tryz.sizeOf278
  v171 := Tryz.zeroValue278
  t173 := Tryz.underlying281
  a173 := Tryz.isAgg281
  z173 := Tryz.sizeOf281
  v173 := Tryz.zeroValue281
  t212 := Tryz.underlying298
  a212 := Tryz.isAgg298
  z212 := Tryz.sizeOf298
  v212 := Tryz.zeroValue298
  t213 := Tryz.underlying299
  a213 := Tryz.isAgg299
  z213 := Tryz.sizeOf299
  t232 := Tryz.underlying311
  a232 := Tryz.isAgg311
  z232 := Tryz.sizeOf311
  v232 := Tryz.zeroValue311
  t233 := Tryz.underlying312
  a233 := Tryz.isAgg312
  z233 := Tryz.sizeOf312
  v233 := Tryz.zeroValue312
  g17 := by kernel_rfl
  g18 := by kernel_rfl
  g19 := by kernel_rfl
  i0 := by kernel_rfl
  i2 := by kernel_rfl
  i3 := by kernel_rfl
  i4 := by kernel_rfl
  i5 := by kernel_rfl
  i9 := by kernel_rfl
  i20 := by kernel_rfl
  i37 := by kernel_rfl
  i46 := by kernel_rfl
  i51 := by kernel_rfl
  i53 := by kernel_rfl
  i171 := by kernel_rfl
  i173 := by kernel_rfl
  i212 := by kernel_rfl
  i232 := by kernel_rfl
  i233 := by kernel_rfl
  m17 := by kernel_rfl
  m18 := by kernel_rfl
  m19 := by kernel_rfl }
open Go.RowKit Go.Sort Go.Lib in
/-- strconv.Itoa: "Itoa is equivalent to FormatInt(int64(i), 10).": i's DECIMAL NUMERAL ('Lib.itoa': a '-' where i is negative, then the digits), FOR EVERY int. The world behind the call: the world before it, new blocks behind the heap (the library's 'var a [24]byte'), draws. (LAID: no walk: one application.) -/
theorem Tryz.strconv_Itoa (n : Int) (h0 : -9223372036854775808 ≤ n) (h1 : n ≤ 9223372036854775807) (w : World) (htab : Lib.TabIs Tryz.prog w "internal/strconv.uint64pow10" .u64 Lib.pow10Tab) :
    Calls Tryz.prog 114 #[.int .i64 n] w fun e w' => e = .returned (.string ⟨(Lib.itoa n).toArray⟩) ∧ ∃ k os, w' = grow (w.drewN k) os := Any.strconv_Itoa Tryz.laysM171 n h0 h1 w htab
def Tryz.laysM173_ren : Go.Shelf.Ren := ⟨fun | 173 => 182 | 246 => 243 | 283 => 276 | 284 => 277 | 285 => 278 | 286 => 279 | 129 => 300 | 317 => 299 | 318 => 301 | 319 => 302 | 320 => 303 | 337 => 309 | 338 => 310 | n => n, fun | 2 => 2 | 3 => 3 | 9 => 9 | 4 => 4 | 171 => 278 | 0 => 0 | 53 => 183 | 37 => 40 | 5 => 5 | 173 => 281 | 212 => 298 | 51 => 107 | 20 => 20 | 213 => 299 | 46 => 208 | 232 => 311 | 233 => 312 | n => n, fun | 17 => 4 | 18 => 7 | 19 => 8 | n => n⟩
theorem Tryz.laysM173 : Go.Proofs.LaysM.n173 Tryz.prog Tryz.laysM173_ren := {
  mixed := by kernel_rfl
  f129 := Tryz.func300.trans (congrArg some (by kernel_rfl))
  f173 := Tryz.func182.trans (congrArg some (by kernel_rfl))
  f246 := Tryz.func243.trans (congrArg some (by kernel_rfl))
  f283 := Tryz.func276.trans (congrArg some (by kernel_rfl))
  f284 := Tryz.func277.trans (congrArg some (by kernel_rfl))
  f285 := Tryz.func278.trans (congrArg some (by kernel_rfl))
  f286 := Tryz.func279.trans (congrArg some (by kernel_rfl))
  f317 := Tryz.func299.trans (congrArg some (by kernel_rfl))
  f318 := Tryz.func301.trans (congrArg some (by kernel_rfl))
  f319 := Tryz.func302.trans (congrArg some (by kernel_rfl))
  f320 := Tryz.func303.trans (congrArg some (by kernel_rfl))
  f337 := Tryz.func309.trans (congrArg some (by kernel_rfl))
  f338 := Tryz.func310.trans (congrArg some (by kernel_rfl))
  t0 := Tryz.underlying0
  a0 := Tryz.isAgg0
  z0 := Tryz.sizeOf0
  v0 := Tryz.zeroValue0
  t2 := Tryz.underlying2
  a2 := Tryz.isAgg2
  z2 := Tryz.sizeOf2
  v2 := Tryz.zeroValue2
  t3 := Tryz.underlying3
  a3 := Tryz.isAgg3
  z3 := Tryz.sizeOf3
  v3 := Tryz.zeroValue3
  t4 := Tryz.underlying4
  a4 := Tryz.isAgg4
  z4 := Tryz.sizeOf4
  v4 := Tryz.zeroValue4
  t5 := Tryz.underlying5
  a5 := Tryz.isAgg5
  z5 := Tryz.sizeOf5
  v5 := Tryz.zeroValue5
  t9 := Tryz.underlying9
  a9 := Tryz.isAgg9
  z9 := Tryz.sizeOf9
  v9 := Tryz.zeroValue9
  t20 := Tryz.underlying20
  a20 := Tryz.isAgg20
  z20 := Tryz.sizeOf20
  v20 := Tryz.zeroValue20
  t37 := Tryz.underlying40
  a37 := Tryz.isAgg40
  z37 := Tryz.sizeOf40
  v37 := Tryz.zeroValue40
  t46 := Tryz.underlying208
  a46 := Tryz.isAgg208
  z46 := Tryz.sizeOf208
  v46 := Tryz.zeroValue208
  t51 := Tryz.underlying107
  a51 := Tryz.isAgg107
  z51 := Tryz.sizeOf107
  v51 := Tryz.zeroValue107
  t53 := Tryz.underlying183
  a53 := Tryz.isAgg183
  z53 := Tryz.sizeOf183
  v53 := Tryz.zeroValue183
  t171 := Tryz.underlying278
  a171 := Tryz.isAgg278
  z171 := Tryz.sizeOf278
  v171 := Tryz.zeroValue278
  t173 := Tryz.underlying281
  a173 := Tryz.isAgg281
  z173 := Tryz.sizeOf281
  v173 := Tryz.zeroValue281
  t212 := Tryz.underlying298
  a212 := Tryz.isAgg298
  z212 := Tryz.sizeOf298
  v212 := Tryz.zeroValue298
  t213 := Tryz.underlying299
  a213 := Tryz.isAgg299
  z213 := Tryz.sizeOf299
  t232 := Tryz.underlying311
  a232 := Tryz.isAgg311
  z232 := Tryz.sizeOf311
  v232 := Tryz.zeroValue311
  t233 := Tryz.underlying312
  a233 := Tryz.isAgg312
  z233 := Tryz.sizeOf312
  v233 := Tryz.zeroValue312
  g17 := by kernel_rfl
  g18 := by kernel_rfl
  g19 := by kernel_rfl
  i0 := by kernel_rfl
  i2 := by kernel_rfl
  i3 := by kernel_rfl
  i4 := by kernel_rfl
  i5 := by kernel_rfl
  i9 := by kernel_rfl
  i20 := by kernel_rfl
  i37 := by kernel_rfl
  i46 := by kernel_rfl
  i51 := by kernel_rfl
  i53 := by kernel_rfl
  i171 := by kernel_rfl
  i173 := by kernel_rfl
  i212 := by kernel_rfl
  i232 := by kernel_rfl
  i233 := by kernel_rfl
  m17 := by kernel_rfl
  m18 := by kernel_rfl
  m19 := by kernel_rfl }
open Go.RowKit Go.Sort Go.Lib in
/-- strconv.FormatInt: "FormatInt returns the string representation of i in the given base": AT BASE 10: i's decimal numeral, for every int64. (LAID: no walk: one application.) -/
theorem Tryz.strconv_FormatInt_10 (n : Int) (h0 : -9223372036854775808 ≤ n) (h1 : n ≤ 9223372036854775807) (w : World) (htab : Lib.TabIs Tryz.prog w "internal/strconv.uint64pow10" .u64 Lib.pow10Tab) :
    Calls Tryz.prog 182 #[.int .i64 n, .int .i64 10] w fun e w' => e = .returned (.string ⟨(Lib.itoa n).toArray⟩) ∧ ∃ k os, w' = grow (w.drewN k) os := Any.strconv_FormatInt_10 Tryz.laysM173 n h0 h1 w htab
def Tryz.laysC174_ren : Go.Shelf.Ren := ⟨fun | 174 => 171 | 247 => 237 | 245 => 218 | 287 => 217 | 279 => 262 | 280 => 263 | 281 => 264 | 282 => 265 | 321 => 260 | 322 => 261 | 316 => 292 | 171 => 114 | 205 => 293 | 243 => 193 | 246 => 243 | 283 => 276 | 284 => 277 | 285 => 278 | 286 => 279 | 129 => 300 | 317 => 299 | 318 => 301 | 319 => 302 | 320 => 303 | 337 => 309 | 338 => 310 | n => n, fun | 9 => 9 | 3 => 3 | 2 => 2 | 75 => 185 | 85 => 205 | 4 => 4 | 167 => 265 | 5 => 5 | 53 => 183 | 175 => 186 | 46 => 208 | 168 => 267 | 37 => 40 | 0 => 0 | 210 => 290 | 21 => 21 | 127 => 258 | 145 => 303 | 143 => 301 | 171 => 278 | 173 => 281 | 212 => 298 | 51 => 107 | 20 => 20 | 213 => 299 | 232 => 311 | 233 => 312 | 80 => 149 | n => n, fun | 15 => 2 | 16 => 3 | 17 => 4 | 18 => 7 | 19 => 8 | n => n⟩
theorem Tryz.laysC174 : Go.Proofs.LaysC.n174 Tryz.prog Tryz.laysC174_ren := {
  mixed := by kernel_rfl
  f129 := Tryz.func300.trans (congrArg some (by kernel_rfl))
  f171 := Tryz.func114.trans (congrArg some (by kernel_rfl))
  f174 := Tryz.func171.trans (congrArg some (by kernel_rfl))
  f205 := Tryz.func293.trans (congrArg some (by kernel_rfl))
  f243 := Tryz.func193.trans (congrArg some (by kernel_rfl))
  f245 := Tryz.func218.trans (congrArg some (by kernel_rfl))
  f246 := Tryz.func243.trans (congrArg some (by kernel_rfl))
  f247 := Tryz.func237.trans (congrArg some (by kernel_rfl))
  f279 := Tryz.func262.trans (congrArg some (by kernel_rfl))
  f280 := Tryz.func263.trans (congrArg some (by kernel_rfl))
  f281 := Tryz.func264.trans (congrArg some (by kernel_rfl))
  f282 := Tryz.func265.trans (congrArg some (by kernel_rfl))
  f283 := Tryz.func276.trans (congrArg some (by kernel_rfl))
  f284 := Tryz.func277.trans (congrArg some (by kernel_rfl))
  f285 := Tryz.func278.trans (congrArg some (by kernel_rfl))
  f286 := Tryz.func279.trans (congrArg some (by kernel_rfl))
  f287 := Tryz.func217.trans (congrArg some (by kernel_rfl))
  f316 := Tryz.func292.trans (congrArg some (by kernel_rfl))
  f317 := Tryz.func299.trans (congrArg some (by kernel_rfl))
  f318 := Tryz.func301.trans (congrArg some (by kernel_rfl))
  f319 := Tryz.func302.trans (congrArg some (by kernel_rfl))
  f320 := Tryz.func303.trans (congrArg some (by kernel_rfl))
  f321 := Tryz.func260.trans (congrArg some (by kernel_rfl))
  f322 := Tryz.func261.trans (congrArg some (by kernel_rfl))
  f337 := Tryz.func309.trans (congrArg some (by kernel_rfl))
  f338 := Tryz.func310.trans (congrArg some (by kernel_rfl))
  t0 := Tryz.underlying0
  a0 := Tryz.isAgg0
  z0 := Tryz.sizeOf0
  v0 := Tryz.zeroValue0
  t2 := Tryz.underlying2
  a2 := Tryz.isAgg2
  z2 := Tryz.sizeOf2
  v2 := Tryz.zeroValue2
  t3 := Tryz.underlying3
  a3 := Tryz.isAgg3
  z3 := Tryz.sizeOf3
  v3 := Tryz.zeroValue3
  t4 := Tryz.underlying4
  a4 := Tryz.isAgg4
  z4 := Tryz.sizeOf4
  v4 := Tryz.zeroValue4
  t5 := Tryz.underlying5
  a5 := Tryz.isAgg5
  z5 := Tryz.sizeOf5
  v5 := Tryz.zeroValue5
  t9 := Tryz.underlying9
  a9 := Tryz.isAgg9
  z9 := Tryz.sizeOf9
  v9 := Tryz.zeroValue9
  t20 := Tryz.underlying20
  a20 := Tryz.isAgg20
  z20 := Tryz.sizeOf20
  v20 := Tryz.zeroValue20
  t21 := Tryz.underlying21
  a21 := Tryz.isAgg21
  z21 := Tryz.sizeOf21
  v21 := Tryz.zeroValue21
  t37 := Tryz.underlying40
  a37 := Tryz.isAgg40
  z37 := Tryz.sizeOf40
  v37 := Tryz.zeroValue40
  t46 := Tryz.underlying208
  a46 := Tryz.isAgg208
  z46 := Tryz.sizeOf208
  v46 := Tryz.zeroValue208
  t51 := Tryz.underlying107
  a51 := Tryz.isAgg107
  z51 := Tryz.sizeOf107
  v51 := Tryz.zeroValue107
  t53 := Tryz.underlying183
  a53 := Tryz.isAgg183
  z53 := Tryz.sizeOf183
  v53 := Tryz.zeroValue183
  t75 := Tryz.underlying185
  a75 := Tryz.isAgg185
  z75 := Tryz.sizeOf185
  v75 := Tryz.zeroValue185
  t85 := Tryz.underlying205
  a85 := Tryz.isAgg205
  z85 := Tryz.sizeOf205
  v85 := Tryz.zeroValue205
  t127 := Tryz.underlying258
  a127 := Tryz.isAgg258
  z127 := Tryz.sizeOf258
  v127 := Tryz.zeroValue258
  t143 := Tryz.underlying301
  a143 := Tryz.isAgg301
  z143 := Tryz.sizeOf301
  v143 := Tryz.zeroValue301
  t145 := Tryz.underlying303
  a145 := Tryz.isAgg303
  z145 := Tryz.sizeOf303
  v145 := Tryz.zeroValue303
  t167 := Tryz.underlying265
  a167 := Tryz.isAgg265
  z167 := Tryz.sizeOf265
  v167 := Tryz.zeroValue265
  t168 := Tryz.underlying267
  a168 := Tryz.isAgg267
  z168 := Tryz.sizeOf267
  v168 := Tryz.zeroValue267
  t171 := Tryz.underlying278
  a171 := Tryz.isAgg278
  z171 := Tryz.sizeOf278
  v171 := Tryz.zeroValue278
  t173 := Tryz.underlying281
  a173 := Tryz.isAgg281
  z173 := Tryz.sizeOf281
  v173 := Tryz.zeroValue281
  t175 := Tryz.underlying186
  a175 := Tryz.isAgg186
  z175 := Tryz.sizeOf186
  v175 := Tryz.zeroValue186
  t210 := Tryz.underlying290
  a210 := Tryz.isAgg290
  z210 := Tryz.sizeOf290
  v210 := Tryz.zeroValue290
  t212 := Tryz.underlying298
  a212 := Tryz.isAgg298
  z212 := Tryz.sizeOf298
  v212 := Tryz.zeroValue298
  t213 := Tryz.underlying299
  a213 := Tryz.isAgg299
  z213 := Tryz.sizeOf299
  t232 := Tryz.underlying311
  a232 := Tryz.isAgg311
  z232 := Tryz.sizeOf311
  v232 := Tryz.zeroValue311
  t233 := Tryz.underlying312
  a233 := Tryz.isAgg312
  z233 := Tryz.sizeOf312
  v233 := Tryz.zeroValue312
  g15 := by kernel_rfl
  g16 := by kernel_rfl
  g17 := by kernel_rfl
  g18 := by kernel_rfl
  g19 := by kernel_rfl
  t80 := Tryz.underlying149
  a80 := Tryz.isAgg149
  z80 := Tryz.sizeOf149
  v80 := Tryz.zeroValue149
  i0 := by kernel_rfl
  i2 := by kernel_rfl
  i3 := by kernel_rfl
  i4 := by kernel_rfl
  i5 := by kernel_rfl
  i9 := by kernel_rfl
  i20 := by kernel_rfl
  i21 := by kernel_rfl
  i37 := by kernel_rfl
  i46 := by kernel_rfl
  i51 := by kernel_rfl
  i53 := by kernel_rfl
  i75 := by kernel_rfl
  i80 := by kernel_rfl
  i85 := by kernel_rfl
  i127 := by kernel_rfl
  i143 := by kernel_rfl
  i145 := by kernel_rfl
  i167 := by kernel_rfl
  i168 := by kernel_rfl
  i171 := by kernel_rfl
  i173 := by kernel_rfl
  i175 := by kernel_rfl
  i210 := by kernel_rfl
  i212 := by kernel_rfl
  i232 := by kernel_rfl
  i233 := by kernel_rfl
  m15 := by kernel_rfl
  m16 := by kernel_rfl
  m17 := by kernel_rfl
  m18 := by kernel_rfl
  m19 := by kernel_rfl
  c0 := by kernel_rfl
  c2 := by kernel_rfl
  c3 := by kernel_rfl
  c4 := by kernel_rfl
  c5 := by kernel_rfl
  c9 := by kernel_rfl
  c20 := by kernel_rfl
  c21 := by kernel_rfl
  c37 := by kernel_rfl
  c46 := by kernel_rfl
  c51 := by kernel_rfl
  c53 := by kernel_rfl
  c75 := by kernel_rfl
  c80 := by kernel_rfl
  c85 := by kernel_rfl
  c127 := by kernel_rfl
  c143 := by kernel_rfl
  c145 := by kernel_rfl
  c167 := by kernel_rfl
  c168 := by kernel_rfl
  c171 := by kernel_rfl
  c173 := by kernel_rfl
  c175 := by kernel_rfl
  c210 := by kernel_rfl
  c212 := by kernel_rfl
  c213 := by kernel_rfl
  c232 := by kernel_rfl
  c233 := by kernel_rfl }
open Go.RowKit in
/-- strconv.ParseInt(s, 10, 64), AT EVERY STRING THAT SPELLS AN int64 ('Lib.parseIntB 64 s.data.toList = .ok v'): v, AND NO ERROR. (LAID: no walk: one application.) -/
theorem Tryz.strconv_ParseInt_10_at64_ok (s : ByteArray) (hmax : s.size ≤ 9223372036854775806) (v : Int) (h : Lib.parseIntB 64 s.data.toList = .ok v) (w : World) :
    Calls Tryz.prog 171 #[.string s, .int .i64 10, .int .i64 64] w fun e w' => e = .returned (.tuple #[.int .i64 v, .nilIface]) ∧ (w' = w ∨ ∃ t, w' = Lib.bytesWorld w 5 t) := Any.strconv_ParseInt_10_at64_ok Tryz.laysC174 s hmax v h w
open Go.RowKit in
/-- strconv.ParseInt(s, 10, 64), AT EVERY STRING THAT IS NO DECIMAL NUMERAL: 0, AND AN ERROR THAT IS NOT nil: a *NumError in a new block N: {Func: "ParseInt", Num: s's bytes, Err: what the variable ErrSyntax holds}. Of what was there nothing has turned. (LAID: no walk: one application.) -/
theorem Tryz.strconv_ParseInt_10_at64_syntax (s : ByteArray) (hlim : s.size ≤ 281474976710656) (h : Lib.parseIntB 64 s.data.toList = Lib.parseIntB 64 []) (ev : Value) (w : World) (hv : w.cell? ⟨2, 0, none⟩ = some ev) (hev : ev = .nilIface ∨ ∃ te pe, ev = .iface te pe) :
    Calls Tryz.prog 171 #[.string s, .int .i64 10, .int .i64 64] w fun e w' => ∃ N, e = .returned (.tuple #[.int .i64 (0), .iface 267 (.pointer (some ⟨N, 0, none⟩))]) ∧ w.heap.size ≤ N ∧ w'.heap[N]? = some (.cells #[.string ⟨#[80, 97, 114, 115, 101, 73, 110, 116]⟩, .string s, ev] 290 (0, 0)) ∧ Below w.heap.size w w' := Any.strconv_ParseInt_10_at64_syntax Tryz.laysC174 s hlim h ev w hv hev
open Go.RowKit in
/-- strconv.ParseInt(s, 10, 64), AT EVERY NUMERAL THAT NO int64 HOLDS: THE GREATEST OR THE LEAST int64, BY THE SIGN ('Lib.intSat 64'), AND AN ERROR THAT IS NOT nil: a *NumError in a new block N: {Func: "ParseInt", Num: s's bytes, Err: what the variable ErrRange holds}. Of what was there nothing has turned. (LAID: no walk: one application.) -/
theorem Tryz.strconv_ParseInt_10_at64_range (s : ByteArray) (hlim : s.size ≤ 281474976710656) (h : Lib.parseIntB 64 s.data.toList = .range) (ev : Value) (w : World) (hv : w.cell? ⟨3, 0, none⟩ = some ev) (hev : ev = .nilIface ∨ ∃ te pe, ev = .iface te pe) :
    Calls Tryz.prog 171 #[.string s, .int .i64 10, .int .i64 64] w fun e w' => ∃ N, e = .returned (.tuple #[.int .i64 (Lib.intSat 64 s.data.toList), .iface 267 (.pointer (some ⟨N, 0, none⟩))]) ∧ w.heap.size ≤ N ∧ w'.heap[N]? = some (.cells #[.string ⟨#[80, 97, 114, 115, 101, 73, 110, 116]⟩, .string s, ev] 290 (0, 0)) ∧ Below w.heap.size w w' := Any.strconv_ParseInt_10_at64_range Tryz.laysC174 s hlim h ev w hv hev
def Tryz.laysPu14_ren : Go.Shelf.Ren := ⟨fun | 14 => 146 | 16 => 217 | 17 => 218 | 19 => 260 | 20 => 261 | 21 => 262 | 22 => 263 | 23 => 264 | 24 => 265 | 25 => 292 | 27 => 114 | 26 => 293 | 28 => 193 | 29 => 243 | 30 => 276 | 31 => 277 | 32 => 278 | 33 => 279 | 35 => 300 | 34 => 299 | 36 => 301 | 37 => 302 | 38 => 303 | 39 => 309 | 40 => 310 | n => n, fun | 9 => 9 | 3 => 3 | 22 => 183 | 24 => 185 | 25 => 186 | 4 => 4 | 34 => 265 | 5 => 5 | 36 => 208 | 37 => 40 | 0 => 0 | 39 => 267 | 21 => 21 | 44 => 290 | 47 => 258 | 50 => 303 | 48 => 301 | 2 => 2 | 52 => 278 | 55 => 281 | 59 => 298 | 60 => 107 | 20 => 20 | 61 => 299 | 65 => 311 | 66 => 312 | 67 => 149 | n => n, fun | 0 => 2 | 1 => 3 | 2 => 4 | 3 => 7 | 4 => 8 | n => n⟩
theorem Tryz.laysPu14 : Go.Proofs.LaysPu.n14 Tryz.prog Tryz.laysPu14_ren := {
  mixed := by kernel_rfl
  f14 := Tryz.func146.trans (congrArg some (by kernel_rfl))
  f16 := Tryz.func217.trans (congrArg some (by kernel_rfl))
  f17 := Tryz.func218.trans (congrArg some (by kernel_rfl))
  f19 := Tryz.func260.trans (congrArg some (by kernel_rfl))
  f20 := Tryz.func261.trans (congrArg some (by kernel_rfl))
  f21 := Tryz.func262.trans (congrArg some (by kernel_rfl))
  f22 := Tryz.func263.trans (congrArg some (by kernel_rfl))
  f23 := Tryz.func264.trans (congrArg some (by kernel_rfl))
  f24 := Tryz.func265.trans (congrArg some (by kernel_rfl))
  f25 := Tryz.func292.trans (congrArg some (by kernel_rfl))
  f26 := Tryz.func293.trans (congrArg some (by kernel_rfl))
  f27 := Tryz.func114.trans (congrArg some (by kernel_rfl))
  f28 := Tryz.func193.trans (congrArg some (by kernel_rfl))
  f29 := Tryz.func243.trans (congrArg some (by kernel_rfl))
  f30 := Tryz.func276.trans (congrArg some (by kernel_rfl))
  f31 := Tryz.func277.trans (congrArg some (by kernel_rfl))
  f32 := Tryz.func278.trans (congrArg some (by kernel_rfl))
  f33 := Tryz.func279.trans (congrArg some (by kernel_rfl))
  f34 := Tryz.func299.trans (congrArg some (by kernel_rfl))
  f35 := Tryz.func300.trans (congrArg some (by kernel_rfl))
  f36 := Tryz.func301.trans (congrArg some (by kernel_rfl))
  f37 := Tryz.func302.trans (congrArg some (by kernel_rfl))
  f38 := Tryz.func303.trans (congrArg some (by kernel_rfl))
  f39 := Tryz.func309.trans (congrArg some (by kernel_rfl))
  f40 := Tryz.func310.trans (congrArg some (by kernel_rfl))
  t0 := Tryz.underlying0
  a0 := Tryz.isAgg0
  z0 := Tryz.sizeOf0
  v0 := Tryz.zeroValue0
  i0 := by kernel_rfl
  t2 := Tryz.underlying2
  a2 := Tryz.isAgg2
  z2 := Tryz.sizeOf2
  v2 := Tryz.zeroValue2
  i2 := by kernel_rfl
  t3 := Tryz.underlying3
  a3 := Tryz.isAgg3
  z3 := Tryz.sizeOf3
  v3 := Tryz.zeroValue3
  i3 := by kernel_rfl
  t4 := Tryz.underlying4
  a4 := Tryz.isAgg4
  z4 := Tryz.sizeOf4
  v4 := Tryz.zeroValue4
  i4 := by kernel_rfl
  t5 := Tryz.underlying5
  a5 := Tryz.isAgg5
  z5 := Tryz.sizeOf5
  v5 := Tryz.zeroValue5
  i5 := by kernel_rfl
  t9 := Tryz.underlying9
  a9 := Tryz.isAgg9
  z9 := Tryz.sizeOf9
  v9 := Tryz.zeroValue9
  i9 := by kernel_rfl
  t20 := Tryz.underlying20
  a20 := Tryz.isAgg20
  z20 := Tryz.sizeOf20
  v20 := Tryz.zeroValue20
  i20 := by kernel_rfl
  t21 := Tryz.underlying21
  a21 := Tryz.isAgg21
  z21 := Tryz.sizeOf21
  v21 := Tryz.zeroValue21
  i21 := by kernel_rfl
  t22 := Tryz.underlying183
  a22 := Tryz.isAgg183
  z22 := Tryz.sizeOf183
  v22 := Tryz.zeroValue183
  i22 := by kernel_rfl
  t24 := Tryz.underlying185
  a24 := Tryz.isAgg185
  z24 := Tryz.sizeOf185
  v24 := Tryz.zeroValue185
  i24 := by kernel_rfl
  t25 := Tryz.underlying186
  a25 := Tryz.isAgg186
  z25 := Tryz.sizeOf186
  v25 := Tryz.zeroValue186
  i25 := by kernel_rfl
  t34 := Tryz.underlying265
  a34 := Tryz.isAgg265
  z34 := Tryz.sizeOf265
  v34 := Tryz.zeroValue265
  i34 := by kernel_rfl
  c34 := by kernel_rfl
  t36 := Tryz.underlying208
  a36 := Tryz.isAgg208
  z36 := Tryz.sizeOf208
  v36 := Tryz.zeroValue208
  i36 := by kernel_rfl
  t37 := Tryz.underlying40
  a37 := Tryz.isAgg40
  z37 := Tryz.sizeOf40
  v37 := Tryz.zeroValue40
  i37 := by kernel_rfl
  t39 := Tryz.underlying267
  a39 := Tryz.isAgg267
  z39 := Tryz.sizeOf267
  v39 := Tryz.zeroValue267
  i39 := by kernel_rfl
  t44 := Tryz.underlying290
  a44 := Tryz.isAgg290
  z44 := Tryz.sizeOf290
  v44 := Tryz.zeroValue290
  i44 := by kernel_rfl
  t47 := Tryz.underlying258
  a47 := Tryz.isAgg258
  z47 := Tryz.sizeOf258
  v47 := Tryz.zeroValue258
  i47 := by kernel_rfl
  t48 := Tryz.underlying301
  a48 := Tryz.isAgg301
  z48 := Tryz.sizeOf301
  v48 := Tryz.zeroValue301
  i48 := by kernel_rfl
  t50 := Tryz.underlying303
  a50 := Tryz.isAgg303
  z50 := Tryz.sizeOf303
  v50 := Tryz.zeroValue303
  i50 := by kernel_rfl
  t52 := Tryz.underlying278
  a52 := Tryz.isAgg278
  z52 := Tryz.sizeOf278
  v52 := Tryz.zeroValue278
  i52 := by kernel_rfl
  t55 := Tryz.underlying281
  a55 := Tryz.isAgg281
  z55 := Tryz.sizeOf281
  v55 := Tryz.zeroValue281
  i55 := by kernel_rfl
  t59 := Tryz.underlying298
  a59 := Tryz.isAgg298
  z59 := Tryz.sizeOf298
  v59 := Tryz.zeroValue298
  i59 := by kernel_rfl
  t60 := Tryz.underlying107
  a60 := Tryz.isAgg107
  z60 := Tryz.sizeOf107
  v60 := Tryz.zeroValue107
  i60 := by kernel_rfl
  t61 := Tryz.underlying299
  a61 := Tryz.isAgg299
  z61 := Tryz.sizeOf299
  t65 := Tryz.underlying311
  a65 := Tryz.isAgg311
  z65 := Tryz.sizeOf311
  v65 := Tryz.zeroValue311
  i65 := by kernel_rfl
  t66 := Tryz.underlying312
  a66 := Tryz.isAgg312
  z66 := Tryz.sizeOf312
  v66 := Tryz.zeroValue312
  i66 := by kernel_rfl
  t67 := Tryz.underlying149
  a67 := Tryz.isAgg149
  z67 := Tryz.sizeOf149
  v67 := Tryz.zeroValue149
  i67 := by kernel_rfl
  g0 := by kernel_rfl
  m0 := by kernel_rfl
  g1 := by kernel_rfl
  m1 := by kernel_rfl
  g2 := by kernel_rfl
  m2 := by kernel_rfl
  g3 := by kernel_rfl
  m3 := by kernel_rfl
  g4 := by kernel_rfl
  m4 := by kernel_rfl }
open Go.RowKit in
/-- strconv.ParseUint(s, 10, 64), AT EVERY STRING THAT SPELLS A uint64 ('Lib.parseUintB 64 s.data.toList = .ok u'): u, AND NO ERROR. (LAID: no walk: one application.) -/
theorem Tryz.strconv_ParseUint_10_at64_ok (s : ByteArray) (hmax : s.size ≤ 9223372036854775806) (u : Nat) (h : Lib.parseUintB 64 s.data.toList = .ok u) (w : World) :
    Calls Tryz.prog 146 #[.string s, .int .i64 10, .int .i64 64] w fun e w' => e = .returned (.tuple #[.int .u64 u, .nilIface]) ∧ (w' = w ∨ w' = Lib.bytesWorld w 5 s) := Any.strconv_ParseUint_10_at64_ok Tryz.laysPu14 s hmax u h w
open Go.RowKit in
/-- strconv.ParseUint(s, 10, 64), AT EVERY STRING THAT IS NO ROW OF DECIMAL DIGITS (a sign is a fault): 0, AND AN ERROR THAT IS NOT nil: a *NumError in a new block N: {Func: "ParseUint", Num: s's bytes, Err: what the variable ErrSyntax holds}. Of what was there nothing has turned. (LAID: no walk: one application.) -/
theorem Tryz.strconv_ParseUint_10_at64_syntax (s : ByteArray) (hlim : s.size ≤ 281474976710656) (h : Lib.parseUintB 64 s.data.toList = Lib.parseUintB 64 []) (ev : Value) (w : World) (hv : w.cell? ⟨2, 0, none⟩ = some ev) (hev : ev = .nilIface ∨ ∃ te pe, ev = .iface te pe) :
    Calls Tryz.prog 146 #[.string s, .int .i64 10, .int .i64 64] w fun e w' => ∃ N, e = .returned (.tuple #[.int .u64 0, .iface 267 (.pointer (some ⟨N, 0, none⟩))]) ∧ w.heap.size ≤ N ∧ w'.heap[N]? = some (.cells #[.string ⟨#[80, 97, 114, 115, 101, 85, 105, 110, 116]⟩, .string s, ev] 290 (0, 0)) ∧ Below w.heap.size w w' := Any.strconv_ParseUint_10_at64_syntax Tryz.laysPu14 s hlim h ev w hv hev
open Go.RowKit in
/-- strconv.ParseUint(s, 10, 64), AT EVERY NUMERAL THAT NO uint64 HOLDS: THE GREATEST uint64, AND AN ERROR THAT IS NOT nil: a *NumError in a new block N: {Func: "ParseUint", Num: s's bytes, Err: what the variable ErrRange holds}. Of what was there nothing has turned. (LAID: no walk: one application.) -/
theorem Tryz.strconv_ParseUint_10_at64_range (s : ByteArray) (hlim : s.size ≤ 281474976710656) (h : Lib.parseUintB 64 s.data.toList = .range) (ev : Value) (w : World) (hv : w.cell? ⟨3, 0, none⟩ = some ev) (hev : ev = .nilIface ∨ ∃ te pe, ev = .iface te pe) :
    Calls Tryz.prog 146 #[.string s, .int .i64 10, .int .i64 64] w fun e w' => ∃ N, e = .returned (.tuple #[.int .u64 18446744073709551615, .iface 267 (.pointer (some ⟨N, 0, none⟩))]) ∧ w.heap.size ≤ N ∧ w'.heap[N]? = some (.cells #[.string ⟨#[80, 97, 114, 115, 101, 85, 105, 110, 116]⟩, .string s, ev] 290 (0, 0)) ∧ Below w.heap.size w w' := Any.strconv_ParseUint_10_at64_range Tryz.laysPu14 s hlim h ev w hv hev
def Tryz.lays219_ren : Go.Shelf.Ren := ⟨fun | 219 => 273 | 217 => 291 | 225 => 290 | 224 => 289 | 267 => 298 | 266 => 306 | 314 => 308 | n => n, fun | 9 => 9 | 3 => 3 | 4 => 4 | 5 => 5 | 46 => 208 | 146 => 274 | 51 => 107 | n => n, fun | 1 => 1 | n => n⟩
theorem Tryz.lays219 : Go.Proofs.Lays.n219 Tryz.prog Tryz.lays219_ren := {
  mixed := by kernel_rfl
  f217 := Tryz.func291.trans (congrArg some (by kernel_rfl))
  f219 := Tryz.func273.trans (congrArg some (by kernel_rfl))
  f224 := Tryz.func289.trans (congrArg some (by kernel_rfl))
  f225 := Tryz.func290.trans (congrArg some (by kernel_rfl))
  f266 := Tryz.func306.trans (congrArg some (by kernel_rfl))
  f267 := Tryz.func298.trans (congrArg some (by kernel_rfl))
  f314 := Tryz.func308.trans (congrArg some (by kernel_rfl))
  t3 := Tryz.underlying3
  a3 := Tryz.isAgg3
  z3 := Tryz.sizeOf3
  v3 := Tryz.zeroValue3
  t4 := Tryz.underlying4
  a4 := Tryz.isAgg4
  z4 := Tryz.sizeOf4
  v4 := Tryz.zeroValue4
  t5 := Tryz.underlying5
  a5 := Tryz.isAgg5
  z5 := Tryz.sizeOf5
  v5 := Tryz.zeroValue5
  t9 := Tryz.underlying9
  a9 := Tryz.isAgg9
  z9 := Tryz.sizeOf9
  v9 := Tryz.zeroValue9
  t46 := Tryz.underlying208
  a46 := Tryz.isAgg208
  z46 := Tryz.sizeOf208
  v46 := Tryz.zeroValue208
  t51 := Tryz.underlying107
  a51 := Tryz.isAgg107
  z51 := Tryz.sizeOf107
  v51 := Tryz.zeroValue107
  t146 := Tryz.underlying274
  a146 := Tryz.isAgg274
  z146 := Tryz.sizeOf274
  v146 := Tryz.zeroValue274
  g1 := by kernel_rfl }
open Go.RowKit Go.Lib in
/-- internal/stringslite.Index (what strings.Index calls) AT A substr OF ONE BYTE c: IT RETURNS 'Lib.indexByte s c'; the world is as it was. (LAID: no walk: one application.) -/
theorem Tryz.stringslite_Index_one (s : ByteArray) (c : UInt8) (w : World) :
    Calls Tryz.prog 273 #[.string s, .string ⟨#[c]⟩] w fun e w' => e = .returned (.int .i64 (Lib.indexByte s.data.toList c)) ∧ w' = w := Any.stringslite_Index_one Tryz.lays219 s c w
open Go.RowKit Go.Lib in
/-- internal/stringslite.Index (what strings.Index calls) AT A substr OF WHATEVER LENGTH: IT RETURNS 'Lib.index s substr'; the world is as it was. 'm': what internal/bytealg.MaxLen holds: whatever. (LAID: no walk: one application.) -/
theorem Tryz.stringslite_Index (s sub : ByteArray) (m : Int) (w : World) (hs : s.size < 4294967281) (hm : w.cell? ⟨1, 0, none⟩ = some (.int .i64 m)) :
    Calls Tryz.prog 273 #[.string s, .string sub] w fun e w' => e = .returned (.int .i64 (Lib.index s.data.toList sub.data.toList)) ∧ w' = w := Any.stringslite_Index Tryz.lays219 s sub m w hs hm
def Tryz.lays143_ren : Go.Shelf.Ren := ⟨fun | 143 => 234 | 219 => 273 | 217 => 291 | 225 => 290 | 224 => 289 | 267 => 298 | 266 => 306 | 314 => 308 | n => n, fun | 9 => 9 | 3 => 3 | 4 => 4 | 5 => 5 | 46 => 208 | 146 => 274 | 51 => 107 | n => n, fun | 1 => 1 | n => n⟩
theorem Tryz.lays143 : Go.Proofs.Lays.n143 Tryz.prog Tryz.lays143_ren := {
  mixed := by kernel_rfl
  f143 := Tryz.func234.trans (congrArg some (by kernel_rfl))
  f217 := Tryz.func291.trans (congrArg some (by kernel_rfl))
  f219 := Tryz.func273.trans (congrArg some (by kernel_rfl))
  f224 := Tryz.func289.trans (congrArg some (by kernel_rfl))
  f225 := Tryz.func290.trans (congrArg some (by kernel_rfl))
  f266 := Tryz.func306.trans (congrArg some (by kernel_rfl))
  f267 := Tryz.func298.trans (congrArg some (by kernel_rfl))
  f314 := Tryz.func308.trans (congrArg some (by kernel_rfl))
  t3 := Tryz.underlying3
  a3 := Tryz.isAgg3
  z3 := Tryz.sizeOf3
  v3 := Tryz.zeroValue3
  t4 := Tryz.underlying4
  a4 := Tryz.isAgg4
  z4 := Tryz.sizeOf4
  v4 := Tryz.zeroValue4
  t5 := Tryz.underlying5
  a5 := Tryz.isAgg5
  z5 := Tryz.sizeOf5
  v5 := Tryz.zeroValue5
  t9 := Tryz.underlying9
  a9 := Tryz.isAgg9
  z9 := Tryz.sizeOf9
  v9 := Tryz.zeroValue9
  t46 := Tryz.underlying208
  a46 := Tryz.isAgg208
  z46 := Tryz.sizeOf208
  v46 := Tryz.zeroValue208
  t51 := Tryz.underlying107
  a51 := Tryz.isAgg107
  z51 := Tryz.sizeOf107
  v51 := Tryz.zeroValue107
  t146 := Tryz.underlying274
  a146 := Tryz.isAgg274
  z146 := Tryz.sizeOf274
  v146 := Tryz.zeroValue274
  g1 := by kernel_rfl }
open Go.RowKit Go.Lib in
/-- strings.Index: "Index returns the index of the first instance of substr in s, or -1 if substr is not present in s.": IT RETURNS 'Lib.index s substr'; the world is as it was. (LAID: no walk: one application.) -/
theorem Tryz.strings_Index (s sub : ByteArray) (m : Int) (w : World) (hs : s.size < 4294967281) (hm : w.cell? ⟨1, 0, none⟩ = some (.int .i64 m)) :
    Calls Tryz.prog 234 #[.string s, .string sub] w fun e w' => e = .returned (.int .i64 (Lib.index s.data.toList sub.data.toList)) ∧ w' = w := Any.strings_Index Tryz.lays143 s sub m w hs hm
def Tryz.lays220_ren : Go.Shelf.Ren := ⟨fun | 220 => 236 | 219 => 273 | 217 => 291 | 225 => 290 | 224 => 289 | 267 => 298 | 266 => 306 | 314 => 308 | n => n, fun | 9 => 9 | 4 => 4 | 3 => 3 | 5 => 5 | 46 => 208 | 146 => 274 | 51 => 107 | n => n, fun | 1 => 1 | n => n⟩
theorem Tryz.lays220 : Go.Proofs.Lays.n220 Tryz.prog Tryz.lays220_ren := {
  mixed := by kernel_rfl
  f217 := Tryz.func291.trans (congrArg some (by kernel_rfl))
  f219 := Tryz.func273.trans (congrArg some (by kernel_rfl))
  f220 := Tryz.func236.trans (congrArg some (by kernel_rfl))
  f224 := Tryz.func289.trans (congrArg some (by kernel_rfl))
  f225 := Tryz.func290.trans (congrArg some (by kernel_rfl))
  f266 := Tryz.func306.trans (congrArg some (by kernel_rfl))
  f267 := Tryz.func298.trans (congrArg some (by kernel_rfl))
  f314 := Tryz.func308.trans (congrArg some (by kernel_rfl))
  t3 := Tryz.underlying3
  a3 := Tryz.isAgg3
  z3 := Tryz.sizeOf3
  v3 := Tryz.zeroValue3
  t4 := Tryz.underlying4
  a4 := Tryz.isAgg4
  z4 := Tryz.sizeOf4
  v4 := Tryz.zeroValue4
  t5 := Tryz.underlying5
  a5 := Tryz.isAgg5
  z5 := Tryz.sizeOf5
  v5 := Tryz.zeroValue5
  t9 := Tryz.underlying9
  a9 := Tryz.isAgg9
  z9 := Tryz.sizeOf9
  v9 := Tryz.zeroValue9
  t46 := Tryz.underlying208
  a46 := Tryz.isAgg208
  z46 := Tryz.sizeOf208
  v46 := Tryz.zeroValue208
  t51 := Tryz.underlying107
  a51 := Tryz.isAgg107
  z51 := Tryz.sizeOf107
  v51 := Tryz.zeroValue107
  t146 := Tryz.underlying274
  a146 := Tryz.isAgg274
  z146 := Tryz.sizeOf274
  v146 := Tryz.zeroValue274
  g1 := by kernel_rfl }
open Go.RowKit Go.Lib in
/-- internal/stringslite.Cut (what strings.Cut calls): IT RETURNS 'Lib.cut s sep'; the world is as it was but for the count of draws. (LAID: no walk: one application.) -/
theorem Tryz.stringslite_Cut (s sep : ByteArray) (m : Int) (w : World) (hs : s.size < 4294967281) (hm : w.cell? ⟨1, 0, none⟩ = some (.int .i64 m)) :
    Calls Tryz.prog 236 #[.string s, .string sep] w fun e w' => e = .returned (.tuple #[.string ⟨(Lib.cut s.data.toList sep.data.toList).1.toArray⟩, .string ⟨(Lib.cut s.data.toList sep.data.toList).2.1.toArray⟩, .bool (Lib.cut s.data.toList sep.data.toList).2.2]) ∧ ∃ n, w' = w.drewN n := Any.stringslite_Cut Tryz.lays220 s sep m w hs hm
def Tryz.lays145_ren : Go.Shelf.Ren := ⟨fun | 145 => 168 | 220 => 236 | 219 => 273 | 217 => 291 | 225 => 290 | 224 => 289 | 267 => 298 | 266 => 306 | 314 => 308 | n => n, fun | 9 => 9 | 4 => 4 | 59 => 201 | 3 => 3 | 5 => 5 | 46 => 208 | 146 => 274 | 51 => 107 | n => n, fun | 1 => 1 | n => n⟩
theorem Tryz.lays145 : Go.Proofs.Lays.n145 Tryz.prog Tryz.lays145_ren := {
  mixed := by kernel_rfl
  f145 := Tryz.func168.trans (congrArg some (by kernel_rfl))
  f217 := Tryz.func291.trans (congrArg some (by kernel_rfl))
  f219 := Tryz.func273.trans (congrArg some (by kernel_rfl))
  f220 := Tryz.func236.trans (congrArg some (by kernel_rfl))
  f224 := Tryz.func289.trans (congrArg some (by kernel_rfl))
  f225 := Tryz.func290.trans (congrArg some (by kernel_rfl))
  f266 := Tryz.func306.trans (congrArg some (by kernel_rfl))
  f267 := Tryz.func298.trans (congrArg some (by kernel_rfl))
  f314 := Tryz.func308.trans (congrArg some (by kernel_rfl))
  t3 := Tryz.underlying3
  a3 := Tryz.isAgg3
  z3 := Tryz.sizeOf3
  v3 := Tryz.zeroValue3
  t4 := Tryz.underlying4
  a4 := Tryz.isAgg4
  z4 := Tryz.sizeOf4
  v4 := Tryz.zeroValue4
  t5 := Tryz.underlying5
  a5 := Tryz.isAgg5
  z5 := Tryz.sizeOf5
  v5 := Tryz.zeroValue5
  t9 := Tryz.underlying9
  a9 := Tryz.isAgg9
  z9 := Tryz.sizeOf9
  v9 := Tryz.zeroValue9
  t46 := Tryz.underlying208
  a46 := Tryz.isAgg208
  z46 := Tryz.sizeOf208
  v46 := Tryz.zeroValue208
  t51 := Tryz.underlying107
  a51 := Tryz.isAgg107
  z51 := Tryz.sizeOf107
  v51 := Tryz.zeroValue107
  t59 := Tryz.underlying201
  a59 := Tryz.isAgg201
  z59 := Tryz.sizeOf201
  v59 := Tryz.zeroValue201
  t146 := Tryz.underlying274
  a146 := Tryz.isAgg274
  z146 := Tryz.sizeOf274
  v146 := Tryz.zeroValue274
  g1 := by kernel_rfl }
open Go.RowKit Go.Lib in
/-- strings.Cut: "Cut slices s around the first instance of sep, returning the text before and after sep. The found result reports whether sep appears in s. If sep does not appear in s, cut returns s, "", false.": IT RETURNS 'Lib.cut s sep'; the world is as it was but for the count of draws. (LAID: no walk: one application.) -/
theorem Tryz.strings_Cut (s sep : ByteArray) (m : Int) (w : World) (hs : s.size < 4294967281) (hm : w.cell? ⟨1, 0, none⟩ = some (.int .i64 m)) :
    Calls Tryz.prog 168 #[.string s, .string sep] w fun e w' => e = .returned (.tuple #[.string ⟨(Lib.cut s.data.toList sep.data.toList).1.toArray⟩, .string ⟨(Lib.cut s.data.toList sep.data.toList).2.1.toArray⟩, .bool (Lib.cut s.data.toList sep.data.toList).2.2]) ∧ ∃ n, w' = w.drewN n := Any.strings_Cut Tryz.lays145 s sep m w hs hm
def Tryz.lays138_ren : Go.Shelf.Ren := ⟨fun | 138 => 233 | 195 => 270 | 218 => 272 | 143 => 234 | 219 => 273 | 217 => 291 | 225 => 290 | 224 => 289 | 267 => 298 | 266 => 306 | 314 => 308 | n => n, fun | 9 => 9 | 3 => 3 | 4 => 4 | 5 => 5 | 0 => 0 | 46 => 208 | 146 => 274 | 51 => 107 | n => n, fun | 1 => 1 | n => n⟩
theorem Tryz.lays138 : Go.Proofs.Lays.n138 Tryz.prog Tryz.lays138_ren := {
  mixed := by kernel_rfl
  f138 := Tryz.func233.trans (congrArg some (by kernel_rfl))
  f143 := Tryz.func234.trans (congrArg some (by kernel_rfl))
  f195 := Tryz.func270.trans (congrArg some (by kernel_rfl))
  f217 := Tryz.func291.trans (congrArg some (by kernel_rfl))
  f218 := Tryz.func272.trans (congrArg some (by kernel_rfl))
  f219 := Tryz.func273.trans (congrArg some (by kernel_rfl))
  f224 := Tryz.func289.trans (congrArg some (by kernel_rfl))
  f225 := Tryz.func290.trans (congrArg some (by kernel_rfl))
  f266 := Tryz.func306.trans (congrArg some (by kernel_rfl))
  f267 := Tryz.func298.trans (congrArg some (by kernel_rfl))
  f314 := Tryz.func308.trans (congrArg some (by kernel_rfl))
  t0 := Tryz.underlying0
  a0 := Tryz.isAgg0
  z0 := Tryz.sizeOf0
  v0 := Tryz.zeroValue0
  t3 := Tryz.underlying3
  a3 := Tryz.isAgg3
  z3 := Tryz.sizeOf3
  v3 := Tryz.zeroValue3
  t4 := Tryz.underlying4
  a4 := Tryz.isAgg4
  z4 := Tryz.sizeOf4
  v4 := Tryz.zeroValue4
  t5 := Tryz.underlying5
  a5 := Tryz.isAgg5
  z5 := Tryz.sizeOf5
  v5 := Tryz.zeroValue5
  t9 := Tryz.underlying9
  a9 := Tryz.isAgg9
  z9 := Tryz.sizeOf9
  v9 := Tryz.zeroValue9
  t46 := Tryz.underlying208
  a46 := Tryz.isAgg208
  z46 := Tryz.sizeOf208
  v46 := Tryz.zeroValue208
  t51 := Tryz.underlying107
  a51 := Tryz.isAgg107
  z51 := Tryz.sizeOf107
  v51 := Tryz.zeroValue107
  t146 := Tryz.underlying274
  a146 := Tryz.isAgg274
  z146 := Tryz.sizeOf274
  v146 := Tryz.zeroValue274
  g1 := by kernel_rfl }
open Go.RowKit Go.Lib in
/-- strings.Count AT A substr OF ONE BYTE ('hp'): "Count counts the number of non-overlapping instances of substr in s.": IT RETURNS 'Lib.countByte s (that byte)'; the world is as it was. ✋ NO CONTRACT HERE YET at an empty substr (utf8.RuneCountInString) or at a longer one (a loop over strings.Index). (LAID: no walk: one application.) -/
theorem Tryz.strings_Count_one (s : ByteArray) (c : UInt8) (w : World) :
    Calls Tryz.prog 233 #[.string s, .string ⟨#[c]⟩] w fun e w' => e = .returned (.int .i64 (Lib.countByte s.data.toList c)) ∧ w' = w := Any.strings_Count_one Tryz.lays138 s c w
open Go.RowKit Go.Lib in
/-- strings.Count AT A substr OF TWO BYTES OR MORE: "Count counts the number of non-overlapping instances of substr in s.": IT RETURNS 'Lib.count s substr'; the world is as it was. (LAID: no walk: one application.) -/
theorem Tryz.strings_Count (s sub : ByteArray) (m : Int) (w : World) (hs : s.size < 4294967281) (hm : w.cell? ⟨1, 0, none⟩ = some (.int .i64 m)) (h2 : 2 ≤ sub.size) :
    Calls Tryz.prog 233 #[.string s, .string sub] w fun e w' => e = .returned (.int .i64 (Lib.countB s sub)) ∧ w' = w := Any.strings_Count Tryz.lays138 s sub m w hs hm h2
def Tryz.lays207_ren : Go.Shelf.Ren := ⟨fun | 207 => 241 | n => n, fun | 9 => 9 | 4 => 4 | 3 => 3 | n => n, fun | n => n⟩
theorem Tryz.lays207 : Go.Proofs.Lays.n207 Tryz.prog Tryz.lays207_ren := {
  mixed := by kernel_rfl
  f207 := Tryz.func241.trans (congrArg some (by kernel_rfl))
  t3 := Tryz.underlying3
  a3 := Tryz.isAgg3
  z3 := Tryz.sizeOf3
  v3 := Tryz.zeroValue3
  t4 := Tryz.underlying4
  a4 := Tryz.isAgg4
  z4 := Tryz.sizeOf4
  v4 := Tryz.zeroValue4
  t9 := Tryz.underlying9
  a9 := Tryz.isAgg9
  z9 := Tryz.sizeOf9
  v9 := Tryz.zeroValue9 }
open Go.RowKit Go.Lib in
/-- internal/stringslite.HasSuffix (what strings.HasSuffix calls). (LAID: no walk: one application.) -/
theorem Tryz.stringslite_HasSuffix (s p : ByteArray) (w : World) (hs : s.size ≤ 9223372036854775807) :
    Calls Tryz.prog 241 #[.string s, .string p] w fun e w' => e = .returned (.bool (Lib.hasSuffix s.data.toList p.data.toList)) ∧ w' = w := Any.stringslite_HasSuffix Tryz.lays207 s p w hs
def Tryz.lays100_ren : Go.Shelf.Ren := ⟨fun | 100 => 176 | 207 => 241 | n => n, fun | 9 => 9 | 4 => 4 | 3 => 3 | n => n, fun | n => n⟩
theorem Tryz.lays100 : Go.Proofs.Lays.n100 Tryz.prog Tryz.lays100_ren := {
  mixed := by kernel_rfl
  f100 := Tryz.func176.trans (congrArg some (by kernel_rfl))
  f207 := Tryz.func241.trans (congrArg some (by kernel_rfl))
  t3 := Tryz.underlying3
  a3 := Tryz.isAgg3
  z3 := Tryz.sizeOf3
  v3 := Tryz.zeroValue3
  t4 := Tryz.underlying4
  a4 := Tryz.isAgg4
  z4 := Tryz.sizeOf4
  v4 := Tryz.zeroValue4
  t9 := Tryz.underlying9
  a9 := Tryz.isAgg9
  z9 := Tryz.sizeOf9
  v9 := Tryz.zeroValue9 }
open Go.RowKit Go.Lib in
/-- strings.HasSuffix: "HasSuffix reports whether the string s ends with suffix.": IT RETURNS 'Lib.hasSuffix s suffix'; the world is as it was. ('hs': no Go string is longer: a caller has it of every string that it was handed.) (LAID: no walk: one application.) -/
theorem Tryz.strings_HasSuffix (s p : ByteArray) (w : World) (hs : s.size ≤ 9223372036854775807) :
    Calls Tryz.prog 176 #[.string s, .string p] w fun e w' => e = .returned (.bool (Lib.hasSuffix s.data.toList p.data.toList)) ∧ w' = w := Any.strings_HasSuffix Tryz.lays100 s p w hs
def Tryz.lays221_ren : Go.Shelf.Ren := ⟨fun | 221 => 166 | 268 => 232 | 138 => 233 | 143 => 234 | 195 => 270 | 197 => 271 | 218 => 272 | 219 => 273 | 260 => 297 | 217 => 291 | 225 => 290 | 224 => 289 | 267 => 298 | 266 => 306 | 314 => 308 | n => n, fun | 9 => 9 | 3 => 3 | 31 => 43 | 4 => 4 | 0 => 0 | 105 => 272 | 21 => 21 | 5 => 5 | 46 => 208 | 119 => 305 | 139 => 308 | 138 => 307 | 146 => 274 | 51 => 107 | n => n, fun | 1 => 1 | 3 => 5 | 4 => 6 | n => n⟩
theorem Tryz.lays221 : Go.Proofs.Lays.n221 Tryz.prog Tryz.lays221_ren := {
  mixed := by kernel_rfl
  f138 := Tryz.func233.trans (congrArg some (by kernel_rfl))
  f143 := Tryz.func234.trans (congrArg some (by kernel_rfl))
  f195 := Tryz.func270.trans (congrArg some (by kernel_rfl))
  f197 := Tryz.func271.trans (congrArg some (by kernel_rfl))
  f217 := Tryz.func291.trans (congrArg some (by kernel_rfl))
  f218 := Tryz.func272.trans (congrArg some (by kernel_rfl))
  f219 := Tryz.func273.trans (congrArg some (by kernel_rfl))
  f221 := Tryz.func166.trans (congrArg some (by kernel_rfl))
  f224 := Tryz.func289.trans (congrArg some (by kernel_rfl))
  f225 := Tryz.func290.trans (congrArg some (by kernel_rfl))
  f260 := Tryz.func297.trans (congrArg some (by kernel_rfl))
  f266 := Tryz.func306.trans (congrArg some (by kernel_rfl))
  f267 := Tryz.func298.trans (congrArg some (by kernel_rfl))
  f268 := Tryz.func232.trans (congrArg some (by kernel_rfl))
  f314 := Tryz.func308.trans (congrArg some (by kernel_rfl))
  t0 := Tryz.underlying0
  a0 := Tryz.isAgg0
  z0 := Tryz.sizeOf0
  v0 := Tryz.zeroValue0
  t3 := Tryz.underlying3
  a3 := Tryz.isAgg3
  z3 := Tryz.sizeOf3
  v3 := Tryz.zeroValue3
  t4 := Tryz.underlying4
  a4 := Tryz.isAgg4
  z4 := Tryz.sizeOf4
  v4 := Tryz.zeroValue4
  t5 := Tryz.underlying5
  a5 := Tryz.isAgg5
  z5 := Tryz.sizeOf5
  v5 := Tryz.zeroValue5
  t9 := Tryz.underlying9
  a9 := Tryz.isAgg9
  z9 := Tryz.sizeOf9
  v9 := Tryz.zeroValue9
  t21 := Tryz.underlying21
  a21 := Tryz.isAgg21
  z21 := Tryz.sizeOf21
  v21 := Tryz.zeroValue21
  t31 := Tryz.underlying43
  a31 := Tryz.isAgg43
  z31 := Tryz.sizeOf43
  v31 := Tryz.zeroValue43
  t46 := Tryz.underlying208
  a46 := Tryz.isAgg208
  z46 := Tryz.sizeOf208
  v46 := Tryz.zeroValue208
  t51 := Tryz.underlying107
  a51 := Tryz.isAgg107
  z51 := Tryz.sizeOf107
  v51 := Tryz.zeroValue107
  t105 := Tryz.underlying272
  a105 := Tryz.isAgg272
  z105 := Tryz.sizeOf272
  v105 := Tryz.zeroValue272
  t119 := Tryz.underlying305
  a119 := Tryz.isAgg305
  z119 := Tryz.sizeOf305
  t138 := Tryz.underlying307
  a138 := Tryz.isAgg307
  z138 := Tryz.sizeOf307
  v138 := Tryz.zeroValue307
  t139 := Tryz.underlying308
  a139 := Tryz.isAgg308
  z139 := Tryz.sizeOf308
  v139 := Tryz.zeroValue308
  t146 := Tryz.underlying274
  a146 := Tryz.isAgg274
  z146 := Tryz.sizeOf274
  v146 := Tryz.zeroValue274
  g1 := by kernel_rfl
  g3 := by kernel_rfl
  g4 := by kernel_rfl }
open Go.RowKit Go.Lib in
theorem Tryz.strings_genSplit (s sep : ByteArray) (sv : Nat) (n : Int) (N : Nat) (m : Int) (w : World) (hs : s.size < 4294967281) (hm : w.cell? ⟨1, 0, none⟩ = some (.int .i64 m)) (h1 : 1 ≤ sep.size) (hsv : sv ≤ sep.size) (hn0 : n ≠ 0) (hn63 : n ≤ 9223372036854775807) (hN : (N : Int) = min (if n < 0 then (Lib.countB s sep : Int) + 1 else n) ((s.size : Int) + 1)) :
    Calls Tryz.prog 166 #[.string s, .string sep, .int .i64 sv, .int .i64 n] w fun e w' =>
      e = .returned (.slice (some ⟨w.heap.size, 0, none⟩) (Lib.splitB sep sv (N - 1) s).length N) ∧ w' = w.alloc (.cells (Lib.cellsOf (Lib.splitB sep sv (N - 1) s) N) 9) := Any.strings_genSplit Tryz.lays221 (by kernel_rfl) s sep sv n N m w hs hm h1 hsv hn0 hn63 hN
def Tryz.lays146_ren : Go.Shelf.Ren := ⟨fun | 146 => 95 | 221 => 166 | 268 => 232 | 138 => 233 | 143 => 234 | 195 => 270 | 197 => 271 | 218 => 272 | 219 => 273 | 260 => 297 | 217 => 291 | 225 => 290 | 224 => 289 | 267 => 298 | 266 => 306 | 314 => 308 | n => n, fun | 9 => 9 | 31 => 43 | 3 => 3 | 4 => 4 | 0 => 0 | 105 => 272 | 21 => 21 | 5 => 5 | 46 => 208 | 119 => 305 | 139 => 308 | 138 => 307 | 146 => 274 | 51 => 107 | n => n, fun | 1 => 1 | 3 => 5 | 4 => 6 | n => n⟩
theorem Tryz.lays146 : Go.Proofs.Lays.n146 Tryz.prog Tryz.lays146_ren := {
  mixed := by kernel_rfl
  f138 := Tryz.func233.trans (congrArg some (by kernel_rfl))
  f143 := Tryz.func234.trans (congrArg some (by kernel_rfl))
  f146 := Tryz.func95.trans (congrArg some (by kernel_rfl))
  f195 := Tryz.func270.trans (congrArg some (by kernel_rfl))
  f197 := Tryz.func271.trans (congrArg some (by kernel_rfl))
  f217 := Tryz.func291.trans (congrArg some (by kernel_rfl))
  f218 := Tryz.func272.trans (congrArg some (by kernel_rfl))
  f219 := Tryz.func273.trans (congrArg some (by kernel_rfl))
  f221 := Tryz.func166.trans (congrArg some (by kernel_rfl))
  f224 := Tryz.func289.trans (congrArg some (by kernel_rfl))
  f225 := Tryz.func290.trans (congrArg some (by kernel_rfl))
  f260 := Tryz.func297.trans (congrArg some (by kernel_rfl))
  f266 := Tryz.func306.trans (congrArg some (by kernel_rfl))
  f267 := Tryz.func298.trans (congrArg some (by kernel_rfl))
  f268 := Tryz.func232.trans (congrArg some (by kernel_rfl))
  f314 := Tryz.func308.trans (congrArg some (by kernel_rfl))
  t0 := Tryz.underlying0
  a0 := Tryz.isAgg0
  z0 := Tryz.sizeOf0
  v0 := Tryz.zeroValue0
  t3 := Tryz.underlying3
  a3 := Tryz.isAgg3
  z3 := Tryz.sizeOf3
  v3 := Tryz.zeroValue3
  t4 := Tryz.underlying4
  a4 := Tryz.isAgg4
  z4 := Tryz.sizeOf4
  v4 := Tryz.zeroValue4
  t5 := Tryz.underlying5
  a5 := Tryz.isAgg5
  z5 := Tryz.sizeOf5
  v5 := Tryz.zeroValue5
  t9 := Tryz.underlying9
  a9 := Tryz.isAgg9
  z9 := Tryz.sizeOf9
  v9 := Tryz.zeroValue9
  t21 := Tryz.underlying21
  a21 := Tryz.isAgg21
  z21 := Tryz.sizeOf21
  v21 := Tryz.zeroValue21
  t31 := Tryz.underlying43
  a31 := Tryz.isAgg43
  z31 := Tryz.sizeOf43
  v31 := Tryz.zeroValue43
  t46 := Tryz.underlying208
  a46 := Tryz.isAgg208
  z46 := Tryz.sizeOf208
  v46 := Tryz.zeroValue208
  t51 := Tryz.underlying107
  a51 := Tryz.isAgg107
  z51 := Tryz.sizeOf107
  v51 := Tryz.zeroValue107
  t105 := Tryz.underlying272
  a105 := Tryz.isAgg272
  z105 := Tryz.sizeOf272
  v105 := Tryz.zeroValue272
  t119 := Tryz.underlying305
  a119 := Tryz.isAgg305
  z119 := Tryz.sizeOf305
  t138 := Tryz.underlying307
  a138 := Tryz.isAgg307
  z138 := Tryz.sizeOf307
  v138 := Tryz.zeroValue307
  t139 := Tryz.underlying308
  a139 := Tryz.isAgg308
  z139 := Tryz.sizeOf308
  v139 := Tryz.zeroValue308
  t146 := Tryz.underlying274
  a146 := Tryz.isAgg274
  z146 := Tryz.sizeOf274
  v146 := Tryz.zeroValue274
  g1 := by kernel_rfl
  g3 := by kernel_rfl
  g4 := by kernel_rfl }
open Go.RowKit Go.Lib in
/-- strings.Split. (LAID: no walk: one application.) -/
theorem Tryz.strings_Split (s sep : ByteArray) (m : Int) (w : World) (hs : s.size < 4294967281) (hm : w.cell? ⟨1, 0, none⟩ = some (.int .i64 m)) (h1 : 1 ≤ sep.size) :
    Calls Tryz.prog 95 #[.string s, .string sep] w fun e w' =>
      e = .returned (.slice (some ⟨w.heap.size, 0, none⟩) (Lib.countB s sep + 1) (Lib.countB s sep + 1)) ∧ w' = w.alloc (.cells ((Lib.splitB sep 0 (Lib.countB s sep) s).map Value.string).toArray 9) := Any.strings_Split Tryz.lays146 (by kernel_rfl) s sep m w hs hm h1
def Tryz.lays197_ren : Go.Shelf.Ren := ⟨fun | 197 => 271 | 260 => 297 | n => n, fun | 9 => 9 | 21 => 21 | 3 => 3 | 4 => 4 | 5 => 5 | 105 => 272 | 119 => 305 | 0 => 0 | 46 => 208 | 139 => 308 | 138 => 307 | n => n, fun | 3 => 5 | 4 => 6 | n => n⟩
theorem Tryz.lays197 : Go.Proofs.Lays.n197 Tryz.prog Tryz.lays197_ren := {
  mixed := by kernel_rfl
  f197 := Tryz.func271.trans (congrArg some (by kernel_rfl))
  f260 := Tryz.func297.trans (congrArg some (by kernel_rfl))
  t0 := Tryz.underlying0
  a0 := Tryz.isAgg0
  z0 := Tryz.sizeOf0
  v0 := Tryz.zeroValue0
  t3 := Tryz.underlying3
  a3 := Tryz.isAgg3
  z3 := Tryz.sizeOf3
  v3 := Tryz.zeroValue3
  t4 := Tryz.underlying4
  a4 := Tryz.isAgg4
  z4 := Tryz.sizeOf4
  v4 := Tryz.zeroValue4
  t5 := Tryz.underlying5
  a5 := Tryz.isAgg5
  z5 := Tryz.sizeOf5
  v5 := Tryz.zeroValue5
  t9 := Tryz.underlying9
  a9 := Tryz.isAgg9
  z9 := Tryz.sizeOf9
  v9 := Tryz.zeroValue9
  t21 := Tryz.underlying21
  a21 := Tryz.isAgg21
  z21 := Tryz.sizeOf21
  v21 := Tryz.zeroValue21
  t46 := Tryz.underlying208
  a46 := Tryz.isAgg208
  z46 := Tryz.sizeOf208
  v46 := Tryz.zeroValue208
  t105 := Tryz.underlying272
  a105 := Tryz.isAgg272
  z105 := Tryz.sizeOf272
  v105 := Tryz.zeroValue272
  t119 := Tryz.underlying305
  a119 := Tryz.isAgg305
  z119 := Tryz.sizeOf305
  t138 := Tryz.underlying307
  a138 := Tryz.isAgg307
  z138 := Tryz.sizeOf307
  v138 := Tryz.zeroValue307
  t139 := Tryz.underlying308
  a139 := Tryz.isAgg308
  z139 := Tryz.sizeOf308
  v139 := Tryz.zeroValue308
  g3 := by kernel_rfl
  g4 := by kernel_rfl }
def Tryz.lays226_ren : Go.Shelf.Ren := ⟨fun | 226 => 256 | n => n, fun | 3 => 3 | 4 => 4 | n => n, fun | n => n⟩
theorem Tryz.lays226 : Go.Proofs.Lays.n226 Tryz.prog Tryz.lays226_ren := {
  mixed := by kernel_rfl
  f226 := Tryz.func256.trans (congrArg some (by kernel_rfl))
  t3 := Tryz.underlying3
  a3 := Tryz.isAgg3
  z3 := Tryz.sizeOf3
  v3 := Tryz.zeroValue3
  t4 := Tryz.underlying4
  a4 := Tryz.isAgg4
  z4 := Tryz.sizeOf4
  v4 := Tryz.zeroValue4 }
open Go.RowKit Go.Lib in
theorem Tryz.strings_shouldUseASCIISet (n : Int) (w : World) :
    Calls Tryz.prog 256 #[.int .i64 n] w fun e w' => e = .returned (.bool (decide (8 < n))) ∧ w' = w := Any.strings_shouldUseASCIISet Tryz.lays226 n w
def Tryz.lays153_ren : Go.Shelf.Ren := ⟨fun | 153 => 210 | 152 => 255 | 226 => 256 | 227 => 245 | 228 => 257 | 137 => 258 | 119 => 288 | 224 => 289 | 225 => 290 | 217 => 291 | 266 => 306 | n => n, fun | 9 => 9 | 3 => 3 | 4 => 4 | 5 => 5 | 21 => 21 | 117 => 254 | 116 => 253 | 0 => 0 | 46 => 208 | 124 => 257 | n => n, fun | n => n⟩
theorem Tryz.lays153 : Go.Proofs.Lays.n153 Tryz.prog Tryz.lays153_ren := {
  mixed := by kernel_rfl
  f119 := Tryz.func288.trans (congrArg some (by kernel_rfl))
  f137 := Tryz.func258.trans (congrArg some (by kernel_rfl))
  f152 := Tryz.func255.trans (congrArg some (by kernel_rfl))
  f153 := Tryz.func210.trans (congrArg some (by kernel_rfl))
  f217 := Tryz.func291.trans (congrArg some (by kernel_rfl))
  f224 := Tryz.func289.trans (congrArg some (by kernel_rfl))
  f225 := Tryz.func290.trans (congrArg some (by kernel_rfl))
  f226 := Tryz.func256.trans (congrArg some (by kernel_rfl))
  f227 := Tryz.func245.trans (congrArg some (by kernel_rfl))
  f228 := Tryz.func257.trans (congrArg some (by kernel_rfl))
  f266 := Tryz.func306.trans (congrArg some (by kernel_rfl))
  t0 := Tryz.underlying0
  a0 := Tryz.isAgg0
  z0 := Tryz.sizeOf0
  v0 := Tryz.zeroValue0
  t3 := Tryz.underlying3
  a3 := Tryz.isAgg3
  z3 := Tryz.sizeOf3
  v3 := Tryz.zeroValue3
  t4 := Tryz.underlying4
  a4 := Tryz.isAgg4
  z4 := Tryz.sizeOf4
  v4 := Tryz.zeroValue4
  t5 := Tryz.underlying5
  a5 := Tryz.isAgg5
  z5 := Tryz.sizeOf5
  v5 := Tryz.zeroValue5
  t9 := Tryz.underlying9
  a9 := Tryz.isAgg9
  z9 := Tryz.sizeOf9
  v9 := Tryz.zeroValue9
  t21 := Tryz.underlying21
  a21 := Tryz.isAgg21
  z21 := Tryz.sizeOf21
  v21 := Tryz.zeroValue21
  t46 := Tryz.underlying208
  a46 := Tryz.isAgg208
  z46 := Tryz.sizeOf208
  v46 := Tryz.zeroValue208
  t116 := Tryz.underlying253
  a116 := Tryz.isAgg253
  z116 := Tryz.sizeOf253
  t117 := Tryz.underlying254
  a117 := Tryz.isAgg254
  z117 := Tryz.sizeOf254
  v117 := Tryz.zeroValue254
  t124 := Tryz.underlying257
  a124 := Tryz.isAgg257
  z124 := Tryz.sizeOf257
  v124 := Tryz.zeroValue257 }
open Go.RowKit Go.Lib in
theorem Tryz.strings_IndexAny_long (hv116 : ∀ w, (zeroValue 253).run Tryz.prog w = .ok (.agg (Array.replicate 256 (.bool false))) w) (s chars : ByteArray) (w : World) (h2 : 2 ≤ chars.size) (h8 : 8 < s.size) (hs : s.size < 4294967281) (hcs : chars.size < 4294967281) (hascii : ∀ (j : Nat) b, chars.data.toList[j]? = some b → b.toNat < 128) :
    Calls Tryz.prog 210 #[.string s, .string chars] w fun e w' => e = .returned (.int .i64 (Lib.indexAny s.data.toList chars.data.toList)) ∧ w' = ((w.alloc (.cells (Lib.setCells chars.data.toList) 253)).alloc (.cells (Lib.setCells chars.data.toList) 253)) := Any.strings_IndexAny_long Tryz.lays153 hv116 (by kernel_rfl) s chars w h2 h8 hs hcs hascii
open Go.RowKit Go.Lib in
/-- strings.IndexAny ON ASCII BYTES: the four roads under one statement. (LAID: no walk: one application.) -/
theorem Tryz.strings_IndexAny (hv116 : ∀ w, (zeroValue 253).run Tryz.prog w = .ok (.agg (Array.replicate 256 (.bool false))) w) (s chars : ByteArray) (w : World) (hs : s.size < 4294967281) (hcs : chars.size < 4294967281) (has : ∀ (j : Nat) b, s.data.toList[j]? = some b → b.toNat < 128) (hac : ∀ (j : Nat) b, chars.data.toList[j]? = some b → b.toNat < 128) :
    Calls Tryz.prog 210 #[.string s, .string chars] w fun e w' => e = .returned (.int .i64 (Lib.indexAny s.data.toList chars.data.toList)) ∧ Below w.heap.size w w' := Any.strings_IndexAny Tryz.lays153 hv116 (by kernel_rfl) s chars w hs hcs has hac
def Tryz.lays150_ren : Go.Shelf.Ren := ⟨fun | 150 => 140 | 153 => 210 | 152 => 255 | 226 => 256 | 227 => 245 | 228 => 257 | 137 => 258 | 119 => 288 | 224 => 289 | 225 => 290 | 217 => 291 | 266 => 306 | n => n, fun | 9 => 9 | 4 => 4 | 3 => 3 | 5 => 5 | 21 => 21 | 117 => 254 | 116 => 253 | 0 => 0 | 46 => 208 | 124 => 257 | n => n, fun | n => n⟩
theorem Tryz.lays150 : Go.Proofs.Lays.n150 Tryz.prog Tryz.lays150_ren := {
  mixed := by kernel_rfl
  f119 := Tryz.func288.trans (congrArg some (by kernel_rfl))
  f137 := Tryz.func258.trans (congrArg some (by kernel_rfl))
  f150 := Tryz.func140.trans (congrArg some (by kernel_rfl))
  f152 := Tryz.func255.trans (congrArg some (by kernel_rfl))
  f153 := Tryz.func210.trans (congrArg some (by kernel_rfl))
  f217 := Tryz.func291.trans (congrArg some (by kernel_rfl))
  f224 := Tryz.func289.trans (congrArg some (by kernel_rfl))
  f225 := Tryz.func290.trans (congrArg some (by kernel_rfl))
  f226 := Tryz.func256.trans (congrArg some (by kernel_rfl))
  f227 := Tryz.func245.trans (congrArg some (by kernel_rfl))
  f228 := Tryz.func257.trans (congrArg some (by kernel_rfl))
  f266 := Tryz.func306.trans (congrArg some (by kernel_rfl))
  t0 := Tryz.underlying0
  a0 := Tryz.isAgg0
  z0 := Tryz.sizeOf0
  v0 := Tryz.zeroValue0
  t3 := Tryz.underlying3
  a3 := Tryz.isAgg3
  z3 := Tryz.sizeOf3
  v3 := Tryz.zeroValue3
  t4 := Tryz.underlying4
  a4 := Tryz.isAgg4
  z4 := Tryz.sizeOf4
  v4 := Tryz.zeroValue4
  t5 := Tryz.underlying5
  a5 := Tryz.isAgg5
  z5 := Tryz.sizeOf5
  v5 := Tryz.zeroValue5
  t9 := Tryz.underlying9
  a9 := Tryz.isAgg9
  z9 := Tryz.sizeOf9
  v9 := Tryz.zeroValue9
  t21 := Tryz.underlying21
  a21 := Tryz.isAgg21
  z21 := Tryz.sizeOf21
  v21 := Tryz.zeroValue21
  t46 := Tryz.underlying208
  a46 := Tryz.isAgg208
  z46 := Tryz.sizeOf208
  v46 := Tryz.zeroValue208
  t116 := Tryz.underlying253
  a116 := Tryz.isAgg253
  z116 := Tryz.sizeOf253
  t117 := Tryz.underlying254
  a117 := Tryz.isAgg254
  z117 := Tryz.sizeOf254
  v117 := Tryz.zeroValue254
  t124 := Tryz.underlying257
  a124 := Tryz.isAgg257
  z124 := Tryz.sizeOf257
  v124 := Tryz.zeroValue257 }
open Go.RowKit Go.Lib in
/-- strings.ContainsAny ON ASCII BYTES. (LAID: no walk: one application.) -/
theorem Tryz.strings_ContainsAny (hv116 : ∀ w, (zeroValue 253).run Tryz.prog w = .ok (.agg (Array.replicate 256 (.bool false))) w) (s chars : ByteArray) (w : World) (hs : s.size < 4294967281) (hcs : chars.size < 4294967281) (has : ∀ (j : Nat) b, s.data.toList[j]? = some b → b.toNat < 128) (hac : ∀ (j : Nat) b, chars.data.toList[j]? = some b → b.toNat < 128) :
    Calls Tryz.prog 140 #[.string s, .string chars] w fun e w' => e = .returned (.bool (Lib.containsAny s.data.toList chars.data.toList)) ∧ Below w.heap.size w w' := Any.strings_ContainsAny Tryz.lays150 hv116 (by kernel_rfl) s chars w hs hcs has hac
def Tryz.lays105_ren : Go.Shelf.Ren := ⟨fun | 105 => 172 | 212 => 238 | 99 => 145 | 165 => 184 | 166 => 185 | 170 => 239 | 169 => 186 | 263 => 274 | 264 => 275 | 206 => 216 | 240 => 248 | 241 => 249 | 276 => 282 | 277 => 283 | n => n, fun | 9 => 9 | 3 => 3 | 4 => 4 | 20 => 20 | 0 => 0 | 46 => 208 | 109 => 249 | 5 => 5 | 72 => 215 | 76 => 217 | 51 => 107 | 146 => 274 | 53 => 183 | 148 => 276 | 70 => 213 | 37 => 40 | 75 => 185 | 127 => 258 | 164 => 284 | 80 => 149 | n => n, fun | n => n⟩
theorem Tryz.lays105 : Go.Proofs.Lays.n105 Tryz.prog Tryz.lays105_ren := {
  mixed := by kernel_rfl
  f99 := Tryz.func145.trans (congrArg some (by kernel_rfl))
  f105 := Tryz.func172.trans (congrArg some (by kernel_rfl))
  f165 := Tryz.func184.trans (congrArg some (by kernel_rfl))
  f166 := Tryz.func185.trans (congrArg some (by kernel_rfl))
  f169 := Tryz.func186.trans (congrArg some (by kernel_rfl))
  f170 := Tryz.func239.trans (congrArg some (by kernel_rfl))
  f206 := Tryz.func216.trans (congrArg some (by kernel_rfl))
  f212 := Tryz.func238.trans (congrArg some (by kernel_rfl))
  f240 := Tryz.func248.trans (congrArg some (by kernel_rfl))
  f241 := Tryz.func249.trans (congrArg some (by kernel_rfl))
  f263 := Tryz.func274.trans (congrArg some (by kernel_rfl))
  f264 := Tryz.func275.trans (congrArg some (by kernel_rfl))
  f276 := Tryz.func282.trans (congrArg some (by kernel_rfl))
  f277 := Tryz.func283.trans (congrArg some (by kernel_rfl))
  t0 := Tryz.underlying0
  a0 := Tryz.isAgg0
  z0 := Tryz.sizeOf0
  v0 := Tryz.zeroValue0
  t3 := Tryz.underlying3
  a3 := Tryz.isAgg3
  z3 := Tryz.sizeOf3
  v3 := Tryz.zeroValue3
  t4 := Tryz.underlying4
  a4 := Tryz.isAgg4
  z4 := Tryz.sizeOf4
  v4 := Tryz.zeroValue4
  t5 := Tryz.underlying5
  a5 := Tryz.isAgg5
  z5 := Tryz.sizeOf5
  v5 := Tryz.zeroValue5
  t9 := Tryz.underlying9
  a9 := Tryz.isAgg9
  z9 := Tryz.sizeOf9
  v9 := Tryz.zeroValue9
  t20 := Tryz.underlying20
  a20 := Tryz.isAgg20
  z20 := Tryz.sizeOf20
  v20 := Tryz.zeroValue20
  t37 := Tryz.underlying40
  a37 := Tryz.isAgg40
  z37 := Tryz.sizeOf40
  v37 := Tryz.zeroValue40
  t46 := Tryz.underlying208
  a46 := Tryz.isAgg208
  z46 := Tryz.sizeOf208
  v46 := Tryz.zeroValue208
  t51 := Tryz.underlying107
  a51 := Tryz.isAgg107
  z51 := Tryz.sizeOf107
  v51 := Tryz.zeroValue107
  t53 := Tryz.underlying183
  a53 := Tryz.isAgg183
  z53 := Tryz.sizeOf183
  v53 := Tryz.zeroValue183
  t70 := Tryz.underlying213
  a70 := Tryz.isAgg213
  z70 := Tryz.sizeOf213
  v70 := Tryz.zeroValue213
  t72 := Tryz.underlying215
  a72 := Tryz.isAgg215
  z72 := Tryz.sizeOf215
  v72 := Tryz.zeroValue215
  t75 := Tryz.underlying185
  a75 := Tryz.isAgg185
  z75 := Tryz.sizeOf185
  v75 := Tryz.zeroValue185
  t76 := Tryz.underlying217
  a76 := Tryz.isAgg217
  z76 := Tryz.sizeOf217
  v76 := Tryz.zeroValue217
  t109 := Tryz.underlying249
  a109 := Tryz.isAgg249
  z109 := Tryz.sizeOf249
  v109 := Tryz.zeroValue249
  t127 := Tryz.underlying258
  a127 := Tryz.isAgg258
  z127 := Tryz.sizeOf258
  v127 := Tryz.zeroValue258
  t146 := Tryz.underlying274
  a146 := Tryz.isAgg274
  z146 := Tryz.sizeOf274
  v146 := Tryz.zeroValue274
  t148 := Tryz.underlying276
  a148 := Tryz.isAgg276
  z148 := Tryz.sizeOf276
  v148 := Tryz.zeroValue276
  t164 := Tryz.underlying284
  a164 := Tryz.isAgg284
  z164 := Tryz.sizeOf284
  v164 := Tryz.zeroValue284 }
theorem Tryz.Builder_Extra_105 : Builder.Extra Tryz.prog Tryz.lays105_ren := {
  sizeBuilder := by kernel_rfl
  liesBuilder := by kernel_rfl
  t5 := Tryz.underlying5
  a5 := Tryz.isAgg5
  z5 := Tryz.sizeOf5
  v5 := Tryz.zeroValue5
  infoByte := by kernel_rfl
  cellsByte := by kernel_rfl
  sizeByte := by kernel_rfl
  neB5 := by decide }
open Go.RowKit Go.Lib in
/-- **strings.Repeat: count ≥ 0, the result within one allocation: count copies of s.** (LAID: no walk: one application.) -/
theorem Tryz.strings_Repeat (s : ByteArray) (c : Nat) (w : World) (hc : c ≤ 9223372036854775807) (hlen : s.size * c ≤ 140737488355328) :
    Calls Tryz.prog 172 #[.string s, .int .i64 c] w fun e w' => e = .returned (.string ⟨(Lib.repeatL s.data.toList c).toArray⟩) ∧ Below w.heap.size w w' := Any.strings_Repeat Tryz.lays105 Tryz.Builder_Extra_105 s c w hc hlen
def Tryz.lays260_ren : Go.Shelf.Ren := ⟨fun | 260 => 297 | n => n, fun | 9 => 9 | 21 => 21 | 3 => 3 | 4 => 4 | 5 => 5 | 119 => 305 | 0 => 0 | 46 => 208 | 139 => 308 | 138 => 307 | n => n, fun | 3 => 5 | 4 => 6 | n => n⟩
theorem Tryz.lays260 : Go.Proofs.Lays.n260 Tryz.prog Tryz.lays260_ren := {
  mixed := by kernel_rfl
  f260 := Tryz.func297.trans (congrArg some (by kernel_rfl))
  t0 := Tryz.underlying0
  a0 := Tryz.isAgg0
  z0 := Tryz.sizeOf0
  v0 := Tryz.zeroValue0
  t3 := Tryz.underlying3
  a3 := Tryz.isAgg3
  z3 := Tryz.sizeOf3
  v3 := Tryz.zeroValue3
  t4 := Tryz.underlying4
  a4 := Tryz.isAgg4
  z4 := Tryz.sizeOf4
  v4 := Tryz.zeroValue4
  t5 := Tryz.underlying5
  a5 := Tryz.isAgg5
  z5 := Tryz.sizeOf5
  v5 := Tryz.zeroValue5
  t9 := Tryz.underlying9
  a9 := Tryz.isAgg9
  z9 := Tryz.sizeOf9
  v9 := Tryz.zeroValue9
  t21 := Tryz.underlying21
  a21 := Tryz.isAgg21
  z21 := Tryz.sizeOf21
  v21 := Tryz.zeroValue21
  t46 := Tryz.underlying208
  a46 := Tryz.isAgg208
  z46 := Tryz.sizeOf208
  v46 := Tryz.zeroValue208
  t119 := Tryz.underlying305
  a119 := Tryz.isAgg305
  z119 := Tryz.sizeOf305
  t138 := Tryz.underlying307
  a138 := Tryz.isAgg307
  z138 := Tryz.sizeOf307
  v138 := Tryz.zeroValue307
  t139 := Tryz.underlying308
  a139 := Tryz.isAgg308
  z139 := Tryz.sizeOf308
  v139 := Tryz.zeroValue308
  g3 := by kernel_rfl
  g4 := by kernel_rfl }
open Go.RowKit Go.Lib in
/-- **unicode/utf8.DecodeRuneInString AT EVERY STRING.** (LAID: no walk: one application.) -/
theorem Tryz.utf8_DecodeRuneInString (s : ByteArray) (w : World) (hT : Lib.Utf8Tabs 5 6 w) :
    Calls Tryz.prog 271 #[.string s] w fun e w' => e = .returned (.tuple #[.int .i32 (Lib.decodeGo s).1, .int .i64 (Lib.decodeGo s).2]) ∧ Below w.heap.size w w' := Any.utf8_DecodeRuneInString Tryz.lays197 s w hT
def Tryz.lays109_ren : Go.Shelf.Ren := ⟨fun | 109 => 96 | n => n, fun | 31 => 43 | 9 => 9 | 3 => 3 | 0 => 0 | 4 => 4 | n => n, fun | n => n⟩
theorem Tryz.lays109 : Go.Proofs.Lays.n109 Tryz.prog Tryz.lays109_ren := {
  mixed := by kernel_rfl
  f109 := Tryz.func96.trans (congrArg some (by kernel_rfl))
  t0 := Tryz.underlying0
  a0 := Tryz.isAgg0
  z0 := Tryz.sizeOf0
  v0 := Tryz.zeroValue0
  t3 := Tryz.underlying3
  a3 := Tryz.isAgg3
  z3 := Tryz.sizeOf3
  v3 := Tryz.zeroValue3
  t4 := Tryz.underlying4
  a4 := Tryz.isAgg4
  z4 := Tryz.sizeOf4
  v4 := Tryz.zeroValue4
  t9 := Tryz.underlying9
  a9 := Tryz.isAgg9
  z9 := Tryz.sizeOf9
  v9 := Tryz.zeroValue9
  t31 := Tryz.underlying43
  a31 := Tryz.isAgg43
  z31 := Tryz.sizeOf43
  v31 := Tryz.zeroValue43 }
open Go.Lib in
/-- slices.Index at []string: "Index returns the index of the first occurrence of v in s, or -1 if not present.": IT RETURNS 'Lib.idxOfS (the elements) v'; the world is as it was. 'zs': what the cells behind the slice's address hold (its spare capacity too, if you have it); 'zs.take n': its elements. (LAID: no walk: one application.) -/
theorem Tryz.slices_Index_string (b off n c : Nat) (zs : List ByteArray) (x : ByteArray) (w : World) (hz : n ≤ zs.length) (hbig : n ≤ 9223372036854775807) (hc : ∀ j, j < zs.length → w.cell? ⟨b, off + j, none⟩ = some (.string (zs.getD j ByteArray.empty))) :
    Calls Tryz.prog 96 #[.slice (some ⟨b, off, none⟩) n c, .string x] w fun e w' => e = .returned (.int .i64 (Lib.idxOfS (zs.take n) x)) ∧ w' = w := Any.slices_Index_string Tryz.lays109 b off n c zs x w hz hbig hc
end Go.Proofs


/- What the rows of a seat with laid tables and sentinels share: the tables, the witness. -/
set_option linter.unusedVariables false
set_option linter.unusedSimpArgs false
namespace Go.Proofs.YtogfcfgfkggmlaaGreatDoor.row
open Go Go.ChangeShapes Go.WideShapes Go.ChangeAt Go.RowKit Go.Proofs Go.Shelf Go.Proofs.YtogfcfgfkggmlaaGreatDoor.Eng Go.Proofs.YtogfcfgfkggmlaaGreatDoor.Eng.Rdv

theorem own : ownKnob Tryz.prog.godebug = none := by kernel_rfl
theorem laidOut : laidOutB Tryz.prog = true := by kernel_rfl
section
variable {H : Type} {enc : TypeId × Value → H} {P : Program} {w : World} {base : Nat} {sp : Nat → Bool} {held : Bool}
theorem arr_len {fuel : Nat} {t e : TypeId} {n : Nat} {cs : List Value} {d : DataW H} {p : List MemPlace} (ht : P.underlying t = some (.array n e)) (h : DataW.trod enc P w base sp held fuel t cs = some (d, p)) : cs.length = P.cellsOf t := by
  cases fuel with
  | zero => simp [DataW.trod] at h
  | succ fuel =>
    simp only [DataW.trod, ht] at h
    split at h
    · assumption
    · cases h
theorem iface_only {fuel : Nat} {t : TypeId} {ms : Array (String × TypeId)} {cs : List Value} {nm : String} {d : DataW H} {p : List MemPlace} (ht : P.underlying t = some (.interface ms)) (h : DataW.trod enc P w base sp held fuel t cs = some (.iface nm d, p)) : ∃ u v, cs = [.iface u v] := by
  cases fuel with
  | zero => simp [DataW.trod] at h
  | succ fuel =>
    simp only [DataW.trod, ht] at h
    split at h <;> first | exact ⟨_, _, rfl⟩ | (cases h; done) | simp_all
end
theorem add0 (g j : Nat) : (⟨g, 0, none⟩ : Addr).add j = ⟨g, j, none⟩ := by rw [add_lit', Nat.zero_add]
/-- A variable of so many leaves, cell by cell. -/
theorem glob_one {W : World} {g : Nat} {arr : Array Value} {name : String} (hn : Tryz.prog.globalNamed name = some g) (hv : W.var? Tryz.prog name = some arr) (cs : List AV) (f : Nat → Value) (hl : arr.size = cs.length) (hleaf : ∀ (j : Nat) (c : AV), cs[j]? = some c → c.leaf = true ∧ arr[j]? = some (f j) ∧ V (stab W) c (f j)) :
    V (stab W) (.eptr cs 0) (.pointer (some ⟨g, 0, none⟩)) ∧ ∃ arr t f, W.heap[g]? = some (.cells arr t f) ∧ arr.size = cs.length := by
  refine ⟨?_, ?_⟩
  · have := V.eptr (S := stab W) cs 0 ⟨g, 0, none⟩ f (fun j c h => (hleaf j c h).1) (fun j c h => by
      rw [add0]
      show W.cell? ⟨g, j, none⟩ = _
      rw [World.var?_cell hn hv j]
      exact (hleaf j c h).2.1) (fun j c h => (hleaf j c h).2.2)
    rwa [add0] at this
  · unfold World.var? at hv
    rw [hn, Option.bind_some] at hv
    split at hv
    · rename_i cs' t f' he
      obtain rfl := Option.some.inj hv
      exact ⟨_, _, _, he, hl⟩
    · cases hv
theorem ints_one {W : World} {g : Nat} {name : String} {k : IntKind} {zs : List Int} (hn : Tryz.prog.globalNamed name = some g) (hv : W.var? Tryz.prog name = some (zs.map fun z => Value.int k z).toArray) :
    V (stab W) (.eptr (zs.map fun z => .int k z) 0) (.pointer (some ⟨g, 0, none⟩)) ∧ ∃ arr t f, W.heap[g]? = some (.cells arr t f) ∧ arr.size = (zs.map fun z => AV.int k z).length := by
  refine glob_one hn hv _ (fun j => .int k (zs.getD j 0)) (by simp) fun j c hc => ?_
  rw [List.getElem?_map] at hc
  obtain ⟨z, hz, rfl⟩ := Option.map_eq_some_iff.1 hc
  refine ⟨rfl, ?_, ?_⟩
  · simp [List.getD_eq_getElem?_getD, hz]
  · rw [List.getD_eq_getElem?_getD, hz]; exact V.int _ _
theorem iface_one {W : World} {g : Nat} {name : String} {nm : String} {d : DataW Unit} {t : TypeId} {ms : Array (String × TypeId)} (hn : Tryz.prog.globalNamed name = some g) (hy : (Tryz.prog.globals[g]?).map (·.type) = some t) (hi : Tryz.prog.underlying t = some (.interface ms)) (h : Lib.VarReads Tryz.prog W name (.iface nm d)) :
    V (stab W) (.eptr [.ifc] 0) (.pointer (some ⟨g, 0, none⟩)) ∧ ∃ arr t f, W.heap[g]? = some (.cells arr t f) ∧ arr.size = [AV.ifc].length := by
  obtain ⟨g', t', cs, fuel, p, hg, hty, hvar, hd⟩ := h
  obtain rfl := Option.some.inj (hn.symm.trans hg)
  obtain rfl := Option.some.inj (hy.symm.trans hty)
  obtain ⟨u, v, e⟩ := iface_only hi hd
  obtain ⟨cs⟩ := cs
  obtain rfl : cs = [.iface u v] := e
  refine glob_one hn hvar _ (fun _ => .iface u v) rfl fun j c hc => ?_
  match j with
  | 0 => cases hc; exact ⟨rfl, rfl, V.ifc _ _⟩
  | j + 1 => simp at hc
theorem tab_var {W : World} {g : Nat} {name : String} {k : IntKind} {zs : List Int} {t e : TypeId} {n : Nat} (hn : Tryz.prog.globalNamed name = some g) (hy : (Tryz.prog.globals[g]?).map (·.type) = some t) (ht : Tryz.prog.underlying t = some (.array n e)) (he : Tryz.prog.underlying e = some (.int k)) (hce : Tryz.prog.cellsOf e = 1) (hct : Tryz.prog.cellsOf t = n) (h : Lib.VarReads Tryz.prog W name (Lib.tabData k zs)) : W.var? Tryz.prog name = some (zs.map fun z => Value.int k z).toArray := by
  obtain ⟨g', t', cs, fuel, p, hg, hty, hvar, hd⟩ := h
  obtain rfl := Option.some.inj (hn.symm.trans hg)
  obtain rfl := Option.some.inj (hy.symm.trans hty)
  rw [hvar, ← Lib.cells_of_tab ht he hce hct hd]
/-- What the row's laid variables give. -/
theorem tables {W : World} {l : List (String × DataW Unit)} (hl : l = [("math/bits.deBruijn32tab", Rows.laid_math_bits_deBruijn32tab), ("math/bits.deBruijn64tab", Rows.laid_math_bits_deBruijn64tab), ("internal/strconv.uint64pow10", Rows.laid_internal_strconv_uint64pow10), ("unicode/utf8.acceptRanges", Rows.laid_unicode_utf8_acceptRanges), ("strconv.ErrRange", Rows.laid_strconv_ErrRange), ("strconv.ErrSyntax", Rows.laid_strconv_ErrSyntax), ("unicode/utf8.first", Rows.laid_unicode_utf8_first)]) (h : laidMetH Tryz.prog l W) : GlobOk U.glob (stab W) W := by
  subst hl
  have h' : laidMet Tryz.prog [("math/bits.deBruijn32tab", Rows.laid_math_bits_deBruijn32tab), ("math/bits.deBruijn64tab", Rows.laid_math_bits_deBruijn64tab), ("internal/strconv.uint64pow10", Lib.tabData .u64 Lib.pow10Tab), ("unicode/utf8.acceptRanges", Lib.acceptData), ("strconv.ErrRange", Rows.laid_strconv_ErrRange), ("strconv.ErrSyntax", Rows.laid_strconv_ErrSyntax), ("unicode/utf8.first", Lib.firstData)] W := by
    have e1 : (Rows.laid_unicode_utf8_acceptRanges : DataW Unit) = Lib.acceptData := by kernel_rfl
    have e2 : Rows.laid_unicode_utf8_first = Lib.firstData := by kernel_rfl
    have e3 : (Rows.laid_internal_strconv_uint64pow10 : DataW Unit) = Lib.tabData .u64 Lib.pow10Tab := by kernel_rfl
    rw [← e1, ← e2, ← e3]
    exact h
  have r1 : Lib.VarReads Tryz.prog W "internal/strconv.uint64pow10" (Lib.tabData .u64 Lib.pow10Tab) := Lib.laidMet.reads h' (.tail _ (.tail _ (.head _)))
  have r3 : Lib.VarReads Tryz.prog W "strconv.ErrSyntax" Rows.laid_strconv_ErrSyntax := Lib.laidMet.reads h' (.tail _ (.tail _ (.tail _ (.tail _ (.tail _ (.head _))))))
  have r4 : Lib.VarReads Tryz.prog W "strconv.ErrRange" Rows.laid_strconv_ErrRange := Lib.laidMet.reads h' (.tail _ (.tail _ (.tail _ (.tail _ (.head _)))))
  have r7 : Lib.VarReads Tryz.prog W "unicode/utf8.first" Lib.firstData := Lib.laidMet.reads h' (.tail _ (.tail _ (.tail _ (.tail _ (.tail _ (.tail _ (.head _)))))))
  have r8 : Lib.VarReads Tryz.prog W "unicode/utf8.acceptRanges" Lib.acceptData := Lib.laidMet.reads h' (.tail _ (.tail _ (.tail _ (.head _))))
  have hU : Lib.Utf8Tabs 5 6 W := Go.Proofs.utf8Tabs_of_reads (P := Tryz.prog) (ρ := Tryz.lays260_ren) { Tryz.lays260 with } ⟨by kernel_rfl, by kernel_rfl, by kernel_rfl, by kernel_rfl, by kernel_rfl, by kernel_rfl, by kernel_rfl⟩ r7 r8
  intro g cs hg
  unfold U.glob at hg
  split at hg
  · rename_i h0
    subst h0
    obtain rfl := Option.some.inj hg
    have := ints_one (g := 5) (name := "unicode/utf8.first") (by kernel_rfl) (tab_var (g := 5) (t := 305) (e := 5) (n := 256) (by kernel_rfl) (by kernel_rfl) Tryz.underlying305 Tryz.underlying5 (by kernel_rfl) (by kernel_rfl) r7)
    rw [Lib.firstTab, List.map_map] at this
    exact this
  · split at hg
    · rename_i h0 h1
      subst h1
      obtain rfl := Option.some.inj hg
      obtain ⟨g', t', cs, fuel, p, hgn, hty, hvar, hd⟩ := r8
      obtain rfl := Option.some.inj ((show Tryz.prog.globalNamed "unicode/utf8.acceptRanges" = some 6 by kernel_rfl).symm.trans hgn)
      obtain rfl := Option.some.inj ((show (Tryz.prog.globals[6]?).map (·.type) = some 308 by kernel_rfl).symm.trans hty)
      have hlen := arr_len Tryz.underlying308 hd
      have hsz : Tryz.prog.cellsOf 308 = 32 := by kernel_rfl
      rw [hsz, Array.length_toList] at hlen
      refine glob_one hgn hvar _ (fun i => .int .u8 (((if i % 2 = 0 then Lib.accLo (i / 2) else Lib.accHi (i / 2) : Nat) : Int))) (by simp [hlen]) fun j c hc => ?_
      rw [List.getElem?_map] at hc
      obtain ⟨x, hx, rfl⟩ := Option.map_eq_some_iff.1 hc
      obtain ⟨hj, rfl⟩ := List.getElem?_eq_some_iff.1 hx
      rw [List.length_range] at hj
      rw [List.getElem_range]
      refine ⟨rfl, ?_, V.int _ _⟩
      rw [← World.var?_cell hgn hvar j]
      obtain ⟨h2, h3⟩ := hU.2 (j / 2) (by omega)
      by_cases hm : j % 2 = 0
      · rw [if_pos hm]
        rwa [show 2 * (j / 2) = j from by omega] at h2
      · rw [if_neg hm]
        rwa [show 2 * (j / 2) + 1 = j from by omega] at h3
    · split at hg
      · rename_i h0 h1 h2
        subst h2
        obtain rfl := Option.some.inj hg
        exact ints_one (g := 4) (name := "internal/strconv.uint64pow10") (by kernel_rfl) (tab_var (g := 4) (t := 298) (e := 183) (n := 20) (by kernel_rfl) (by kernel_rfl) Tryz.underlying298 Tryz.underlying183 (by kernel_rfl) (by kernel_rfl) r1)
      · split at hg
        · rename_i h0 h1 h2 h3
          subst h3
          obtain rfl := Option.some.inj hg
          exact iface_one (name := "strconv.ErrSyntax") (by kernel_rfl) (t := 185) (by kernel_rfl) Tryz.underlying185 r3
        · split at hg
          · rename_i h0 h1 h2 h3 h4
            subst h4
            obtain rfl := Option.some.inj hg
            exact iface_one (name := "strconv.ErrRange") (by kernel_rfl) (t := 185) (by kernel_rfl) Tryz.underlying185 r4
          · cases hg
/-- The cells that a datum of numbers is. -/
def litV : DataW Unit → Value
  | .lit (.int k n) => .int k n
  | _ => .nilIface
def rowV : DataW Unit → Array Value
  | .agg l => (l.map litV).toArray
  | _ => #[]
/-- So many blocks has the settled world. -/
noncomputable def low : Nat := (World.holding Tryz.prog default ⟨#[], #[], []⟩).heap.size
/-- The witness: the settled memory with the two errors' texts behind it, the variables holding what their initialisers lay. -/
noncomputable def laidWorld (os : Os) : World :=
  let w0 := World.holding Tryz.prog os ⟨#[.cells #[.string ⟨#[118, 97, 108, 117, 101, 32, 111, 117, 116, 32, 111, 102, 32, 114, 97, 110, 103, 101]⟩] 303, .cells #[.string ⟨#[105, 110, 118, 97, 108, 105, 100, 32, 115, 121, 110, 116, 97, 120]⟩] 303], #[], []⟩
  let put (h : Array Obj) (g : Nat) (cs : Array Value) : Array Obj := h.modify g fun
    | .cells _ t frozen => .cells cs t frozen
    | o => o
  let h1 := put w0.heap 5 (Lib.firstTab.map fun z => Value.int .u8 z).toArray
  let h2 := put h1 6 ((List.range 16).flatMap fun i => [Value.int .u8 (Lib.accLo i), Value.int .u8 (Lib.accHi i)]).toArray
  let h3 := put h2 7 (rowV Rows.laid_math_bits_deBruijn32tab)
  let h4 := put h3 8 (rowV Rows.laid_math_bits_deBruijn64tab)
  let h5 := put h4 4 (rowV Rows.laid_internal_strconv_uint64pow10)
  let h6 := put h5 3 #[.iface 301 (.pointer (some ⟨low, 0, none⟩))]
  let h7 := put h6 2 #[.iface 301 (.pointer (some ⟨low + 1, 0, none⟩))]
  { w0 with heap := h7 }
noncomputable abbrev laidBlocks : List Nat := [7, 8, 4, 6, 3, 2, 5, low, low + 1]
theorem cells_str (s : ByteArray) : (Value.string s).cells.toList = [Value.string s] := rfl
theorem cells_int (k : IntKind) (n : Int) : (Value.int k n).cells.toList = [Value.int k n] := rfl
end Go.Proofs.YtogfcfgfkggmlaaGreatDoor.row


/- What functions answer, as the engine evaluates their code. Printed by gen2.py. -/
set_option linter.unusedVariables false
namespace Go.Proofs.YtogfcfgfkggmlaaGreatDoor.Eng.U
open Go Go.Proofs Go.Proofs.YtogfcfgfkggmlaaGreatDoor.Eng
/- oakum/oakumlaw20.TaleHeads -/
/- oakum/oakumlaw20.TaleBack -/
/- oakum/oakumlaw20.TaleLines -/
/- oakum/oakumlaw20.TaleOutcomes -/
noncomputable def law20_TaleOutcomes_bd : Code := Tryz.f13.body.getD .skip
noncomputable def law20_TaleOutcomes_L0 (kap : FuncId → List AV → Option AV) (k : Nat) (k0 : Nat) (s1 : Int) (s2 : ByteArray) (s7 : List AV) (s8 : ByteArray) (s9 : Int) (s10 : Int) (b3_0 : Int) (b3_1 : Int) (b3_2 : Int) (b3_3 : Int) (b3_4 : Int) (b3_5 : Int) (b3_6 : Int) : Option AV :=
  loop (fun fr K => code ((bs E0 k).cfg kap law20_TaleOutcomes) (sel law20_TaleOutcomes_bd [1, 1, 1, 1, 0, 1, 0, 0]) fr K) (canon ((bs E0 k).cfg kap law20_TaleOutcomes) (firstReg (sel law20_TaleOutcomes_bd [1, 1, 1, 1, 0, 1, 0, 0]))) k0 (mkFr 53 [(1, (.int .i64 s1)), (2, (.str s2)), (3, (.loc 3 0)), (7, (.list 1 s7)), (8, (.str s8)), (9, (.int .i64 s9)), (10, (.int .i64 s10))] [(3, (.box [(.int .u8 b3_0), (.int .u8 b3_1), (.int .i64 b3_2), (.int .i64 b3_3), (.int .i64 b3_4), (.int .i64 b3_5), (.int .i64 b3_6)]))]) (plug ((bs E0 k).cfg kap law20_TaleOutcomes) (retK ((bs E0 k).cfg kap law20_TaleOutcomes) [] Tryz.f13 [] some) [.blk 0, .seqR (sel law20_TaleOutcomes_bd [1, 1, 1, 1, 1])])
theorem law20_TaleOutcomes_L0_s (kap : FuncId → List AV → Option AV) (k : Nat) (k0 : Nat) (s1 : Int) (s2 : ByteArray) (s7 : List AV) (s8 : ByteArray) (s9 : Int) (s10 : Int) (b3_0 : Int) (b3_1 : Int) (b3_2 : Int) (b3_3 : Int) (b3_4 : Int) (b3_5 : Int) (b3_6 : Int) : law20_TaleOutcomes_L0 kap k (k0 + 1) s1 s2 s7 s8 s9 s10 b3_0 b3_1 b3_2 b3_3 b3_4 b3_5 b3_6 =
  (bif (decide (s10 < (((List.length s7) : Nat) : Int))) then (bif (decide ((IntKind.wrap .i64 (s10 + (1 : Int))) = s1)) then (bif ((decide ((0 : Int) ≤ s10)) && (decide (s10 < (((List.length s7) : Nat) : Int)))) then ((s7[(Int.toNat s10)]?).bind fun vy5 => (cellS (AV.cells vy5) 0 fun vs6 => (bif ((decide ((0 : Int) ≤ s10)) && (decide (s10 < (((List.length s7) : Nat) : Int)))) then ((s7[(Int.toNat s10)]?).bind fun vy7 => (cellS (AV.cells vy7) 0 fun vs8 => (bif (decide (vs8 = s2)) then (law20_TaleOutcomes_L0 kap k k0 s1 s2 s7 vs6 (IntKind.wrap .i64 (s10 + (1 : Int))) (IntKind.wrap .i64 (s10 + (1 : Int))) b3_0 b3_1 b3_2 b3_3 b3_4 b3_5 b3_6) else (law20_TaleOutcomes_L0 kap k k0 s1 s2 s7 vs6 s9 (IntKind.wrap .i64 (s10 + (1 : Int))) b3_0 b3_1 b3_2 b3_3 b3_4 b3_5 b3_6)))) else none))) else none) else (bif ((decide ((0 : Int) ≤ s10)) && (decide (s10 < (((List.length s7) : Nat) : Int)))) then ((s7[(Int.toNat s10)]?).bind fun vy9 => (cellS (AV.cells vy9) 0 fun vs10 => (bif (decide (vs10 = s2)) then (law20_TaleOutcomes_L0 kap k k0 s1 s2 s7 s8 (IntKind.wrap .i64 (s10 + (1 : Int))) (IntKind.wrap .i64 (s10 + (1 : Int))) b3_0 b3_1 b3_2 b3_3 b3_4 b3_5 b3_6) else (law20_TaleOutcomes_L0 kap k k0 s1 s2 s7 s8 s9 (IntKind.wrap .i64 (s10 + (1 : Int))) b3_0 b3_1 b3_2 b3_3 b3_4 b3_5 b3_6)))) else none)) else (callS (kap tale_Outcome [(.agg [(.int .u8 b3_0), (.int .u8 b3_1), (.int .i64 b3_2), (.int .i64 b3_3), (.int .i64 b3_4), (.int .i64 b3_5), (.int .i64 b3_6)])]) fun vs12 => (callS (kap ref20_Outcome [(.agg [(.int .u8 b3_0), (.int .u8 b3_1), (.int .i64 b3_2), (.int .i64 b3_3), (.int .i64 b3_4), (.int .i64 b3_5), (.int .i64 b3_6)])]) fun vs14 => (bif (decide (vs12 = vs14)) then (callS (kap tale_Field [(.int .i64 s1)]) fun vs16 => (bif (decide (vs16 = s8)) then (callI .i64 (kap tale_FieldOf [(.str s2)]) fun vn18 => (some (.bool (decide (vn18 = s9))))) else (some (.bool false)))) else (some (.bool false)))))) := by kernel_rfl
theorem law20_TaleOutcomes_eq {E : Ext} [Core E] (k n : Nat) (a0_0 : Int) (a0_1 : Int) (a0_2 : Int) (a0_3 : Int) (a0_4 : Int) (a0_5 : Int) (a0_6 : Int) (a1 : Int) (a2 : ByteArray) : kp E k (n + 1) law20_TaleOutcomes [(.agg [(.int .u8 a0_0), (.int .u8 a0_1), (.int .i64 a0_2), (.int .i64 a0_3), (.int .i64 a0_4), (.int .i64 a0_5), (.int .i64 a0_6)]), (.int .i64 a1), (.str a2)] =
  (callB (kp E k n law20_alive []) fun vq2 => (bif (!vq2) then (some (.bool false)) else (callL 1 (kp E k n ref20_Fields []) fun vl4 => (law20_TaleOutcomes_L0 (kp E k n) k k a1 a2 vl4 (str []) (0 : Int) (0 : Int) a0_0 a0_1 a0_2 a0_3 a0_4 a0_5 a0_6)))) := (kp_at (by kernel_rfl)).trans (by kernel_rfl)
/- oakum/oakumlaw17.Many -/
/- oakum/oakumlaw20.alive -/
theorem law20_alive_eq {E : Ext} [Core E] (k n : Nat)  : kp E k (n + 1) law20_alive [] =
  (callT (kp E k n tale_Line [(.agg [(.int .i64 (1 : Int)), (.str (str [97])), (.str (str [])), (.int .i64 (420 : Int)), (.int .i64 (0 : Int)), (.int .i64 (0 : Int)), (.int .i64 (3 : Int)), (.int .i64 (0 : Int)), (.int .i64 (0 : Int)), (.str (str [])), (.str (str [])), (.int .i64 (0 : Int)), (.int .i64 (0 : Int)), (.list 2 [])])]) fun vt2 => (tupS vt2 fun vs3 vt4 => (tupI .u8 vt4 fun vn5 vt6 => (atNil vt6 (callT (kp E k n tale_Head [(.str (str [102, 105, 108, 101, 32, 52, 50, 48, 32, 48, 32, 48, 32, 51, 32, 48, 32, 61, 32, 61, 32, 48, 32, 48, 32, 61, 97, 32, 61]))]) fun vt8 => (tupG 14 vt8 fun vg9 vt10 => (cellI .i64 vg9 0 fun vn11 => (cellS vg9 1 fun vs12 => (cellS vg9 2 fun vs13 => (cellI .i64 vg9 3 fun vn14 => (cellI .i64 vg9 4 fun vn15 => (cellI .i64 vg9 5 fun vn16 => (cellI .i64 vg9 6 fun vn17 => (cellI .i64 vg9 7 fun vn18 => (cellI .i64 vg9 8 fun vn19 => (cellS vg9 9 fun vs20 => (cellS vg9 10 fun vs21 => (cellI .i64 vg9 11 fun vn22 => (cellI .i64 vg9 12 fun vn23 => (cellL 2 vg9 13 fun vl24 => (tupI .u8 vt10 fun vn25 vt26 => (atNil vt26 (bif (decide ((IntKind.wrap .i64 ((IntKind.wrap .i64 vn5) + (IntKind.wrap .i64 vn25))) = (0 : Int))) then (bif (decide (vs3 = (str [102, 105, 108, 101, 32, 52, 50, 48, 32, 48, 32, 48, 32, 51, 32, 48, 32, 61, 32, 61, 32, 48, 32, 48, 32, 61, 97, 32, 61]))) then (bif (decide (vs12 = (str [97]))) then (some (.bool (decide (vn17 = (3 : Int))))) else (some (.bool false))) else (some (.bool false))) else (some (.bool false))))))))))))))))))))))))) := (kp_at (by kernel_rfl)).trans (by kernel_rfl)
/- oakum/tale.Head -/
noncomputable def tale_Head_bd : Code := Tryz.f43.body.getD .skip
noncomputable def tale_Head_L0 (kap : FuncId → List AV → Option AV) (k : Nat) (k0 : Nat) (s0 : ByteArray) (b2_0 : Int) (b2_1 : ByteArray) (b2_2 : ByteArray) (b2_3 : Int) (b2_4 : Int) (b2_5 : Int) (b2_6 : Int) (b2_7 : Int) (b2_8 : Int) (b2_9 : ByteArray) (b2_10 : ByteArray) (b2_11 : Int) (b2_12 : Int) (b4_0 : List AV) (b4_1 : Bool) (b5_0 : Int) (b5_1 : ByteArray) (b5_2 : ByteArray) (b5_3 : Int) (b5_4 : Int) (b5_5 : Int) (b5_6 : Int) (b5_7 : Int) (b5_8 : Int) (b5_9 : ByteArray) (b5_10 : ByteArray) (b5_11 : Int) (b5_12 : Int) (x178 : List AV) (x181 : List AV) : Option AV :=
  loop (fun fr K => code ((bs E0 k).cfg kap tale_Head) (sel tale_Head_bd [1, 1, 1, 1, 1, 1, 1, 1, 1, 1, 1, 1, 1, 0, 0, 0]) fr K) (canon ((bs E0 k).cfg kap tale_Head) (firstReg (sel tale_Head_bd [1, 1, 1, 1, 1, 1, 1, 1, 1, 1, 1, 1, 1, 0, 0, 0]))) k0 (mkFr 88 [(0, (.str s0)), (2, (.loc 2 0)), (4, (.loc 4 0)), (5, (.loc 5 0))] [(2, (.box [(.int .i64 b2_0), (.str b2_1), (.str b2_2), (.int .i64 b2_3), (.int .i64 b2_4), (.int .i64 b2_5), (.int .i64 b2_6), (.int .i64 b2_7), (.int .i64 b2_8), (.str b2_9), (.str b2_10), (.int .i64 b2_11), (.int .i64 b2_12), (.own 178)])), (4, (.box [(.list 1 b4_0), (.bool b4_1)])), (5, (.box [(.int .i64 b5_0), (.str b5_1), (.str b5_2), (.int .i64 b5_3), (.int .i64 b5_4), (.int .i64 b5_5), (.int .i64 b5_6), (.int .i64 b5_7), (.int .i64 b5_8), (.str b5_9), (.str b5_10), (.int .i64 b5_11), (.int .i64 b5_12), (.own 181)])), (178, (.row 29 x178 false)), (181, (.row 29 x181 false))]) (plug ((bs E0 k).cfg kap tale_Head) (retK ((bs E0 k).cfg kap tale_Head) [] Tryz.f43 [] some) [.blk 2, .seqR (sel tale_Head_bd [1, 1, 1, 1, 1, 1, 1, 1, 1, 1, 1, 1, 1, 1])])
theorem tale_Head_L0_s (kap : FuncId → List AV → Option AV) (k : Nat) (k0 : Nat) (s0 : ByteArray) (b2_0 : Int) (b2_1 : ByteArray) (b2_2 : ByteArray) (b2_3 : Int) (b2_4 : Int) (b2_5 : Int) (b2_6 : Int) (b2_7 : Int) (b2_8 : Int) (b2_9 : ByteArray) (b2_10 : ByteArray) (b2_11 : Int) (b2_12 : Int) (b4_0 : List AV) (b4_1 : Bool) (b5_0 : Int) (b5_1 : ByteArray) (b5_2 : ByteArray) (b5_3 : Int) (b5_4 : Int) (b5_5 : Int) (b5_6 : Int) (b5_7 : Int) (b5_8 : Int) (b5_9 : ByteArray) (b5_10 : ByteArray) (b5_11 : Int) (b5_12 : Int) (x178 : List AV) (x181 : List AV) : tale_Head_L0 kap (k + 6) (k0 + 1) s0 b2_0 b2_1 b2_2 b2_3 b2_4 b2_5 b2_6 b2_7 b2_8 b2_9 b2_10 b2_11 b2_12 b4_0 b4_1 b5_0 b5_1 b5_2 b5_3 b5_4 b5_5 b5_6 b5_7 b5_8 b5_9 b5_10 b5_11 b5_12 x178 x181 =
  (bif (decide ((((List.length b4_0) : Nat) : Int) > (0 : Int))) then (callX (kap tale_reader_text [(.lent [(.list 1 b4_0), (.bool b4_1)])]) fun vb123 vz124 => (nxX vz124 fun vx126 vz125 => (nxL 1 vx126 fun vl128 vx127 => (nxB vx127 fun vq130 vx129 => (atNil vx129 (atNil vz125 (callS (some vb123) fun vs131 => (callX (kap tale_reader_text [(.lent [(.list 1 vl128), (.bool vq130)])]) fun vb132 vz133 => (nxX vz133 fun vx135 vz134 => (nxL 1 vx135 fun vl137 vx136 => (nxB vx136 fun vq139 vx138 => (atNil vx138 (atNil vz134 (callS (some vb132) fun vs140 => (bif (decide (((List.length x181) + 1) * 32 ≤ 140737488355328) && decide (((List.length x181) + 1) ≤ 9223372036854775807)) then (tale_Head_L0 kap (k + 6) k0 s0 b2_0 b2_1 b2_2 b2_3 b2_4 b2_5 b2_6 b2_7 b2_8 b2_9 b2_10 b2_11 b2_12 vl137 vq139 b5_0 b5_1 b5_2 b5_3 b5_4 b5_5 b5_6 b5_7 b5_8 b5_9 b5_10 b5_11 b5_12 x178 (x181 ++ [(.agg [(.str vs131), (.str vs140)])])) else none))))))))))))))) else (callT (kap tale_Line [(.agg [(.int .i64 b5_0), (.str b5_1), (.str b5_2), (.int .i64 b5_3), (.int .i64 b5_4), (.int .i64 b5_5), (.int .i64 b5_6), (.int .i64 b5_7), (.int .i64 b5_8), (.str b5_9), (.str b5_10), (.int .i64 b5_11), (.int .i64 b5_12), (.list 2 x181)])]) fun vt142 => (tupS vt142 fun vs143 vt144 => (tupI .u8 vt144 fun vn145 vt146 => (atNil vt146 (bif b4_1 then (some (.tup [(.agg [(.int .i64 (0 : Int)), (.str (str [])), (.str (str [])), (.int .i64 (0 : Int)), (.int .i64 (0 : Int)), (.int .i64 (0 : Int)), (.int .i64 (0 : Int)), (.int .i64 (0 : Int)), (.int .i64 (0 : Int)), (.str (str [])), (.str (str [])), (.int .i64 (0 : Int)), (.int .i64 (0 : Int)), (.list 2 [])]), (.int .u8 (15 : Int))])) else (bif (!(decide (vn145 = (0 : Int)))) then (some (.tup [(.agg [(.int .i64 (0 : Int)), (.str (str [])), (.str (str [])), (.int .i64 (0 : Int)), (.int .i64 (0 : Int)), (.int .i64 (0 : Int)), (.int .i64 (0 : Int)), (.int .i64 (0 : Int)), (.int .i64 (0 : Int)), (.str (str [])), (.str (str [])), (.int .i64 (0 : Int)), (.int .i64 (0 : Int)), (.list 2 [])]), (.int .u8 (15 : Int))])) else (bif (!(decide (vs143 = s0))) then (some (.tup [(.agg [(.int .i64 (0 : Int)), (.str (str [])), (.str (str [])), (.int .i64 (0 : Int)), (.int .i64 (0 : Int)), (.int .i64 (0 : Int)), (.int .i64 (0 : Int)), (.int .i64 (0 : Int)), (.int .i64 (0 : Int)), (.str (str [])), (.str (str [])), (.int .i64 (0 : Int)), (.int .i64 (0 : Int)), (.list 2 [])]), (.int .u8 (15 : Int))])) else (some (.tup [(.agg [(.int .i64 b5_0), (.str b5_1), (.str b5_2), (.int .i64 b5_3), (.int .i64 b5_4), (.int .i64 b5_5), (.int .i64 b5_6), (.int .i64 b5_7), (.int .i64 b5_8), (.str b5_9), (.str b5_10), (.int .i64 b5_11), (.int .i64 b5_12), (.list 2 x181)]), (.int .u8 (0 : Int))])))))))))) := by kernel_rfl
theorem tale_Head_eq {E : Ext} [Core E] (k n : Nat) (a0 : ByteArray) : kp E (k + 6) (n + 1) tale_Head [(.str a0)] =
  (callL 1 (kp E (k + 6) n strings_Split [(.str a0), (.str (str [32]))]) fun vl2 => (callL 1 (kp E (k + 6) n tale_kinds []) fun vl4 => (callX (kp E (k + 6) n tale_reader_next [(.lent [(.list 1 vl2), (.bool false)])]) fun vb5 vz6 => (nxX vz6 fun vx8 vz7 => (nxL 1 vx8 fun vl10 vx9 => (nxB vx9 fun vq12 vx11 => (atNil vx11 (atNil vz7 (callS (some vb5) fun vs13 => (callI .i64 (kp E (k + 6) n slices_Index_string [(.list 1 vl4), (.str vs13)]) fun vn15 => (callX (kp E (k + 6) n tale_reader_number [(.lent [(.list 1 vl10), (.bool vq12)])]) fun vb16 vz17 => (nxX vz17 fun vx19 vz18 => (nxL 1 vx19 fun vl21 vx20 => (nxB vx20 fun vq23 vx22 => (atNil vx22 (atNil vz18 (callI .i64 (some vb16) fun vn24 => (callX (kp E (k + 6) n tale_reader_number [(.lent [(.list 1 vl21), (.bool vq23)])]) fun vb25 vz26 => (nxX vz26 fun vx28 vz27 => (nxL 1 vx28 fun vl30 vx29 => (nxB vx29 fun vq32 vx31 => (atNil vx31 (atNil vz27 (callI .i64 (some vb25) fun vn33 => (callX (kp E (k + 6) n tale_reader_number [(.lent [(.list 1 vl30), (.bool vq32)])]) fun vb34 vz35 => (nxX vz35 fun vx37 vz36 => (nxL 1 vx37 fun vl39 vx38 => (nxB vx38 fun vq41 vx40 => (atNil vx40 (atNil vz36 (callI .i64 (some vb34) fun vn42 => (callX (kp E (k + 6) n tale_reader_number [(.lent [(.list 1 vl39), (.bool vq41)])]) fun vb43 vz44 => (nxX vz44 fun vx46 vz45 => (nxL 1 vx46 fun vl48 vx47 => (nxB vx47 fun vq50 vx49 => (atNil vx49 (atNil vz45 (callI .i64 (some vb43) fun vn51 => (callX (kp E (k + 6) n tale_reader_next [(.lent [(.list 1 vl48), (.bool vq50)])]) fun vb52 vz53 => (nxX vz53 fun vx55 vz54 => (nxL 1 vx55 fun vl57 vx56 => (nxB vx56 fun vq59 vx58 => (atNil vx58 (atNil vz54 (callS (some vb52) fun vs60 => (callT (kp E (k + 6) n dec_Time [(.str vs60)]) fun vt62 => (tupG 2 vt62 fun vg63 vt64 => (cellI .i64 vg63 0 fun vn65 => (cellI .i64 vg63 1 fun vn66 => (tupI .u8 vt64 fun vn67 vt68 => (atNil vt68 (bif vq59 then (callX (kp E (k + 6) n tale_reader_text [(.lent [(.list 1 vl57), (.bool true)])]) fun vb69 vz70 => (nxX vz70 fun vx72 vz71 => (nxL 1 vx72 fun vl74 vx73 => (nxB vx73 fun vq76 vx75 => (atNil vx75 (atNil vz71 (callS (some vb69) fun vs77 => (callX (kp E (k + 6) n tale_reader_text [(.lent [(.list 1 vl74), (.bool vq76)])]) fun vb78 vz79 => (nxX vz79 fun vx81 vz80 => (nxL 1 vx81 fun vl83 vx82 => (nxB vx82 fun vq85 vx84 => (atNil vx84 (atNil vz80 (callS (some vb78) fun vs86 => (callX (kp E (k + 6) n tale_reader_number [(.lent [(.list 1 vl83), (.bool vq85)])]) fun vb87 vz88 => (nxX vz88 fun vx90 vz89 => (nxL 1 vx90 fun vl92 vx91 => (nxB vx91 fun vq94 vx93 => (atNil vx93 (atNil vz89 (callI .i64 (some vb87) fun vn95 => (callX (kp E (k + 6) n tale_reader_number [(.lent [(.list 1 vl92), (.bool vq94)])]) fun vb96 vz97 => (nxX vz97 fun vx99 vz98 => (nxL 1 vx99 fun vl101 vx100 => (nxB vx100 fun vq103 vx102 => (atNil vx102 (atNil vz98 (callI .i64 (some vb96) fun vn104 => (callX (kp E (k + 6) n tale_reader_text [(.lent [(.list 1 vl101), (.bool vq103)])]) fun vb105 vz106 => (nxX vz106 fun vx108 vz107 => (nxL 1 vx108 fun vl110 vx109 => (nxB vx109 fun vq112 vx111 => (atNil vx111 (atNil vz107 (callS (some vb105) fun vs113 => (callX (kp E (k + 6) n tale_reader_text [(.lent [(.list 1 vl110), (.bool vq112)])]) fun vb114 vz115 => (nxX vz115 fun vx117 vz116 => (nxL 1 vx117 fun vl119 vx118 => (nxB vx118 fun vq121 vx120 => (atNil vx120 (atNil vz116 (callS (some vb114) fun vs122 => (tale_Head_L0 (kp E (k + 6) n) (k + 6) (k + 6) a0 (0 : Int) (str []) (str []) (0 : Int) (0 : Int) (0 : Int) (0 : Int) (0 : Int) (0 : Int) (str []) (str []) (0 : Int) (0 : Int) vl119 vq121 (if vn15 > (0 : Int) then vn15 else (0 : Int)) vs113 vs122 vn24 vn33 vn42 vn51 vn65 vn66 vs77 vs86 vn95 vn104 [] []))))))))))))))))))))))))))))))))))))))))))) else (callX (kp E (k + 6) n tale_reader_text [(.lent [(.list 1 vl57), (.bool (!(decide (vn67 = (0 : Int)))))])]) fun vb147 vz148 => (nxX vz148 fun vx150 vz149 => (nxL 1 vx150 fun vl152 vx151 => (nxB vx151 fun vq154 vx153 => (atNil vx153 (atNil vz149 (callS (some vb147) fun vs155 => (callX (kp E (k + 6) n tale_reader_text [(.lent [(.list 1 vl152), (.bool vq154)])]) fun vb156 vz157 => (nxX vz157 fun vx159 vz158 => (nxL 1 vx159 fun vl161 vx160 => (nxB vx160 fun vq163 vx162 => (atNil vx162 (atNil vz158 (callS (some vb156) fun vs164 => (callX (kp E (k + 6) n tale_reader_number [(.lent [(.list 1 vl161), (.bool vq163)])]) fun vb165 vz166 => (nxX vz166 fun vx168 vz167 => (nxL 1 vx168 fun vl170 vx169 => (nxB vx169 fun vq172 vx171 => (atNil vx171 (atNil vz167 (callI .i64 (some vb165) fun vn173 => (callX (kp E (k + 6) n tale_reader_number [(.lent [(.list 1 vl170), (.bool vq172)])]) fun vb174 vz175 => (nxX vz175 fun vx177 vz176 => (nxL 1 vx177 fun vl179 vx178 => (nxB vx178 fun vq181 vx180 => (atNil vx180 (atNil vz176 (callI .i64 (some vb174) fun vn182 => (callX (kp E (k + 6) n tale_reader_text [(.lent [(.list 1 vl179), (.bool vq181)])]) fun vb183 vz184 => (nxX vz184 fun vx186 vz185 => (nxL 1 vx186 fun vl188 vx187 => (nxB vx187 fun vq190 vx189 => (atNil vx189 (atNil vz185 (callS (some vb183) fun vs191 => (callX (kp E (k + 6) n tale_reader_text [(.lent [(.list 1 vl188), (.bool vq190)])]) fun vb192 vz193 => (nxX vz193 fun vx195 vz194 => (nxL 1 vx195 fun vl197 vx196 => (nxB vx196 fun vq199 vx198 => (atNil vx198 (atNil vz194 (callS (some vb192) fun vs200 => (tale_Head_L0 (kp E (k + 6) n) (k + 6) (k + 6) a0 (0 : Int) (str []) (str []) (0 : Int) (0 : Int) (0 : Int) (0 : Int) (0 : Int) (0 : Int) (str []) (str []) (0 : Int) (0 : Int) vl197 vq199 (if vn15 > (0 : Int) then vn15 else (0 : Int)) vs191 vs200 vn24 vn33 vn42 vn51 vn65 vn66 vs155 vs164 vn173 vn182 [] []))))))))))))))))))))))))))))))))))))))))))))))))))))))))))))))))))))))))))))))))))))))))))))))) := (kp_at (by kernel_rfl)).trans (by kernel_rfl)
/- oakum/tale.Line -/
noncomputable def tale_Line_bd : Code := Tryz.f46.body.getD .skip
noncomputable def tale_Line_L0 (kap : FuncId → List AV → Option AV) (k : Nat) (k0 : Nat) (s56 : List AV) (s57 : Int) (s58 : Int) (x6 : List AV) : Option AV :=
  loop (fun fr K => code ((bs E0 k).cfg kap tale_Line) (sel tale_Line_bd [1, 1, 1, 1, 0, 1, 0, 0]) fr K) (canon ((bs E0 k).cfg kap tale_Line) (firstReg (sel tale_Line_bd [1, 1, 1, 1, 0, 1, 0, 0]))) k0 (mkFr 74 [(6, (.own 6)), (56, (.list 2 s56)), (57, (.int .i64 s57)), (58, (.int .i64 s58))] [(6, (.row 9 x6 false))]) (plug ((bs E0 k).cfg kap tale_Line) (retK ((bs E0 k).cfg kap tale_Line) [] Tryz.f46 [] some) [.blk 0, .seqR (sel tale_Line_bd [1, 1, 1, 1, 1])])
theorem tale_Line_L0_s (kap : FuncId → List AV → Option AV) (k : Nat) (k0 : Nat) (s56 : List AV) (s57 : Int) (s58 : Int) (x6 : List AV) : tale_Line_L0 kap k (k0 + 1) s56 s57 s58 x6 =
  (bif (decide (s58 < s57)) then (bif ((decide ((0 : Int) ≤ s58)) && (decide (s58 < (((List.length s56) : Nat) : Int)))) then ((s56[(Int.toNat s58)]?).bind fun vy33 => (cellS (AV.cells vy33) 0 fun vs34 => (cellS (AV.cells vy33) 1 fun vs35 => (callS (kap tale_word [(.str vs34)]) fun vs37 => (callS (kap tale_word [(.str vs35)]) fun vs39 => (bif (decide (((List.length x6) + 2) * 16 ≤ 140737488355328) && decide (((List.length x6) + 2) ≤ 9223372036854775807)) then (tale_Line_L0 kap k k0 s56 s57 (IntKind.wrap .i64 (s58 + (1 : Int))) (x6 ++ [(.str vs37), (.str vs39)])) else none)))))) else none) else (callS (kap strings_Join [(.list 1 x6), (.str (str [32]))]) fun vs41 => (some (.tup [(.str vs41), (.int .u8 (0 : Int))])))) := by kernel_rfl
theorem tale_Line_eq {E : Ext} [Core E] (k n : Nat) (a0_0 : Int) (a0_1 : ByteArray) (a0_2 : ByteArray) (a0_3 : Int) (a0_4 : Int) (a0_5 : Int) (a0_6 : Int) (a0_7 : Int) (a0_8 : Int) (a0_9 : ByteArray) (a0_10 : ByteArray) (a0_11 : Int) (a0_12 : Int) (a0_13 : List AV) : kp E k (n + 1) tale_Line [(.agg [(.int .i64 a0_0), (.str a0_1), (.str a0_2), (.int .i64 a0_3), (.int .i64 a0_4), (.int .i64 a0_5), (.int .i64 a0_6), (.int .i64 a0_7), (.int .i64 a0_8), (.str a0_9), (.str a0_10), (.int .i64 a0_11), (.int .i64 a0_12), (.list 2 a0_13)])] =
  (callI .i64 (kp E k n item_Wrong [(.agg [(.int .i64 a0_0), (.str a0_1), (.str a0_2), (.int .i64 a0_3), (.int .i64 a0_4), (.int .i64 a0_5), (.int .i64 a0_6), (.int .i64 a0_7), (.int .i64 a0_8), (.str a0_9), (.str a0_10), (.int .i64 a0_11), (.int .i64 a0_12), (.list 2 a0_13)])]) fun vn2 => (bif (!(decide (vn2 = (0 : Int)))) then (some (.tup [(.str (str [])), (.int .u8 (15 : Int))])) else (callT (kp E k n dec_Print [(.agg [(.int .i64 a0_7), (.int .i64 a0_8)])]) fun vt4 => (tupS vt4 fun vs5 vt6 => (tupI .u8 vt6 fun vn7 vt8 => (atNil vt8 (callL 1 (kp E k n tale_kinds []) fun vl10 => (bif ((decide ((0 : Int) ≤ a0_0)) && (decide (a0_0 < (((List.length vl10) : Nat) : Int)))) then ((vl10[(Int.toNat a0_0)]?).bind fun vy11 => (cellS (AV.cells vy11) 0 fun vs12 => (callS (kp E k n dec_Text [(.int .i64 a0_3)]) fun vs14 => (callS (kp E k n dec_Text [(.int .i64 a0_4)]) fun vs16 => (callS (kp E k n dec_Text [(.int .i64 a0_5)]) fun vs18 => (callS (kp E k n dec_Text [(.int .i64 a0_6)]) fun vs20 => (callS (kp E k n tale_word [(.str a0_9)]) fun vs22 => (callS (kp E k n tale_word [(.str a0_10)]) fun vs24 => (callS (kp E k n dec_Text [(.int .i64 a0_11)]) fun vs26 => (callS (kp E k n dec_Text [(.int .i64 a0_12)]) fun vs28 => (callS (kp E k n tale_word [(.str a0_1)]) fun vs30 => (callS (kp E k n tale_word [(.str a0_2)]) fun vs32 => (tale_Line_L0 (kp E k n) k k a0_13 (((List.length a0_13) : Nat) : Int) (0 : Int) [(.str vs12), (.str vs14), (.str vs16), (.str vs18), (.str vs20), (.str vs5), (.str vs22), (.str vs24), (.str vs26), (.str vs28), (.str vs30), (.str vs32)]))))))))))))) else none)))))))) := (kp_at (by kernel_rfl)).trans (by kernel_rfl)
/- oakum/tale.Lines -/
/- oakum/oakumref20.Line -/
/- oakum/oakumref20.Fields -/
theorem ref20_Fields_eq {E : Ext} [Core E] (k n : Nat)  : kp E k (n + 1) ref20_Fields [] =
  (some (.list 1 [(.str (str [107, 105, 110, 100])), (.str (str [110, 97, 109, 101])), (.str (str [108, 105, 110, 107])), (.str (str [109, 111, 100, 101])), (.str (str [117, 105, 100])), (.str (str [103, 105, 100])), (.str (str [115, 105, 122, 101])), (.str (str [116, 105, 109, 101])), (.str (str [117, 115, 101, 114])), (.str (str [103, 114, 111, 117, 112])), (.str (str [109, 97, 106, 111, 114])), (.str (str [109, 105, 110, 111, 114])), (.str (str [101, 120, 116, 114, 97])), (.str (str [114, 101, 99, 111, 114, 100, 115]))])) := (kp_at (by kernel_rfl)).trans (by kernel_rfl)
/- oakum/tale.Outcome -/
theorem tale_Outcome_eq {E : Ext} [Core E] (k n : Nat) (a0_0 : Int) (a0_1 : Int) (a0_2 : Int) (a0_3 : Int) (a0_4 : Int) (a0_5 : Int) (a0_6 : Int) : kp E k (n + 1) tale_Outcome [(.agg [(.int .u8 a0_0), (.int .u8 a0_1), (.int .i64 a0_2), (.int .i64 a0_3), (.int .i64 a0_4), (.int .i64 a0_5), (.int .i64 a0_6)])] =
  (callS (kp E k n strconv_Itoa [(.int .i64 a0_5)]) fun vs2 => (bif (decide (a0_0 = (0 : Int))) then (bif (decide (5 + (ByteArray.size vs2) ≤ 9223372036854775807)) then (some (.str ((str [102, 105, 110, 101, 32]) ++ vs2))) else none) else (bif (decide (a0_0 = (13 : Int))) then (callS (kp E k n strconv_Itoa [(.int .i64 a0_3)]) fun vs4 => (bif (decide (7 + (ByteArray.size vs4) ≤ 9223372036854775807)) then (bif (decide ((ByteArray.size ((str [114, 101, 112, 111, 114, 116, 32]) ++ vs4)) + 1 ≤ 9223372036854775807)) then (callS (kp E k n tale_Field [(.int .i64 a0_4)]) fun vs6 => (bif (decide ((ByteArray.size (((str [114, 101, 112, 111, 114, 116, 32]) ++ vs4) ++ (str [32]))) + (ByteArray.size vs6) ≤ 9223372036854775807)) then (bif (decide ((ByteArray.size ((((str [114, 101, 112, 111, 114, 116, 32]) ++ vs4) ++ (str [32])) ++ vs6)) + 1 ≤ 9223372036854775807)) then (bif (decide ((ByteArray.size (((((str [114, 101, 112, 111, 114, 116, 32]) ++ vs4) ++ (str [32])) ++ vs6) ++ (str [32]))) + (ByteArray.size vs2) ≤ 9223372036854775807)) then (some (.str ((((((str [114, 101, 112, 111, 114, 116, 32]) ++ vs4) ++ (str [32])) ++ vs6) ++ (str [32])) ++ vs2))) else none) else none) else none)) else none) else none)) else (bif (decide (a0_0 = (14 : Int))) then (some (.str (str [115, 105, 110, 107]))) else (callS (kp E k n api_Code_String [(.int .u8 a0_0)]) fun vs8 => (bif (decide (6 + (ByteArray.size vs8) ≤ 9223372036854775807)) then (bif (decide ((ByteArray.size ((str [102, 97, 117, 108, 116, 32]) ++ vs8)) + 1 ≤ 9223372036854775807)) then (callS (kp E k n dec_Text [(.int .i64 a0_2)]) fun vs10 => (bif (decide ((ByteArray.size (((str [102, 97, 117, 108, 116, 32]) ++ vs8) ++ (str [32]))) + (ByteArray.size vs10) ≤ 9223372036854775807)) then (bif (decide ((ByteArray.size ((((str [102, 97, 117, 108, 116, 32]) ++ vs8) ++ (str [32])) ++ vs10)) + 1 ≤ 9223372036854775807)) then (bif (decide ((ByteArray.size (((((str [102, 97, 117, 108, 116, 32]) ++ vs8) ++ (str [32])) ++ vs10) ++ (str [32]))) + (ByteArray.size vs2) ≤ 9223372036854775807)) then (some (.str ((((((str [102, 97, 117, 108, 116, 32]) ++ vs8) ++ (str [32])) ++ vs10) ++ (str [32])) ++ vs2))) else none) else none) else none)) else none) else none)))))) := (kp_at (by kernel_rfl)).trans (by kernel_rfl)
/- oakum/oakumref20.Outcome -/
theorem ref20_Outcome_eq {E : Ext} [Core E] (k n : Nat) (a0_0 : Int) (a0_1 : Int) (a0_2 : Int) (a0_3 : Int) (a0_4 : Int) (a0_5 : Int) (a0_6 : Int) : kp E k (n + 1) ref20_Outcome [(.agg [(.int .u8 a0_0), (.int .u8 a0_1), (.int .i64 a0_2), (.int .i64 a0_3), (.int .i64 a0_4), (.int .i64 a0_5), (.int .i64 a0_6)])] =
  (bif (decide (a0_0 = (0 : Int))) then (callS (kp E k n ref20_num [(.int .i64 a0_5)]) fun vs2 => (bif (decide (5 + (ByteArray.size vs2) ≤ 9223372036854775807)) then (some (.str ((str [102, 105, 110, 101, 32]) ++ vs2))) else none)) else (bif (decide (a0_0 = (13 : Int))) then (bif (decide (a0_4 ≥ (1 : Int))) then (bif (decide (a0_4 ≤ (14 : Int))) then (callL 1 (kp E k n ref20_Fields []) fun vl4 => (bif ((decide ((0 : Int) ≤ (IntKind.wrap .i64 (a0_4 - (1 : Int))))) && (decide ((IntKind.wrap .i64 (a0_4 - (1 : Int))) < (((List.length vl4) : Nat) : Int)))) then ((vl4[(Int.toNat (IntKind.wrap .i64 (a0_4 - (1 : Int))))]?).bind fun vy5 => (cellS (AV.cells vy5) 0 fun vs6 => (callS (kp E k n ref20_num [(.int .i64 a0_3)]) fun vs8 => (bif (decide (7 + (ByteArray.size vs8) ≤ 9223372036854775807)) then (bif (decide ((ByteArray.size ((str [114, 101, 112, 111, 114, 116, 32]) ++ vs8)) + 1 ≤ 9223372036854775807)) then (bif (decide ((ByteArray.size (((str [114, 101, 112, 111, 114, 116, 32]) ++ vs8) ++ (str [32]))) + (ByteArray.size vs6) ≤ 9223372036854775807)) then (bif (decide ((ByteArray.size ((((str [114, 101, 112, 111, 114, 116, 32]) ++ vs8) ++ (str [32])) ++ vs6)) + 1 ≤ 9223372036854775807)) then (callS (kp E k n ref20_num [(.int .i64 a0_5)]) fun vs10 => (bif (decide ((ByteArray.size (((((str [114, 101, 112, 111, 114, 116, 32]) ++ vs8) ++ (str [32])) ++ vs6) ++ (str [32]))) + (ByteArray.size vs10) ≤ 9223372036854775807)) then (some (.str ((((((str [114, 101, 112, 111, 114, 116, 32]) ++ vs8) ++ (str [32])) ++ vs6) ++ (str [32])) ++ vs10))) else none)) else none) else none) else none) else none)))) else none)) else (callS (kp E k n ref20_num [(.int .i64 a0_3)]) fun vs12 => (bif (decide (7 + (ByteArray.size vs12) ≤ 9223372036854775807)) then (bif (decide ((ByteArray.size ((str [114, 101, 112, 111, 114, 116, 32]) ++ vs12)) + 1 ≤ 9223372036854775807)) then (bif (decide ((ByteArray.size (((str [114, 101, 112, 111, 114, 116, 32]) ++ vs12) ++ (str [32]))) + 0 ≤ 9223372036854775807)) then (bif (decide ((ByteArray.size ((((str [114, 101, 112, 111, 114, 116, 32]) ++ vs12) ++ (str [32])) ++ (str []))) + 1 ≤ 9223372036854775807)) then (callS (kp E k n ref20_num [(.int .i64 a0_5)]) fun vs14 => (bif (decide ((ByteArray.size (((((str [114, 101, 112, 111, 114, 116, 32]) ++ vs12) ++ (str [32])) ++ (str [])) ++ (str [32]))) + (ByteArray.size vs14) ≤ 9223372036854775807)) then (some (.str ((((((str [114, 101, 112, 111, 114, 116, 32]) ++ vs12) ++ (str [32])) ++ (str [])) ++ (str [32])) ++ vs14))) else none)) else none) else none) else none) else none))) else (callS (kp E k n ref20_num [(.int .i64 a0_3)]) fun vs16 => (bif (decide (7 + (ByteArray.size vs16) ≤ 9223372036854775807)) then (bif (decide ((ByteArray.size ((str [114, 101, 112, 111, 114, 116, 32]) ++ vs16)) + 1 ≤ 9223372036854775807)) then (bif (decide ((ByteArray.size (((str [114, 101, 112, 111, 114, 116, 32]) ++ vs16) ++ (str [32]))) + 0 ≤ 9223372036854775807)) then (bif (decide ((ByteArray.size ((((str [114, 101, 112, 111, 114, 116, 32]) ++ vs16) ++ (str [32])) ++ (str []))) + 1 ≤ 9223372036854775807)) then (callS (kp E k n ref20_num [(.int .i64 a0_5)]) fun vs18 => (bif (decide ((ByteArray.size (((((str [114, 101, 112, 111, 114, 116, 32]) ++ vs16) ++ (str [32])) ++ (str [])) ++ (str [32]))) + (ByteArray.size vs18) ≤ 9223372036854775807)) then (some (.str ((((((str [114, 101, 112, 111, 114, 116, 32]) ++ vs16) ++ (str [32])) ++ (str [])) ++ (str [32])) ++ vs18))) else none)) else none) else none) else none) else none))) else (bif (decide (a0_0 = (14 : Int))) then (some (.str (str [115, 105, 110, 107]))) else (bif (decide (a0_0 ≤ (16 : Int))) then (callL 1 (kp E k n ref20_Codes []) fun vl20 => (bif ((decide ((0 : Int) ≤ a0_0)) && (decide (a0_0 < (((List.length vl20) : Nat) : Int)))) then ((vl20[(Int.toNat a0_0)]?).bind fun vy21 => (cellS (AV.cells vy21) 0 fun vs22 => (bif (decide (6 + (ByteArray.size vs22) ≤ 9223372036854775807)) then (bif (decide ((ByteArray.size ((str [102, 97, 117, 108, 116, 32]) ++ vs22)) + 1 ≤ 9223372036854775807)) then (callS (kp E k n ref20_num [(.int .i64 a0_2)]) fun vs24 => (bif (decide ((ByteArray.size (((str [102, 97, 117, 108, 116, 32]) ++ vs22) ++ (str [32]))) + (ByteArray.size vs24) ≤ 9223372036854775807)) then (bif (decide ((ByteArray.size ((((str [102, 97, 117, 108, 116, 32]) ++ vs22) ++ (str [32])) ++ vs24)) + 1 ≤ 9223372036854775807)) then (callS (kp E k n ref20_num [(.int .i64 a0_5)]) fun vs26 => (bif (decide ((ByteArray.size (((((str [102, 97, 117, 108, 116, 32]) ++ vs22) ++ (str [32])) ++ vs24) ++ (str [32]))) + (ByteArray.size vs26) ≤ 9223372036854775807)) then (some (.str ((((((str [102, 97, 117, 108, 116, 32]) ++ vs22) ++ (str [32])) ++ vs24) ++ (str [32])) ++ vs26))) else none)) else none) else none)) else none) else none))) else none)) else (callS (kp E k n ref20_num [(.int .i64 a0_2)]) fun vs28 => (bif (decide (12 + (ByteArray.size vs28) ≤ 9223372036854775807)) then (bif (decide ((ByteArray.size ((str [102, 97, 117, 108, 116, 32, 111, 116, 104, 101, 114, 32]) ++ vs28)) + 1 ≤ 9223372036854775807)) then (callS (kp E k n ref20_num [(.int .i64 a0_5)]) fun vs30 => (bif (decide ((ByteArray.size (((str [102, 97, 117, 108, 116, 32, 111, 116, 104, 101, 114, 32]) ++ vs28) ++ (str [32]))) + (ByteArray.size vs30) ≤ 9223372036854775807)) then (some (.str ((((str [102, 97, 117, 108, 116, 32, 111, 116, 104, 101, 114, 32]) ++ vs28) ++ (str [32])) ++ vs30))) else none)) else none) else none)))))) := (kp_at (by kernel_rfl)).trans (by kernel_rfl)
/- oakum/tale.Field -/
theorem tale_Field_eq {E : Ext} [Core E] (k n : Nat) (a0 : Int) : kp E k (n + 1) tale_Field [(.int .i64 a0)] =
  (bif (decide (a0 < (1 : Int))) then (some (.str (str []))) else (bif (decide (a0 > (14 : Int))) then (some (.str (str []))) else (callL 1 (kp E k n tale_fields []) fun vl2 => (bif ((decide ((0 : Int) ≤ a0)) && (decide (a0 < (((List.length vl2) : Nat) : Int)))) then ((vl2[(Int.toNat a0)]?).bind fun vy3 => (cellS (AV.cells vy3) 0 fun vs4 => (some (.str vs4)))) else none)))) := (kp_at (by kernel_rfl)).trans (by kernel_rfl)
/- oakum/tale.FieldOf -/
theorem tale_FieldOf_eq {E : Ext} [Core E] (k n : Nat) (a0 : ByteArray) : kp E k (n + 1) tale_FieldOf [(.str a0)] =
  (callL 1 (kp E k n tale_fields []) fun vl2 => (callI .i64 (kp E k n slices_Index_string [(.list 1 vl2), (.str a0)]) fun vn4 => (some (.int .i64 (if vn4 > (0 : Int) then vn4 else (0 : Int)))))) := (kp_at (by kernel_rfl)).trans (by kernel_rfl)
/- strings.Split -/
theorem strings_Split_eq {E : Ext} [Core E] (k n : Nat) (a0 : ByteArray) (a1 : ByteArray) : kp E k (n + 1) strings_Split [(.str a0), (.str a1)] =
  (callL 1 (kp E k n strings_genSplit [(.str a0), (.str a1), (.int .i64 (0 : Int)), (.int .i64 (-1 : Int))]) fun vl2 => (some (.list 1 vl2))) := (kp_at (by kernel_rfl)).trans (by kernel_rfl)
/- oakum/tale.kinds -/
theorem tale_kinds_eq {E : Ext} [Core E] (k n : Nat)  : kp E k (n + 1) tale_kinds [] =
  (some (.list 1 [(.str (str [])), (.str (str [102, 105, 108, 101])), (.str (str [108, 105, 110, 107])), (.str (str [115, 121, 109])), (.str (str [99, 104, 97, 114])), (.str (str [98, 108, 111, 99, 107])), (.str (str [100, 105, 114])), (.str (str [102, 105, 102, 111]))])) := (kp_at (by kernel_rfl)).trans (by kernel_rfl)
/- (*oakum/tale.reader).next -/
theorem tale_reader_next_eq {E : Ext} [Core E] (k n : Nat) (a0_0 : List AV) (a0_1 : Bool) : kp E k (n + 1) tale_reader_next [(.lent [(.list 1 a0_0), (.bool a0_1)])] =
  (bif (decide ((((List.length a0_0) : Nat) : Int) = (0 : Int))) then (some (.lback (.str (str [])) [(.lent [(.list 1 a0_0), (.bool true)])])) else (bif (decide ((0 : Int) < (((List.length a0_0) : Nat) : Int))) then ((a0_0[0]?).bind fun vy1 => (cellS (AV.cells vy1) 0 fun vs2 => (bif (decide ((1 : Int) ≤ (((List.length a0_0) : Nat) : Int))) then (some (.lback (.str vs2) [(.lent [(.list 1 (List.drop 1 (List.take (List.length a0_0) a0_0))), (.bool a0_1)])])) else none))) else none)) := (kp_at (by kernel_rfl)).trans (by kernel_rfl)
/- (*oakum/tale.reader).number -/
theorem tale_reader_number_eq {E : Ext} [Core E] (k n : Nat) (a0_0 : List AV) (a0_1 : Bool) : kp E k (n + 1) tale_reader_number [(.lent [(.list 1 a0_0), (.bool a0_1)])] =
  (callX (kp E k n tale_reader_next [(.lent [(.list 1 a0_0), (.bool a0_1)])]) fun vb1 vz2 => (nxX vz2 fun vx4 vz3 => (nxL 1 vx4 fun vl6 vx5 => (nxB vx5 fun vq8 vx7 => (atNil vx7 (atNil vz3 (callS (some vb1) fun vs9 => (callT (kp E k n dec_Number [(.str vs9)]) fun vt11 => (tupI .i64 vt11 fun vn12 vt13 => (tupI .u8 vt13 fun vn14 vt15 => (atNil vt15 (bif vq8 then (some (.lback (.int .i64 vn12) [(.lent [(.list 1 vl6), (.bool true)])])) else (some (.lback (.int .i64 vn12) [(.lent [(.list 1 vl6), (.bool (!(decide (vn14 = (0 : Int)))))])])))))))))))))) := (kp_at (by kernel_rfl)).trans (by kernel_rfl)
/- (*oakum/tale.reader).text -/
theorem tale_reader_text_eq {E : Ext} [Core E] (k n : Nat) (a0_0 : List AV) (a0_1 : Bool) : kp E k (n + 1) tale_reader_text [(.lent [(.list 1 a0_0), (.bool a0_1)])] =
  (callX (kp E k n tale_reader_next [(.lent [(.list 1 a0_0), (.bool a0_1)])]) fun vb1 vz2 => (nxX vz2 fun vx4 vz3 => (nxL 1 vx4 fun vl6 vx5 => (nxB vx5 fun vq8 vx7 => (atNil vx7 (atNil vz3 (callS (some vb1) fun vs9 => (callT (kp E k n strings_CutPrefix [(.str vs9), (.str (str [61]))]) fun vt11 => (tupS vt11 fun vs12 vt13 => (tupB vt13 fun vq14 vt15 => (atNil vt15 (callT (kp E k n text_Unquote [(.str vs12)]) fun vt17 => (tupS vt17 fun vs18 vt19 => (tupI .u8 vt19 fun vn20 vt21 => (atNil vt21 (bif vq8 then (some (.lback (.str vs18) [(.lent [(.list 1 vl6), (.bool true)])])) else (bif (!vq14) then (some (.lback (.str vs18) [(.lent [(.list 1 vl6), (.bool true)])])) else (some (.lback (.str vs18) [(.lent [(.list 1 vl6), (.bool (!(decide (vn20 = (0 : Int)))))])]))))))))))))))))))) := (kp_at (by kernel_rfl)).trans (by kernel_rfl)
/- oakum/oakumref20.Words -/
/- oakum/oakumref20.Kinds -/
/- oakum/oakumref20.text -/
/- oakum/tale.word -/
theorem tale_word_eq {E : Ext} [Core E] (k n : Nat) (a0 : ByteArray) : kp E k (n + 1) tale_word [(.str a0)] =
  (callS (kp E k n text_Quote [(.str a0)]) fun vs2 => (bif (decide (1 + (ByteArray.size vs2) ≤ 9223372036854775807)) then (some (.str ((str [61]) ++ vs2))) else none)) := (kp_at (by kernel_rfl)).trans (by kernel_rfl)
/- oakum/oakumref20.num -/
theorem ref20_num_eq {E : Ext} [Core E] (k n : Nat) (a0 : Int) : kp E k (n + 1) ref20_num [(.int .i64 a0)] =
  (callS (kp E k n ref04_Text [(.int .i64 a0)]) fun vs2 => (some (.str vs2))) := (kp_at (by kernel_rfl)).trans (by kernel_rfl)
/- (oakum/api.Code).String -/
theorem api_Code_String_eq {E : Ext} [Core E] (k n : Nat) (a0 : Int) : kp E k (n + 1) api_Code_String [(.int .u8 a0)] =
  (bif (decide ((IntKind.wrap .i64 a0) < (17 : Int))) then (bif ((decide ((0 : Int) ≤ a0)) && (decide (a0 < (17 : Int)))) then (cellS [(.str (str [102, 105, 110, 101])), (.str (str [110, 105, 108])), (.str (str [97, 114, 103])), (.str (str [115, 104, 111, 114, 116])), (.str (str [115, 117, 109])), (.str (str [110, 117, 109, 101, 114, 97, 108])), (.str (str [114, 101, 99, 111, 114, 100])), (.str (str [100, 97, 110, 103, 108, 105, 110, 103])), (.str (str [116, 114, 97, 105, 108, 101, 114])), (.str (str [102, 108, 97, 103])), (.str (str [110, 97, 109, 101])), (.str (str [115, 105, 122, 101])), (.str (str [108, 97, 114, 103, 101])), (.str (str [102, 105, 101, 108, 100])), (.str (str [115, 105, 110, 107])), (.str (str [102, 111, 114, 109])), (.str (str [110, 111, 110, 101]))] (0 + (Int.toNat a0) * 1) fun vs1 => (some (.str vs1))) else none) else (some (.str (str [111, 116, 104, 101, 114])))) := (kp_at (by kernel_rfl)).trans (by kernel_rfl)
/- oakum/oakumref20.Codes -/
theorem ref20_Codes_eq {E : Ext} [Core E] (k n : Nat)  : kp E k (n + 1) ref20_Codes [] =
  (some (.list 1 [(.str (str [102, 105, 110, 101])), (.str (str [110, 105, 108])), (.str (str [97, 114, 103])), (.str (str [115, 104, 111, 114, 116])), (.str (str [115, 117, 109])), (.str (str [110, 117, 109, 101, 114, 97, 108])), (.str (str [114, 101, 99, 111, 114, 100])), (.str (str [100, 97, 110, 103, 108, 105, 110, 103])), (.str (str [116, 114, 97, 105, 108, 101, 114])), (.str (str [102, 108, 97, 103])), (.str (str [110, 97, 109, 101])), (.str (str [115, 105, 122, 101])), (.str (str [108, 97, 114, 103, 101])), (.str (str [102, 105, 101, 108, 100])), (.str (str [115, 105, 110, 107])), (.str (str [102, 111, 114, 109])), (.str (str [110, 111, 110, 101]))])) := (kp_at (by kernel_rfl)).trans (by kernel_rfl)
/- oakum/tale.fields -/
theorem tale_fields_eq {E : Ext} [Core E] (k n : Nat)  : kp E k (n + 1) tale_fields [] =
  (some (.list 1 [(.str (str [])), (.str (str [107, 105, 110, 100])), (.str (str [110, 97, 109, 101])), (.str (str [108, 105, 110, 107])), (.str (str [109, 111, 100, 101])), (.str (str [117, 105, 100])), (.str (str [103, 105, 100])), (.str (str [115, 105, 122, 101])), (.str (str [116, 105, 109, 101])), (.str (str [117, 115, 101, 114])), (.str (str [103, 114, 111, 117, 112])), (.str (str [109, 97, 106, 111, 114])), (.str (str [109, 105, 110, 111, 114])), (.str (str [101, 120, 116, 114, 97])), (.str (str [114, 101, 99, 111, 114, 100, 115]))])) := (kp_at (by kernel_rfl)).trans (by kernel_rfl)
/- oakum/text.Blocks -/
/- oakum/text.Unquote -/
noncomputable def text_Unquote_bd : Code := Tryz.f148.body.getD .skip
noncomputable def text_Unquote_L0 (kap : FuncId → List AV → Option AV) (k : Nat) (k0 : Nat) (s0 : ByteArray) (x4 : List AV) : Option AV :=
  loop (fun fr K => code ((bs E0 k).cfg kap text_Unquote) (sel text_Unquote_bd [1, 1, 0, 0, 0]) fr K) (canon ((bs E0 k).cfg kap text_Unquote) (firstReg (sel text_Unquote_bd [1, 1, 0, 0, 0]))) k0 (mkFr 73 [(0, (.str s0)), (4, (.own 4))] [(4, (.row 5 x4 false))]) (plug ((bs E0 k).cfg kap text_Unquote) (retK ((bs E0 k).cfg kap text_Unquote) [] Tryz.f148 [] some) [.blk 0, .seqR (sel text_Unquote_bd [1, 1, 1])])
theorem text_Unquote_L0_s (kap : FuncId → List AV → Option AV) (k : Nat) (k0 : Nat) (s0 : ByteArray) (x4 : List AV) : text_Unquote_L0 kap k (k0 + 1) s0 x4 =
  (bif (decide ((((ByteArray.size s0) : Nat) : Int) > (0 : Int))) then (bif (decide ((0 : Int) < (((ByteArray.size s0) : Nat) : Int))) then (callB (kap text_open [(.int .u8 (byteAt s0 0))]) fun vq2 => (bif vq2 then (bif (decide ((0 : Int) < (((ByteArray.size s0) : Nat) : Int))) then (bif (decide (((List.length x4) + 1) * 1 ≤ 140737488355328) && decide (((List.length x4) + 1) ≤ 9223372036854775807)) then (bif (decide ((1 : Int) ≤ (((ByteArray.size s0) : Nat) : Int))) then (text_Unquote_L0 kap k k0 (ByteArray.extract s0 1 (ByteArray.size s0)) (x4 ++ [(.int .u8 (byteAt s0 0))])) else none) else none) else none) else (bif (decide ((0 : Int) < (((ByteArray.size s0) : Nat) : Int))) then (bif (!(decide ((byteAt s0 0) = (92 : Int)))) then (some (.tup [(.str (str [])), (.int .u8 (15 : Int))])) else (bif (decide ((((ByteArray.size s0) : Nat) : Int) < (4 : Int))) then (some (.tup [(.str (str [])), (.int .u8 (15 : Int))])) else (bif (decide ((1 : Int) < (((ByteArray.size s0) : Nat) : Int))) then (bif (decide ((byteAt s0 1) > (51 : Int))) then (some (.tup [(.str (str [])), (.int .u8 (15 : Int))])) else (bif (decide ((1 : Int) < (((ByteArray.size s0) : Nat) : Int))) then (callB (kap text_digit [(.int .u8 (byteAt s0 1))]) fun vq4 => (bif (!vq4) then (some (.tup [(.str (str [])), (.int .u8 (15 : Int))])) else (bif (decide ((2 : Int) < (((ByteArray.size s0) : Nat) : Int))) then (callB (kap text_digit [(.int .u8 (byteAt s0 2))]) fun vq6 => (bif (!vq6) then (some (.tup [(.str (str [])), (.int .u8 (15 : Int))])) else (bif (decide ((3 : Int) < (((ByteArray.size s0) : Nat) : Int))) then (callB (kap text_digit [(.int .u8 (byteAt s0 3))]) fun vq8 => (bif (!vq8) then (some (.tup [(.str (str [])), (.int .u8 (15 : Int))])) else (bif (decide ((1 : Int) < (((ByteArray.size s0) : Nat) : Int))) then (bif (decide ((2 : Int) < (((ByteArray.size s0) : Nat) : Int))) then (bif (decide ((3 : Int) < (((ByteArray.size s0) : Nat) : Int))) then (callB (kap text_open [(.int .u8 (IntKind.wrap .u8 ((BitVec.ofInt (IntKind.bits .u8) (IntKind.wrap .u8 ((BitVec.ofInt (IntKind.bits .u8) (IntKind.wrap .u8 ((IntKind.wrap .u8 ((BitVec.ofInt (IntKind.bits .u8) (byteAt s0 1) &&& BitVec.ofInt (IntKind.bits .u8) (7 : Int)).toNat : Int)) * 2 ^ (min (Int.toNat (6 : Int)) (IntKind.bits .u8)))) ||| BitVec.ofInt (IntKind.bits .u8) (IntKind.wrap .u8 ((IntKind.wrap .u8 ((BitVec.ofInt (IntKind.bits .u8) (byteAt s0 2) &&& BitVec.ofInt (IntKind.bits .u8) (7 : Int)).toNat : Int)) * 2 ^ (min (Int.toNat (3 : Int)) (IntKind.bits .u8))))).toNat : Int)) ||| BitVec.ofInt (IntKind.bits .u8) (IntKind.wrap .u8 ((BitVec.ofInt (IntKind.bits .u8) (byteAt s0 3) &&& BitVec.ofInt (IntKind.bits .u8) (7 : Int)).toNat : Int))).toNat : Int)))]) fun vq10 => (bif vq10 then (some (.tup [(.str (str [])), (.int .u8 (15 : Int))])) else (bif (decide (((List.length x4) + 1) * 1 ≤ 140737488355328) && decide (((List.length x4) + 1) ≤ 9223372036854775807)) then (bif (decide ((4 : Int) ≤ (((ByteArray.size s0) : Nat) : Int))) then (text_Unquote_L0 kap k k0 (ByteArray.extract s0 4 (ByteArray.size s0)) (x4 ++ [(.int .u8 (IntKind.wrap .u8 ((BitVec.ofInt (IntKind.bits .u8) (IntKind.wrap .u8 ((BitVec.ofInt (IntKind.bits .u8) (IntKind.wrap .u8 ((IntKind.wrap .u8 ((BitVec.ofInt (IntKind.bits .u8) (byteAt s0 1) &&& BitVec.ofInt (IntKind.bits .u8) (7 : Int)).toNat : Int)) * 2 ^ (min (Int.toNat (6 : Int)) (IntKind.bits .u8)))) ||| BitVec.ofInt (IntKind.bits .u8) (IntKind.wrap .u8 ((IntKind.wrap .u8 ((BitVec.ofInt (IntKind.bits .u8) (byteAt s0 2) &&& BitVec.ofInt (IntKind.bits .u8) (7 : Int)).toNat : Int)) * 2 ^ (min (Int.toNat (3 : Int)) (IntKind.bits .u8))))).toNat : Int)) ||| BitVec.ofInt (IntKind.bits .u8) (IntKind.wrap .u8 ((BitVec.ofInt (IntKind.bits .u8) (byteAt s0 3) &&& BitVec.ofInt (IntKind.bits .u8) (7 : Int)).toNat : Int))).toNat : Int)))])) else none) else none))) else none) else none) else none))) else none))) else none))) else none)) else none))) else none))) else none) else ((toBytes x4).bind fun vl11 => (some (.tup [(.str (str vl11)), (.int .u8 (0 : Int))])))) := by kernel_rfl
theorem text_Unquote_eq {E : Ext} [Core E] (k n : Nat) (a0 : ByteArray) : kp E k (n + 1) text_Unquote [(.str a0)] =
  (text_Unquote_L0 (kp E k n) k k a0 []) := (kp_at (by kernel_rfl)).trans (by kernel_rfl)
/- strings.genSplit -/
noncomputable def strings_genSplit_bd : Code := Tryz.f166.body.getD .skip
noncomputable def strings_genSplit_L0 (kap : FuncId → List AV → Option AV) (k : Nat) (k0 : Nat) (s0 : ByteArray) (s1 : ByteArray) (s2 : Int) (s3 : Int) (s10 : Int) (x9 : List AV) : Option AV :=
  loop (fun fr K => code ((bs E0 k).cfg kap strings_genSplit) (sel strings_genSplit_bd [1, 1, 1, 1, 1, 1, 1, 1, 0, 0, 0]) fr K) (canon ((bs E0 k).cfg kap strings_genSplit) (firstReg (sel strings_genSplit_bd [1, 1, 1, 1, 1, 1, 1, 1, 0, 0, 0]))) k0 (mkFr 66 [(0, (.str s0)), (1, (.str s1)), (2, (.int .i64 s2)), (3, (.int .i64 s3)), (9, (.own 9)), (10, (.int .i64 s10))] [(9, (.row 9 x9 false))]) (plug ((bs E0 k).cfg kap strings_genSplit) (retK ((bs E0 k).cfg kap strings_genSplit) [] Tryz.f166 [] some) [.blk 0, .seqR (sel strings_genSplit_bd [1, 1, 1, 1, 1, 1, 1, 1, 1])])
theorem strings_genSplit_L0_s (kap : FuncId → List AV → Option AV) (k : Nat) (k0 : Nat) (s0 : ByteArray) (s1 : ByteArray) (s2 : Int) (s3 : Int) (s10 : Int) (x9 : List AV) : strings_genSplit_L0 kap k (k0 + 1) s0 s1 s2 s3 s10 x9 =
  (bif (decide (s10 < s3)) then (callI .i64 (kap strings_Index [(.str s0), (.str s1)]) fun vn6 => (bif (decide (vn6 < (0 : Int))) then (bif ((decide ((0 : Int) ≤ s10)) && (decide (s10 < (((List.length x9) : Nat) : Int)))) then ((x9[(Int.toNat s10)]?).bind fun vy7 => (bif (decide (0 + 1 ≤ (AV.cells vy7).length) && true) then (bif ((decide ((0 : Int) ≤ (IntKind.wrap .i64 (s10 + (1 : Int))))) && (decide ((IntKind.wrap .i64 (s10 + (1 : Int))) ≤ (((List.length (List.set x9 (Int.toNat s10) (mkElem 1 (splice (AV.cells vy7) 0 [(.str s0)]) vy7))) : Nat) : Int)))) then (some (.list 1 (List.take (Int.toNat (IntKind.wrap .i64 (s10 + (1 : Int)))) (List.set x9 (Int.toNat s10) (mkElem 1 (splice (AV.cells vy7) 0 [(.str s0)]) vy7))))) else none) else none)) else none) else (bif ((decide ((0 : Int) ≤ (IntKind.wrap .i64 (vn6 + s2)))) && (decide ((IntKind.wrap .i64 (vn6 + s2)) ≤ (((ByteArray.size s0) : Nat) : Int)))) then (bif ((decide ((0 : Int) ≤ s10)) && (decide (s10 < (((List.length x9) : Nat) : Int)))) then ((x9[(Int.toNat s10)]?).bind fun vy8 => (bif (decide (0 + 1 ≤ (AV.cells vy8).length) && true) then (bif ((decide ((0 : Int) ≤ (IntKind.wrap .i64 (vn6 + (((ByteArray.size s1) : Nat) : Int))))) && (decide ((IntKind.wrap .i64 (vn6 + (((ByteArray.size s1) : Nat) : Int))) ≤ (((ByteArray.size s0) : Nat) : Int)))) then (strings_genSplit_L0 kap k k0 (ByteArray.extract s0 (Int.toNat (IntKind.wrap .i64 (vn6 + (((ByteArray.size s1) : Nat) : Int)))) (ByteArray.size s0)) s1 s2 s3 (IntKind.wrap .i64 (s10 + (1 : Int))) (List.set x9 (Int.toNat s10) (mkElem 1 (splice (AV.cells vy8) 0 [(.str (ByteArray.extract s0 0 (Int.toNat (IntKind.wrap .i64 (vn6 + s2)))))]) vy8))) else none) else none)) else none) else none))) else (bif ((decide ((0 : Int) ≤ s10)) && (decide (s10 < (((List.length x9) : Nat) : Int)))) then ((x9[(Int.toNat s10)]?).bind fun vy9 => (bif (decide (0 + 1 ≤ (AV.cells vy9).length) && true) then (bif ((decide ((0 : Int) ≤ (IntKind.wrap .i64 (s10 + (1 : Int))))) && (decide ((IntKind.wrap .i64 (s10 + (1 : Int))) ≤ (((List.length (List.set x9 (Int.toNat s10) (mkElem 1 (splice (AV.cells vy9) 0 [(.str s0)]) vy9))) : Nat) : Int)))) then (some (.list 1 (List.take (Int.toNat (IntKind.wrap .i64 (s10 + (1 : Int)))) (List.set x9 (Int.toNat s10) (mkElem 1 (splice (AV.cells vy9) 0 [(.str s0)]) vy9))))) else none) else none)) else none)) := by kernel_rfl
theorem strings_genSplit_eq {E : Ext} [Core E] (k n : Nat) (a0 : ByteArray) (a1 : ByteArray) (a2 : Int) (a3 : Int) : kp E k (n + 1) strings_genSplit [(.str a0), (.str a1), (.int .i64 a2), (.int .i64 a3)] =
  (bif (decide (a3 = (0 : Int))) then (some (.list 1 [])) else (bif (decide (a1 = (str []))) then (callL 1 (kp E k n strings_explode [(.str a0), (.int .i64 a3)]) fun vl2 => (some (.list 1 vl2))) else (bif (decide (a3 < (0 : Int))) then (callI .i64 (kp E k n strings_Count [(.str a0), (.str a1)]) fun vn4 => (bif (((decide ((0 : Int) ≤ (if (IntKind.wrap .i64 ((((ByteArray.size a0) : Nat) : Int) + (1 : Int))) < (IntKind.wrap .i64 (vn4 + (1 : Int))) then (IntKind.wrap .i64 ((((ByteArray.size a0) : Nat) : Int) + (1 : Int))) else (IntKind.wrap .i64 (vn4 + (1 : Int)))))) && (decide ((if (IntKind.wrap .i64 ((((ByteArray.size a0) : Nat) : Int) + (1 : Int))) < (IntKind.wrap .i64 (vn4 + (1 : Int))) then (IntKind.wrap .i64 ((((ByteArray.size a0) : Nat) : Int) + (1 : Int))) else (IntKind.wrap .i64 (vn4 + (1 : Int)))) ≤ (if (IntKind.wrap .i64 ((((ByteArray.size a0) : Nat) : Int) + (1 : Int))) < (IntKind.wrap .i64 (vn4 + (1 : Int))) then (IntKind.wrap .i64 ((((ByteArray.size a0) : Nat) : Int) + (1 : Int))) else (IntKind.wrap .i64 (vn4 + (1 : Int)))))) && (decide ((if (IntKind.wrap .i64 ((((ByteArray.size a0) : Nat) : Int) + (1 : Int))) < (IntKind.wrap .i64 (vn4 + (1 : Int))) then (IntKind.wrap .i64 ((((ByteArray.size a0) : Nat) : Int) + (1 : Int))) else (IntKind.wrap .i64 (vn4 + (1 : Int)))) * 16 ≤ 140737488355328)) && (decide ((if (IntKind.wrap .i64 ((((ByteArray.size a0) : Nat) : Int) + (1 : Int))) < (IntKind.wrap .i64 (vn4 + (1 : Int))) then (IntKind.wrap .i64 ((((ByteArray.size a0) : Nat) : Int) + (1 : Int))) else (IntKind.wrap .i64 (vn4 + (1 : Int)))) ≤ (9223372036854775807 : Int)))) && true && true) then (strings_genSplit_L0 (kp E k n) k k a0 a1 a2 (IntKind.wrap .i64 ((if (IntKind.wrap .i64 ((((ByteArray.size a0) : Nat) : Int) + (1 : Int))) < (IntKind.wrap .i64 (vn4 + (1 : Int))) then (IntKind.wrap .i64 ((((ByteArray.size a0) : Nat) : Int) + (1 : Int))) else (IntKind.wrap .i64 (vn4 + (1 : Int)))) - (1 : Int))) (0 : Int) (List.replicate (Int.toNat (if (IntKind.wrap .i64 ((((ByteArray.size a0) : Nat) : Int) + (1 : Int))) < (IntKind.wrap .i64 (vn4 + (1 : Int))) then (IntKind.wrap .i64 ((((ByteArray.size a0) : Nat) : Int) + (1 : Int))) else (IntKind.wrap .i64 (vn4 + (1 : Int))))) (.str (str [])))) else none)) else (bif (((decide ((0 : Int) ≤ (if (IntKind.wrap .i64 ((((ByteArray.size a0) : Nat) : Int) + (1 : Int))) < a3 then (IntKind.wrap .i64 ((((ByteArray.size a0) : Nat) : Int) + (1 : Int))) else a3))) && (decide ((if (IntKind.wrap .i64 ((((ByteArray.size a0) : Nat) : Int) + (1 : Int))) < a3 then (IntKind.wrap .i64 ((((ByteArray.size a0) : Nat) : Int) + (1 : Int))) else a3) ≤ (if (IntKind.wrap .i64 ((((ByteArray.size a0) : Nat) : Int) + (1 : Int))) < a3 then (IntKind.wrap .i64 ((((ByteArray.size a0) : Nat) : Int) + (1 : Int))) else a3))) && (decide ((if (IntKind.wrap .i64 ((((ByteArray.size a0) : Nat) : Int) + (1 : Int))) < a3 then (IntKind.wrap .i64 ((((ByteArray.size a0) : Nat) : Int) + (1 : Int))) else a3) * 16 ≤ 140737488355328)) && (decide ((if (IntKind.wrap .i64 ((((ByteArray.size a0) : Nat) : Int) + (1 : Int))) < a3 then (IntKind.wrap .i64 ((((ByteArray.size a0) : Nat) : Int) + (1 : Int))) else a3) ≤ (9223372036854775807 : Int)))) && true && true) then (strings_genSplit_L0 (kp E k n) k k a0 a1 a2 (IntKind.wrap .i64 ((if (IntKind.wrap .i64 ((((ByteArray.size a0) : Nat) : Int) + (1 : Int))) < a3 then (IntKind.wrap .i64 ((((ByteArray.size a0) : Nat) : Int) + (1 : Int))) else a3) - (1 : Int))) (0 : Int) (List.replicate (Int.toNat (if (IntKind.wrap .i64 ((((ByteArray.size a0) : Nat) : Int) + (1 : Int))) < a3 then (IntKind.wrap .i64 ((((ByteArray.size a0) : Nat) : Int) + (1 : Int))) else a3)) (.str (str [])))) else none)))) := (kp_at (by kernel_rfl)).trans (by kernel_rfl)
/- oakum/text.Blank -/
/- oakum/text.Rest -/
/- oakum/text.open -/
theorem text_open_eq {E : Ext} [Core E] (k n : Nat) (a0 : Int) : kp E k (n + 1) text_open [(.int .u8 a0)] =
  (bif (decide (a0 > (32 : Int))) then (bif (decide (a0 < (127 : Int))) then (some (.bool (!(decide (a0 = (92 : Int)))))) else (some (.bool false))) else (some (.bool false))) := (kp_at (by kernel_rfl)).trans (by kernel_rfl)
/- oakum/text.digit -/
theorem text_digit_eq {E : Ext} [Core E] (k n : Nat) (a0 : Int) : kp E k (n + 1) text_digit [(.int .u8 a0)] =
  (bif (decide (a0 ≥ (48 : Int))) then (some (.bool (decide (a0 ≤ (55 : Int))))) else (some (.bool false))) := (kp_at (by kernel_rfl)).trans (by kernel_rfl)
/- strings.Index -/
theorem strings_Index_eq {E : Ext} [Core E] (k n : Nat) (a0 : ByteArray) (a1 : ByteArray) : kp E k (n + 1) strings_Index [(.str a0), (.str a1)] =
  (callI .i64 (kp E k n stringslite_Index [(.str a0), (.str a1)]) fun vn2 => (some (.int .i64 vn2))) := (kp_at (by kernel_rfl)).trans (by kernel_rfl)
end Go.Proofs.YtogfcfgfkggmlaaGreatDoor.Eng.U


/- What functions answer, as the engine evaluates their code. Printed by gen2.py. -/
set_option linter.unusedVariables false
namespace Go.Proofs.YtogfcfgfkggmlaaGreatDoor.Eng.U
open Go Go.Proofs Go.Proofs.YtogfcfgfkggmlaaGreatDoor.Eng
/- oakum/oakumlaw08.OverAgain -/
/- oakum/oakumlaw08.OverLays -/
/- oakum/oakumlaw08.alive -/
/- oakum/oakumlaw08.few -/
/- oakum/oakumref07.Same -/
/- oakum/oakumref07.Right -/
/- oakum/oakumref08.Lay -/
/- oakum/oakumref08.Right -/
/- oakum/oakumref09.Right -/
/- oakum/oakumref08.SameHead -/
/- oakum/oakumref09.Wrong -/
/- oakum/oakumref02.Blocks -/
/- oakum/oakumref09.Same -/
/- oakum/oakumref05.First -/
/- oakum/oakumref02.Clean -/
/- oakum/oakumref07.Which -/
/- oakum/oakumref08.Last -/
/- oakum/oakumref09.fields -/
/- oakum/oakumref02.Quote -/
/- oakum/oakumref02.Rest -/
/- oakum/oakumref01.Same -/
/- oakum/oakumref05.Ends -/
/- oakum/oakumref02.Get -/
/- oakum/oakumref07.Keys -/
/- oakum/oakumref02.Unquote -/
noncomputable def ref02_Unquote_bd : Code := Tryz.f173.body.getD .skip
noncomputable def ref02_Unquote_L0 (kap : FuncId → List AV → Option AV) (k : Nat) (k0 : Nat) (s0 : ByteArray) (s5 : Int) (x4 : List AV) : Option AV :=
  loop (fun fr K => code ((bs E0 k).cfg kap ref02_Unquote) (sel ref02_Unquote_bd [1, 1, 1, 0, 0, 0]) fr K) (canon ((bs E0 k).cfg kap ref02_Unquote) (firstReg (sel ref02_Unquote_bd [1, 1, 1, 0, 0, 0]))) k0 (mkFr 66 [(0, (.str s0)), (4, (.own 4)), (5, (.int .i64 s5))] [(4, (.row 5 x4 false))]) (plug ((bs E0 k).cfg kap ref02_Unquote) (retK ((bs E0 k).cfg kap ref02_Unquote) [] Tryz.f173 [] some) [.blk 0, .seqR (sel ref02_Unquote_bd [1, 1, 1, 1])])
/- oakum/oakumref09.name -/
/- oakum/oakumref09.Slash -/
/- oakum/oakumref02.open -/
/- oakum/oakumref02.code -/
/- oakum/oakumref02.Blank -/
/- oakum/oakumref05.size -/
end Go.Proofs.YtogfcfgfkggmlaaGreatDoor.Eng.U


/- What functions answer, as the engine evaluates their code. Printed by gen2.py. -/
set_option linter.unusedVariables false
namespace Go.Proofs.YtogfcfgfkggmlaaGreatDoor.Eng.U
open Go Go.Proofs Go.Proofs.YtogfcfgfkggmlaaGreatDoor.Eng
/- oakum/over.Lay -/
/- oakum/over.Right -/
noncomputable def over_Right_bd : Code := Tryz.f20.body.getD .skip
noncomputable def over_Right_L0 (kap : FuncId → List AV → Option AV) (k : Nat) (k0 : Nat) (s0 : List AV) (s5 : List AV) (s6 : Int) (s7 : Int) : Option AV :=
  loop (fun fr K => code ((bs E0 k).cfg kap over_Right) (sel over_Right_bd [1, 0, 1, 0, 0]) fr K) (canon ((bs E0 k).cfg kap over_Right) (firstReg (sel over_Right_bd [1, 0, 1, 0, 0]))) k0 (mkFr 36 [(0, (.list 2 s0)), (5, (.list 2 s5)), (6, (.int .i64 s6)), (7, (.int .i64 s7))] []) (plug ((bs E0 k).cfg kap over_Right) (retK ((bs E0 k).cfg kap over_Right) [] Tryz.f20 [] some) [.blk 0, .seqR (sel over_Right_bd [1, 1])])
theorem over_Right_L0_s (kap : FuncId → List AV → Option AV) (k : Nat) (k0 : Nat) (s0 : List AV) (s5 : List AV) (s6 : Int) (s7 : Int) : over_Right_L0 kap k (k0 + 1) s0 s5 s6 s7 =
  (bif (decide (s7 < s6)) then (bif ((decide ((0 : Int) ≤ s7)) && (decide (s7 < (((List.length s5) : Nat) : Int)))) then ((s5[(Int.toNat s7)]?).bind fun vy1 => (cellS (AV.cells vy1) 0 fun vs2 => (cellS (AV.cells vy1) 1 fun vs3 => (bif (decide (vs3 = (str []))) then (some (.bool false)) else (callB (kap pax_Right [(.agg [(.str vs2), (.str vs3)])]) fun vq5 => (bif (!vq5) then (some (.bool false)) else (bif (decide (s7 > (0 : Int))) then (bif ((decide ((0 : Int) ≤ (IntKind.wrap .i64 (s7 - (1 : Int))))) && (decide ((IntKind.wrap .i64 (s7 - (1 : Int))) < (((List.length s0) : Nat) : Int)))) then ((s0[(Int.toNat (IntKind.wrap .i64 (s7 - (1 : Int))))]?).bind fun vy6 => (cellS (AV.cells vy6) 0 fun vs7 => (bif (!(Op.bytesLess (ByteArray.toList vs7) (ByteArray.toList vs2))) then (some (.bool false)) else (over_Right_L0 kap k k0 s0 s5 s6 (IntKind.wrap .i64 (s7 + (1 : Int))))))) else none) else (over_Right_L0 kap k k0 s0 s5 s6 (IntKind.wrap .i64 (s7 + (1 : Int))))))))))) else none) else (some (.bool true))) := by kernel_rfl
theorem over_Right_eq {E : Ext} [Core E] (k n : Nat) (a0 : List AV) : kp E k (n + 1) over_Right [(.list 2 a0)] =
  (over_Right_L0 (kp E k n) k k a0 a0 (((List.length a0) : Nat) : Int) (0 : Int)) := (kp_at (by kernel_rfl)).trans (by kernel_rfl)
/- oakum/over.Bytes -/
/- oakum/over.Apply -/
/- oakum/over.lay -/
/- oakum/pax.Right -/
theorem pax_Right_eq {E : Ext} [Core E] (k n : Nat) (a0_0 : ByteArray) (a0_1 : ByteArray) : kp E k (n + 1) pax_Right [(.agg [(.str a0_0), (.str a0_1)])] =
  (bif (!(decide (a0_0 = (str [])))) then (callB (kp E k n utf_Right [(.str a0_0)]) fun vq2 => (bif vq2 then (callB (kp E k n strings_ContainsAny [(.str a0_0), (.str (str [61, 0]))]) fun vq4 => (bif (!vq4) then (callB (kp E k n pax_value [(.str a0_0), (.str a0_1)]) fun vq6 => (some (.bool vq6))) else (some (.bool false)))) else (some (.bool false)))) else (some (.bool false))) := (kp_at (by kernel_rfl)).trans (by kernel_rfl)
/- slices.IndexFunc[[]oakum/api.Pair,oakum/api.Pair] -/
noncomputable def slices_IndexFunc_api_Pair_bd : Code := Tryz.f69.body.getD .skip
noncomputable def slices_IndexFunc_api_Pair_L0 (kap : FuncId → List AV → Option AV) (k : Nat) (k0 : Nat) (s0 : List AV) (s7 : Int) (s8 : Int) : Option AV :=
  loop (fun fr K => code ((bs E0 k).cfg kap slices_IndexFunc_api_Pair) (sel slices_IndexFunc_api_Pair_bd [1, 0, 1, 0, 0]) fr K) (canon ((bs E0 k).cfg kap slices_IndexFunc_api_Pair) (firstReg (sel slices_IndexFunc_api_Pair_bd [1, 0, 1, 0, 0]))) k0 (mkFr 19 [(0, (.list 2 s0)), (1, (.func (.func item_extra_1) [] [])), (7, (.int .i64 s7)), (8, (.int .i64 s8))] []) (plug ((bs E0 k).cfg kap slices_IndexFunc_api_Pair) (retK ((bs E0 k).cfg kap slices_IndexFunc_api_Pair) [] Tryz.f69 [] some) [.blk 0, .seqR (sel slices_IndexFunc_api_Pair_bd [1, 1])])
theorem slices_IndexFunc_api_Pair_L0_s (kap : FuncId → List AV → Option AV) (k : Nat) (k0 : Nat) (s0 : List AV) (s7 : Int) (s8 : Int) : slices_IndexFunc_api_Pair_L0 kap k (k0 + 1) s0 s7 s8 =
  (bif (decide (s8 < s7)) then (bif ((decide ((0 : Int) ≤ s8)) && (decide (s8 < (((List.length s0) : Nat) : Int)))) then ((s0[(Int.toNat s8)]?).bind fun vy1 => (cellS (AV.cells vy1) 0 fun vs2 => (cellS (AV.cells vy1) 1 fun vs3 => (callB (kap item_extra_1 [(.agg [(.str vs2), (.str vs3)])]) fun vq5 => (bif vq5 then (some (.int .i64 s8)) else (slices_IndexFunc_api_Pair_L0 kap k k0 s0 s7 (IntKind.wrap .i64 (s8 + (1 : Int))))))))) else none) else (some (.int .i64 (-1 : Int)))) := by kernel_rfl
theorem slices_IndexFunc_api_Pair_eq {E : Ext} [Core E] (k n : Nat) (a0 : List AV) : kp E k (n + 1) slices_IndexFunc_api_Pair [(.list 2 a0), (.func (.func item_extra_1) [] [])] =
  (slices_IndexFunc_api_Pair_L0 (kp E k n) k k a0 (((List.length a0) : Nat) : Int) (0 : Int)) := (kp_at (by kernel_rfl)).trans (by kernel_rfl)
/- oakum/over.Get$1 -/
/- oakum/item.Right -/
/- slices.Contains[[]int,int] -/
/- oakum/item.Copy -/
/- slices.Index[[]string,string] -/
noncomputable def slices_Index_string_bd : Code := Tryz.f96.body.getD .skip
noncomputable def slices_Index_string_L0 (kap : FuncId → List AV → Option AV) (k : Nat) (k0 : Nat) (s0 : List AV) (s1 : ByteArray) (s7 : Int) (s8 : Int) : Option AV :=
  loop (fun fr K => code ((bs E0 k).cfg kap slices_Index_string) (sel slices_Index_string_bd [1, 0, 1, 0, 0]) fr K) (canon ((bs E0 k).cfg kap slices_Index_string) (firstReg (sel slices_Index_string_bd [1, 0, 1, 0, 0]))) k0 (mkFr 19 [(0, (.list 1 s0)), (1, (.str s1)), (7, (.int .i64 s7)), (8, (.int .i64 s8))] []) (plug ((bs E0 k).cfg kap slices_Index_string) (retK ((bs E0 k).cfg kap slices_Index_string) [] Tryz.f96 [] some) [.blk 0, .seqR (sel slices_Index_string_bd [1, 1])])
theorem slices_Index_string_L0_s (kap : FuncId → List AV → Option AV) (k : Nat) (k0 : Nat) (s0 : List AV) (s1 : ByteArray) (s7 : Int) (s8 : Int) : slices_Index_string_L0 kap k (k0 + 1) s0 s1 s7 s8 =
  (bif (decide (s8 < s7)) then (bif ((decide ((0 : Int) ≤ s8)) && (decide (s8 < (((List.length s0) : Nat) : Int)))) then ((s0[(Int.toNat s8)]?).bind fun vy1 => (cellS (AV.cells vy1) 0 fun vs2 => (bif (decide (s1 = vs2)) then (some (.int .i64 s8)) else (slices_Index_string_L0 kap k k0 s0 s1 s7 (IntKind.wrap .i64 (s8 + (1 : Int))))))) else none) else (some (.int .i64 (-1 : Int)))) := by kernel_rfl
theorem slices_Index_string_eq {E : Ext} [Core E] (k n : Nat) (a0 : List AV) (a1 : ByteArray) : kp E k (n + 1) slices_Index_string [(.list 1 a0), (.str a1)] =
  (slices_Index_string_L0 (kp E k n) k k a0 a1 (((List.length a0) : Nat) : Int) (0 : Int)) := (kp_at (by kernel_rfl)).trans (by kernel_rfl)
/- oakum/item.Wrong -/
theorem item_Wrong_eq {E : Ext} [Core E] (k n : Nat) (a0_0 : Int) (a0_1 : ByteArray) (a0_2 : ByteArray) (a0_3 : Int) (a0_4 : Int) (a0_5 : Int) (a0_6 : Int) (a0_7 : Int) (a0_8 : Int) (a0_9 : ByteArray) (a0_10 : ByteArray) (a0_11 : Int) (a0_12 : Int) (a0_13 : List AV) : kp E k (n + 1) item_Wrong [(.agg [(.int .i64 a0_0), (.str a0_1), (.str a0_2), (.int .i64 a0_3), (.int .i64 a0_4), (.int .i64 a0_5), (.int .i64 a0_6), (.int .i64 a0_7), (.int .i64 a0_8), (.str a0_9), (.str a0_10), (.int .i64 a0_11), (.int .i64 a0_12), (.list 2 a0_13)])] =
  (callI .u8 (kp E k n item_Flag [(.int .i64 a0_0)]) fun vn2 => (bif (decide (vn2 = (0 : Int))) then (some (.int .i64 (1 : Int))) else (callB (kp E k n item_named [(.str a0_1)]) fun vq4 => (bif (!vq4) then (some (.int .i64 (2 : Int))) else (bif (decide (a0_0 = (1 : Int))) then (callB (kp E k n strings_HasSuffix [(.str a0_1), (.str (str [47]))]) fun vq6 => (bif vq6 then (some (.int .i64 (2 : Int))) else (callB (kp E k n item_link [(.agg [(.int .i64 a0_0), (.str a0_1), (.str a0_2), (.int .i64 a0_3), (.int .i64 a0_4), (.int .i64 a0_5), (.int .i64 a0_6), (.int .i64 a0_7), (.int .i64 a0_8), (.str a0_9), (.str a0_10), (.int .i64 a0_11), (.int .i64 a0_12), (.list 2 a0_13)])]) fun vq8 => (bif (!vq8) then (some (.int .i64 (3 : Int))) else (bif (decide (a0_3 < (0 : Int))) then (some (.int .i64 (4 : Int))) else (bif (decide (a0_4 < (0 : Int))) then (some (.int .i64 (5 : Int))) else (bif (decide (a0_5 < (0 : Int))) then (some (.int .i64 (6 : Int))) else (bif (decide (a0_6 < (0 : Int))) then (some (.int .i64 (7 : Int))) else (bif (decide (a0_6 > (0 : Int))) then (bif (!(decide (a0_0 = (1 : Int)))) then (some (.int .i64 (7 : Int))) else (callB (kp E k n dec_Right [(.agg [(.int .i64 a0_7), (.int .i64 a0_8)])]) fun vq10 => (bif (!vq10) then (some (.int .i64 (8 : Int))) else (callB (kp E k n item_plain [(.str a0_9)]) fun vq12 => (bif (!vq12) then (some (.int .i64 (9 : Int))) else (callB (kp E k n item_plain [(.str a0_10)]) fun vq14 => (bif (!vq14) then (some (.int .i64 (10 : Int))) else (callB (kp E k n item_device [(.agg [(.int .i64 a0_0), (.str a0_1), (.str a0_2), (.int .i64 a0_3), (.int .i64 a0_4), (.int .i64 a0_5), (.int .i64 a0_6), (.int .i64 a0_7), (.int .i64 a0_8), (.str a0_9), (.str a0_10), (.int .i64 a0_11), (.int .i64 a0_12), (.list 2 a0_13)]), (.int .i64 a0_11)]) fun vq16 => (bif (!vq16) then (some (.int .i64 (11 : Int))) else (callB (kp E k n item_device [(.agg [(.int .i64 a0_0), (.str a0_1), (.str a0_2), (.int .i64 a0_3), (.int .i64 a0_4), (.int .i64 a0_5), (.int .i64 a0_6), (.int .i64 a0_7), (.int .i64 a0_8), (.str a0_9), (.str a0_10), (.int .i64 a0_11), (.int .i64 a0_12), (.list 2 a0_13)]), (.int .i64 a0_12)]) fun vq18 => (bif (!vq18) then (some (.int .i64 (12 : Int))) else (callB (kp E k n item_extra [(.list 2 a0_13)]) fun vq20 => (bif (!vq20) then (some (.int .i64 (13 : Int))) else (some (.int .i64 (0 : Int)))))))))))))))) else (callB (kp E k n dec_Right [(.agg [(.int .i64 a0_7), (.int .i64 a0_8)])]) fun vq22 => (bif (!vq22) then (some (.int .i64 (8 : Int))) else (callB (kp E k n item_plain [(.str a0_9)]) fun vq24 => (bif (!vq24) then (some (.int .i64 (9 : Int))) else (callB (kp E k n item_plain [(.str a0_10)]) fun vq26 => (bif (!vq26) then (some (.int .i64 (10 : Int))) else (callB (kp E k n item_device [(.agg [(.int .i64 a0_0), (.str a0_1), (.str a0_2), (.int .i64 a0_3), (.int .i64 a0_4), (.int .i64 a0_5), (.int .i64 a0_6), (.int .i64 a0_7), (.int .i64 a0_8), (.str a0_9), (.str a0_10), (.int .i64 a0_11), (.int .i64 a0_12), (.list 2 a0_13)]), (.int .i64 a0_11)]) fun vq28 => (bif (!vq28) then (some (.int .i64 (11 : Int))) else (callB (kp E k n item_device [(.agg [(.int .i64 a0_0), (.str a0_1), (.str a0_2), (.int .i64 a0_3), (.int .i64 a0_4), (.int .i64 a0_5), (.int .i64 a0_6), (.int .i64 a0_7), (.int .i64 a0_8), (.str a0_9), (.str a0_10), (.int .i64 a0_11), (.int .i64 a0_12), (.list 2 a0_13)]), (.int .i64 a0_12)]) fun vq30 => (bif (!vq30) then (some (.int .i64 (12 : Int))) else (callB (kp E k n item_extra [(.list 2 a0_13)]) fun vq32 => (bif (!vq32) then (some (.int .i64 (13 : Int))) else (some (.int .i64 (0 : Int)))))))))))))))))))))))) else (callB (kp E k n item_link [(.agg [(.int .i64 a0_0), (.str a0_1), (.str a0_2), (.int .i64 a0_3), (.int .i64 a0_4), (.int .i64 a0_5), (.int .i64 a0_6), (.int .i64 a0_7), (.int .i64 a0_8), (.str a0_9), (.str a0_10), (.int .i64 a0_11), (.int .i64 a0_12), (.list 2 a0_13)])]) fun vq34 => (bif (!vq34) then (some (.int .i64 (3 : Int))) else (bif (decide (a0_3 < (0 : Int))) then (some (.int .i64 (4 : Int))) else (bif (decide (a0_4 < (0 : Int))) then (some (.int .i64 (5 : Int))) else (bif (decide (a0_5 < (0 : Int))) then (some (.int .i64 (6 : Int))) else (bif (decide (a0_6 < (0 : Int))) then (some (.int .i64 (7 : Int))) else (bif (decide (a0_6 > (0 : Int))) then (bif (!(decide (a0_0 = (1 : Int)))) then (some (.int .i64 (7 : Int))) else (callB (kp E k n dec_Right [(.agg [(.int .i64 a0_7), (.int .i64 a0_8)])]) fun vq36 => (bif (!vq36) then (some (.int .i64 (8 : Int))) else (callB (kp E k n item_plain [(.str a0_9)]) fun vq38 => (bif (!vq38) then (some (.int .i64 (9 : Int))) else (callB (kp E k n item_plain [(.str a0_10)]) fun vq40 => (bif (!vq40) then (some (.int .i64 (10 : Int))) else (callB (kp E k n item_device [(.agg [(.int .i64 a0_0), (.str a0_1), (.str a0_2), (.int .i64 a0_3), (.int .i64 a0_4), (.int .i64 a0_5), (.int .i64 a0_6), (.int .i64 a0_7), (.int .i64 a0_8), (.str a0_9), (.str a0_10), (.int .i64 a0_11), (.int .i64 a0_12), (.list 2 a0_13)]), (.int .i64 a0_11)]) fun vq42 => (bif (!vq42) then (some (.int .i64 (11 : Int))) else (callB (kp E k n item_device [(.agg [(.int .i64 a0_0), (.str a0_1), (.str a0_2), (.int .i64 a0_3), (.int .i64 a0_4), (.int .i64 a0_5), (.int .i64 a0_6), (.int .i64 a0_7), (.int .i64 a0_8), (.str a0_9), (.str a0_10), (.int .i64 a0_11), (.int .i64 a0_12), (.list 2 a0_13)]), (.int .i64 a0_12)]) fun vq44 => (bif (!vq44) then (some (.int .i64 (12 : Int))) else (callB (kp E k n item_extra [(.list 2 a0_13)]) fun vq46 => (bif (!vq46) then (some (.int .i64 (13 : Int))) else (some (.int .i64 (0 : Int)))))))))))))))) else (callB (kp E k n dec_Right [(.agg [(.int .i64 a0_7), (.int .i64 a0_8)])]) fun vq48 => (bif (!vq48) then (some (.int .i64 (8 : Int))) else (callB (kp E k n item_plain [(.str a0_9)]) fun vq50 => (bif (!vq50) then (some (.int .i64 (9 : Int))) else (callB (kp E k n item_plain [(.str a0_10)]) fun vq52 => (bif (!vq52) then (some (.int .i64 (10 : Int))) else (callB (kp E k n item_device [(.agg [(.int .i64 a0_0), (.str a0_1), (.str a0_2), (.int .i64 a0_3), (.int .i64 a0_4), (.int .i64 a0_5), (.int .i64 a0_6), (.int .i64 a0_7), (.int .i64 a0_8), (.str a0_9), (.str a0_10), (.int .i64 a0_11), (.int .i64 a0_12), (.list 2 a0_13)]), (.int .i64 a0_11)]) fun vq54 => (bif (!vq54) then (some (.int .i64 (11 : Int))) else (callB (kp E k n item_device [(.agg [(.int .i64 a0_0), (.str a0_1), (.str a0_2), (.int .i64 a0_3), (.int .i64 a0_4), (.int .i64 a0_5), (.int .i64 a0_6), (.int .i64 a0_7), (.int .i64 a0_8), (.str a0_9), (.str a0_10), (.int .i64 a0_11), (.int .i64 a0_12), (.list 2 a0_13)]), (.int .i64 a0_12)]) fun vq56 => (bif (!vq56) then (some (.int .i64 (12 : Int))) else (callB (kp E k n item_extra [(.list 2 a0_13)]) fun vq58 => (bif (!vq58) then (some (.int .i64 (13 : Int))) else (some (.int .i64 (0 : Int))))))))))))))))))))))))))) := (kp_at (by kernel_rfl)).trans (by kernel_rfl)
/- oakum/pax.Known -/
theorem pax_Known_eq {E : Ext} [Core E] (k n : Nat) (a0 : ByteArray) : kp E k (n + 1) pax_Known [(.str a0)] =
  (bif (decide (a0 = (str [112, 97, 116, 104]))) then (bif (decide (a0 = (str [112, 97, 116, 104]))) then (some (.bool true)) else (some (.bool false))) else (bif (decide (a0 = (str [108, 105, 110, 107, 112, 97, 116, 104]))) then (bif (decide (a0 = (str [108, 105, 110, 107, 112, 97, 116, 104]))) then (some (.bool true)) else (some (.bool false))) else (bif (decide (a0 = (str [117, 110, 97, 109, 101]))) then (bif (decide (a0 = (str [117, 110, 97, 109, 101]))) then (some (.bool true)) else (some (.bool false))) else (bif (decide (a0 = (str [103, 110, 97, 109, 101]))) then (bif (decide (a0 = (str [103, 110, 97, 109, 101]))) then (some (.bool true)) else (some (.bool false))) else (bif (decide (a0 = (str [117, 105, 100]))) then (bif (decide (a0 = (str [117, 105, 100]))) then (some (.bool true)) else (some (.bool false))) else (bif (decide (a0 = (str [103, 105, 100]))) then (bif (decide (a0 = (str [103, 105, 100]))) then (some (.bool true)) else (some (.bool false))) else (bif (decide (a0 = (str [115, 105, 122, 101]))) then (bif (decide (a0 = (str [115, 105, 122, 101]))) then (some (.bool true)) else (some (.bool false))) else (bif (decide (a0 = (str [109, 116, 105, 109, 101]))) then (some (.bool true)) else (some (.bool false)))))))))) := (kp_at (by kernel_rfl)).trans (by kernel_rfl)
/- oakum/over.say -/
/- oakum/over.byKey -/
/- oakum/utf.Right -/
theorem utf_Right_eq {E : Ext} [Core E] (k n : Nat) (a0 : ByteArray) : kp E k (n + 1) utf_Right [(.str a0)] =
  (callI .i64 (kp E k n utf_First [(.str a0)]) fun vn2 => (some (.bool (decide (vn2 < (0 : Int)))))) := (kp_at (by kernel_rfl)).trans (by kernel_rfl)
/- oakum/pax.value -/
theorem pax_value_eq {E : Ext} [Core E] (k n : Nat) (a0 : ByteArray) (a1 : ByteArray) : kp E k (n + 1) pax_value [(.str a0), (.str a1)] =
  (callB (kp E k n utf_Right [(.str a1)]) fun vq2 => (bif (!vq2) then (some (.bool false)) else (bif (decide (a1 = (str []))) then (some (.bool true)) else (bif (decide (a0 = (str [112, 97, 116, 104]))) then (bif (decide (a0 = (str [112, 97, 116, 104]))) then (callB (kp E k n pax_clean [(.str a1)]) fun vq4 => (some (.bool vq4))) else (bif (decide (a0 = (str [117, 105, 100]))) then (bif (decide (a0 = (str [117, 105, 100]))) then (callT (kp E k n dec_Number [(.str a1)]) fun vt6 => (tupI .i64 vt6 fun vn7 vt8 => (tupI .u8 vt8 fun vn9 vt10 => (atNil vt10 (some (.bool (decide (vn9 = (0 : Int))))))))) else (bif (decide (a0 = (str [109, 116, 105, 109, 101]))) then (callT (kp E k n dec_Time [(.str a1)]) fun vt12 => (tupG 2 vt12 fun vg13 vt14 => (cellI .i64 vg13 0 fun vn15 => (cellI .i64 vg13 1 fun vn16 => (tupI .u8 vt14 fun vn17 vt18 => (atNil vt18 (some (.bool (decide (vn17 = (0 : Int))))))))))) else (some (.bool true)))) else (bif (decide (a0 = (str [103, 105, 100]))) then (bif (decide (a0 = (str [103, 105, 100]))) then (callT (kp E k n dec_Number [(.str a1)]) fun vt20 => (tupI .i64 vt20 fun vn21 vt22 => (tupI .u8 vt22 fun vn23 vt24 => (atNil vt24 (some (.bool (decide (vn23 = (0 : Int))))))))) else (bif (decide (a0 = (str [109, 116, 105, 109, 101]))) then (callT (kp E k n dec_Time [(.str a1)]) fun vt26 => (tupG 2 vt26 fun vg27 vt28 => (cellI .i64 vg27 0 fun vn29 => (cellI .i64 vg27 1 fun vn30 => (tupI .u8 vt28 fun vn31 vt32 => (atNil vt32 (some (.bool (decide (vn31 = (0 : Int))))))))))) else (some (.bool true)))) else (bif (decide (a0 = (str [115, 105, 122, 101]))) then (callT (kp E k n dec_Number [(.str a1)]) fun vt34 => (tupI .i64 vt34 fun vn35 vt36 => (tupI .u8 vt36 fun vn37 vt38 => (atNil vt38 (some (.bool (decide (vn37 = (0 : Int))))))))) else (bif (decide (a0 = (str [109, 116, 105, 109, 101]))) then (callT (kp E k n dec_Time [(.str a1)]) fun vt40 => (tupG 2 vt40 fun vg41 vt42 => (cellI .i64 vg41 0 fun vn43 => (cellI .i64 vg41 1 fun vn44 => (tupI .u8 vt42 fun vn45 vt46 => (atNil vt46 (some (.bool (decide (vn45 = (0 : Int))))))))))) else (some (.bool true))))))) else (bif (decide (a0 = (str [108, 105, 110, 107, 112, 97, 116, 104]))) then (bif (decide (a0 = (str [108, 105, 110, 107, 112, 97, 116, 104]))) then (callB (kp E k n pax_clean [(.str a1)]) fun vq48 => (some (.bool vq48))) else (bif (decide (a0 = (str [117, 105, 100]))) then (bif (decide (a0 = (str [117, 105, 100]))) then (callT (kp E k n dec_Number [(.str a1)]) fun vt50 => (tupI .i64 vt50 fun vn51 vt52 => (tupI .u8 vt52 fun vn53 vt54 => (atNil vt54 (some (.bool (decide (vn53 = (0 : Int))))))))) else (bif (decide (a0 = (str [109, 116, 105, 109, 101]))) then (callT (kp E k n dec_Time [(.str a1)]) fun vt56 => (tupG 2 vt56 fun vg57 vt58 => (cellI .i64 vg57 0 fun vn59 => (cellI .i64 vg57 1 fun vn60 => (tupI .u8 vt58 fun vn61 vt62 => (atNil vt62 (some (.bool (decide (vn61 = (0 : Int))))))))))) else (some (.bool true)))) else (bif (decide (a0 = (str [103, 105, 100]))) then (bif (decide (a0 = (str [103, 105, 100]))) then (callT (kp E k n dec_Number [(.str a1)]) fun vt64 => (tupI .i64 vt64 fun vn65 vt66 => (tupI .u8 vt66 fun vn67 vt68 => (atNil vt68 (some (.bool (decide (vn67 = (0 : Int))))))))) else (bif (decide (a0 = (str [109, 116, 105, 109, 101]))) then (callT (kp E k n dec_Time [(.str a1)]) fun vt70 => (tupG 2 vt70 fun vg71 vt72 => (cellI .i64 vg71 0 fun vn73 => (cellI .i64 vg71 1 fun vn74 => (tupI .u8 vt72 fun vn75 vt76 => (atNil vt76 (some (.bool (decide (vn75 = (0 : Int))))))))))) else (some (.bool true)))) else (bif (decide (a0 = (str [115, 105, 122, 101]))) then (callT (kp E k n dec_Number [(.str a1)]) fun vt78 => (tupI .i64 vt78 fun vn79 vt80 => (tupI .u8 vt80 fun vn81 vt82 => (atNil vt82 (some (.bool (decide (vn81 = (0 : Int))))))))) else (bif (decide (a0 = (str [109, 116, 105, 109, 101]))) then (callT (kp E k n dec_Time [(.str a1)]) fun vt84 => (tupG 2 vt84 fun vg85 vt86 => (cellI .i64 vg85 0 fun vn87 => (cellI .i64 vg85 1 fun vn88 => (tupI .u8 vt86 fun vn89 vt90 => (atNil vt90 (some (.bool (decide (vn89 = (0 : Int))))))))))) else (some (.bool true))))))) else (bif (decide (a0 = (str [117, 110, 97, 109, 101]))) then (bif (decide (a0 = (str [117, 110, 97, 109, 101]))) then (callB (kp E k n pax_clean [(.str a1)]) fun vq92 => (some (.bool vq92))) else (bif (decide (a0 = (str [117, 105, 100]))) then (bif (decide (a0 = (str [117, 105, 100]))) then (callT (kp E k n dec_Number [(.str a1)]) fun vt94 => (tupI .i64 vt94 fun vn95 vt96 => (tupI .u8 vt96 fun vn97 vt98 => (atNil vt98 (some (.bool (decide (vn97 = (0 : Int))))))))) else (bif (decide (a0 = (str [109, 116, 105, 109, 101]))) then (callT (kp E k n dec_Time [(.str a1)]) fun vt100 => (tupG 2 vt100 fun vg101 vt102 => (cellI .i64 vg101 0 fun vn103 => (cellI .i64 vg101 1 fun vn104 => (tupI .u8 vt102 fun vn105 vt106 => (atNil vt106 (some (.bool (decide (vn105 = (0 : Int))))))))))) else (some (.bool true)))) else (bif (decide (a0 = (str [103, 105, 100]))) then (bif (decide (a0 = (str [103, 105, 100]))) then (callT (kp E k n dec_Number [(.str a1)]) fun vt108 => (tupI .i64 vt108 fun vn109 vt110 => (tupI .u8 vt110 fun vn111 vt112 => (atNil vt112 (some (.bool (decide (vn111 = (0 : Int))))))))) else (bif (decide (a0 = (str [109, 116, 105, 109, 101]))) then (callT (kp E k n dec_Time [(.str a1)]) fun vt114 => (tupG 2 vt114 fun vg115 vt116 => (cellI .i64 vg115 0 fun vn117 => (cellI .i64 vg115 1 fun vn118 => (tupI .u8 vt116 fun vn119 vt120 => (atNil vt120 (some (.bool (decide (vn119 = (0 : Int))))))))))) else (some (.bool true)))) else (bif (decide (a0 = (str [115, 105, 122, 101]))) then (callT (kp E k n dec_Number [(.str a1)]) fun vt122 => (tupI .i64 vt122 fun vn123 vt124 => (tupI .u8 vt124 fun vn125 vt126 => (atNil vt126 (some (.bool (decide (vn125 = (0 : Int))))))))) else (bif (decide (a0 = (str [109, 116, 105, 109, 101]))) then (callT (kp E k n dec_Time [(.str a1)]) fun vt128 => (tupG 2 vt128 fun vg129 vt130 => (cellI .i64 vg129 0 fun vn131 => (cellI .i64 vg129 1 fun vn132 => (tupI .u8 vt130 fun vn133 vt134 => (atNil vt134 (some (.bool (decide (vn133 = (0 : Int))))))))))) else (some (.bool true))))))) else (bif (decide (a0 = (str [103, 110, 97, 109, 101]))) then (callB (kp E k n pax_clean [(.str a1)]) fun vq136 => (some (.bool vq136))) else (bif (decide (a0 = (str [117, 105, 100]))) then (bif (decide (a0 = (str [117, 105, 100]))) then (callT (kp E k n dec_Number [(.str a1)]) fun vt138 => (tupI .i64 vt138 fun vn139 vt140 => (tupI .u8 vt140 fun vn141 vt142 => (atNil vt142 (some (.bool (decide (vn141 = (0 : Int))))))))) else (bif (decide (a0 = (str [109, 116, 105, 109, 101]))) then (callT (kp E k n dec_Time [(.str a1)]) fun vt144 => (tupG 2 vt144 fun vg145 vt146 => (cellI .i64 vg145 0 fun vn147 => (cellI .i64 vg145 1 fun vn148 => (tupI .u8 vt146 fun vn149 vt150 => (atNil vt150 (some (.bool (decide (vn149 = (0 : Int))))))))))) else (some (.bool true)))) else (bif (decide (a0 = (str [103, 105, 100]))) then (bif (decide (a0 = (str [103, 105, 100]))) then (callT (kp E k n dec_Number [(.str a1)]) fun vt152 => (tupI .i64 vt152 fun vn153 vt154 => (tupI .u8 vt154 fun vn155 vt156 => (atNil vt156 (some (.bool (decide (vn155 = (0 : Int))))))))) else (bif (decide (a0 = (str [109, 116, 105, 109, 101]))) then (callT (kp E k n dec_Time [(.str a1)]) fun vt158 => (tupG 2 vt158 fun vg159 vt160 => (cellI .i64 vg159 0 fun vn161 => (cellI .i64 vg159 1 fun vn162 => (tupI .u8 vt160 fun vn163 vt164 => (atNil vt164 (some (.bool (decide (vn163 = (0 : Int))))))))))) else (some (.bool true)))) else (bif (decide (a0 = (str [115, 105, 122, 101]))) then (callT (kp E k n dec_Number [(.str a1)]) fun vt166 => (tupI .i64 vt166 fun vn167 vt168 => (tupI .u8 vt168 fun vn169 vt170 => (atNil vt170 (some (.bool (decide (vn169 = (0 : Int))))))))) else (bif (decide (a0 = (str [109, 116, 105, 109, 101]))) then (callT (kp E k n dec_Time [(.str a1)]) fun vt172 => (tupG 2 vt172 fun vg173 vt174 => (cellI .i64 vg173 0 fun vn175 => (cellI .i64 vg173 1 fun vn176 => (tupI .u8 vt174 fun vn177 vt178 => (atNil vt178 (some (.bool (decide (vn177 = (0 : Int))))))))))) else (some (.bool true))))))))))))) := (kp_at (by kernel_rfl)).trans (by kernel_rfl)
/- slices.Index[[]int,int] -/
/- oakum/item.Flag -/
theorem item_Flag_eq {E : Ext} [Core E] (k n : Nat) (a0 : Int) : kp E k (n + 1) item_Flag [(.int .i64 a0)] =
  (bif (decide (a0 < (1 : Int))) then (some (.int .u8 (0 : Int))) else (bif (decide (a0 > (7 : Int))) then (some (.int .u8 (0 : Int))) else (some (.int .u8 (IntKind.wrap .u8 ((48 : Int) + (IntKind.wrap .u8 (IntKind.wrap .i64 (a0 - (1 : Int)))))))))) := (kp_at (by kernel_rfl)).trans (by kernel_rfl)
/- oakum/item.named -/
theorem item_named_eq {E : Ext} [Core E] (k n : Nat) (a0 : ByteArray) : kp E k (n + 1) item_named [(.str a0)] =
  (bif (!(decide (a0 = (str [])))) then (bif (decide ((((ByteArray.size a0) : Nat) : Int) ≤ (65536 : Int))) then (callB (kp E k n text_Clean [(.str a0)]) fun vq2 => (some (.bool vq2))) else (some (.bool false))) else (some (.bool false))) := (kp_at (by kernel_rfl)).trans (by kernel_rfl)
/- strings.HasSuffix -/
theorem strings_HasSuffix_eq {E : Ext} [Core E] (k n : Nat) (a0 : ByteArray) (a1 : ByteArray) : kp E k (n + 1) strings_HasSuffix [(.str a0), (.str a1)] =
  (callB (kp E k n stringslite_HasSuffix [(.str a0), (.str a1)]) fun vq2 => (some (.bool vq2))) := (kp_at (by kernel_rfl)).trans (by kernel_rfl)
/- oakum/item.link -/
theorem item_link_eq {E : Ext} [Core E] (k n : Nat) (a0_0 : Int) (a0_1 : ByteArray) (a0_2 : ByteArray) (a0_3 : Int) (a0_4 : Int) (a0_5 : Int) (a0_6 : Int) (a0_7 : Int) (a0_8 : Int) (a0_9 : ByteArray) (a0_10 : ByteArray) (a0_11 : Int) (a0_12 : Int) (a0_13 : List AV) : kp E k (n + 1) item_link [(.agg [(.int .i64 a0_0), (.str a0_1), (.str a0_2), (.int .i64 a0_3), (.int .i64 a0_4), (.int .i64 a0_5), (.int .i64 a0_6), (.int .i64 a0_7), (.int .i64 a0_8), (.str a0_9), (.str a0_10), (.int .i64 a0_11), (.int .i64 a0_12), (.list 2 a0_13)])] =
  (bif (decide (a0_0 = (2 : Int))) then (callB (kp E k n item_named [(.str a0_2)]) fun vq2 => (some (.bool vq2))) else (bif (decide (a0_0 = (3 : Int))) then (callB (kp E k n item_named [(.str a0_2)]) fun vq4 => (some (.bool vq4))) else (some (.bool (decide (a0_2 = (str []))))))) := (kp_at (by kernel_rfl)).trans (by kernel_rfl)
/- oakum/item.plain -/
theorem item_plain_eq {E : Ext} [Core E] (k n : Nat) (a0 : ByteArray) : kp E k (n + 1) item_plain [(.str a0)] =
  (bif (decide ((((ByteArray.size a0) : Nat) : Int) ≤ (65536 : Int))) then (callB (kp E k n text_Clean [(.str a0)]) fun vq2 => (some (.bool vq2))) else (some (.bool false))) := (kp_at (by kernel_rfl)).trans (by kernel_rfl)
/- oakum/item.device -/
theorem item_device_eq {E : Ext} [Core E] (k n : Nat) (a0_0 : Int) (a0_1 : ByteArray) (a0_2 : ByteArray) (a0_3 : Int) (a0_4 : Int) (a0_5 : Int) (a0_6 : Int) (a0_7 : Int) (a0_8 : Int) (a0_9 : ByteArray) (a0_10 : ByteArray) (a0_11 : Int) (a0_12 : Int) (a0_13 : List AV) (a1 : Int) : kp E k (n + 1) item_device [(.agg [(.int .i64 a0_0), (.str a0_1), (.str a0_2), (.int .i64 a0_3), (.int .i64 a0_4), (.int .i64 a0_5), (.int .i64 a0_6), (.int .i64 a0_7), (.int .i64 a0_8), (.str a0_9), (.str a0_10), (.int .i64 a0_11), (.int .i64 a0_12), (.list 2 a0_13)]), (.int .i64 a1)] =
  (bif (decide (a1 = (0 : Int))) then (some (.bool true)) else (bif (decide (a1 > (0 : Int))) then (bif (decide (a0_0 = (4 : Int))) then (some (.bool true)) else (some (.bool (decide (a0_0 = (5 : Int)))))) else (some (.bool false)))) := (kp_at (by kernel_rfl)).trans (by kernel_rfl)
/- oakum/item.extra -/
theorem item_extra_eq {E : Ext} [Core E] (k n : Nat) (a0 : List AV) : kp E k (n + 1) item_extra [(.list 2 a0)] =
  (callB (kp E k n over_Right [(.list 2 a0)]) fun vq2 => (bif vq2 then (callB (kp E k n slices_ContainsFunc_api_Pair [(.list 2 a0), (.func (.func item_extra_1) [] [])]) fun vq4 => (some (.bool (!vq4)))) else (some (.bool false)))) := (kp_at (by kernel_rfl)).trans (by kernel_rfl)
/- slices.ContainsFunc[[]oakum/api.Pair,oakum/api.Pair] -/
theorem slices_ContainsFunc_api_Pair_eq {E : Ext} [Core E] (k n : Nat) (a0 : List AV) : kp E k (n + 1) slices_ContainsFunc_api_Pair [(.list 2 a0), (.func (.func item_extra_1) [] [])] =
  (callI .i64 (kp E k n slices_IndexFunc_api_Pair [(.list 2 a0), (.func (.func item_extra_1) [] [])]) fun vn2 => (some (.bool (decide (vn2 ≥ (0 : Int)))))) := (kp_at (by kernel_rfl)).trans (by kernel_rfl)
/- slices.BinarySearchFunc[[]oakum/api.Pair,oakum/api.Pair,string] -/
/- oakum/over.byKey$1 -/
/- slices.rotateRight[oakum/api.Pair] -/
/- oakum/utf.First -/
noncomputable def utf_First_bd : Code := Tryz.f209.body.getD .skip
noncomputable def utf_First_L0 (kap : FuncId → List AV → Option AV) (k : Nat) (k0 : Nat) (s0 : ByteArray) (i6s : ByteArray) (i6p : Nat) : Option AV :=
  loop (fun fr K => code ((bs E0 k).cfg kap utf_First) (sel utf_First_bd [1, 0, 1, 0, 0]) fr K) (canon ((bs E0 k).cfg kap utf_First) (firstReg (sel utf_First_bd [1, 0, 1, 0, 0]))) k0 (mkFr 16 [(0, (.str s0)), (6, (.itr 6))] [(6, (.it i6s i6p))]) (plug ((bs E0 k).cfg kap utf_First) (retK ((bs E0 k).cfg kap utf_First) [] Tryz.f209 [] some) [.blk 0, .seqR (sel utf_First_bd [1, 1])])
theorem utf_First_L0_s (kap : FuncId → List AV → Option AV) (k : Nat) (k0 : Nat) (s0 : ByteArray) (i6s : ByteArray) (i6p : Nat) : utf_First_L0 kap k (k0 + 1) s0 i6s i6p =
  (bif (decide (i6p < (ByteArray.size i6s))) then (callB (kap utf_wrong [(.str s0), (.int .i64 ((i6p : Nat) : Int)), (.int .i32 (((Utf8.decode i6s i6p).1 : Nat) : Int))]) fun vq2 => (bif vq2 then (some (.int .i64 ((i6p : Nat) : Int))) else (utf_First_L0 kap k k0 s0 i6s (i6p + (Utf8.decode i6s i6p).2)))) else (some (.int .i64 (-1 : Int)))) := by kernel_rfl
theorem utf_First_eq {E : Ext} [Core E] (k n : Nat) (a0 : ByteArray) : kp E k (n + 1) utf_First [(.str a0)] =
  (utf_First_L0 (kp E k n) k k a0 a0 0) := (kp_at (by kernel_rfl)).trans (by kernel_rfl)
/- oakum/pax.clean -/
theorem pax_clean_eq {E : Ext} [Core E] (k n : Nat) (a0 : ByteArray) : kp E k (n + 1) pax_clean [(.str a0)] =
  (callI .i64 (kp E k n strings_IndexByte [(.str a0), (.int .u8 (0 : Int))]) fun vn2 => (some (.bool (decide (vn2 < (0 : Int)))))) := (kp_at (by kernel_rfl)).trans (by kernel_rfl)
/- slices.Contains[[]string,string] -/
/- oakum/text.Clean -/
theorem text_Clean_eq {E : Ext} [Core E] (k n : Nat) (a0 : ByteArray) : kp E k (n + 1) text_Clean [(.str a0)] =
  (callI .i64 (kp E k n strings_IndexByte [(.str a0), (.int .u8 (0 : Int))]) fun vn2 => (some (.bool (decide (vn2 < (0 : Int)))))) := (kp_at (by kernel_rfl)).trans (by kernel_rfl)
/- internal/stringslite.HasSuffix -/
theorem stringslite_HasSuffix_eq {E : Ext} [Core E] (k n : Nat) (a0 : ByteArray) (a1 : ByteArray) : kp E k (n + 1) stringslite_HasSuffix [(.str a0), (.str a1)] =
  (bif (decide ((((ByteArray.size a0) : Nat) : Int) ≥ (((ByteArray.size a1) : Nat) : Int))) then (bif ((decide ((0 : Int) ≤ (IntKind.wrap .i64 ((((ByteArray.size a0) : Nat) : Int) - (((ByteArray.size a1) : Nat) : Int))))) && (decide ((IntKind.wrap .i64 ((((ByteArray.size a0) : Nat) : Int) - (((ByteArray.size a1) : Nat) : Int))) ≤ (((ByteArray.size a0) : Nat) : Int)))) then (some (.bool (decide ((ByteArray.extract a0 (Int.toNat (IntKind.wrap .i64 ((((ByteArray.size a0) : Nat) : Int) - (((ByteArray.size a1) : Nat) : Int)))) (ByteArray.size a0)) = a1)))) else none) else (some (.bool false))) := (kp_at (by kernel_rfl)).trans (by kernel_rfl)
/- oakum/item.extra$1 -/
theorem item_extra_1_eq {E : Ext} [Core E] (k n : Nat) (a0_0 : ByteArray) (a0_1 : ByteArray) : kp E k (n + 1) item_extra_1 [(.agg [(.str a0_0), (.str a0_1)])] =
  (callB (kp E k n pax_Known [(.str a0_0)]) fun vq2 => (some (.bool vq2))) := (kp_at (by kernel_rfl)).trans (by kernel_rfl)
/- slices.rotateLeft[oakum/api.Pair] -/
/- oakum/utf.wrong -/
theorem utf_wrong_eq {E : Ext} [Core E] (k n : Nat) (a0 : ByteArray) (a1 : Int) (a2 : Int) : kp E k (n + 1) utf_wrong [(.str a0), (.int .i64 a1), (.int .i32 a2)] =
  (bif (!(decide (a2 = (65533 : Int)))) then (some (.bool false)) else (bif ((decide ((0 : Int) ≤ a1)) && (decide (a1 ≤ (((ByteArray.size a0) : Nat) : Int)))) then (callT (kp E k n unicode_utf8_DecodeRuneInString [(.str (ByteArray.extract a0 (Int.toNat a1) (ByteArray.size a0)))]) fun vt2 => (tupI .i32 vt2 fun vn3 vt4 => (tupI .i64 vt4 fun vn5 vt6 => (atNil vt6 (some (.bool (decide (vn5 = (1 : Int))))))))) else none)) := (kp_at (by kernel_rfl)).trans (by kernel_rfl)
/- slices.Equal[[]string,string] -/
end Go.Proofs.YtogfcfgfkggmlaaGreatDoor.Eng.U


/- Texts quoted and unquoted, in plain words. No program. -/
set_option linter.unusedVariables false
set_option linter.unusedSimpArgs false
namespace Go.Proofs.YtogfcfgfkggmlaaGreatDoor.Eng.U
open Go Go.Proofs Go.Proofs.YtogfcfgfkggmlaaGreatDoor.Eng

/-- May a byte stand as it is? -/
def openB (c : UInt8) : Bool := decide (32 < c.toNat) && decide (c.toNat < 127) && decide (c ≠ 92)
def qByte (c : UInt8) : List UInt8 := if openB c = true then [c] else [92, UInt8.ofNat (48 + c.toNat / 64), UInt8.ofNat (48 + c.toNat / 8 % 8), UInt8.ofNat (48 + c.toNat % 8)]
def quoteL (l : List UInt8) : List UInt8 := l.flatMap qByte
theorem quote_cons (c : UInt8) (l : List UInt8) : quoteL (c :: l) = qByte c ++ quoteL l := rfl
theorem quote_snoc (l : List UInt8) (i : Nat) (h : i < l.length) : quoteL (l.take (i + 1)) = quoteL (l.take i) ++ qByte l[i] := by
  unfold quoteL
  rw [List.take_add_one, List.getElem?_eq_getElem h, List.flatMap_append]
  show _ ++ List.flatMap qByte [l[i]] = _
  rw [List.flatMap_singleton]
theorem quote_len : ∀ l : List UInt8, (quoteL l).length ≤ 4 * l.length
  | [] => by simp [quoteL]
  | c :: l => by
    have ih := quote_len l
    have h : (qByte c).length ≤ 4 := by unfold qByte; split <;> simp
    rw [quote_cons, List.length_append, List.length_cons]
    omega
theorem ofNat_oct (d : Nat) (h : d < 8) : (UInt8.ofNat (48 + d)).toNat = 48 + d := by rw [UInt8.toNat_ofNat']; omega
def octB (c : UInt8) : Bool := decide (48 ≤ c.toNat) && decide (c.toNat ≤ 55)
def octV (a b d : UInt8) : Nat := (a.toNat - 48) * 64 + (b.toNat - 48) * 8 + (d.toNat - 48)
/-- The byte that three digits stand for, if it wants to be told so. -/
def octQ (a b d : UInt8) : Option UInt8 := if (decide (a.toNat ≤ 51) && octB a && octB b && octB d && !openB (UInt8.ofNat (octV a b d))) = true then some (UInt8.ofNat (octV a b d)) else none
def unq1 : List UInt8 → Option UInt8
  | c :: a :: b :: d :: _ => if c = 92 then octQ a b d else none
  | _ => none
def unqL : Nat → List UInt8 → Option (List UInt8)
  | _, [] => some []
  | 0, _ :: _ => none
  | f + 1, c :: r => if openB c = true then (unqL f r).map (c :: ·) else match unq1 (c :: r) with
    | none => none
    | some x => (unqL f (r.drop 3)).map (x :: ·)
theorem octQ_code {c : UInt8} (h : openB c = false) : octQ (UInt8.ofNat (48 + c.toNat / 64)) (UInt8.ofNat (48 + c.toNat / 8 % 8)) (UInt8.ofNat (48 + c.toNat % 8)) = some c := by
  have hc : c.toNat < 256 := c.toNat_lt
  have e1 := ofNat_oct (c.toNat / 64) (by omega)
  have e2 := ofNat_oct (c.toNat / 8 % 8) (by omega)
  have e3 := ofNat_oct (c.toNat % 8) (by omega)
  have hv : octV (UInt8.ofNat (48 + c.toNat / 64)) (UInt8.ofNat (48 + c.toNat / 8 % 8)) (UInt8.ofNat (48 + c.toNat % 8)) = c.toNat := by unfold octV; rw [e1, e2, e3]; omega
  unfold octQ
  rw [hv, UInt8.ofNat_toNat, if_pos]
  simp only [Bool.and_eq_true, decide_eq_true_eq, Bool.not_eq_true', octB, e1, e2, e3]
  refine ⟨?_, h⟩
  omega
theorem qByte_shut {c : UInt8} (h : openB c = false) : qByte c = [92, UInt8.ofNat (48 + c.toNat / 64), UInt8.ofNat (48 + c.toNat / 8 % 8), UInt8.ofNat (48 + c.toNat % 8)] := by unfold qByte; rw [if_neg (by rw [h]; simp)]
theorem qByte_open {c : UInt8} (h : openB c = true) : qByte c = [c] := by unfold qByte; rw [if_pos h]
theorem unq_quote : ∀ (s : List UInt8) (f : Nat), s.length ≤ f → unqL f (quoteL s) = some s
  | [], f, _ => by cases f <;> rfl
  | c :: s, f, hf => by
    obtain ⟨f, rfl⟩ : ∃ m, f = m + 1 := ⟨f - 1, by rw [List.length_cons] at hf; omega⟩
    have ih := unq_quote s f (by rw [List.length_cons] at hf; omega)
    rw [quote_cons]
    cases h : openB c with
    | true =>
      rw [qByte_open h, List.singleton_append]
      unfold unqL
      rw [if_pos h, ih]; rfl
    | false =>
      rw [qByte_shut h]
      have e : ∀ (a b d : UInt8) (r : List UInt8), [92, a, b, d] ++ r = 92 :: a :: b :: d :: r := fun a b d r => rfl
      rw [e]
      unfold unqL
      rw [if_neg (by decide)]
      have e2 : ∀ (a b d : UInt8) (r : List UInt8), unq1 (92 :: a :: b :: d :: r) = octQ a b d := fun a b d r => by simp [unq1]
      rw [e2, octQ_code h]
      dsimp only
      rw [show ∀ (a b d : UInt8) (r : List UInt8), (a :: b :: d :: r).drop 3 = r from fun a b d r => rfl, ih]; rfl
end Go.Proofs.YtogfcfgfkggmlaaGreatDoor.Eng.U


/- The program's own data: pairs, times, heads, items: as structures, as abstract values, as a row hands them in. Printed by apigen.py. -/
set_option linter.unusedVariables false
namespace Go.Proofs.YtogfcfgfkggmlaaGreatDoor.Eng.U
open Go Go.Proofs Go.Proofs.YtogfcfgfkggmlaaGreatDoor.Eng
abbrev Tx := List UInt8
structure Pair where
  key : Tx
  val : Tx
  deriving DecidableEq, Inhabited
structure Time where
  sec : Int
  nano : Int
  deriving DecidableEq, Inhabited
structure Head where
  kind : Int
  name : Tx
  link : Tx
  mode : Int
  uid : Int
  gid : Int
  size : Int
  sec : Int
  nano : Int
  user : Tx
  group : Tx
  major : Int
  minor : Int
  extra : List Pair
  deriving DecidableEq, Inhabited
structure Item where
  head : Head
  data : Tx
  deriving DecidableEq, Inhabited
def bys (l : Tx) : List AV := l.map byteAV
def encPair (p : Pair) : List AV := [.str (str p.key), .str (str p.val)]
def elPair (p : Pair) : AV := .agg (encPair p)
def prs (l : List Pair) : List AV := l.map elPair
def encHead (h : Head) : List AV := [.int .i64 h.kind, .str (str h.name), .str (str h.link), .int .i64 h.mode, .int .i64 h.uid, .int .i64 h.gid, .int .i64 h.size, .int .i64 h.sec, .int .i64 h.nano, .str (str h.user), .str (str h.group), .int .i64 h.major, .int .i64 h.minor, .list 2 (prs h.extra)]
def encItem (x : Item) : List AV := [.int .i64 x.head.kind, .str (str x.head.name), .str (str x.head.link), .int .i64 x.head.mode, .int .i64 x.head.uid, .int .i64 x.head.gid, .int .i64 x.head.size, .int .i64 x.head.sec, .int .i64 x.head.nano, .str (str x.head.user), .str (str x.head.group), .int .i64 x.head.major, .int .i64 x.head.minor, .list 2 (prs x.head.extra), .list 1 (bys x.data)]
def elItem (x : Item) : AV := .agg (encItem x)
def its (l : List Item) : List AV := l.map elItem
theorem prs_len (l : List Pair) : (prs l).length = l.length := by simp [prs]
theorem cells_pair (p : Pair) : AV.cells (elPair p) = encPair p := (rfl)
section
variable {β : Type}
theorem prs_at (l : List Pair) (i : Nat) (h : i < l.length) (F : AV → Option β) : ((prs l)[i]?).bind F = F (elPair l[i]) := by unfold prs; rw [List.getElem?_map, List.getElem?_eq_getElem h]; rfl
theorem prs_mid (a b : List Pair) (x : Pair) (F : AV → Option β) : ((prs (a ++ x :: b))[a.length]?).bind F = F (elPair x) := by rw [prs_at _ _ (by simp)]; simp
theorem h_2 (x : Head) (K : ByteArray → Option β) : cellS (encHead x) 2 K = K (str x.link) := by first | exact (rfl) | (show cellS (encHead x) 2 K = _; simp [encHead, cellI, cellL, cellAt, atInt, atList])
theorem p_0 (x : Pair) (K : ByteArray → Option β) : cellS (encPair x) 0 K = K (str x.key) := by first | exact (rfl) | (show cellS (encPair x) 0 K = _; simp [encPair, cellI, cellL, cellAt, atInt, atList])
theorem p_1 (x : Pair) (K : ByteArray → Option β) : cellS (encPair x) 1 K = K (str x.val) := by first | exact (rfl) | (show cellS (encPair x) 1 K = _; simp [encPair, cellI, cellL, cellAt, atInt, atList])
end
end Go.Proofs.YtogfcfgfkggmlaaGreatDoor.Eng.U


/- strings.Builder's WriteByte, and text.Quote, walked. After the library's own contracts (BuilderK). -/
set_option linter.unusedVariables false
set_option linter.unusedSimpArgs false
namespace Go.Proofs.YtogfcfgfkggmlaaGreatDoor.S02
open Go Go.RowKit Go.Proofs Go.Shelf Go.Proofs.YtogfcfgfkggmlaaGreatDoor.Eng Go.Proofs.YtogfcfgfkggmlaaGreatDoor.Eng.U

theorem size63 : (Tryz.prog.info? 215).map (·.size) = some 2 := by kernel_rfl
theorem lies63 : liesAt Tryz.prog Tryz.prog.depth 215 (2 / Tryz.prog.cellsOf 215) 0 215 1 = true := by kernel_rfl

set_option maxHeartbeats 1000000 in
set_option maxRecDepth 100000 in
theorem copyCheck_used (b : Nat) (w : World) (h0 : w.cell? ⟨b, 0, none⟩ = some (.pointer (some ⟨b, 0, none⟩))) :
    Calls Tryz.prog 248 #[.pointer (some ⟨b, 0, none⟩)] w fun e w' => e = .returned (.tuple #[]) ∧ w' = w := by
  obtain ⟨j, hj, _⟩ := Option.map_eq_some_iff.1 size63
  go_enter Tryz.func248, Tryz.ntmps248
  go_wp2
  rw [Lib.run_neq_ptr_same w _ Tryz.underlying213 hj]
  go_wp2
  go_end0
  exact ⟨rfl, rfl⟩
set_option maxHeartbeats 1000000 in
set_option maxRecDepth 100000 in
theorem copyCheck_fresh (b : Nat) (w : World) (h0 : w.cell? ⟨b, 0, none⟩ = some (.pointer none)) (hsh : w.shape? b = some (215, 2)) (hfz : w.frozen? ⟨b, 0, none⟩ = false) :
    Calls Tryz.prog 248 #[.pointer (some ⟨b, 0, none⟩)] w fun e w' => e = .returned (.tuple #[]) ∧ w' = w.setCell ⟨b, 0, none⟩ (.pointer (some ⟨b, 0, none⟩)) := by
  obtain ⟨j, hj, hjs⟩ := Option.map_eq_some_iff.1 size63
  go_enter Tryz.func248, Tryz.ntmps248
  go_wp2
  rw [Lib.run_to_unsafe w ⟨b, 0, none⟩ Tryz.underlying213 Tryz.underlying284 hj (by rw [hjs]; decide) hsh (Nat.zero_lt_succ 1)]
  simp only [Result.andThen]
  rw [Oper.upon_value]
  go_wp2
  rw [run_callFunc_extern Tryz.func282 (by kernel_rfl) (by kernel_rfl) (by kernel_rfl) (e := Extern.AbiNoEscape.same) (by kernel_rfl)]
  rw [Lib.run_noEscape]
  simp only [Result.andThen]
  rw [Oper.upon_value]
  go_wp2
  rw [Lib.run_from_unsafe w ⟨b, 0, none⟩ Tryz.underlying284 Tryz.underlying213 hj hsh lies63]
  simp only [Result.andThen]
  rw [Oper.upon_value]
  go_wp2
  go_end0
  exact ⟨rfl, rfl⟩
theorem copyCheck_k (B b : Nat) (bs : List Value) (w : World) (h : Lib.IsBuilderF 215 5 B b bs w) :
    Calls Tryz.prog 248 #[.pointer (some ⟨b, 0, none⟩)] w fun e w' => e = .returned (.tuple #[]) ∧ (Lib.BuilderAtF 215 5 B b (.pointer (some ⟨b, 0, none⟩)) bs w' ∧ Below B w w' ∧ Lib.OthersKept 5 (some b) w w') := by
  rcases h with h | h
  · refine (copyCheck_fresh b w h.cell0 h.shape h.frozen0).mono ?_
    rintro e w' ⟨rfl, rfl⟩
    exact ⟨rfl, h.used _, (Below.refl B w).setCell (p := ⟨b, 0, none⟩) h.1 _, (Lib.OthersKept.refl _ _ w).setCell ⟨b, 0, none⟩ rfl _⟩
  · refine (copyCheck_used b w h.cell0).mono ?_
    rintro e w' ⟨rfl, rfl⟩
    exact ⟨rfl, h, Below.refl B _, Lib.OthersKept.refl _ _ _⟩


theorem infoB : (Tryz.prog.info? 5).map (fun i => (i.zero, i.size, i.bytes)) = some (some (.int .u8 0), 1, 1) := by kernel_rfl
set_option maxHeartbeats 2000000 in
set_option maxRecDepth 100000 in
theorem WriteByte_k (B b : Nat) (bs : List Value) (c : Int) (w : World) (h : Lib.IsBuilderF 215 5 B b bs w) (hlen : bs.length + 1 ≤ 140737488355328) (hBw : B ≤ w.heap.size) :
    Calls Tryz.prog 215 #[.pointer (some ⟨b, 0, none⟩), .int .u8 c] w fun e w' => e = .returned .nilIface ∧ (Lib.BuilderAtF 215 5 B b (.pointer (some ⟨b, 0, none⟩)) (bs ++ [.int .u8 c]) w' ∧ Below B w w' ∧ Lib.OthersKept 5 (some b) w w') := by
  obtain ⟨i0, hi, hz0, hz1, hz2⟩ := info_parts infoB
  go_enter Tryz.func215, Tryz.ntmps215
  go_wp2_with (go_at_call 248; refine (copyCheck_k B b bs _ h).mono ?_)
  rintro e w1 ⟨rfl, h1, hb1, hk1⟩
  obtain ⟨hB, v, hbk, hown, hne⟩ := h1
  have c0 : w1.cell? ⟨b, 0, none⟩ = some (.pointer (some ⟨b, 0, none⟩)) := by rw [Lib.cell_of_heap hbk]; rfl
  have c1 : w1.cell? ⟨b, 1, none⟩ = some v := by rw [Lib.cell_of_heap hbk]; rfl
  go_wp2_with (at_builtin; refine wpList_append_ownF _ rfl _ _ 40 rfl B 5 i0 (.int .u8 0) 1 1 Tryz.underlying40 hi hz0 hz1 hz2 rfl (by decide) _ _ _ rfl (hown.alloc _) ⟨w1.heap.size, 0, none⟩ 1 1 [.int .u8 c] rfl rfl ?c1 ?c2 ?c3 ?c4 ?c5 ?_)
  case c1 =>
    intro j u hj
    match j, hj with
    | 0, hj => simp at hj; subst hj; simp [Addr.add]
  case c2 => intro u hu; simp at hu; subst hu; rfl
  case c3 => unfold maxLen; omega
  case c4 => omega
  case c5 => have := hb1.size; simp; omega
  intro v' w2 hown' hgrow _
  have hlt : b < w1.heap.size := by
    rcases Nat.lt_or_ge b w1.heap.size with h' | h'
    · exact h'
    · simp [Array.getElem?_eq_none h'] at hbk
  have hb2 : w2.heap[b]? = some (.cells #[.pointer (some ⟨b, 0, none⟩), v] 215 (0, 0)) := by
    rw [hgrow.block b (by simp; omega) (fun e => hne e.symm), Lib.alloc_old w1 _ b hlt]
    exact hbk
  have d0 : w2.cell? ⟨b, 0, none⟩ = some (.pointer (some ⟨b, 0, none⟩)) := by rw [Lib.cell_of_heap hb2]; rfl
  have d1 : w2.cell? ⟨b, 1, none⟩ = some v := by rw [Lib.cell_of_heap hb2]; rfl
  have f1 : w2.frozen? ⟨b, 1, none⟩ = false := Lib.frozen_of_heap hb2 1
  obtain ⟨g, cap, rfl⟩ : ∃ g cap, v' = .slice (some ⟨g, 0, none⟩) (bs.length + 1) cap := by
    rcases hown'.2 with ⟨_, h0⟩ | ⟨g, cap, cur, fz, hv, _⟩
    · omega
    · exact ⟨g, cap, hv⟩
  go_wp2
  go_ret
  refine ⟨rfl, ?_, ?_, ((hk1.alloc _).grown hgrow (Lib.ownsRowF_kind (hown.alloc _))).setCell ⟨b, 1, none⟩ rfl _⟩
  · exact Lib.BuilderAtF.put (T := 215) (e := 5) hB hb2 (bs' := bs ++ [.int .u8 c]) (by simpa using hown') (by decide)
  · exact ((hb1.alloc (by have := hb1.size; omega) _).grown hgrow (by have := hb1.size; simp; omega) (fun k hk => (hown.lt k hk).1)).setCell (p := ⟨b, 1, none⟩) hB _
set_option maxHeartbeats 2000000 in
set_option maxRecDepth 100000 in
theorem open_calls (c : UInt8) (w : World) : Calls Tryz.prog 214 #[.int .u8 (c.toNat : Int)] w fun e w' => e = .returned (.bool (openB c)) ∧ w' = w := by
  go_enter Tryz.func214, Tryz.ntmps214
  go_wp2
  all_goals (go_ret; refine ⟨?_, rfl⟩; refine congrArg Ending.returned ?_)
  · show Value.bool (((c.toNat : Nat) : Int) != 92) = Value.bool (openB c)
    unfold openB
    rw [decide_eq_true (by omega), decide_eq_true (by omega), Bool.true_and, Bool.true_and]
    have e : (((c.toNat : Nat) : Int) != 92) = decide (c ≠ 92) := by
      rw [Bool.eq_iff_iff, bne_iff_ne, decide_eq_true_eq]
      constructor
      · rintro h rfl; exact h rfl
      · intro h h2; exact h (UInt8.toNat_inj.1 (by show c.toNat = 92; omega))
    rw [e]
  · show Value.bool false = Value.bool (openB c)
    unfold openB
    rw [decide_eq_false (show ¬ c.toNat < 127 by omega)]; simp
  · show Value.bool false = Value.bool (openB c)
    unfold openB
    rw [decide_eq_false (show ¬ 32 < c.toNat by omega)]; simp
theorem bits_hi : ∀ r : _root_.Fin 256, bits BinOp.and IntKind.u8 ((r.1 : Int) / 8) 7 = ((r.1 / 8 % 8 : Nat) : Int) := by decide +kernel
theorem bits_lo : ∀ r : _root_.Fin 256, bits BinOp.and IntKind.u8 ((r.1 : Nat) : Int) 7 = ((r.1 % 8 : Nat) : Int) := by decide +kernel
set_option maxHeartbeats 4000000 in
set_option maxRecDepth 1000000 in
theorem Quote_walk (l : List UInt8) (w : World) (hs : l.length ≤ 1000000000) :
    Calls Tryz.prog 144 #[.string (str l)] w fun e w' => e = .returned (.string (str (quoteL l))) ∧ Below w.heap.size w w' := by
  go_enter Tryz.func144, Tryz.ntmps144
  go_wp2
  go_loopw [8] (fun s8 wr => ∃ i : Nat, s8 = .int .i64 (i : Int) ∧ i ≤ l.length ∧ Lib.IsBuilderF 215 5 w.heap.size w.heap.size (Lib.byteCells (quoteL (l.take i))) wr ∧ Below w.heap.size w wr) (fun s8 wr => l.length - (intOf s8).toNat)
  case atStart =>
    exact ⟨0, rfl, by omega, Lib.IsBuilderF.of (Lib.fresh_isBuilder 215 5 w), (Below.refl _ w).alloc (Nat.le_refl _) _⟩
  case round =>
    obtain ⟨i, rfl, hi, hI, hbw⟩ := hrel
    by_cases hlt : i < l.length
    · have hlt2 : i < (str l).size := hlt
      go_wp2_with (go_at_call 214; refine (open_calls _ _).mono ?_)
      rintro e w1 ⟨rfl, rfl⟩
      have hq := World.size_alloc
      have hbs : w.heap.size ≤ w1.heap.size := hbw.size
      have hll : (quoteL (l.take i)).length ≤ 4 * i := by have := quote_len (l.take i); rw [List.length_take] at this; omega
      have hbi : (str l)[i] = l[i]'hlt := rfl
      cases ho : openB (str l)[i] with
      | true =>
        go_wp2_with (go_at_call 215; refine (WriteByte_k w.heap.size w.heap.size _ _ _ hI (by rw [Lib.byteCells_length]; omega) hbs).mono ?_)
        rintro e w2 ⟨rfl, h1, b1, k1⟩
        go_wp2
        go_roundw
        case rel =>
          refine ⟨i + 1, by simp, by omega, ?_, hbw.trans b1⟩
          rw [quote_snoc l i hlt, Lib.byteCells_append]
          have e : qByte (l[i]'hlt) = [l[i]'hlt] := by unfold qByte; rw [if_pos (by rw [← hbi]; exact ho)]
          rw [e]
          exact Or.inr h1
        case measure =>
          show l.length - (intOf (.int .i64 ((i : Int) + 1))).toNat < l.length - (intOf (.int .i64 (i : Int))).toNat
          show l.length - ((i : Int) + 1).toNat < l.length - (i : Int).toNat
          omega
      | false =>
        go_wp2_with (go_at_call 215; refine (WriteByte_k w.heap.size w.heap.size _ _ _ hI (by rw [Lib.byteCells_length]; omega) hbs).mono ?_)
        rintro e w2 ⟨rfl, h2, b2, k2⟩
        have hs2 := b2.size
        go_wp2_with (go_at_call 215; refine (WriteByte_k w.heap.size w.heap.size _ _ _ (Or.inr h2) (by simp only [List.length_append, Lib.byteCells_length, List.length_singleton]; omega) (by omega)).mono ?_)
        rintro e w3 ⟨rfl, h3, b3, k3⟩
        have hs3 := b3.size
        go_wp2_with (go_at_call 215; refine (WriteByte_k w.heap.size w.heap.size _ _ _ (Or.inr h3) (by simp only [List.length_append, Lib.byteCells_length, List.length_singleton]; omega) (by omega)).mono ?_)
        rintro e w4 ⟨rfl, h4, b4, k4⟩
        have hs4 := b4.size
        go_wp2_with (go_at_call 215; refine (WriteByte_k w.heap.size w.heap.size _ _ _ (Or.inr h4) (by simp only [List.length_append, Lib.byteCells_length, List.length_singleton]; omega) (by omega)).mono ?_)
        rintro e w5 ⟨rfl, h5, b5, k5⟩
        go_wp2
        go_roundw
        case rel =>
          refine ⟨i + 1, by simp, by omega, ?_, (((hbw.trans b2).trans b3).trans b4).trans b5⟩
          rw [quote_snoc l i hlt, Lib.byteCells_append]
          have e : qByte (l[i]'hlt) = [92, UInt8.ofNat (48 + (l[i]'hlt).toNat / 64), UInt8.ofNat (48 + (l[i]'hlt).toNat / 8 % 8), UInt8.ofNat (48 + (l[i]'hlt).toNat % 8)] := by unfold qByte; rw [if_neg (by rw [← hbi, ho]; simp)]
          have h256 : (l[i]'hlt).toNat < 256 := (l[i]'hlt).toNat_lt
          have q2 : bits BinOp.and IntKind.u8 (((l[i]'hlt).toNat : Int) / 8) 7 = (((l[i]'hlt).toNat / 8 % 8 : Nat) : Int) := bits_hi ⟨(l[i]'hlt).toNat, h256⟩
          have q3 : bits BinOp.and IntKind.u8 ((l[i]'hlt).toNat : Int) 7 = (((l[i]'hlt).toNat % 8 : Nat) : Int) := bits_lo ⟨(l[i]'hlt).toNat, h256⟩
          have e1 : ((48 : Int) + ((l[i]'hlt).toNat : Int) / 64) % 256 = (((UInt8.ofNat (48 + (l[i]'hlt).toNat / 64)).toNat : Nat) : Int) := by
            rw [ofNat_oct _ (by omega)]; omega
          have e2 : ((48 : Int) + bits BinOp.and IntKind.u8 (((l[i]'hlt).toNat : Int) / 8) 7) % 256 = (((UInt8.ofNat (48 + (l[i]'hlt).toNat / 8 % 8)).toNat : Nat) : Int) := by
            rw [ofNat_oct _ (by omega), q2]; omega
          have e3 : ((48 : Int) + bits BinOp.and IntKind.u8 ((l[i]'hlt).toNat : Int) 7) % 256 = (((UInt8.ofNat (48 + (l[i]'hlt).toNat % 8)).toNat : Nat) : Int) := by
            rw [ofNat_oct _ (by omega), q3]; omega
          rw [e1, e2, e3] at h5
          rw [e]
          refine Or.inr ?_
          have e4 : ∀ (X : List Value), X ++ Lib.byteCells [92, UInt8.ofNat (48 + (l[i]'hlt).toNat / 64), UInt8.ofNat (48 + (l[i]'hlt).toNat / 8 % 8), UInt8.ofNat (48 + (l[i]'hlt).toNat % 8)] = X ++ [.int .u8 92] ++ [.int .u8 (((UInt8.ofNat (48 + (l[i]'hlt).toNat / 64)).toNat : Nat) : Int)] ++ [.int .u8 (((UInt8.ofNat (48 + (l[i]'hlt).toNat / 8 % 8)).toNat : Nat) : Int)] ++ [.int .u8 (((UInt8.ofNat (48 + (l[i]'hlt).toNat % 8)).toNat : Nat) : Int)] := fun X => by
            simp [Lib.byteCells]
          rw [e4]
          exact h5
        case measure =>
          show l.length - (intOf (.int .i64 ((i : Int) + 1))).toNat < l.length - (intOf (.int .i64 (i : Int))).toNat
          show l.length - ((i : Int) + 1).toNat < l.length - (i : Int).toNat
          omega
    · obtain rfl : i = l.length := by omega
      rw [List.take_length] at hI
      have hlt2 : ¬ ((l.length : Int) < ((str l).size : Int)) := by rw [str_size]; omega
      go_wp2_with (go_at_call 186; refine (Tryz.Builder_String_any_k w.heap.size w.heap.size _ _ hI hbw.size).mono ?_)
      rintro e w1 rfl h1 b1 k1
      go_wp2
      go_ret
      exact ⟨rfl, hbw.trans b1⟩
end Go.Proofs.YtogfcfgfkggmlaaGreatDoor.S02


/- Given functions in pieces: each with what it answers, and that it does. -/
set_option linter.unusedVariables false
set_option linter.unusedSectionVars false
set_option linter.unusedSimpArgs false
namespace Go.Proofs.YtogfcfgfkggmlaaGreatDoor.Eng.U
open Go Go.Proofs Go.Proofs.YtogfcfgfkggmlaaGreatDoor.Eng Go.RowKit

structure Piece where
  f : FuncId
  ans : List AV → Option AV
def extOf (ps : List Piece) : Ext := { fs := coreFs, isBase := fun f => ps.any fun p => p.f == f, base := fun f args => (ps.find? fun p => p.f == f).bind fun p => p.ans args }
def Piece.Right (p : Piece) : Prop := Enters Tryz.prog p.f ∧ ∀ args res, p.ans args = some res → Ok Tryz.prog glob p.f args res
theorem core_of {ps : List Piece} (h : coreFs.all (fun f => !ps.any fun p => p.f == f) = true) : Core (extOf ps) where
  isB f hf := by
    have := List.all_eq_true.1 h f (List.contains_iff_mem.1 hf)
    simpa [extOf] using this
  has f hf := hf
theorem good_of {ps : List Piece} (h : ∀ p ∈ ps, p.Right) (hn : coreFs.all (namedOk Tryz.prog) = true) (k : Nat) : (bs (extOf ps) k).Good where
  mixed := by kernel_rfl
  names := hn
  base f args res hb hr := by
    change ((ps.find? fun p => p.f == f).bind fun p => p.ans args) = some res at hr
    obtain ⟨p, hp, ha⟩ := Option.bind_eq_some_iff.1 hr
    have hm := List.mem_of_find?_eq_some hp
    have hf : (p.f == f) = true := List.find?_some (p := fun q : Piece => q.f == f) hp
    have hf : p.f = f := by simpa using hf
    obtain ⟨h1, h2⟩ := h p hm
    rw [hf] at h1 h2
    exact ⟨h1, h2 args res ha⟩
theorem names_ok : coreFs.all (namedOk Tryz.prog) = true := by kernel_rfl
theorem kp_piece {ps : List Piece} {p : Piece} {k n : Nat} {args : List AV} (hp : ps.find? (fun q => q.f == p.f) = some p) : kp (extOf ps) k n p.f args = p.ans args := by
  rw [kp_base (by
    show (ps.any fun q => q.f == p.f) = true
    have := List.find?_some (p := fun q : Piece => q.f == p.f) hp
    exact List.any_eq_true.2 ⟨p, List.mem_of_find?_eq_some hp, this⟩)]
  show ((ps.find? fun q => q.f == p.f).bind fun q => q.ans args) = _
  rw [hp]
  rfl
theorem VL_1 {S : Stab} {x : AV} {vals : List Value} (h : VL S [x] vals) : ∃ v, vals = [v] ∧ V S x v := by
  obtain ⟨h1, h2⟩ := h
  match vals, h1 with
  | [v], _ => exact ⟨v, rfl, h2 0 _ _ rfl rfl⟩
theorem VL_2 {S : Stab} {x y : AV} {vals : List Value} (h : VL S [x, y] vals) : ∃ v u, vals = [v, u] ∧ V S x v ∧ V S y u := by
  obtain ⟨h1, h2⟩ := h
  match vals, h1 with
  | [v, u], _ => exact ⟨v, u, rfl, h2 0 _ _ rfl rfl, h2 1 _ _ rfl rfl⟩
theorem VL_3 {S : Stab} {x y z : AV} {vals : List Value} (h : VL S [x, y, z] vals) : ∃ v u t, vals = [v, u, t] ∧ V S x v ∧ V S y u ∧ V S z t := by
  obtain ⟨h1, h2⟩ := h
  match vals, h1 with
  | [v, u, t], _ => exact ⟨v, u, t, rfl, h2 0 _ _ rfl rfl, h2 1 _ _ rfl rfl, h2 2 _ _ rfl rfl⟩
theorem V_str {S : Stab} {s : ByteArray} {v : Value} (h : V S (.str s) v) : v = .string s := by cases h; rfl
theorem V_int {S : Stab} {k : IntKind} {n : Int} {v : Value} (h : V S (.int k n) v) : v = .int k n := by cases h; rfl
theorem agree_below {S : Stab} {w w' : World} (h : Agree S w) (hb : Below w.heap.size w w') : Agree S w' := fun x v hx =>
  (World.cell?_of_block (hb.block _ (World.block_lt_of_cell? w x (h x v hx)))).trans (h x v hx)
/-- A result that is pure, and nothing that lay has turned. -/
theorem ok_pure {f : FuncId} {args : List AV} {res : AV} (hres : res.isTup = false ∧ res.isFresh = false) (h : ∀ (S : Stab) (w : World) (vals : List Value), Agree S w → GlobOk glob S w → VL S args vals → Calls Tryz.prog f vals.toArray w fun e w' => ∃ v, e = .returned v ∧ (∀ S', V S' res v) ∧ Below w.heap.size w w') (hr : (args.all fun c => !c.isRes) = true := by rfl) : Ok Tryz.prog glob f args res := by
  refine Ok.of_plain (fun c hc => by simpa using List.all_eq_true.1 hr c hc) fun S w vals hag hG hV => ?_
  refine (h S w vals hag hG hV).mono ?_
  rintro e w' ⟨v, rfl, hv, hb⟩
  refine ⟨v, S, rfl, fun _ _ h => h, agree_below hag hb, fun _ _ h => .inl h, hb, ?_⟩
  have := hv S
  cases res <;> first | (cases hres.1; done) | (cases hres.2; done) | exact this
/-- Texts out of abstract values. -/
def toStrs : List AV → Option (List (List UInt8))
  | [] => some []
  | .str s :: l => (toStrs l).bind fun r => some (s.data.toList :: r)
  | _ => none
theorem toStrs_svs : ∀ l : List (List UInt8), toStrs (svs l) = some l
  | [] => rfl
  | p :: l => by
    show (toStrs (svs l)).bind (fun r => some (p :: r)) = _
    rw [toStrs_svs l]
    rfl
theorem toStrs_some : ∀ {xs : List AV} {l : List (List UInt8)}, toStrs xs = some l → xs = svs l
  | [], l, h => by cases h; rfl
  | x :: xs, l, h => by
    unfold toStrs at h
    split at h
    · rename_i e; cases e
    · rename_i s l' e
      cases e
      obtain ⟨r, hr, he⟩ := Option.bind_eq_some_iff.1 h
      cases he
      rw [toStrs_some hr]
      have : AV.str s = sv s.data.toList := by
        show AV.str s = AV.str _
        congr 1
      rw [this]; rfl
    · cases h
end Go.Proofs.YtogfcfgfkggmlaaGreatDoor.Eng.U


/- What functions answer, as the engine evaluates their code. Printed by gen2.py. -/
set_option linter.unusedVariables false
namespace Go.Proofs.YtogfcfgfkggmlaaGreatDoor.Eng.U
open Go Go.Proofs Go.Proofs.YtogfcfgfkggmlaaGreatDoor.Eng
/- oakum/oakumref04.Number -/
/- oakum/oakumref04.Time -/
/- oakum/dec.Time -/
theorem dec_Time_eq {E : Ext} [Core E] (k n : Nat) (a0 : ByteArray) : kp E k (n + 1) dec_Time [(.str a0)] =
  (callT (kp E k n strings_CutPrefix [(.str a0), (.str (str [45]))]) fun vt2 => (tupS vt2 fun vs3 vt4 => (tupB vt4 fun vq5 vt6 => (atNil vt6 (callT (kp E k n strings_Cut [(.str vs3), (.str (str [46]))]) fun vt8 => (tupS vt8 fun vs9 vt10 => (tupS vt10 fun vs11 vt12 => (tupB vt12 fun vq13 vt14 => (atNil vt14 (callT (kp E k n dec_natural [(.str vs9)]) fun vt16 => (tupI .u64 vt16 fun vn17 vt18 => (tupB vt18 fun vq19 vt20 => (atNil vt20 (bif (!vq19) then (some (.tup [(.agg [(.int .i64 (0 : Int)), (.int .i64 (0 : Int))]), (.int .u8 (15 : Int))])) else (bif vq13 then (callB (kp E k n dec_digits [(.str vs11)]) fun vq22 => (bif (!vq22) then (some (.tup [(.agg [(.int .i64 (0 : Int)), (.int .i64 (0 : Int))]), (.int .u8 (15 : Int))])) else (bif (decide ((((ByteArray.size vs11) : Nat) : Int) > (9 : Int))) then (some (.tup [(.agg [(.int .i64 (0 : Int)), (.int .i64 (0 : Int))]), (.int .u8 (15 : Int))])) else (bif vq13 then (callS (kp E k n strings_Repeat [(.str (str [48])), (.int .i64 (IntKind.wrap .i64 ((9 : Int) - (((ByteArray.size vs11) : Nat) : Int))))]) fun vs24 => (bif (decide ((ByteArray.size vs11) + (ByteArray.size vs24) ≤ 9223372036854775807)) then (callT (kp E k n strconv_ParseInt [(.str (vs11 ++ vs24)), (.int .i64 (10 : Int)), (.int .i64 (64 : Int))]) fun vt26 => (tupI .i64 vt26 fun vn27 vt28 => (tupV vt28 fun vr29 vt30 => (atNil vt30 (bif (!vq5) then (bif (decide ((Int.fdiv vn17 (2 ^ (min (Int.toNat (63 : Int)) (IntKind.bits .u64)))) > (0 : Int))) then (some (.tup [(.agg [(.int .i64 (0 : Int)), (.int .i64 (0 : Int))]), (.int .u8 (15 : Int))])) else (bif (!vq5) then (some (.tup [(.agg [(.int .i64 (IntKind.wrap .i64 vn17)), (.int .i64 vn27)]), (.int .u8 (0 : Int))])) else (bif (decide (vn27 = (0 : Int))) then (some (.tup [(.agg [(.int .i64 (IntKind.wrap .i64 (IntKind.wrap .u64 (0 - vn17)))), (.int .i64 vn27)]), (.int .u8 (0 : Int))])) else (bif (decide ((Int.fdiv vn17 (2 ^ (min (Int.toNat (63 : Int)) (IntKind.bits .u64)))) > (0 : Int))) then (some (.tup [(.agg [(.int .i64 (0 : Int)), (.int .i64 (0 : Int))]), (.int .u8 (15 : Int))])) else (some (.tup [(.agg [(.int .i64 (IntKind.wrap .i64 ((IntKind.wrap .i64 (0 - (IntKind.wrap .i64 vn17))) - (1 : Int)))), (.int .i64 (IntKind.wrap .i64 ((1000000000 : Int) - vn27)))]), (.int .u8 (0 : Int))])))))) else (bif (!vq5) then (some (.tup [(.agg [(.int .i64 (IntKind.wrap .i64 vn17)), (.int .i64 vn27)]), (.int .u8 (0 : Int))])) else (bif (decide (vn27 = (0 : Int))) then (some (.tup [(.agg [(.int .i64 (IntKind.wrap .i64 (IntKind.wrap .u64 (0 - vn17)))), (.int .i64 vn27)]), (.int .u8 (0 : Int))])) else (bif (decide ((Int.fdiv vn17 (2 ^ (min (Int.toNat (63 : Int)) (IntKind.bits .u64)))) > (0 : Int))) then (some (.tup [(.agg [(.int .i64 (0 : Int)), (.int .i64 (0 : Int))]), (.int .u8 (15 : Int))])) else (some (.tup [(.agg [(.int .i64 (IntKind.wrap .i64 ((IntKind.wrap .i64 (0 - (IntKind.wrap .i64 vn17))) - (1 : Int)))), (.int .i64 (IntKind.wrap .i64 ((1000000000 : Int) - vn27)))]), (.int .u8 (0 : Int))])))))))))) else none)) else (bif (!vq5) then (bif (decide ((Int.fdiv vn17 (2 ^ (min (Int.toNat (63 : Int)) (IntKind.bits .u64)))) > (0 : Int))) then (some (.tup [(.agg [(.int .i64 (0 : Int)), (.int .i64 (0 : Int))]), (.int .u8 (15 : Int))])) else (bif (!vq5) then (some (.tup [(.agg [(.int .i64 (IntKind.wrap .i64 vn17)), (.int .i64 (0 : Int))]), (.int .u8 (0 : Int))])) else (some (.tup [(.agg [(.int .i64 (IntKind.wrap .i64 (IntKind.wrap .u64 (0 - vn17)))), (.int .i64 (0 : Int))]), (.int .u8 (0 : Int))])))) else (bif (!vq5) then (some (.tup [(.agg [(.int .i64 (IntKind.wrap .i64 vn17)), (.int .i64 (0 : Int))]), (.int .u8 (0 : Int))])) else (some (.tup [(.agg [(.int .i64 (IntKind.wrap .i64 (IntKind.wrap .u64 (0 - vn17)))), (.int .i64 (0 : Int))]), (.int .u8 (0 : Int))])))))))) else (bif vq13 then (callS (kp E k n strings_Repeat [(.str (str [48])), (.int .i64 (IntKind.wrap .i64 ((9 : Int) - (((ByteArray.size vs11) : Nat) : Int))))]) fun vs32 => (bif (decide ((ByteArray.size vs11) + (ByteArray.size vs32) ≤ 9223372036854775807)) then (callT (kp E k n strconv_ParseInt [(.str (vs11 ++ vs32)), (.int .i64 (10 : Int)), (.int .i64 (64 : Int))]) fun vt34 => (tupI .i64 vt34 fun vn35 vt36 => (tupV vt36 fun vr37 vt38 => (atNil vt38 (bif (!vq5) then (bif (decide ((Int.fdiv vn17 (2 ^ (min (Int.toNat (63 : Int)) (IntKind.bits .u64)))) > (0 : Int))) then (some (.tup [(.agg [(.int .i64 (0 : Int)), (.int .i64 (0 : Int))]), (.int .u8 (15 : Int))])) else (bif (!vq5) then (some (.tup [(.agg [(.int .i64 (IntKind.wrap .i64 vn17)), (.int .i64 vn35)]), (.int .u8 (0 : Int))])) else (bif (decide (vn35 = (0 : Int))) then (some (.tup [(.agg [(.int .i64 (IntKind.wrap .i64 (IntKind.wrap .u64 (0 - vn17)))), (.int .i64 vn35)]), (.int .u8 (0 : Int))])) else (bif (decide ((Int.fdiv vn17 (2 ^ (min (Int.toNat (63 : Int)) (IntKind.bits .u64)))) > (0 : Int))) then (some (.tup [(.agg [(.int .i64 (0 : Int)), (.int .i64 (0 : Int))]), (.int .u8 (15 : Int))])) else (some (.tup [(.agg [(.int .i64 (IntKind.wrap .i64 ((IntKind.wrap .i64 (0 - (IntKind.wrap .i64 vn17))) - (1 : Int)))), (.int .i64 (IntKind.wrap .i64 ((1000000000 : Int) - vn35)))]), (.int .u8 (0 : Int))])))))) else (bif (!vq5) then (some (.tup [(.agg [(.int .i64 (IntKind.wrap .i64 vn17)), (.int .i64 vn35)]), (.int .u8 (0 : Int))])) else (bif (decide (vn35 = (0 : Int))) then (some (.tup [(.agg [(.int .i64 (IntKind.wrap .i64 (IntKind.wrap .u64 (0 - vn17)))), (.int .i64 vn35)]), (.int .u8 (0 : Int))])) else (bif (decide ((Int.fdiv vn17 (2 ^ (min (Int.toNat (63 : Int)) (IntKind.bits .u64)))) > (0 : Int))) then (some (.tup [(.agg [(.int .i64 (0 : Int)), (.int .i64 (0 : Int))]), (.int .u8 (15 : Int))])) else (some (.tup [(.agg [(.int .i64 (IntKind.wrap .i64 ((IntKind.wrap .i64 (0 - (IntKind.wrap .i64 vn17))) - (1 : Int)))), (.int .i64 (IntKind.wrap .i64 ((1000000000 : Int) - vn35)))]), (.int .u8 (0 : Int))])))))))))) else none)) else (bif (!vq5) then (bif (decide ((Int.fdiv vn17 (2 ^ (min (Int.toNat (63 : Int)) (IntKind.bits .u64)))) > (0 : Int))) then (some (.tup [(.agg [(.int .i64 (0 : Int)), (.int .i64 (0 : Int))]), (.int .u8 (15 : Int))])) else (bif (!vq5) then (some (.tup [(.agg [(.int .i64 (IntKind.wrap .i64 vn17)), (.int .i64 (0 : Int))]), (.int .u8 (0 : Int))])) else (some (.tup [(.agg [(.int .i64 (IntKind.wrap .i64 (IntKind.wrap .u64 (0 - vn17)))), (.int .i64 (0 : Int))]), (.int .u8 (0 : Int))])))) else (bif (!vq5) then (some (.tup [(.agg [(.int .i64 (IntKind.wrap .i64 vn17)), (.int .i64 (0 : Int))]), (.int .u8 (0 : Int))])) else (some (.tup [(.agg [(.int .i64 (IntKind.wrap .i64 (IntKind.wrap .u64 (0 - vn17)))), (.int .i64 (0 : Int))]), (.int .u8 (0 : Int))])))))))))))))))))))) := (kp_at (by kernel_rfl)).trans (by kernel_rfl)
/- oakum/dec.Print -/
theorem dec_Print_eq {E : Ext} [Core E] (k n : Nat) (a0_0 : Int) (a0_1 : Int) : kp E k (n + 1) dec_Print [(.agg [(.int .i64 a0_0), (.int .i64 a0_1)])] =
  (callB (kp E k n dec_Right [(.agg [(.int .i64 a0_0), (.int .i64 a0_1)])]) fun vq2 => (bif (!vq2) then (some (.tup [(.str (str [])), (.int .u8 (15 : Int))])) else (bif (decide (a0_1 = (0 : Int))) then (callS (kp E k n dec_Text [(.int .i64 a0_0)]) fun vs4 => (some (.tup [(.str vs4), (.int .u8 (0 : Int))]))) else (bif (decide (a0_0 < (0 : Int))) then (callS (kp E k n strconv_FormatInt [(.int .i64 (IntKind.wrap .i64 ((1000000000 : Int) + (IntKind.wrap .i64 ((1000000000 : Int) - a0_1))))), (.int .i64 (10 : Int))]) fun vs6 => (bif (decide ((1 : Int) ≤ (((ByteArray.size vs6) : Nat) : Int))) then (callS (kp E k n dec_Text [(.int .i64 (IntKind.wrap .i64 (0 - (IntKind.wrap .i64 (a0_0 + (1 : Int))))))]) fun vs8 => (bif (decide (1 + (ByteArray.size vs8) ≤ 9223372036854775807)) then (bif (decide ((ByteArray.size ((str [45]) ++ vs8)) + 1 ≤ 9223372036854775807)) then (callS (kp E k n strings_TrimRight [(.str (ByteArray.extract vs6 1 (ByteArray.size vs6))), (.str (str [48]))]) fun vs10 => (bif (decide ((ByteArray.size (((str [45]) ++ vs8) ++ (str [46]))) + (ByteArray.size vs10) ≤ 9223372036854775807)) then (some (.tup [(.str ((((str [45]) ++ vs8) ++ (str [46])) ++ vs10)), (.int .u8 (0 : Int))])) else none)) else none) else none)) else none)) else (callS (kp E k n strconv_FormatInt [(.int .i64 (IntKind.wrap .i64 ((1000000000 : Int) + a0_1))), (.int .i64 (10 : Int))]) fun vs12 => (bif (decide ((1 : Int) ≤ (((ByteArray.size vs12) : Nat) : Int))) then (callS (kp E k n dec_Text [(.int .i64 a0_0)]) fun vs14 => (bif (decide (0 + (ByteArray.size vs14) ≤ 9223372036854775807)) then (bif (decide ((ByteArray.size ((str []) ++ vs14)) + 1 ≤ 9223372036854775807)) then (callS (kp E k n strings_TrimRight [(.str (ByteArray.extract vs12 1 (ByteArray.size vs12))), (.str (str [48]))]) fun vs16 => (bif (decide ((ByteArray.size (((str []) ++ vs14) ++ (str [46]))) + (ByteArray.size vs16) ≤ 9223372036854775807)) then (some (.tup [(.str ((((str []) ++ vs14) ++ (str [46])) ++ vs16)), (.int .u8 (0 : Int))])) else none)) else none) else none)) else none)))))) := (kp_at (by kernel_rfl)).trans (by kernel_rfl)
/- oakum/dec.Text -/
theorem dec_Text_eq {E : Ext} [Core E] (k n : Nat) (a0 : Int) : kp E k (n + 1) dec_Text [(.int .i64 a0)] =
  (callS (kp E k n strconv_FormatInt [(.int .i64 a0), (.int .i64 (10 : Int))]) fun vs2 => (some (.str vs2))) := (kp_at (by kernel_rfl)).trans (by kernel_rfl)
/- oakum/oakumref04.Print -/
/- oakum/oakumref04.Text -/
theorem ref04_Text_eq {E : Ext} [Core E] (k n : Nat) (a0 : Int) : kp E k (n + 1) ref04_Text [(.int .i64 a0)] =
  (bif (decide (a0 ≥ (0 : Int))) then (callS (kp E k n ref04_Digits [(.int .i64 a0)]) fun vs2 => (some (.str vs2))) else (bif (decide (a0 > (-10 : Int))) then (callS (kp E k n ref04_Digits [(.int .i64 (IntKind.wrap .i64 (0 - a0)))]) fun vs4 => (bif (decide (1 + (ByteArray.size vs4) ≤ 9223372036854775807)) then (some (.str ((str [45]) ++ vs4))) else none)) else (callS (kp E k n ref04_Digits [(.int .i64 (IntKind.wrap .i64 (0 - (IntKind.wrap .i64 (Int.tdiv a0 (10 : Int))))))]) fun vs6 => (bif (decide (1 + (ByteArray.size vs6) ≤ 9223372036854775807)) then (callS (kp E k n ref04_Digits [(.int .i64 (IntKind.wrap .i64 (0 - (Int.tmod a0 (10 : Int)))))]) fun vs8 => (bif (decide ((ByteArray.size ((str [45]) ++ vs6)) + (ByteArray.size vs8) ≤ 9223372036854775807)) then (some (.str (((str [45]) ++ vs6) ++ vs8))) else none)) else none)))) := (kp_at (by kernel_rfl)).trans (by kernel_rfl)
/- oakum/oakumref04.Below -/
/- oakum/oakumref04.only -/
/- oakum/dec.Number -/
theorem dec_Number_eq {E : Ext} [Core E] (k n : Nat) (a0 : ByteArray) : kp E k (n + 1) dec_Number [(.str a0)] =
  (callT (kp E k n dec_natural [(.str a0)]) fun vt2 => (tupI .u64 vt2 fun vn3 vt4 => (tupB vt4 fun vq5 vt6 => (atNil vt6 (bif (!vq5) then (some (.tup [(.int .i64 (0 : Int)), (.int .u8 (15 : Int))])) else (bif (decide ((Int.fdiv vn3 (2 ^ (min (Int.toNat (63 : Int)) (IntKind.bits .u64)))) > (0 : Int))) then (some (.tup [(.int .i64 (0 : Int)), (.int .u8 (15 : Int))])) else (some (.tup [(.int .i64 (IntKind.wrap .i64 vn3)), (.int .u8 (0 : Int))])))))))) := (kp_at (by kernel_rfl)).trans (by kernel_rfl)
/- strings.Cut -/
theorem strings_Cut_eq {E : Ext} [Core E] (k n : Nat) (a0 : ByteArray) (a1 : ByteArray) : kp E k (n + 1) strings_Cut [(.str a0), (.str a1)] =
  (callT (kp E k n stringslite_Cut [(.str a0), (.str a1)]) fun vt2 => (tupS vt2 fun vs3 vt4 => (tupS vt4 fun vs5 vt6 => (tupB vt6 fun vq7 vt8 => (atNil vt8 (some (.tup [(.str vs3), (.str vs5), (.bool vq7)]))))))) := (kp_at (by kernel_rfl)).trans (by kernel_rfl)
/- oakum/dec.natural -/
theorem dec_natural_eq {E : Ext} [Core E] (k n : Nat) (a0 : ByteArray) : kp E k (n + 1) dec_natural [(.str a0)] =
  (callB (kp E k n dec_digits [(.str a0)]) fun vq2 => (bif (!vq2) then (some (.tup [(.int .u64 (0 : Int)), (.bool false)])) else (bif (decide ((0 : Int) < (((ByteArray.size a0) : Nat) : Int))) then (bif (decide ((byteAt a0 0) = (48 : Int))) then (bif (decide ((((ByteArray.size a0) : Nat) : Int) > (1 : Int))) then (some (.tup [(.int .u64 (0 : Int)), (.bool false)])) else (callT (kp E k n strconv_ParseUint [(.str a0), (.int .i64 (10 : Int)), (.int .i64 (64 : Int))]) fun vt4 => (tupI .u64 vt4 fun vn5 vt6 => (tupV vt6 fun vr7 vt8 => (atNil vt8 (nilB vr7 fun q9 => (bif q9 then (some (.tup [(.int .u64 vn5), (.bool (decide (vn5 ≤ (9223372036854775808 : Int))))])) else (some (.tup [(.int .u64 vn5), (.bool false)]))))))))) else (callT (kp E k n strconv_ParseUint [(.str a0), (.int .i64 (10 : Int)), (.int .i64 (64 : Int))]) fun vt11 => (tupI .u64 vt11 fun vn12 vt13 => (tupV vt13 fun vr14 vt15 => (atNil vt15 (nilB vr14 fun q16 => (bif q16 then (some (.tup [(.int .u64 vn12), (.bool (decide (vn12 ≤ (9223372036854775808 : Int))))])) else (some (.tup [(.int .u64 vn12), (.bool false)]))))))))) else none))) := (kp_at (by kernel_rfl)).trans (by kernel_rfl)
/- oakum/dec.digits -/
noncomputable def dec_digits_bd : Code := Tryz.f170.body.getD .skip
noncomputable def dec_digits_L0 (kap : FuncId → List AV → Option AV) (k : Nat) (k0 : Nat) (s0 : ByteArray) (s5 : Int) (s6 : Int) : Option AV :=
  loop (fun fr K => code ((bs E0 k).cfg kap dec_digits) (sel dec_digits_bd [1, 0, 1, 0, 0]) fr K) (canon ((bs E0 k).cfg kap dec_digits) (firstReg (sel dec_digits_bd [1, 0, 1, 0, 0]))) k0 (mkFr 22 [(0, (.str s0)), (5, (.int .i64 s5)), (6, (.int .i64 s6))] []) (plug ((bs E0 k).cfg kap dec_digits) (retK ((bs E0 k).cfg kap dec_digits) [] Tryz.f170 [] some) [.blk 0, .seqR (sel dec_digits_bd [1, 1])])
theorem dec_digits_L0_s (kap : FuncId → List AV → Option AV) (k : Nat) (k0 : Nat) (s0 : ByteArray) (s5 : Int) (s6 : Int) : dec_digits_L0 kap k (k0 + 1) s0 s5 s6 =
  (bif (decide (s6 < s5)) then (bif ((decide ((0 : Int) ≤ s6)) && (decide (s6 < (((ByteArray.size s0) : Nat) : Int)))) then (bif (decide ((byteAt s0 (Int.toNat s6)) < (48 : Int))) then (some (.bool false)) else (bif ((decide ((0 : Int) ≤ s6)) && (decide (s6 < (((ByteArray.size s0) : Nat) : Int)))) then (bif (decide ((byteAt s0 (Int.toNat s6)) > (57 : Int))) then (some (.bool false)) else (dec_digits_L0 kap k k0 s0 s5 (IntKind.wrap .i64 (s6 + (1 : Int))))) else none)) else none) else (some (.bool (!(decide (s0 = (str []))))))) := by kernel_rfl
theorem dec_digits_eq {E : Ext} [Core E] (k n : Nat) (a0 : ByteArray) : kp E k (n + 1) dec_digits [(.str a0)] =
  (dec_digits_L0 (kp E k n) k k a0 (((ByteArray.size a0) : Nat) : Int) (0 : Int)) := (kp_at (by kernel_rfl)).trans (by kernel_rfl)
/- oakum/dec.Right -/
theorem dec_Right_eq {E : Ext} [Core E] (k n : Nat) (a0_0 : Int) (a0_1 : Int) : kp E k (n + 1) dec_Right [(.agg [(.int .i64 a0_0), (.int .i64 a0_1)])] =
  (bif (decide (a0_1 ≥ (0 : Int))) then (some (.bool (decide (a0_1 < (1000000000 : Int))))) else (some (.bool false))) := (kp_at (by kernel_rfl)).trans (by kernel_rfl)
/- oakum/oakumref04.Right -/
/- oakum/oakumref04.Digits -/
theorem ref04_Digits_eq {E : Ext} [Core E] (k n : Nat) (a0 : Int) : kp E k (n + 1) ref04_Digits [(.int .i64 a0)] =
  (bif (decide (a0 < (10 : Int))) then ((toBytes [(.int .u8 (IntKind.wrap .u8 (IntKind.wrap .i64 ((48 : Int) + a0))))]).bind fun vl1 => (some (.str (str vl1)))) else (callS (kp E k n ref04_Digits [(.int .i64 (IntKind.wrap .i64 (Int.tdiv a0 (10 : Int))))]) fun vs3 => ((toBytes [(.int .u8 (IntKind.wrap .u8 (IntKind.wrap .i64 ((48 : Int) + (Int.tmod a0 (10 : Int))))))]).bind fun vl4 => (bif (decide ((ByteArray.size vs3) + (ByteArray.size (str vl4)) ≤ 9223372036854775807)) then (some (.str (vs3 ++ (str vl4)))) else none)))) := (kp_at (by kernel_rfl)).trans (by kernel_rfl)
/- internal/stringslite.CutPrefix -/
/- internal/stringslite.Cut -/
theorem stringslite_Cut_eq {E : Ext} [Core E] (k n : Nat) (a0 : ByteArray) (a1 : ByteArray) : kp E k (n + 1) stringslite_Cut [(.str a0), (.str a1)] =
  (callI .i64 (kp E k n stringslite_Index [(.str a0), (.str a1)]) fun vn2 => (bif (decide (vn2 ≥ (0 : Int))) then (bif ((decide ((0 : Int) ≤ vn2)) && (decide (vn2 ≤ (((ByteArray.size a0) : Nat) : Int)))) then (bif ((decide ((0 : Int) ≤ (IntKind.wrap .i64 (vn2 + (((ByteArray.size a1) : Nat) : Int))))) && (decide ((IntKind.wrap .i64 (vn2 + (((ByteArray.size a1) : Nat) : Int))) ≤ (((ByteArray.size a0) : Nat) : Int)))) then (some (.tup [(.str (ByteArray.extract a0 0 (Int.toNat vn2))), (.str (ByteArray.extract a0 (Int.toNat (IntKind.wrap .i64 (vn2 + (((ByteArray.size a1) : Nat) : Int)))) (ByteArray.size a0))), (.bool true)])) else none) else none) else (some (.tup [(.str a0), (.str (str [])), (.bool false)])))) := (kp_at (by kernel_rfl)).trans (by kernel_rfl)
end Go.Proofs.YtogfcfgfkggmlaaGreatDoor.Eng.U

