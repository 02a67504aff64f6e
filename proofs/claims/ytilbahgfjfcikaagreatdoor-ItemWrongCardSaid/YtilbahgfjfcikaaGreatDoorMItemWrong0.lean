/- Several texts of this proof in one file: Core, RowT, Ext, R04, Q04, U04, U04b, U04c, Api, V04, ApiR, B04, R09, U09. -/
import Derived.Test.YtilbahgfjfcikaaGreatDoorME2
import Derived.Test.YtilbahgfjfcikaaGreatDoorProg
import Derived.Lib.DecodeN
import Derived.Lib.ItoaNum
import Derived.Test.YtilbahgfjfcikaaGreatDoorCards
import Derived.Test.YtilbahgfjfcikaaGreatDoorTie
import Derived.Test.YtilbahgfjfcikaaGreatDoorShelf
import Derived.Lib.LaidIn
import Derived.Lib.LaidU8
import Derived.PinnedBridge
import Derived.Deep.DeepHandedRow
import Derived.ChangeSlices
import Derived.WalkKit
import Derived.ProofKit
import Derived.OpenShut
import Derived.ShutString
import Derived.ChangeOld
import Derived.ChangeSame
import Derived.Below
import Derived.Lib.ParseIntB
import Derived.Lib.Bytealg
import Derived.Lib.TrimByte
import Derived.Lib.Strings
import Derived.Lib.Repeat
import Derived.Lib.ItoaMem
import Derived.Lib.ItoaLen
import Derived.WalkSmall
import Derived.Lib.SmallJoins
/- The functions of a seat, by their names; what each loop keeps; a base open at its given functions. Printed by gen2.py. -/
set_option linter.unusedVariables false
namespace Go.Proofs.YtilbahgfjfcikaaGreatDoor.Eng.U
open Go Go.Proofs Go.Proofs.YtilbahgfjfcikaaGreatDoor.Eng
def main_main : FuncId := 0
def law09_ItemWrong : FuncId := 3
def law07_PaxPrints : FuncId := 4
def law07_PaxParses : FuncId := 5
def law07_PaxPairs : FuncId := 6
def law32_CrcLists : FuncId := 7
def law08_OverApplies : FuncId := 8
def law09_alive : FuncId := 9
def law09_many : FuncId := 10
def item_Fulls : FuncId := 11
def ref09_Fulls : FuncId := 12
def item_Wrong : FuncId := 13
def ref09_Wrong : FuncId := 14
def item_Right : FuncId := 15
def ref09_Right : FuncId := 16
def law07_alive : FuncId := 17
def law07_few : FuncId := 18
def pax_Print : FuncId := 19
def ref07_Right : FuncId := 20
def ref01_Same : FuncId := 21
def ref07_Print : FuncId := 22
def pax_Parse : FuncId := 23
def ref07_Parse : FuncId := 24
def ref07_Same : FuncId := 25
def pax_Right : FuncId := 26
def pax_Known : FuncId := 27
def ref07_Which : FuncId := 28
def pax_Len : FuncId := 29
def ref07_Len : FuncId := 30
def law32_alive : FuncId := 31
def law17_Many : FuncId := 32
def crc_List : FuncId := 33
def crc_Line : FuncId := 34
def ref32_Line : FuncId := 35
def law08_alive : FuncId := 36
def law08_few : FuncId := 37
def over_Apply : FuncId := 38
def ref08_Right : FuncId := 39
def ref08_SameHead : FuncId := 40
def ref08_Apply : FuncId := 41
def item_Told : FuncId := 42
def strings_HasSuffix : FuncId := 43
def ref09_Slash : FuncId := 44
def item_Flag : FuncId := 45
def item_named : FuncId := 46
def item_link : FuncId := 47
def dec_Right : FuncId := 48
def item_plain : FuncId := 49
def item_device : FuncId := 50
def item_extra : FuncId := 51
def ref09_fields : FuncId := 52
def bytes_Buffer_WriteString : FuncId := 53
def strconv_Itoa : FuncId := 54
def bytes_Buffer_Bytes : FuncId := 55
def ref05_First : FuncId := 56
def ref02_Clean : FuncId := 57
def ref04_Number : FuncId := 58
def ref04_Time : FuncId := 59
def ref07_Record : FuncId := 60
def pax_record : FuncId := 61
def utf_Right : FuncId := 62
def strings_ContainsAny : FuncId := 63
def pax_value : FuncId := 64
def ref07_Keys : FuncId := 65
def ref04_Digits : FuncId := 66
def crc_Sum : FuncId := 67
def crc_line : FuncId := 68
def ref32_More : FuncId := 69
def ref21_Word : FuncId := 70
def ref04_Text : FuncId := 71
def ref02_Quote : FuncId := 72
def over_Lay : FuncId := 73
def over_Right : FuncId := 74
def over_say : FuncId := 75
def ref08_Lay : FuncId := 76
def stringslite_HasSuffix : FuncId := 77
def text_Clean : FuncId := 78
def slices_ContainsFunc_api_Pair : FuncId := 79
def item_extra_1 : FuncId := 80
def ref09_name : FuncId := 81
def ref04_Right : FuncId := 82
def bytes_Buffer_tryGrowByReslice : FuncId := 83
def bytes_Buffer_grow : FuncId := 84
def istrconv_Itoa : FuncId := 85
def ref05_Ends : FuncId := 86
def ref02_Get : FuncId := 87
def ref04_Below : FuncId := 88
def ref04_only : FuncId := 89
def pax_length : FuncId := 90
def strings_Cut : FuncId := 91
def utf_First : FuncId := 92
def strings_IndexAny : FuncId := 93
def pax_clean : FuncId := 94
def dec_Number : FuncId := 95
def dec_Time : FuncId := 96
def crc_More : FuncId := 97
def crc_eight : FuncId := 98
def text_Quote : FuncId := 99
def ref02_open : FuncId := 100
def ref02_code : FuncId := 101
def over_lay : FuncId := 102
def ref08_Last : FuncId := 103
def strings_IndexByte : FuncId := 104
def slices_IndexFunc_api_Pair : FuncId := 105
def bytes_Buffer_Len : FuncId := 106
def bytes_Buffer_Reset : FuncId := 107
def bytes_growSlice : FuncId := 108
def istrconv_FormatInt : FuncId := 109
def ref05_size : FuncId := 110
def stringslite_Cut : FuncId := 111
def utf_wrong : FuncId := 112
def strings_IndexRune : FuncId := 113
def strings_shouldUseASCIISet : FuncId := 114
def strings_makeASCIISet : FuncId := 115
def strings_asciiSet_contains : FuncId := 116
def dec_natural : FuncId := 117
def strings_CutPrefix : FuncId := 118
def dec_digits : FuncId := 119
def strconv_ParseInt : FuncId := 120
def strings_Repeat : FuncId := 121
def crc_table : FuncId := 122
def strconv_FormatUint : FuncId := 123
def text_open : FuncId := 124
def strings_Builder_WriteByte : FuncId := 125
def strings_Builder_String : FuncId := 126
def over_byKey : FuncId := 127
def slices_Delete_api_Pair : FuncId := 128
def slices_Insert_api_Pair : FuncId := 129
def stringslite_IndexByte : FuncId := 130
def bytes_growSlice_1 : FuncId := 131
def istrconv_small : FuncId := 132
def istrconv_numDigits : FuncId := 133
def istrconv_formatBase10 : FuncId := 134
def istrconv_formatBits : FuncId := 135
def stringslite_Index : FuncId := 136
def unicode_utf8_DecodeRuneInString : FuncId := 137
def unicode_utf8_ValidRune : FuncId := 138
def bytealg_Cutover : FuncId := 139
def bytealg_IndexString : FuncId := 140
def strconv_ParseUint : FuncId := 141
def stringslite_CutPrefix : FuncId := 142
def istrconv_ParseInt : FuncId := 143
def strconv_toError : FuncId := 144
def math_bits_Mul : FuncId := 145
def strings_HasPrefix : FuncId := 146
def strings_Builder_Grow : FuncId := 147
def strings_Builder_WriteString : FuncId := 148
def strings_Builder_Len : FuncId := 149
def istrconv_FormatUint : FuncId := 150
def strings_Builder_copyCheck : FuncId := 151
def slices_BinarySearchFunc_string : FuncId := 152
def over_byKey_1 : FuncId := 153
def strings_Compare : FuncId := 154
def slices_overlaps_api_Pair : FuncId := 155
def slices_rotateRight_api_Pair : FuncId := 156
def bytealg_IndexByteString : FuncId := 157
def istrconv_log10Pow2 : FuncId := 158
def math_bits_Len64 : FuncId := 159
def istrconv_bool2_int : FuncId := 160
def istrconv_isPowerOfTwo : FuncId := 161
def math_bits_TrailingZeros : FuncId := 162
def bytealg_IndexRabinKarp_string : FuncId := 163
def unicode_utf8_decodeRuneInStringSlow : FuncId := 164
def istrconv_ParseUint : FuncId := 165
def stringslite_HasPrefix : FuncId := 166
def strconv_syntaxError : FuncId := 167
def strconv_rangeError : FuncId := 168
def strconv_baseError : FuncId := 169
def strconv_bitSizeError : FuncId := 170
def math_bits_Mul32 : FuncId := 171
def math_bits_Mul64 : FuncId := 172
def strings_Builder_grow : FuncId := 173
def abi_NoEscape : FuncId := 174
def bytealg_CompareString : FuncId := 175
def slices_rotateLeft_api_Pair : FuncId := 176
def math_bits_TrailingZeros32 : FuncId := 177
def math_bits_TrailingZeros64 : FuncId := 178
def bytealg_hashStr_string : FuncId := 179
def istrconv_lower : FuncId := 180
def istrconv_underscoreOK : FuncId := 181
def stringslite_Clone : FuncId := 182
def errors_New : FuncId := 183
def bytealg_MakeNoZero : FuncId := 184
def bytealg_abigen_runtime_cmpstring : FuncId := 185
def slices_Reverse_api_Pair : FuncId := 186
def runtime_boundsError_Error : FuncId := 187
def runtime_boundsError_RuntimeError : FuncId := 188
def runtime_errorString_Error : FuncId := 189
def runtime_errorString_RuntimeError : FuncId := 190
def runtime_plainError_Error : FuncId := 191
def runtime_plainError_RuntimeError : FuncId := 192
def runtime_errorAddressString_Error : FuncId := 193
def runtime_errorAddressString_RuntimeError : FuncId := 194
def runtime_TypeAssertionError_Error : FuncId := 195
def runtime_TypeAssertionError_RuntimeError : FuncId := 196
def runtime_PanicNilError_Error : FuncId := 197
def runtime_PanicNilError_RuntimeError : FuncId := 198
def abi_Type_Align : FuncId := 199
def runtime_maps_unhashableTypeError_Error : FuncId := 200
def runtime_maps_unhashableTypeError_RuntimeError : FuncId := 201
def api_Code_String : FuncId := 202
def bytes_Buffer_String : FuncId := 203
def strings_Builder_Reset : FuncId := 204
def istrconv_Error_Error : FuncId := 205
def strconv_NumError_Error : FuncId := 206
def errors_errorString_Error : FuncId := 207
def abi_Kind_String : FuncId := 208
def dirs : FuncId → Nat → Option Dir
  | 3, 9 => some { slots := [(1, .keep), (3, .keep), (4, .keep), (5, .keep)], boxes := [1] }
  | 4, 7 => some { slots := [(0, .keep), (3, .keep), (4, .keep), (5, .keep)], boxes := [] }
  | 7, 9 => some { slots := [(0, .keep), (3, .keep), (4, .keep), (5, .own 9 false), (6, .keep), (7, .keep)], boxes := [] }
  | 7, 25 => some { slots := [(3, .keep), (5, .own 9 false), (11, .keep)], boxes := [] }
  | 10, 3 => some { slots := [(1, .keep), (3, .keep), (4, .keep)], boxes := [1] }
  | 14, 3 => some { slots := [(3, .keep), (4, .keep)], boxes := [3] }
  | 18, 3 => some { slots := [(0, .keep), (3, .keep), (4, .keep)], boxes := [] }
  | 20, 4 => some { slots := [(1, .keep), (3, .keep)], boxes := [1] }
  | 22, 3 => some { slots := [(0, .keep), (3, .own 5 false), (4, .keep)], boxes := [] }
  | 23, 2 => some { slots := [(0, .keep), (4, .own 42 false)], boxes := [] }
  | 24, 3 => some { slots := [(0, .keep), (4, .own 42 false), (5, .keep)], boxes := [] }
  | 24, 5 => some { slots := [(0, .keep), (4, .own 42 false), (5, .keep), (6, .keep)], boxes := [] }
  | 24, 14 => some { slots := [(0, .keep), (4, .own 42 false), (6, .keep), (9, .keep), (10, .keep)], boxes := [] }
  | 25, 4 => some { slots := [(0, .keep), (1, .keep), (5, .keep)], boxes := [] }
  | 28, 3 => some { slots := [(0, .keep), (3, .keep), (4, .keep)], boxes := [] }
  | 29, 3 => some { slots := [(3, .keep), (4, .keep)], boxes := [] }
  | 30, 3 => some { slots := [(1, .keep), (3, .keep)], boxes := [1] }
  | 32, 3 => some { slots := [(0, .keep), (3, .keep), (4, .keep)], boxes := [] }
  | 32, 8 => some { slots := [(0, .keep), (3, .keep), (4, .keep), (5, .keep), (6, .keep)], boxes := [5] }
  | 33, 3 => some { slots := [(4, .own 9 false), (7, .keep), (8, .keep), (9, .keep)], boxes := [] }
  | 37, 3 => some { slots := [(0, .keep), (3, .keep), (4, .keep)], boxes := [] }
  | 38, 5 => some { slots := [(2, .keep), (4, .keep), (13, .keep), (14, .keep), (15, .keep)], boxes := [2, 4, 66, 68], rows := [⟨2, 13, 42, 66⟩, ⟨4, 13, 42, 68⟩] }
  | 39, 2 => some { slots := [(0, .keep), (3, .keep)], boxes := [] }
  | 41, 4 => some { slots := [(1, .keep), (4, .keep), (5, .keep), (6, .keep)], boxes := [2, 4, 5, 162, 164, 165], rows := [⟨2, 13, 42, 162⟩, ⟨4, 13, 42, 164⟩, ⟨5, 13, 42, 165⟩] }
  | 52, 2 => some { slots := [(1, .keep), (2, .keep), (3, .keep)], boxes := [1, 2], gate := true }
  | 52, 3 => some { slots := [(1, .keep), (2, .keep), (3, .keep), (4, .keep)], boxes := [1, 2], gate := true }
  | 52, 5 => some { slots := [(1, .keep), (2, .keep), (3, .keep), (4, .keep), (5, .keep)], boxes := [1, 2, 5], gate := true }
  | 52, 6 => some { slots := [(1, .keep), (2, .keep), (3, .keep), (4, .keep), (5, .keep)], boxes := [1, 2, 5], gate := true }
  | 52, 7 => some { slots := [(1, .keep), (2, .keep), (4, .keep), (5, .keep)], boxes := [1, 2, 5], gate := true }
  | 52, 11 => some { slots := [(1, .keep), (2, .keep), (4, .keep), (5, .keep)], boxes := [1, 2, 5], gate := true }
  | 52, 13 => some { slots := [(1, .keep), (2, .keep), (4, .keep), (5, .keep)], boxes := [1, 2, 5], gate := true }
  | 52, 14 => some { slots := [(1, .keep), (2, .keep), (4, .keep), (5, .keep)], boxes := [1, 2, 5], gate := true }
  | 52, 15 => some { slots := [(1, .keep), (2, .keep), (4, .keep), (5, .keep)], boxes := [1, 2, 5], gate := true }
  | 52, 16 => some { slots := [(1, .keep), (2, .keep), (5, .keep)], boxes := [1, 2, 5], gate := true }
  | 52, 18 => some { slots := [(1, .keep), (2, .keep), (5, .keep), (6, .keep)], boxes := [1, 2, 5] }
  | 56, 3 => some { slots := [(3, .keep), (4, .keep)], boxes := [] }
  | 59, 6 => some { slots := [(0, .keep), (2, .keep), (4, .keep), (5, .keep), (6, .keep)], boxes := [2] }
  | 59, 17 => some { slots := [(2, .keep), (4, .keep), (7, .keep), (8, .keep), (9, .keep), (10, .keep), (11, .keep)], boxes := [2] }
  | 69, 3 => some { slots := [(1, .keep), (5, .keep), (6, .keep)], boxes := [] }
  | 69, 7 => some { slots := [(1, .keep), (5, .keep), (6, .keep), (7, .keep)], boxes := [] }
  | 70, 6 => some { slots := [(0, .keep), (3, .keep), (4, .keep), (5, .keep)], boxes := [] }
  | 72, 3 => some { slots := [(0, .keep), (3, .keep), (4, .keep)], boxes := [] }
  | 73, 3 => some { slots := [(1, .keep), (5, .own 42 false), (10, .keep), (11, .keep), (12, .keep)], boxes := [] }
  | 73, 8 => some { slots := [(5, .own 42 false), (20, .keep), (21, .keep), (22, .keep)], boxes := [] }
  | 74, 2 => some { slots := [(0, .keep), (5, .keep), (6, .keep), (7, .keep)], boxes := [] }
  | 76, 4 => some { slots := [(5, .own 42 true), (6, .own 42 false), (7, .keep), (8, .keep)], boxes := [] }
  | 76, 6 => some { slots := [(5, .own 42 true), (6, .own 42 false), (7, .keep), (8, .keep), (9, .keep), (10, .keep), (11, .keep)], boxes := [] }
  | 86, 3 => some { slots := [(0, .keep), (3, .own 3 false), (4, .keep)], boxes := [] }
  | 87, 3 => some { slots := [(0, .keep), (3, .own 5 false), (4, .keep)], boxes := [] }
  | 88, 5 => some { slots := [(0, .keep), (4, .keep), (5, .keep)], boxes := [] }
  | 89, 2 => some { slots := [(0, .keep), (3, .keep)], boxes := [] }
  | 90, 3 => some { slots := [(0, .keep), (5, .keep), (8, .keep), (9, .keep), (10, .keep)], boxes := [] }
  | 92, 2 => some { slots := [(0, .keep), (6, .keep)], boxes := [6] }
  | 93, 12 => some { slots := [(0, .keep), (6, .keep), (8, .keep)], boxes := [6] }
  | 93, 18 => some { slots := [(1, .keep), (45, .keep)], boxes := [45] }
  | 103, 2 => some { slots := [(0, .keep), (1, .keep), (6, .keep)], boxes := [] }
  | 105, 2 => some { slots := [(0, .keep), (1, .keep), (7, .keep), (8, .keep)], boxes := [] }
  | 110, 15 => some { slots := [(0, .keep), (1, .keep), (6, .keep), (7, .keep), (8, .keep)], boxes := [] }
  | 113, 5 => some { slots := [(0, .keep), (7, .keep), (8, .keep), (9, .keep)], boxes := [] }
  | 113, 12 => some { slots := [(0, .keep), (7, .keep), (8, .keep), (9, .keep), (12, .keep)], boxes := [] }
  | 113, 25 => some { slots := [(0, .keep), (7, .keep), (8, .keep), (9, .keep), (14, .keep), (15, .keep)], boxes := [] }
  | 113, 29 => some { slots := [(0, .keep), (7, .keep), (8, .keep), (9, .keep), (14, .keep), (15, .keep), (16, .keep)], boxes := [] }
  | 113, 38 => some { slots := [(175, .keep)], boxes := [175] }
  | 119, 2 => some { slots := [(0, .keep), (5, .keep), (6, .keep)], boxes := [] }
  | 152, 3 => some { slots := [(0, .keep), (1, .keep), (2, .keep), (8, .keep), (9, .keep), (10, .keep)], boxes := [0] }
  | 163, 5 => some { slots := [(0, .keep), (1, .keep), (5, .keep), (6, .keep), (7, .keep), (8, .keep), (9, .keep)], boxes := [] }
  | 163, 11 => some { slots := [(0, .keep), (1, .keep), (5, .keep), (6, .keep), (7, .keep), (8, .keep), (10, .keep)], boxes := [] }
  | 179, 3 => some { slots := [(0, .keep), (4, .keep), (5, .keep)], boxes := [] }
  | 179, 8 => some { slots := [(4, .keep), (6, .keep), (7, .keep), (8, .keep)], boxes := [] }
  | 181, 10 => some { slots := [(0, .keep), (3, .keep), (4, .keep), (5, .keep)], boxes := [] }
  | _, _ => none
def fl : FuncId → List Bool
  | 102 => [true]
  | 128 => [true]
  | 129 => [true]
  | _ => []
def ln : FuncId → List Nat
  | 75 => [1, 0]
  | 102 => [2, 0]
  | 127 => [1, 0]
  | 128 => [2, 0, 0]
  | 129 => [2, 0, 0]
  | 152 => [1, 0, 0]
  | _ => []
def hd : FuncId → List Nat
  | 75 => [13]
  | _ => []
def glob (g : Nat) : Option (List AV) :=
  if g = 3 then some ((List.range 256).map fun c => .int .u8 (Lib.firstT c : Int)) else if g = 4 then some ((List.range 32).map fun i => .int .u8 ((if i % 2 = 0 then Lib.accLo (i / 2) else Lib.accHi (i / 2) : Nat) : Int)) else if g = 1 then some (Lib.pow10Tab.map fun z => .int .u64 z) else if g = 5 then some [.ifc] else if g = 6 then some [.ifc] else none
def coreFs : List FuncId := [3, 4, 5, 6, 7, 8, 9, 10, 11, 12, 13, 14, 15, 16, 17, 18, 20, 21, 22, 23, 24, 25, 26, 27, 28, 29, 30, 31, 32, 33, 34, 35, 36, 37, 38, 39, 40, 41, 42, 43, 44, 45, 46, 47, 48, 49, 50, 51, 52, 56, 57, 58, 59, 60, 61, 62, 63, 64, 65, 66, 67, 68, 69, 70, 71, 72, 73, 74, 75, 76, 77, 78, 79, 80, 81, 82, 85, 86, 87, 88, 89, 90, 91, 92, 94, 95, 96, 98, 100, 101, 102, 103, 105, 110, 111, 112, 113, 114, 117, 119, 123, 124, 127, 130, 132, 138, 139, 142, 145, 146, 152, 153, 154, 156, 158, 159, 160, 161, 162, 163, 166, 171, 172, 175, 176, 179, 180, 181]
noncomputable def bs (E : Ext) (k : Nat) : Base := { P := Tryz.prog, fs := E.fs, isBase := E.isBase, base := E.base, fl := fl, ln := ln, hd := hd, glob := glob, dirs := dirs, k := k }
/-- An extension that has no given functions: for what doesn't look at them. -/
def E0 : Ext := { fs := [], isBase := fun _ => false, base := fun _ _ => none }
class Core (E : Ext) : Prop where
  isB : ∀ f, coreFs.contains f = true → E.isBase f = false
  has : ∀ f, coreFs.contains f = true → E.fs.contains f = true
/-- What a function answers, calls nested n deep, k rounds of each loop. -/
noncomputable def kp (E : Ext) (k n : Nat) : FuncId → List AV → Option AV := (bs E k).kap n
theorem kp_at {E : Ext} [h : Core E] {k n : Nat} {f : FuncId} {args : List AV} (hf : coreFs.contains f = true) : kp E k (n + 1) f args = (bs E k).at (kp E k n) f args := Base.kap_at (h.isB f hf) (h.has f hf) args
theorem kp_base {E : Ext} {k n : Nat} {f : FuncId} {args : List AV} (hf : E.isBase f = true) : kp E k n f args = E.base f args := Base.kap_base (B := bs E k) hf args
end Go.Proofs.YtilbahgfjfcikaaGreatDoor.Eng.U

/- What the rows of a seat with laid tables and sentinels share: the tables, the witness. -/
set_option linter.unusedVariables false
set_option linter.unusedSimpArgs false
namespace Go.Proofs.YtilbahgfjfcikaaGreatDoor.row
open Go Go.ChangeShapes Go.WideShapes Go.ChangeAt Go.RowKit Go.Proofs Go.Shelf Go.Proofs.YtilbahgfjfcikaaGreatDoor.Eng Go.Proofs.YtilbahgfjfcikaaGreatDoor.Eng.Rdv

theorem own : ownKnob Tryz.prog.godebug = none := by kernel_rfl
theorem laidOut : laidOutB Tryz.prog = true := by kernel_rfl
section
variable {H : Type} {enc : TypeId × Value → H} {P : Program} {w : World} {base : Nat} {sp : Nat → Bool} {held : Bool}
theorem arr_len {fuel : Nat} {t e : TypeId} {n : Nat} {cs : List Value} {d : DataW H} {p : List MemPlace} (ht : P.underlying t = some (.array n e)) (h : DataW.trod enc P w base sp held fuel t cs = some (d, p)) : cs.length = P.cellsOf t := by
  cases fuel with
  | zero => simp [DataW.trod] at h
  | succ fuel =>
    simp only [DataW.trod, ht] at h
    split at h
    · assumption
    · cases h
theorem iface_only {fuel : Nat} {t : TypeId} {ms : Array (String × TypeId)} {cs : List Value} {nm : String} {d : DataW H} {p : List MemPlace} (ht : P.underlying t = some (.interface ms)) (h : DataW.trod enc P w base sp held fuel t cs = some (.iface nm d, p)) : ∃ u v, cs = [.iface u v] := by
  cases fuel with
  | zero => simp [DataW.trod] at h
  | succ fuel =>
    simp only [DataW.trod, ht] at h
    split at h <;> first | exact ⟨_, _, rfl⟩ | (cases h; done) | simp_all
end
theorem add0 (g j : Nat) : (⟨g, 0, none⟩ : Addr).add j = ⟨g, j, none⟩ := by rw [add_lit', Nat.zero_add]
/-- A variable of so many leaves, cell by cell. -/
theorem glob_one {W : World} {g : Nat} {arr : Array Value} {name : String} (hn : Tryz.prog.globalNamed name = some g) (hv : W.var? Tryz.prog name = some arr) (cs : List AV) (f : Nat → Value) (hl : arr.size = cs.length) (hleaf : ∀ (j : Nat) (c : AV), cs[j]? = some c → c.leaf = true ∧ arr[j]? = some (f j) ∧ V (stab W) c (f j)) :
    V (stab W) (.eptr cs 0) (.pointer (some ⟨g, 0, none⟩)) ∧ ∃ arr t f, W.heap[g]? = some (.cells arr t f) ∧ arr.size = cs.length := by
  refine ⟨?_, ?_⟩
  · have := V.eptr (S := stab W) cs 0 ⟨g, 0, none⟩ f (fun j c h => (hleaf j c h).1) (fun j c h => by
      rw [add0]
      show W.cell? ⟨g, j, none⟩ = _
      rw [World.var?_cell hn hv j]
      exact (hleaf j c h).2.1) (fun j c h => (hleaf j c h).2.2)
    rwa [add0] at this
  · unfold World.var? at hv
    rw [hn, Option.bind_some] at hv
    split at hv
    · rename_i cs' t f' he
      obtain rfl := Option.some.inj hv
      exact ⟨_, _, _, he, hl⟩
    · cases hv
theorem ints_one {W : World} {g : Nat} {name : String} {k : IntKind} {zs : List Int} (hn : Tryz.prog.globalNamed name = some g) (hv : W.var? Tryz.prog name = some (zs.map fun z => Value.int k z).toArray) :
    V (stab W) (.eptr (zs.map fun z => .int k z) 0) (.pointer (some ⟨g, 0, none⟩)) ∧ ∃ arr t f, W.heap[g]? = some (.cells arr t f) ∧ arr.size = (zs.map fun z => AV.int k z).length := by
  refine glob_one hn hv _ (fun j => .int k (zs.getD j 0)) (by simp) fun j c hc => ?_
  rw [List.getElem?_map] at hc
  obtain ⟨z, hz, rfl⟩ := Option.map_eq_some_iff.1 hc
  refine ⟨rfl, ?_, ?_⟩
  · simp [List.getD_eq_getElem?_getD, hz]
  · rw [List.getD_eq_getElem?_getD, hz]; exact V.int _ _
theorem iface_one {W : World} {g : Nat} {name : String} {nm : String} {d : DataW Unit} {t : TypeId} {ms : Array (String × TypeId)} (hn : Tryz.prog.globalNamed name = some g) (hy : (Tryz.prog.globals[g]?).map (·.type) = some t) (hi : Tryz.prog.underlying t = some (.interface ms)) (h : Lib.VarReads Tryz.prog W name (.iface nm d)) :
    V (stab W) (.eptr [.ifc] 0) (.pointer (some ⟨g, 0, none⟩)) ∧ ∃ arr t f, W.heap[g]? = some (.cells arr t f) ∧ arr.size = [AV.ifc].length := by
  obtain ⟨g', t', cs, fuel, p, hg, hty, hvar, hd⟩ := h
  obtain rfl := Option.some.inj (hn.symm.trans hg)
  obtain rfl := Option.some.inj (hy.symm.trans hty)
  obtain ⟨u, v, e⟩ := iface_only hi hd
  obtain ⟨cs⟩ := cs
  obtain rfl : cs = [.iface u v] := e
  refine glob_one hn hvar _ (fun _ => .iface u v) rfl fun j c hc => ?_
  match j with
  | 0 => cases hc; exact ⟨rfl, rfl, V.ifc _ _⟩
  | j + 1 => simp at hc
theorem tab_var {W : World} {g : Nat} {name : String} {k : IntKind} {zs : List Int} {t e : TypeId} {n : Nat} (hn : Tryz.prog.globalNamed name = some g) (hy : (Tryz.prog.globals[g]?).map (·.type) = some t) (ht : Tryz.prog.underlying t = some (.array n e)) (he : Tryz.prog.underlying e = some (.int k)) (hce : Tryz.prog.cellsOf e = 1) (hct : Tryz.prog.cellsOf t = n) (h : Lib.VarReads Tryz.prog W name (Lib.tabData k zs)) : W.var? Tryz.prog name = some (zs.map fun z => Value.int k z).toArray := by
  obtain ⟨g', t', cs, fuel, p, hg, hty, hvar, hd⟩ := h
  obtain rfl := Option.some.inj (hn.symm.trans hg)
  obtain rfl := Option.some.inj (hy.symm.trans hty)
  rw [hvar, ← Lib.cells_of_tab ht he hce hct hd]
/-- What the row's laid variables give. -/
theorem tables {W : World} {l : List (String × DataW Unit)} (hl : l = [("math/bits.deBruijn32tab", Rows.laid_math_bits_deBruijn32tab), ("math/bits.deBruijn64tab", Rows.laid_math_bits_deBruijn64tab), ("internal/strconv.uint64pow10", Rows.laid_internal_strconv_uint64pow10), ("unicode/utf8.acceptRanges", Rows.laid_unicode_utf8_acceptRanges), ("strconv.ErrRange", Rows.laid_strconv_ErrRange), ("strconv.ErrSyntax", Rows.laid_strconv_ErrSyntax), ("unicode/utf8.first", Rows.laid_unicode_utf8_first)]) (h : laidMetH Tryz.prog l W) : GlobOk U.glob (stab W) W := by
  subst hl
  have h' : laidMet Tryz.prog [("math/bits.deBruijn32tab", Rows.laid_math_bits_deBruijn32tab), ("math/bits.deBruijn64tab", Rows.laid_math_bits_deBruijn64tab), ("internal/strconv.uint64pow10", Lib.tabData .u64 Lib.pow10Tab), ("unicode/utf8.acceptRanges", Lib.acceptData), ("strconv.ErrRange", Rows.laid_strconv_ErrRange), ("strconv.ErrSyntax", Rows.laid_strconv_ErrSyntax), ("unicode/utf8.first", Lib.firstData)] W := by
    have e1 : (Rows.laid_unicode_utf8_acceptRanges : DataW Unit) = Lib.acceptData := by kernel_rfl
    have e2 : Rows.laid_unicode_utf8_first = Lib.firstData := by kernel_rfl
    have e3 : (Rows.laid_internal_strconv_uint64pow10 : DataW Unit) = Lib.tabData .u64 Lib.pow10Tab := by kernel_rfl
    rw [← e1, ← e2, ← e3]
    exact h
  have r1 : Lib.VarReads Tryz.prog W "internal/strconv.uint64pow10" (Lib.tabData .u64 Lib.pow10Tab) := Lib.laidMet.reads h' (.tail _ (.tail _ (.head _)))
  have r3 : Lib.VarReads Tryz.prog W "strconv.ErrSyntax" Rows.laid_strconv_ErrSyntax := Lib.laidMet.reads h' (.tail _ (.tail _ (.tail _ (.tail _ (.tail _ (.head _))))))
  have r4 : Lib.VarReads Tryz.prog W "strconv.ErrRange" Rows.laid_strconv_ErrRange := Lib.laidMet.reads h' (.tail _ (.tail _ (.tail _ (.tail _ (.head _)))))
  have r7 : Lib.VarReads Tryz.prog W "unicode/utf8.first" Lib.firstData := Lib.laidMet.reads h' (.tail _ (.tail _ (.tail _ (.tail _ (.tail _ (.tail _ (.head _)))))))
  have r8 : Lib.VarReads Tryz.prog W "unicode/utf8.acceptRanges" Lib.acceptData := Lib.laidMet.reads h' (.tail _ (.tail _ (.tail _ (.head _))))
  have hU : Lib.Utf8Tabs 3 4 W := Go.Proofs.utf8Tabs_of_reads (P := Tryz.prog) (ρ := Tryz.lays260_ren) { Tryz.lays260 with } ⟨by kernel_rfl, by kernel_rfl, by kernel_rfl, by kernel_rfl, by kernel_rfl, by kernel_rfl, by kernel_rfl⟩ r7 r8
  intro g cs hg
  unfold U.glob at hg
  split at hg
  · rename_i h0
    subst h0
    obtain rfl := Option.some.inj hg
    have := ints_one (g := 3) (name := "unicode/utf8.first") (by kernel_rfl) (tab_var (g := 3) (t := 190) (e := 5) (n := 256) (by kernel_rfl) (by kernel_rfl) Tryz.underlying190 Tryz.underlying5 (by kernel_rfl) (by kernel_rfl) r7)
    rw [Lib.firstTab, List.map_map] at this
    exact this
  · split at hg
    · rename_i h0 h1
      subst h1
      obtain rfl := Option.some.inj hg
      obtain ⟨g', t', cs, fuel, p, hgn, hty, hvar, hd⟩ := r8
      obtain rfl := Option.some.inj ((show Tryz.prog.globalNamed "unicode/utf8.acceptRanges" = some 4 by kernel_rfl).symm.trans hgn)
      obtain rfl := Option.some.inj ((show (Tryz.prog.globals[4]?).map (·.type) = some 193 by kernel_rfl).symm.trans hty)
      have hlen := arr_len Tryz.underlying193 hd
      have hsz : Tryz.prog.cellsOf 193 = 32 := by kernel_rfl
      rw [hsz, Array.length_toList] at hlen
      refine glob_one hgn hvar _ (fun i => .int .u8 (((if i % 2 = 0 then Lib.accLo (i / 2) else Lib.accHi (i / 2) : Nat) : Int))) (by simp [hlen]) fun j c hc => ?_
      rw [List.getElem?_map] at hc
      obtain ⟨x, hx, rfl⟩ := Option.map_eq_some_iff.1 hc
      obtain ⟨hj, rfl⟩ := List.getElem?_eq_some_iff.1 hx
      rw [List.length_range] at hj
      rw [List.getElem_range]
      refine ⟨rfl, ?_, V.int _ _⟩
      rw [← World.var?_cell hgn hvar j]
      obtain ⟨h2, h3⟩ := hU.2 (j / 2) (by omega)
      by_cases hm : j % 2 = 0
      · rw [if_pos hm]
        rwa [show 2 * (j / 2) = j from by omega] at h2
      · rw [if_neg hm]
        rwa [show 2 * (j / 2) + 1 = j from by omega] at h3
    · split at hg
      · rename_i h0 h1 h2
        subst h2
        obtain rfl := Option.some.inj hg
        exact ints_one (g := 1) (name := "internal/strconv.uint64pow10") (by kernel_rfl) (tab_var (g := 1) (t := 175) (e := 118) (n := 20) (by kernel_rfl) (by kernel_rfl) Tryz.underlying175 Tryz.underlying118 (by kernel_rfl) (by kernel_rfl) r1)
      · split at hg
        · rename_i h0 h1 h2 h3
          subst h3
          obtain rfl := Option.some.inj hg
          exact iface_one (name := "strconv.ErrSyntax") (by kernel_rfl) (t := 79) (by kernel_rfl) Tryz.underlying79 r3
        · split at hg
          · rename_i h0 h1 h2 h3 h4
            subst h4
            obtain rfl := Option.some.inj hg
            exact iface_one (name := "strconv.ErrRange") (by kernel_rfl) (t := 79) (by kernel_rfl) Tryz.underlying79 r4
          · cases hg
/-- The cells that a datum of numbers is. -/
def litV : DataW Unit → Value
  | .lit (.int k n) => .int k n
  | _ => .nilIface
def rowV : DataW Unit → Array Value
  | .agg l => (l.map litV).toArray
  | _ => #[]
/-- So many blocks has the settled world. -/
noncomputable def low : Nat := (World.holding Tryz.prog default ⟨#[], #[], []⟩).heap.size
/-- The witness: the settled memory with the two errors' texts behind it, the variables holding what their initialisers lay. -/
noncomputable def laidWorld (os : Os) : World :=
  let w0 := World.holding Tryz.prog os ⟨#[.cells #[.string ⟨#[118, 97, 108, 117, 101, 32, 111, 117, 116, 32, 111, 102, 32, 114, 97, 110, 103, 101]⟩] 204, .cells #[.string ⟨#[105, 110, 118, 97, 108, 105, 100, 32, 115, 121, 110, 116, 97, 120]⟩] 204], #[], []⟩
  let put (h : Array Obj) (g : Nat) (cs : Array Value) : Array Obj := h.modify g fun
    | .cells _ t frozen => .cells cs t frozen
    | o => o
  let h1 := put w0.heap 3 (Lib.firstTab.map fun z => Value.int .u8 z).toArray
  let h2 := put h1 4 ((List.range 16).flatMap fun i => [Value.int .u8 (Lib.accLo i), Value.int .u8 (Lib.accHi i)]).toArray
  let h3 := put h2 7 (rowV Rows.laid_math_bits_deBruijn32tab)
  let h4 := put h3 8 (rowV Rows.laid_math_bits_deBruijn64tab)
  let h5 := put h4 1 (rowV Rows.laid_internal_strconv_uint64pow10)
  let h6 := put h5 6 #[.iface 202 (.pointer (some ⟨low, 0, none⟩))]
  let h7 := put h6 5 #[.iface 202 (.pointer (some ⟨low + 1, 0, none⟩))]
  { w0 with heap := h7 }
noncomputable abbrev laidBlocks : List Nat := [7, 8, 1, 4, 6, 5, 3, low, low + 1]
theorem cells_str (s : ByteArray) : (Value.string s).cells.toList = [Value.string s] := rfl
theorem cells_int (k : IntKind) (n : Int) : (Value.int k n).cells.toList = [Value.int k n] := rfl
theorem cells_bool (b : Bool) : (Value.bool b).cells.toList = [Value.bool b] := rfl
theorem cells_slice (a : Option Addr) (l c : Nat) : (Value.slice a l c).cells.toList = [Value.slice a l c] := rfl
end Go.Proofs.YtilbahgfjfcikaaGreatDoor.row

/- Given functions in pieces: each with what it answers, and that it does. -/
set_option linter.unusedVariables false
set_option linter.unusedSectionVars false
set_option linter.unusedSimpArgs false
namespace Go.Proofs.YtilbahgfjfcikaaGreatDoor.Eng.U
open Go Go.Proofs Go.Proofs.YtilbahgfjfcikaaGreatDoor.Eng Go.RowKit

structure Piece where
  f : FuncId
  ans : List AV → Option AV
def extOf (ps : List Piece) : Ext := { fs := coreFs, isBase := fun f => ps.any fun p => p.f == f, base := fun f args => (ps.find? fun p => p.f == f).bind fun p => p.ans args }
def Piece.Right (p : Piece) : Prop := Enters Tryz.prog p.f ∧ ∀ args res, p.ans args = some res → Ok Tryz.prog glob p.f args res
theorem core_of {ps : List Piece} (h : coreFs.all (fun f => !ps.any fun p => p.f == f) = true) : Core (extOf ps) where
  isB f hf := by
    have := List.all_eq_true.1 h f (List.contains_iff_mem.1 hf)
    simpa [extOf] using this
  has f hf := hf
theorem good_of {ps : List Piece} (h : ∀ p ∈ ps, p.Right) (hn : coreFs.all (namedOk Tryz.prog) = true) (k : Nat) : (bs (extOf ps) k).Good where
  mixed := by kernel_rfl
  names := hn
  base f args res hb hr := by
    change ((ps.find? fun p => p.f == f).bind fun p => p.ans args) = some res at hr
    obtain ⟨p, hp, ha⟩ := Option.bind_eq_some_iff.1 hr
    have hm := List.mem_of_find?_eq_some hp
    have hf : (p.f == f) = true := List.find?_some (p := fun q : Piece => q.f == f) hp
    have hf : p.f = f := by simpa using hf
    obtain ⟨h1, h2⟩ := h p hm
    rw [hf] at h1 h2
    exact ⟨h1, h2 args res ha⟩
theorem names_ok : coreFs.all (namedOk Tryz.prog) = true := by kernel_rfl
theorem kp_piece {ps : List Piece} {p : Piece} {k n : Nat} {args : List AV} (hp : ps.find? (fun q => q.f == p.f) = some p) : kp (extOf ps) k n p.f args = p.ans args := by
  rw [kp_base (by
    show (ps.any fun q => q.f == p.f) = true
    have := List.find?_some (p := fun q : Piece => q.f == p.f) hp
    exact List.any_eq_true.2 ⟨p, List.mem_of_find?_eq_some hp, this⟩)]
  show ((ps.find? fun q => q.f == p.f).bind fun q => q.ans args) = _
  rw [hp]
  rfl
theorem VL_1 {S : Stab} {x : AV} {vals : List Value} (h : VL S [x] vals) : ∃ v, vals = [v] ∧ V S x v := by
  obtain ⟨h1, h2⟩ := h
  match vals, h1 with
  | [v], _ => exact ⟨v, rfl, h2 0 _ _ rfl rfl⟩
theorem VL_2 {S : Stab} {x y : AV} {vals : List Value} (h : VL S [x, y] vals) : ∃ v u, vals = [v, u] ∧ V S x v ∧ V S y u := by
  obtain ⟨h1, h2⟩ := h
  match vals, h1 with
  | [v, u], _ => exact ⟨v, u, rfl, h2 0 _ _ rfl rfl, h2 1 _ _ rfl rfl⟩
theorem VL_3 {S : Stab} {x y z : AV} {vals : List Value} (h : VL S [x, y, z] vals) : ∃ v u t, vals = [v, u, t] ∧ V S x v ∧ V S y u ∧ V S z t := by
  obtain ⟨h1, h2⟩ := h
  match vals, h1 with
  | [v, u, t], _ => exact ⟨v, u, t, rfl, h2 0 _ _ rfl rfl, h2 1 _ _ rfl rfl, h2 2 _ _ rfl rfl⟩
theorem V_str {S : Stab} {s : ByteArray} {v : Value} (h : V S (.str s) v) : v = .string s := by cases h; rfl
theorem V_int {S : Stab} {k : IntKind} {n : Int} {v : Value} (h : V S (.int k n) v) : v = .int k n := by cases h; rfl
theorem V_bool {S : Stab} {b : Bool} {v : Value} (h : V S (.bool b) v) : v = .bool b := by cases h; rfl
theorem agree_below {S : Stab} {w w' : World} (h : Agree S w) (hb : Below w.heap.size w w') : Agree S w' := fun x v hx =>
  (World.cell?_of_block (hb.block _ (World.block_lt_of_cell? w x (h x v hx)))).trans (h x v hx)
/-- A result that is pure, and nothing that lay has turned. -/
theorem ok_pure {f : FuncId} {args : List AV} {res : AV} (hres : res.isTup = false ∧ res.isFresh = false) (h : ∀ (S : Stab) (w : World) (vals : List Value), Agree S w → GlobOk glob S w → VL S args vals → Calls Tryz.prog f vals.toArray w fun e w' => ∃ v, e = .returned v ∧ (∀ S', V S' res v) ∧ Below w.heap.size w w') (hr : (args.all fun c => !c.isRes) = true := by rfl) : Ok Tryz.prog glob f args res := by
  refine Ok.of_plain (fun c hc => by simpa using List.all_eq_true.1 hr c hc) fun S w vals hag hG hV => ?_
  refine (h S w vals hag hG hV).mono ?_
  rintro e w' ⟨v, rfl, hv, hb⟩
  refine ⟨v, S, rfl, fun _ _ h => h, agree_below hag hb, fun _ _ h => .inl h, hb, ?_⟩
  have := hv S
  cases res <;> first | (cases hres.1; done) | (cases hres.2; done) | exact this
/-- A new row, frozen as it comes. -/
theorem row_V {S : Stab} {B : Nat} {w : World} {e : TypeId} {sz : Nat} {v : Value} {us : List Value} {xs : List AV} (hag : Agree S w) (hown : w.ownsRow B e sz v xs.length us) (hone : ∀ (i : Nat) (x : AV), xs[i]? = some x → x.cells.length = sz ∧ ∀ (j : Nat) (c : AV), x.cells[j]? = some c → c.leaf = true ∧ ∀ u, us[i * sz + j]? = some u → V S c u) :
    ∃ S', S.le S' ∧ Agree S' w ∧ (∀ x u, S' x = some u → S x = some u ∨ B ≤ x.block) ∧ V S' (.list sz xs) v := by
  have hul : us.length = xs.length * sz := hown.1
  rcases ownsRow_form hown with ⟨rfl, hn⟩ | ⟨g, cap, rfl, hb⟩
  · have hx : xs = [] := List.eq_nil_of_length_eq_zero hn
    subst hx
    exact ⟨S, fun _ _ h => h, hag, fun _ _ h => .inl h, .listn _⟩
  · let S' : Stab := fun x => if x.block = g ∧ x.spot = none ∧ x.off < xs.length * sz then w.cell? x else S x
    have hle : S.le S' := by
      intro x v hx
      show (if _ then _ else _) = _
      split
      · exact hag x v hx
      · exact hx
    have hS'g : ∀ k u, us[k]? = some u → S' ⟨g, k, none⟩ = some u := by
      intro k u hu
      have hk : k < xs.length * sz := by rw [← hul]; exact (List.getElem?_eq_some_iff.1 hu).1
      show (if _ then _ else _) = _
      rw [if_pos ⟨rfl, rfl, hk⟩]
      exact cell_of_us hown rfl hu
    refine ⟨S', hle, fun x v hx => ?_, fun x u hx => ?_, ?_⟩
    · have hx : (if x.block = g ∧ x.spot = none ∧ x.off < xs.length * sz then w.cell? x else S x) = some v := hx
      split at hx
      · exact hx
      · exact hag x v hx
    · have hx : (if x.block = g ∧ x.spot = none ∧ x.off < xs.length * sz then w.cell? x else S x) = some u := hx
      split at hx
      · rename_i hh; exact .inr (by rw [hh.1]; exact hb)
      · exact .inl hx
    · have hcle : xs.length ≤ cap := by
        rcases hown.2 with ⟨hv2, _⟩ | ⟨g2, cap2, cur2, hv2, _, _, hnc, _⟩
        · cases hv2
        · cases hv2; exact hnc
      have hval : ∀ (i : Nat) (x : AV) (j : Nat) (c : AV), xs[i]? = some x → x.cells[j]? = some c → us[i * sz + j]? = some (us.getD (i * sz + j) undef) := by
        intro i x j c hx hj
        have hi : i < xs.length := (List.getElem?_eq_some_iff.1 hx).1
        have hj' : j < sz := by rw [← (hone i x hx).1]; exact (List.getElem?_eq_some_iff.1 hj).1
        have hlt : i * sz + j < us.length := by rw [hul]; exact flat_lt hi hj'
        rw [List.getD_eq_getElem?_getD, List.getElem?_eq_getElem hlt]; rfl
      exact .list _ _ _ _ (fun i j => us.getD (i * sz + j) undef) hcle (fun i x hx => (hone i x hx).1) (fun i x j c hx hj => ((hone i x hx).2 j c hj).1)
        (fun i x j c hx hj => by rw [add_lit', Nat.zero_add]; exact hS'g _ _ (hval i x j c hx hj))
        (fun i x j c hx hj => (((hone i x hx).2 j c hj).2 _ (hval i x j c hx hj)).mono hle)
theorem ok_row {f : FuncId} {args : List AV} {e : TypeId} {sz : Nat} {xs : List AV} (h : ∀ (S : Stab) (w : World) (vals : List Value), Agree S w → GlobOk glob S w → VL S args vals → Calls Tryz.prog f vals.toArray w fun en w' => ∃ v us, en = .returned v ∧ w'.ownsRow w.heap.size e sz v xs.length us ∧
      (∀ (i : Nat) (x : AV), xs[i]? = some x → x.cells.length = sz ∧ ∀ (j : Nat) (c : AV), x.cells[j]? = some c → c.leaf = true ∧ ∀ u, us[i * sz + j]? = some u → V S c u) ∧ Below w.heap.size w w') (hr : (args.all fun c => !c.isRes) = true := by rfl) : Ok Tryz.prog glob f args (.list sz xs) := by
  refine Ok.of_plain (fun c hc => by simpa using List.all_eq_true.1 hr c hc) fun S w vals hag hG hV => ?_
  refine (h S w vals hag hG hV).mono ?_
  rintro en w' ⟨v, us, rfl, hown, hels, hb⟩
  obtain ⟨S', h1, h2, h3, h4⟩ := row_V (agree_below hag hb) hown hels
  exact ⟨v, S', rfl, h1, h2, h3, hb, h4⟩
/-- Texts out of abstract values. -/
def toStrs : List AV → Option (List (List UInt8))
  | [] => some []
  | .str s :: l => (toStrs l).bind fun r => some (s.data.toList :: r)
  | _ => none
theorem toStrs_svs : ∀ l : List (List UInt8), toStrs (svs l) = some l
  | [] => rfl
  | p :: l => by
    show (toStrs (svs l)).bind (fun r => some (p :: r)) = _
    rw [toStrs_svs l]
    rfl
theorem toStrs_some : ∀ {xs : List AV} {l : List (List UInt8)}, toStrs xs = some l → xs = svs l
  | [], l, h => by cases h; rfl
  | x :: xs, l, h => by
    unfold toStrs at h
    split at h
    · rename_i e; cases e
    · rename_i s l' e
      cases e
      obtain ⟨r, hr, he⟩ := Option.bind_eq_some_iff.1 h
      cases he
      rw [toStrs_some hr]
      have : AV.str s = sv s.data.toList := by
        show AV.str s = AV.str _
        congr 1
      rw [this]; rfl
    · cases h
end Go.Proofs.YtilbahgfjfcikaaGreatDoor.Eng.U

/- What functions answer, as the engine evaluates their code. Printed by gen2.py. -/
set_option linter.unusedVariables false
namespace Go.Proofs.YtilbahgfjfcikaaGreatDoor.Eng.U
open Go Go.Proofs Go.Proofs.YtilbahgfjfcikaaGreatDoor.Eng
/- oakum/dec.Right -/
theorem dec_Right_eq {E : Ext} [Core E] (k n : Nat) (a0_0 : Int) (a0_1 : Int) : kp E k (n + 1) dec_Right [(.agg [(.int .i64 a0_0), (.int .i64 a0_1)])] =
  (bif (decide (a0_1 ≥ (0 : Int))) then (some (.bool (decide (a0_1 < (1000000000 : Int))))) else (some (.bool false))) := (kp_at (by kernel_rfl)).trans (by kernel_rfl)
/- oakum/oakumref04.Number -/
theorem ref04_Number_eq {E : Ext} [Core E] (k n : Nat) (a0 : ByteArray) : kp E k (n + 1) ref04_Number [(.str a0)] =
  (callT (kp E k n ref04_Below [(.str a0)]) fun vt2 => (tupI .i64 vt2 fun vn3 vt4 => (tupB vt4 fun vq5 vt6 => (atNil vt6 (bif (!vq5) then (some (.tup [(.int .i64 (0 : Int)), (.bool false)])) else (bif (decide (vn3 < (-9223372036854775807 : Int))) then (some (.tup [(.int .i64 (0 : Int)), (.bool false)])) else (some (.tup [(.int .i64 (IntKind.wrap .i64 (0 - vn3))), (.bool true)])))))))) := (kp_at (by kernel_rfl)).trans (by kernel_rfl)
/- oakum/oakumref04.Time -/
noncomputable def ref04_Time_bd : Code := Tryz.f59.body.getD .skip
noncomputable def ref04_Time_L0 (kap : FuncId → List AV → Option AV) (k : Nat) (k0 : Nat) (s0 : ByteArray) (s4 : Bool) (s5 : Int) (s6 : Int) (b2_0 : Int) (b2_1 : Int) : Option AV :=
  loop (fun fr K => code ((bs E0 k).cfg kap ref04_Time) (sel ref04_Time_bd [1, 1, 1, 1, 0, 1, 0, 0]) fr K) (canon ((bs E0 k).cfg kap ref04_Time) (firstReg (sel ref04_Time_bd [1, 1, 1, 1, 0, 1, 0, 0]))) k0 (mkFr 116 [(0, (.str s0)), (2, (.loc 2 0)), (4, (.bool s4)), (5, (.int .i64 s5)), (6, (.int .i64 s6))] [(2, (.box [(.int .i64 b2_0), (.int .i64 b2_1)]))]) (plug ((bs E0 k).cfg kap ref04_Time) (retK ((bs E0 k).cfg kap ref04_Time) [] Tryz.f59 [] some) [.blk 0, .seqR (sel ref04_Time_bd [1, 1, 1, 1, 1])])
noncomputable def ref04_Time_L1 (kap : FuncId → List AV → Option AV) (k : Nat) (k1 : Nat) (s4 : Bool) (s7 : Int) (s8 : Bool) (s9 : Int) (s10 : ByteArray) (s11 : Int) (b2_0 : Int) (b2_1 : Int) : Option AV :=
  loop (fun fr K => code ((bs E0 k).cfg kap ref04_Time) (sel ref04_Time_bd [1, 1, 1, 1, 1, 1, 1, 0, 1, 0, 1, 1, 1, 0, 0]) fr K) (canon ((bs E0 k).cfg kap ref04_Time) (firstReg (sel ref04_Time_bd [1, 1, 1, 1, 1, 1, 1, 0, 1, 0, 1, 1, 1, 0, 0]))) k1 (mkFr 116 [(2, (.loc 2 0)), (4, (.bool s4)), (7, (.int .i64 s7)), (8, (.bool s8)), (9, (.int .i64 s9)), (10, (.str s10)), (11, (.int .i64 s11))] [(2, (.box [(.int .i64 b2_0), (.int .i64 b2_1)]))]) (plug ((bs E0 k).cfg kap ref04_Time) (retK ((bs E0 k).cfg kap ref04_Time) [] Tryz.f59 [] some) [.blk 2, .seqR (sel ref04_Time_bd [1, 1, 1, 1, 1, 1, 1, 1])])
theorem ref04_Time_L0_s (kap : FuncId → List AV → Option AV) (k : Nat) (k0 : Nat) (s0 : ByteArray) (s4 : Bool) (s5 : Int) (s6 : Int) (b2_0 : Int) (b2_1 : Int) : ref04_Time_L0 kap k (k0 + 1) s0 s4 s5 s6 b2_0 b2_1 =
  (bif (decide (s6 ≥ (0 : Int))) then (bif ((decide ((0 : Int) ≤ s6)) && (decide (s6 < (((ByteArray.size s0) : Nat) : Int)))) then (bif (decide ((byteAt s0 (Int.toNat s6)) = (46 : Int))) then (ref04_Time_L0 kap k k0 s0 s4 s6 (IntKind.wrap .i64 (s6 - (1 : Int))) b2_0 b2_1) else (ref04_Time_L0 kap k k0 s0 s4 s5 (IntKind.wrap .i64 (s6 - (1 : Int))) b2_0 b2_1)) else none) else (bif ((decide ((0 : Int) ≤ s5)) && (decide (s5 ≤ (((ByteArray.size s0) : Nat) : Int)))) then (callT (kap ref04_Below [(.str (ByteArray.extract s0 0 (Int.toNat s5)))]) fun vt2 => (tupI .i64 vt2 fun vn3 vt4 => (tupB vt4 fun vq5 vt6 => (atNil vt6 (bif (decide (s5 < (((ByteArray.size s0) : Nat) : Int))) then (bif ((decide ((0 : Int) ≤ (IntKind.wrap .i64 (s5 + (1 : Int))))) && (decide ((IntKind.wrap .i64 (s5 + (1 : Int))) ≤ (((ByteArray.size s0) : Nat) : Int)))) then (callB (kap ref04_only [(.str (ByteArray.extract s0 (Int.toNat (IntKind.wrap .i64 (s5 + (1 : Int)))) (ByteArray.size s0)))]) fun vq8 => (bif (!vq8) then (some (.tup [(.agg [(.int .i64 (0 : Int)), (.int .i64 (0 : Int))]), (.bool false)])) else (bif (decide ((((ByteArray.size (ByteArray.extract s0 (Int.toNat (IntKind.wrap .i64 (s5 + (1 : Int)))) (ByteArray.size s0))) : Nat) : Int) > (9 : Int))) then (some (.tup [(.agg [(.int .i64 (0 : Int)), (.int .i64 (0 : Int))]), (.bool false)])) else (ref04_Time_L1 kap k k s4 vn3 vq5 (0 : Int) (ByteArray.extract s0 (Int.toNat (IntKind.wrap .i64 (s5 + (1 : Int)))) (ByteArray.size s0)) (0 : Int) b2_0 b2_1)))) else none) else (bif (!vq5) then (some (.tup [(.agg [(.int .i64 (0 : Int)), (.int .i64 (0 : Int))]), (.bool false)])) else (bif (!s4) then (bif (decide (vn3 = (-9223372036854775808 : Int))) then (some (.tup [(.agg [(.int .i64 (0 : Int)), (.int .i64 (0 : Int))]), (.bool false)])) else (bif s4 then (bif (decide (vn3 = (-9223372036854775808 : Int))) then (bif (!s4) then (some (.tup [(.agg [(.int .i64 (IntKind.wrap .i64 (0 - vn3))), (.int .i64 (0 : Int))]), (.bool true)])) else (some (.tup [(.agg [(.int .i64 vn3), (.int .i64 (0 : Int))]), (.bool true)]))) else (bif (!s4) then (some (.tup [(.agg [(.int .i64 (IntKind.wrap .i64 (0 - vn3))), (.int .i64 (0 : Int))]), (.bool true)])) else (some (.tup [(.agg [(.int .i64 vn3), (.int .i64 (0 : Int))]), (.bool true)])))) else (bif (!s4) then (some (.tup [(.agg [(.int .i64 (IntKind.wrap .i64 (0 - vn3))), (.int .i64 (0 : Int))]), (.bool true)])) else (some (.tup [(.agg [(.int .i64 vn3), (.int .i64 (0 : Int))]), (.bool true)]))))) else (bif s4 then (bif (decide (vn3 = (-9223372036854775808 : Int))) then (bif (!s4) then (some (.tup [(.agg [(.int .i64 (IntKind.wrap .i64 (0 - vn3))), (.int .i64 (0 : Int))]), (.bool true)])) else (some (.tup [(.agg [(.int .i64 vn3), (.int .i64 (0 : Int))]), (.bool true)]))) else (bif (!s4) then (some (.tup [(.agg [(.int .i64 (IntKind.wrap .i64 (0 - vn3))), (.int .i64 (0 : Int))]), (.bool true)])) else (some (.tup [(.agg [(.int .i64 vn3), (.int .i64 (0 : Int))]), (.bool true)])))) else (bif (!s4) then (some (.tup [(.agg [(.int .i64 (IntKind.wrap .i64 (0 - vn3))), (.int .i64 (0 : Int))]), (.bool true)])) else (some (.tup [(.agg [(.int .i64 vn3), (.int .i64 (0 : Int))]), (.bool true)]))))))))))) else none)) := by kernel_rfl
theorem ref04_Time_L1_s (kap : FuncId → List AV → Option AV) (k : Nat) (k1 : Nat) (s4 : Bool) (s7 : Int) (s8 : Bool) (s9 : Int) (s10 : ByteArray) (s11 : Int) (b2_0 : Int) (b2_1 : Int) : ref04_Time_L1 kap k (k1 + 1) s4 s7 s8 s9 s10 s11 b2_0 b2_1 =
  (bif (decide (s11 < (9 : Int))) then (bif (decide (s11 < (((ByteArray.size s10) : Nat) : Int))) then (bif ((decide ((0 : Int) ≤ s11)) && (decide (s11 < (((ByteArray.size s10) : Nat) : Int)))) then (ref04_Time_L1 kap k k1 s4 s7 s8 (IntKind.wrap .i64 ((IntKind.wrap .i64 ((IntKind.wrap .i64 ((10 : Int) * s9)) + (IntKind.wrap .i64 (byteAt s10 (Int.toNat s11))))) - (48 : Int))) s10 (IntKind.wrap .i64 (s11 + (1 : Int))) b2_0 b2_1) else none) else (ref04_Time_L1 kap k k1 s4 s7 s8 (IntKind.wrap .i64 ((10 : Int) * s9)) s10 (IntKind.wrap .i64 (s11 + (1 : Int))) b2_0 b2_1)) else (bif (!s8) then (some (.tup [(.agg [(.int .i64 (0 : Int)), (.int .i64 (0 : Int))]), (.bool false)])) else (bif (!s4) then (bif (decide (s7 = (-9223372036854775808 : Int))) then (some (.tup [(.agg [(.int .i64 (0 : Int)), (.int .i64 (0 : Int))]), (.bool false)])) else (bif s4 then (bif (decide (s7 = (-9223372036854775808 : Int))) then (bif (decide (s9 > (0 : Int))) then (some (.tup [(.agg [(.int .i64 (0 : Int)), (.int .i64 (0 : Int))]), (.bool false)])) else (bif (!s4) then (some (.tup [(.agg [(.int .i64 (IntKind.wrap .i64 (0 - s7))), (.int .i64 s9)]), (.bool true)])) else (bif (decide (s9 = (0 : Int))) then (some (.tup [(.agg [(.int .i64 s7), (.int .i64 (0 : Int))]), (.bool true)])) else (some (.tup [(.agg [(.int .i64 (IntKind.wrap .i64 (s7 - (1 : Int)))), (.int .i64 (IntKind.wrap .i64 ((1000000000 : Int) - s9)))]), (.bool true)]))))) else (bif (!s4) then (some (.tup [(.agg [(.int .i64 (IntKind.wrap .i64 (0 - s7))), (.int .i64 s9)]), (.bool true)])) else (bif (decide (s9 = (0 : Int))) then (some (.tup [(.agg [(.int .i64 s7), (.int .i64 (0 : Int))]), (.bool true)])) else (some (.tup [(.agg [(.int .i64 (IntKind.wrap .i64 (s7 - (1 : Int)))), (.int .i64 (IntKind.wrap .i64 ((1000000000 : Int) - s9)))]), (.bool true)]))))) else (bif (!s4) then (some (.tup [(.agg [(.int .i64 (IntKind.wrap .i64 (0 - s7))), (.int .i64 s9)]), (.bool true)])) else (bif (decide (s9 = (0 : Int))) then (some (.tup [(.agg [(.int .i64 s7), (.int .i64 (0 : Int))]), (.bool true)])) else (some (.tup [(.agg [(.int .i64 (IntKind.wrap .i64 (s7 - (1 : Int)))), (.int .i64 (IntKind.wrap .i64 ((1000000000 : Int) - s9)))]), (.bool true)])))))) else (bif s4 then (bif (decide (s7 = (-9223372036854775808 : Int))) then (bif (decide (s9 > (0 : Int))) then (some (.tup [(.agg [(.int .i64 (0 : Int)), (.int .i64 (0 : Int))]), (.bool false)])) else (bif (!s4) then (some (.tup [(.agg [(.int .i64 (IntKind.wrap .i64 (0 - s7))), (.int .i64 s9)]), (.bool true)])) else (bif (decide (s9 = (0 : Int))) then (some (.tup [(.agg [(.int .i64 s7), (.int .i64 (0 : Int))]), (.bool true)])) else (some (.tup [(.agg [(.int .i64 (IntKind.wrap .i64 (s7 - (1 : Int)))), (.int .i64 (IntKind.wrap .i64 ((1000000000 : Int) - s9)))]), (.bool true)]))))) else (bif (!s4) then (some (.tup [(.agg [(.int .i64 (IntKind.wrap .i64 (0 - s7))), (.int .i64 s9)]), (.bool true)])) else (bif (decide (s9 = (0 : Int))) then (some (.tup [(.agg [(.int .i64 s7), (.int .i64 (0 : Int))]), (.bool true)])) else (some (.tup [(.agg [(.int .i64 (IntKind.wrap .i64 (s7 - (1 : Int)))), (.int .i64 (IntKind.wrap .i64 ((1000000000 : Int) - s9)))]), (.bool true)]))))) else (bif (!s4) then (some (.tup [(.agg [(.int .i64 (IntKind.wrap .i64 (0 - s7))), (.int .i64 s9)]), (.bool true)])) else (bif (decide (s9 = (0 : Int))) then (some (.tup [(.agg [(.int .i64 s7), (.int .i64 (0 : Int))]), (.bool true)])) else (some (.tup [(.agg [(.int .i64 (IntKind.wrap .i64 (s7 - (1 : Int)))), (.int .i64 (IntKind.wrap .i64 ((1000000000 : Int) - s9)))]), (.bool true)])))))))) := by kernel_rfl
theorem ref04_Time_eq {E : Ext} [Core E] (k n : Nat) (a0 : ByteArray) : kp E k (n + 1) ref04_Time [(.str a0)] =
  (bif (decide ((((ByteArray.size a0) : Nat) : Int) > (0 : Int))) then (bif (decide ((0 : Int) < (((ByteArray.size a0) : Nat) : Int))) then (bif (decide ((byteAt a0 0) = (45 : Int))) then (bif (decide ((1 : Int) ≤ (((ByteArray.size a0) : Nat) : Int))) then (ref04_Time_L0 (kp E k n) k k (ByteArray.extract a0 1 (ByteArray.size a0)) (decide ((byteAt a0 0) = (45 : Int))) (((ByteArray.size (ByteArray.extract a0 1 (ByteArray.size a0))) : Nat) : Int) (IntKind.wrap .i64 ((((ByteArray.size (ByteArray.extract a0 1 (ByteArray.size a0))) : Nat) : Int) - (1 : Int))) (0 : Int) (0 : Int)) else none) else (ref04_Time_L0 (kp E k n) k k a0 (decide ((byteAt a0 0) = (45 : Int))) (((ByteArray.size a0) : Nat) : Int) (IntKind.wrap .i64 ((((ByteArray.size a0) : Nat) : Int) - (1 : Int))) (0 : Int) (0 : Int))) else none) else (ref04_Time_L0 (kp E k n) k k a0 false (((ByteArray.size a0) : Nat) : Int) (IntKind.wrap .i64 ((((ByteArray.size a0) : Nat) : Int) - (1 : Int))) (0 : Int) (0 : Int))) := (kp_at (by kernel_rfl)).trans (by kernel_rfl)
/- oakum/oakumref04.Digits -/
theorem ref04_Digits_eq {E : Ext} [Core E] (k n : Nat) (a0 : Int) : kp E k (n + 1) ref04_Digits [(.int .i64 a0)] =
  (bif (decide (a0 < (10 : Int))) then ((toBytes [(.int .u8 (IntKind.wrap .u8 (IntKind.wrap .i64 ((48 : Int) + a0))))]).bind fun vl1 => (some (.str (str vl1)))) else (callS (kp E k n ref04_Digits [(.int .i64 (IntKind.wrap .i64 (Int.tdiv a0 (10 : Int))))]) fun vs3 => ((toBytes [(.int .u8 (IntKind.wrap .u8 (IntKind.wrap .i64 ((48 : Int) + (Int.tmod a0 (10 : Int))))))]).bind fun vl4 => (bif (decide ((ByteArray.size vs3) + (ByteArray.size (str vl4)) ≤ 9223372036854775807)) then (some (.str (vs3 ++ (str vl4)))) else none)))) := (kp_at (by kernel_rfl)).trans (by kernel_rfl)
/- oakum/oakumref04.Text -/
theorem ref04_Text_eq {E : Ext} [Core E] (k n : Nat) (a0 : Int) : kp E k (n + 1) ref04_Text [(.int .i64 a0)] =
  (bif (decide (a0 ≥ (0 : Int))) then (callS (kp E k n ref04_Digits [(.int .i64 a0)]) fun vs2 => (some (.str vs2))) else (bif (decide (a0 > (-10 : Int))) then (callS (kp E k n ref04_Digits [(.int .i64 (IntKind.wrap .i64 (0 - a0)))]) fun vs4 => (bif (decide (1 + (ByteArray.size vs4) ≤ 9223372036854775807)) then (some (.str ((str [45]) ++ vs4))) else none)) else (callS (kp E k n ref04_Digits [(.int .i64 (IntKind.wrap .i64 (0 - (IntKind.wrap .i64 (Int.tdiv a0 (10 : Int))))))]) fun vs6 => (bif (decide (1 + (ByteArray.size vs6) ≤ 9223372036854775807)) then (callS (kp E k n ref04_Digits [(.int .i64 (IntKind.wrap .i64 (0 - (Int.tmod a0 (10 : Int)))))]) fun vs8 => (bif (decide ((ByteArray.size ((str [45]) ++ vs6)) + (ByteArray.size vs8) ≤ 9223372036854775807)) then (some (.str (((str [45]) ++ vs6) ++ vs8))) else none)) else none)))) := (kp_at (by kernel_rfl)).trans (by kernel_rfl)
/- oakum/oakumref04.Right -/
theorem ref04_Right_eq {E : Ext} [Core E] (k n : Nat) (a0_0 : Int) (a0_1 : Int) : kp E k (n + 1) ref04_Right [(.agg [(.int .i64 a0_0), (.int .i64 a0_1)])] =
  (bif (decide (a0_1 ≥ (0 : Int))) then (some (.bool (decide (a0_1 ≤ (999999999 : Int))))) else (some (.bool false))) := (kp_at (by kernel_rfl)).trans (by kernel_rfl)
/- oakum/oakumref04.Below -/
noncomputable def ref04_Below_bd : Code := Tryz.f88.body.getD .skip
noncomputable def ref04_Below_L0 (kap : FuncId → List AV → Option AV) (k : Nat) (k0 : Nat) (s0 : ByteArray) (s4 : Int) (s5 : Int) : Option AV :=
  loop (fun fr K => code ((bs E0 k).cfg kap ref04_Below) (sel ref04_Below_bd [1, 1, 1, 0, 1, 0, 0]) fr K) (canon ((bs E0 k).cfg kap ref04_Below) (firstReg (sel ref04_Below_bd [1, 1, 1, 0, 1, 0, 0]))) k0 (mkFr 46 [(0, (.str s0)), (4, (.int .i64 s4)), (5, (.int .i64 s5))] []) (plug ((bs E0 k).cfg kap ref04_Below) (retK ((bs E0 k).cfg kap ref04_Below) [] Tryz.f88 [] some) [.blk 0, .seqR (sel ref04_Below_bd [1, 1, 1, 1])])
theorem ref04_Below_L0_s (kap : FuncId → List AV → Option AV) (k : Nat) (k0 : Nat) (s0 : ByteArray) (s4 : Int) (s5 : Int) : ref04_Below_L0 kap k (k0 + 1) s0 s4 s5 =
  (bif (decide (s5 < (((ByteArray.size s0) : Nat) : Int))) then (bif ((decide ((0 : Int) ≤ s5)) && (decide (s5 < (((ByteArray.size s0) : Nat) : Int)))) then (bif (decide (s4 < (-922337203685477580 : Int))) then (some (.tup [(.int .i64 (0 : Int)), (.bool false)])) else (bif (decide (s4 = (-922337203685477580 : Int))) then (bif (decide ((IntKind.wrap .i64 ((IntKind.wrap .i64 (byteAt s0 (Int.toNat s5))) - (48 : Int))) > (8 : Int))) then (some (.tup [(.int .i64 (0 : Int)), (.bool false)])) else (ref04_Below_L0 kap k k0 s0 (IntKind.wrap .i64 ((IntKind.wrap .i64 ((10 : Int) * s4)) - (IntKind.wrap .i64 ((IntKind.wrap .i64 (byteAt s0 (Int.toNat s5))) - (48 : Int))))) (IntKind.wrap .i64 (s5 + (1 : Int))))) else (ref04_Below_L0 kap k k0 s0 (IntKind.wrap .i64 ((IntKind.wrap .i64 ((10 : Int) * s4)) - (IntKind.wrap .i64 ((IntKind.wrap .i64 (byteAt s0 (Int.toNat s5))) - (48 : Int))))) (IntKind.wrap .i64 (s5 + (1 : Int)))))) else none) else (some (.tup [(.int .i64 s4), (.bool true)]))) := by kernel_rfl
theorem ref04_Below_eq {E : Ext} [Core E] (k n : Nat) (a0 : ByteArray) : kp E k (n + 1) ref04_Below [(.str a0)] =
  (callB (kp E k n ref04_only [(.str a0)]) fun vq2 => (bif (!vq2) then (some (.tup [(.int .i64 (0 : Int)), (.bool false)])) else (bif (decide ((0 : Int) < (((ByteArray.size a0) : Nat) : Int))) then (bif (decide ((byteAt a0 0) = (48 : Int))) then (bif (decide ((((ByteArray.size a0) : Nat) : Int) > (1 : Int))) then (some (.tup [(.int .i64 (0 : Int)), (.bool false)])) else (ref04_Below_L0 (kp E k n) k k a0 (0 : Int) (0 : Int))) else (ref04_Below_L0 (kp E k n) k k a0 (0 : Int) (0 : Int))) else none))) := (kp_at (by kernel_rfl)).trans (by kernel_rfl)
/- oakum/oakumref04.only -/
noncomputable def ref04_only_bd : Code := Tryz.f89.body.getD .skip
noncomputable def ref04_only_L0 (kap : FuncId → List AV → Option AV) (k : Nat) (k0 : Nat) (s0 : ByteArray) (s3 : Int) : Option AV :=
  loop (fun fr K => code ((bs E0 k).cfg kap ref04_only) (sel ref04_only_bd [1, 0, 1, 0, 0]) fr K) (canon ((bs E0 k).cfg kap ref04_only) (firstReg (sel ref04_only_bd [1, 0, 1, 0, 0]))) k0 (mkFr 23 [(0, (.str s0)), (3, (.int .i64 s3))] []) (plug ((bs E0 k).cfg kap ref04_only) (retK ((bs E0 k).cfg kap ref04_only) [] Tryz.f89 [] some) [.blk 0, .seqR (sel ref04_only_bd [1, 1])])
theorem ref04_only_L0_s (kap : FuncId → List AV → Option AV) (k : Nat) (k0 : Nat) (s0 : ByteArray) (s3 : Int) : ref04_only_L0 kap k (k0 + 1) s0 s3 =
  (bif (decide (s3 < (((ByteArray.size s0) : Nat) : Int))) then (bif ((decide ((0 : Int) ≤ s3)) && (decide (s3 < (((ByteArray.size s0) : Nat) : Int)))) then (bif (decide ((byteAt s0 (Int.toNat s3)) < (48 : Int))) then (some (.bool false)) else (bif ((decide ((0 : Int) ≤ s3)) && (decide (s3 < (((ByteArray.size s0) : Nat) : Int)))) then (bif (decide ((byteAt s0 (Int.toNat s3)) > (57 : Int))) then (some (.bool false)) else (ref04_only_L0 kap k k0 s0 (IntKind.wrap .i64 (s3 + (1 : Int))))) else none)) else none) else (some (.bool (decide ((((ByteArray.size s0) : Nat) : Int) > (0 : Int)))))) := by kernel_rfl
theorem ref04_only_eq {E : Ext} [Core E] (k n : Nat) (a0 : ByteArray) : kp E k (n + 1) ref04_only [(.str a0)] =
  (ref04_only_L0 (kp E k n) k k a0 (0 : Int)) := (kp_at (by kernel_rfl)).trans (by kernel_rfl)
/- strings.Cut -/
theorem strings_Cut_eq {E : Ext} [Core E] (k n : Nat) (a0 : ByteArray) (a1 : ByteArray) : kp E k (n + 1) strings_Cut [(.str a0), (.str a1)] =
  (callT (kp E k n stringslite_Cut [(.str a0), (.str a1)]) fun vt2 => (tupS vt2 fun vs3 vt4 => (tupS vt4 fun vs5 vt6 => (tupB vt6 fun vq7 vt8 => (atNil vt8 (some (.tup [(.str vs3), (.str vs5), (.bool vq7)]))))))) := (kp_at (by kernel_rfl)).trans (by kernel_rfl)
/- oakum/dec.Number -/
theorem dec_Number_eq {E : Ext} [Core E] (k n : Nat) (a0 : ByteArray) : kp E k (n + 1) dec_Number [(.str a0)] =
  (callT (kp E k n dec_natural [(.str a0)]) fun vt2 => (tupI .u64 vt2 fun vn3 vt4 => (tupB vt4 fun vq5 vt6 => (atNil vt6 (bif (!vq5) then (some (.tup [(.int .i64 (0 : Int)), (.int .u8 (15 : Int))])) else (bif (decide ((Int.fdiv vn3 (2 ^ (min (Int.toNat (63 : Int)) (IntKind.bits .u64)))) > (0 : Int))) then (some (.tup [(.int .i64 (0 : Int)), (.int .u8 (15 : Int))])) else (some (.tup [(.int .i64 (IntKind.wrap .i64 vn3)), (.int .u8 (0 : Int))])))))))) := (kp_at (by kernel_rfl)).trans (by kernel_rfl)
/- oakum/dec.Time -/
theorem dec_Time_eq {E : Ext} [Core E] (k n : Nat) (a0 : ByteArray) : kp E k (n + 1) dec_Time [(.str a0)] =
  (callT (kp E k n strings_CutPrefix [(.str a0), (.str (str [45]))]) fun vt2 => (tupS vt2 fun vs3 vt4 => (tupB vt4 fun vq5 vt6 => (atNil vt6 (callT (kp E k n strings_Cut [(.str vs3), (.str (str [46]))]) fun vt8 => (tupS vt8 fun vs9 vt10 => (tupS vt10 fun vs11 vt12 => (tupB vt12 fun vq13 vt14 => (atNil vt14 (callT (kp E k n dec_natural [(.str vs9)]) fun vt16 => (tupI .u64 vt16 fun vn17 vt18 => (tupB vt18 fun vq19 vt20 => (atNil vt20 (bif (!vq19) then (some (.tup [(.agg [(.int .i64 (0 : Int)), (.int .i64 (0 : Int))]), (.int .u8 (15 : Int))])) else (bif vq13 then (callB (kp E k n dec_digits [(.str vs11)]) fun vq22 => (bif (!vq22) then (some (.tup [(.agg [(.int .i64 (0 : Int)), (.int .i64 (0 : Int))]), (.int .u8 (15 : Int))])) else (bif (decide ((((ByteArray.size vs11) : Nat) : Int) > (9 : Int))) then (some (.tup [(.agg [(.int .i64 (0 : Int)), (.int .i64 (0 : Int))]), (.int .u8 (15 : Int))])) else (bif vq13 then (callS (kp E k n strings_Repeat [(.str (str [48])), (.int .i64 (IntKind.wrap .i64 ((9 : Int) - (((ByteArray.size vs11) : Nat) : Int))))]) fun vs24 => (bif (decide ((ByteArray.size vs11) + (ByteArray.size vs24) ≤ 9223372036854775807)) then (callT (kp E k n strconv_ParseInt [(.str (vs11 ++ vs24)), (.int .i64 (10 : Int)), (.int .i64 (64 : Int))]) fun vt26 => (tupI .i64 vt26 fun vn27 vt28 => (tupV vt28 fun vr29 vt30 => (atNil vt30 (bif (!vq5) then (bif (decide ((Int.fdiv vn17 (2 ^ (min (Int.toNat (63 : Int)) (IntKind.bits .u64)))) > (0 : Int))) then (some (.tup [(.agg [(.int .i64 (0 : Int)), (.int .i64 (0 : Int))]), (.int .u8 (15 : Int))])) else (bif (!vq5) then (some (.tup [(.agg [(.int .i64 (IntKind.wrap .i64 vn17)), (.int .i64 vn27)]), (.int .u8 (0 : Int))])) else (bif (decide (vn27 = (0 : Int))) then (some (.tup [(.agg [(.int .i64 (IntKind.wrap .i64 (IntKind.wrap .u64 (0 - vn17)))), (.int .i64 vn27)]), (.int .u8 (0 : Int))])) else (bif (decide ((Int.fdiv vn17 (2 ^ (min (Int.toNat (63 : Int)) (IntKind.bits .u64)))) > (0 : Int))) then (some (.tup [(.agg [(.int .i64 (0 : Int)), (.int .i64 (0 : Int))]), (.int .u8 (15 : Int))])) else (some (.tup [(.agg [(.int .i64 (IntKind.wrap .i64 ((IntKind.wrap .i64 (0 - (IntKind.wrap .i64 vn17))) - (1 : Int)))), (.int .i64 (IntKind.wrap .i64 ((1000000000 : Int) - vn27)))]), (.int .u8 (0 : Int))])))))) else (bif (!vq5) then (some (.tup [(.agg [(.int .i64 (IntKind.wrap .i64 vn17)), (.int .i64 vn27)]), (.int .u8 (0 : Int))])) else (bif (decide (vn27 = (0 : Int))) then (some (.tup [(.agg [(.int .i64 (IntKind.wrap .i64 (IntKind.wrap .u64 (0 - vn17)))), (.int .i64 vn27)]), (.int .u8 (0 : Int))])) else (bif (decide ((Int.fdiv vn17 (2 ^ (min (Int.toNat (63 : Int)) (IntKind.bits .u64)))) > (0 : Int))) then (some (.tup [(.agg [(.int .i64 (0 : Int)), (.int .i64 (0 : Int))]), (.int .u8 (15 : Int))])) else (some (.tup [(.agg [(.int .i64 (IntKind.wrap .i64 ((IntKind.wrap .i64 (0 - (IntKind.wrap .i64 vn17))) - (1 : Int)))), (.int .i64 (IntKind.wrap .i64 ((1000000000 : Int) - vn27)))]), (.int .u8 (0 : Int))])))))))))) else none)) else (bif (!vq5) then (bif (decide ((Int.fdiv vn17 (2 ^ (min (Int.toNat (63 : Int)) (IntKind.bits .u64)))) > (0 : Int))) then (some (.tup [(.agg [(.int .i64 (0 : Int)), (.int .i64 (0 : Int))]), (.int .u8 (15 : Int))])) else (bif (!vq5) then (some (.tup [(.agg [(.int .i64 (IntKind.wrap .i64 vn17)), (.int .i64 (0 : Int))]), (.int .u8 (0 : Int))])) else (some (.tup [(.agg [(.int .i64 (IntKind.wrap .i64 (IntKind.wrap .u64 (0 - vn17)))), (.int .i64 (0 : Int))]), (.int .u8 (0 : Int))])))) else (bif (!vq5) then (some (.tup [(.agg [(.int .i64 (IntKind.wrap .i64 vn17)), (.int .i64 (0 : Int))]), (.int .u8 (0 : Int))])) else (some (.tup [(.agg [(.int .i64 (IntKind.wrap .i64 (IntKind.wrap .u64 (0 - vn17)))), (.int .i64 (0 : Int))]), (.int .u8 (0 : Int))])))))))) else (bif vq13 then (callS (kp E k n strings_Repeat [(.str (str [48])), (.int .i64 (IntKind.wrap .i64 ((9 : Int) - (((ByteArray.size vs11) : Nat) : Int))))]) fun vs32 => (bif (decide ((ByteArray.size vs11) + (ByteArray.size vs32) ≤ 9223372036854775807)) then (callT (kp E k n strconv_ParseInt [(.str (vs11 ++ vs32)), (.int .i64 (10 : Int)), (.int .i64 (64 : Int))]) fun vt34 => (tupI .i64 vt34 fun vn35 vt36 => (tupV vt36 fun vr37 vt38 => (atNil vt38 (bif (!vq5) then (bif (decide ((Int.fdiv vn17 (2 ^ (min (Int.toNat (63 : Int)) (IntKind.bits .u64)))) > (0 : Int))) then (some (.tup [(.agg [(.int .i64 (0 : Int)), (.int .i64 (0 : Int))]), (.int .u8 (15 : Int))])) else (bif (!vq5) then (some (.tup [(.agg [(.int .i64 (IntKind.wrap .i64 vn17)), (.int .i64 vn35)]), (.int .u8 (0 : Int))])) else (bif (decide (vn35 = (0 : Int))) then (some (.tup [(.agg [(.int .i64 (IntKind.wrap .i64 (IntKind.wrap .u64 (0 - vn17)))), (.int .i64 vn35)]), (.int .u8 (0 : Int))])) else (bif (decide ((Int.fdiv vn17 (2 ^ (min (Int.toNat (63 : Int)) (IntKind.bits .u64)))) > (0 : Int))) then (some (.tup [(.agg [(.int .i64 (0 : Int)), (.int .i64 (0 : Int))]), (.int .u8 (15 : Int))])) else (some (.tup [(.agg [(.int .i64 (IntKind.wrap .i64 ((IntKind.wrap .i64 (0 - (IntKind.wrap .i64 vn17))) - (1 : Int)))), (.int .i64 (IntKind.wrap .i64 ((1000000000 : Int) - vn35)))]), (.int .u8 (0 : Int))])))))) else (bif (!vq5) then (some (.tup [(.agg [(.int .i64 (IntKind.wrap .i64 vn17)), (.int .i64 vn35)]), (.int .u8 (0 : Int))])) else (bif (decide (vn35 = (0 : Int))) then (some (.tup [(.agg [(.int .i64 (IntKind.wrap .i64 (IntKind.wrap .u64 (0 - vn17)))), (.int .i64 vn35)]), (.int .u8 (0 : Int))])) else (bif (decide ((Int.fdiv vn17 (2 ^ (min (Int.toNat (63 : Int)) (IntKind.bits .u64)))) > (0 : Int))) then (some (.tup [(.agg [(.int .i64 (0 : Int)), (.int .i64 (0 : Int))]), (.int .u8 (15 : Int))])) else (some (.tup [(.agg [(.int .i64 (IntKind.wrap .i64 ((IntKind.wrap .i64 (0 - (IntKind.wrap .i64 vn17))) - (1 : Int)))), (.int .i64 (IntKind.wrap .i64 ((1000000000 : Int) - vn35)))]), (.int .u8 (0 : Int))])))))))))) else none)) else (bif (!vq5) then (bif (decide ((Int.fdiv vn17 (2 ^ (min (Int.toNat (63 : Int)) (IntKind.bits .u64)))) > (0 : Int))) then (some (.tup [(.agg [(.int .i64 (0 : Int)), (.int .i64 (0 : Int))]), (.int .u8 (15 : Int))])) else (bif (!vq5) then (some (.tup [(.agg [(.int .i64 (IntKind.wrap .i64 vn17)), (.int .i64 (0 : Int))]), (.int .u8 (0 : Int))])) else (some (.tup [(.agg [(.int .i64 (IntKind.wrap .i64 (IntKind.wrap .u64 (0 - vn17)))), (.int .i64 (0 : Int))]), (.int .u8 (0 : Int))])))) else (bif (!vq5) then (some (.tup [(.agg [(.int .i64 (IntKind.wrap .i64 vn17)), (.int .i64 (0 : Int))]), (.int .u8 (0 : Int))])) else (some (.tup [(.agg [(.int .i64 (IntKind.wrap .i64 (IntKind.wrap .u64 (0 - vn17)))), (.int .i64 (0 : Int))]), (.int .u8 (0 : Int))])))))))))))))))))))) := (kp_at (by kernel_rfl)).trans (by kernel_rfl)
/- internal/stringslite.Cut -/
theorem stringslite_Cut_eq {E : Ext} [Core E] (k n : Nat) (a0 : ByteArray) (a1 : ByteArray) : kp E k (n + 1) stringslite_Cut [(.str a0), (.str a1)] =
  (callI .i64 (kp E k n stringslite_Index [(.str a0), (.str a1)]) fun vn2 => (bif (decide (vn2 ≥ (0 : Int))) then (bif ((decide ((0 : Int) ≤ vn2)) && (decide (vn2 ≤ (((ByteArray.size a0) : Nat) : Int)))) then (bif ((decide ((0 : Int) ≤ (IntKind.wrap .i64 (vn2 + (((ByteArray.size a1) : Nat) : Int))))) && (decide ((IntKind.wrap .i64 (vn2 + (((ByteArray.size a1) : Nat) : Int))) ≤ (((ByteArray.size a0) : Nat) : Int)))) then (some (.tup [(.str (ByteArray.extract a0 0 (Int.toNat vn2))), (.str (ByteArray.extract a0 (Int.toNat (IntKind.wrap .i64 (vn2 + (((ByteArray.size a1) : Nat) : Int)))) (ByteArray.size a0))), (.bool true)])) else none) else none) else (some (.tup [(.str a0), (.str (str [])), (.bool false)])))) := (kp_at (by kernel_rfl)).trans (by kernel_rfl)
/- oakum/dec.natural -/
theorem dec_natural_eq {E : Ext} [Core E] (k n : Nat) (a0 : ByteArray) : kp E k (n + 1) dec_natural [(.str a0)] =
  (callB (kp E k n dec_digits [(.str a0)]) fun vq2 => (bif (!vq2) then (some (.tup [(.int .u64 (0 : Int)), (.bool false)])) else (bif (decide ((0 : Int) < (((ByteArray.size a0) : Nat) : Int))) then (bif (decide ((byteAt a0 0) = (48 : Int))) then (bif (decide ((((ByteArray.size a0) : Nat) : Int) > (1 : Int))) then (some (.tup [(.int .u64 (0 : Int)), (.bool false)])) else (callT (kp E k n strconv_ParseUint [(.str a0), (.int .i64 (10 : Int)), (.int .i64 (64 : Int))]) fun vt4 => (tupI .u64 vt4 fun vn5 vt6 => (tupV vt6 fun vr7 vt8 => (atNil vt8 (nilB vr7 fun q9 => (bif q9 then (some (.tup [(.int .u64 vn5), (.bool (decide (vn5 ≤ (9223372036854775808 : Int))))])) else (some (.tup [(.int .u64 vn5), (.bool false)]))))))))) else (callT (kp E k n strconv_ParseUint [(.str a0), (.int .i64 (10 : Int)), (.int .i64 (64 : Int))]) fun vt11 => (tupI .u64 vt11 fun vn12 vt13 => (tupV vt13 fun vr14 vt15 => (atNil vt15 (nilB vr14 fun q16 => (bif q16 then (some (.tup [(.int .u64 vn12), (.bool (decide (vn12 ≤ (9223372036854775808 : Int))))])) else (some (.tup [(.int .u64 vn12), (.bool false)]))))))))) else none))) := (kp_at (by kernel_rfl)).trans (by kernel_rfl)
/- oakum/dec.digits -/
noncomputable def dec_digits_bd : Code := Tryz.f119.body.getD .skip
noncomputable def dec_digits_L0 (kap : FuncId → List AV → Option AV) (k : Nat) (k0 : Nat) (s0 : ByteArray) (s5 : Int) (s6 : Int) : Option AV :=
  loop (fun fr K => code ((bs E0 k).cfg kap dec_digits) (sel dec_digits_bd [1, 0, 1, 0, 0]) fr K) (canon ((bs E0 k).cfg kap dec_digits) (firstReg (sel dec_digits_bd [1, 0, 1, 0, 0]))) k0 (mkFr 22 [(0, (.str s0)), (5, (.int .i64 s5)), (6, (.int .i64 s6))] []) (plug ((bs E0 k).cfg kap dec_digits) (retK ((bs E0 k).cfg kap dec_digits) [] Tryz.f119 [] some) [.blk 0, .seqR (sel dec_digits_bd [1, 1])])
theorem dec_digits_L0_s (kap : FuncId → List AV → Option AV) (k : Nat) (k0 : Nat) (s0 : ByteArray) (s5 : Int) (s6 : Int) : dec_digits_L0 kap k (k0 + 1) s0 s5 s6 =
  (bif (decide (s6 < s5)) then (bif ((decide ((0 : Int) ≤ s6)) && (decide (s6 < (((ByteArray.size s0) : Nat) : Int)))) then (bif (decide ((byteAt s0 (Int.toNat s6)) < (48 : Int))) then (some (.bool false)) else (bif ((decide ((0 : Int) ≤ s6)) && (decide (s6 < (((ByteArray.size s0) : Nat) : Int)))) then (bif (decide ((byteAt s0 (Int.toNat s6)) > (57 : Int))) then (some (.bool false)) else (dec_digits_L0 kap k k0 s0 s5 (IntKind.wrap .i64 (s6 + (1 : Int))))) else none)) else none) else (some (.bool (!(decide (s0 = (str []))))))) := by kernel_rfl
theorem dec_digits_eq {E : Ext} [Core E] (k n : Nat) (a0 : ByteArray) : kp E k (n + 1) dec_digits [(.str a0)] =
  (dec_digits_L0 (kp E k n) k k a0 (((ByteArray.size a0) : Nat) : Int) (0 : Int)) := (kp_at (by kernel_rfl)).trans (by kernel_rfl)
/- internal/stringslite.CutPrefix -/
theorem stringslite_CutPrefix_eq {E : Ext} [Core E] (k n : Nat) (a0 : ByteArray) (a1 : ByteArray) : kp E k (n + 1) stringslite_CutPrefix [(.str a0), (.str a1)] =
  (callB (kp E k n stringslite_HasPrefix [(.str a0), (.str a1)]) fun vq2 => (bif (!vq2) then (some (.tup [(.str a0), (.bool false)])) else (bif ((decide ((0 : Int) ≤ (((ByteArray.size a1) : Nat) : Int))) && (decide ((((ByteArray.size a1) : Nat) : Int) ≤ (((ByteArray.size a0) : Nat) : Int)))) then (some (.tup [(.str (ByteArray.extract a0 (Int.toNat (((ByteArray.size a1) : Nat) : Int)) (ByteArray.size a0))), (.bool true)])) else none))) := (kp_at (by kernel_rfl)).trans (by kernel_rfl)
end Go.Proofs.YtilbahgfjfcikaaGreatDoor.Eng.U

/- Numbers as texts, in plain Lean. -/
set_option linter.unusedVariables false
set_option linter.unusedSimpArgs false
namespace Go.Proofs.YtilbahgfjfcikaaGreatDoor.P04
open Go

def isDig (c : UInt8) : Bool := decide (48 ≤ c.toNat) && decide (c.toNat ≤ 57)
def digs (l : List UInt8) : Bool := l.all isDig && !l.isEmpty
def valA (acc : Nat) (l : List UInt8) : Nat := l.foldl (fun a c => a * 10 + (c.toNat - 48)) acc
def lead (l : List UInt8) : Bool := decide (l.headD 0 = 48) && decide (1 < l.length)
def natOk (l : List UInt8) : Bool := digs l && !lead l && decide (valA 0 l ≤ 9223372036854775808)
theorem valA_ge : ∀ (l : List UInt8) (acc : Nat), acc ≤ valA acc l
  | [], acc => Nat.le_refl _
  | c :: l, acc => by
    have := valA_ge l (acc * 10 + (c.toNat - 48))
    simp only [valA, List.foldl_cons] at this ⊢
    omega
theorem valA_cons (c : UInt8) (l : List UInt8) (acc : Nat) : valA acc (c :: l) = valA (acc * 10 + (c.toNat - 48)) l := by
  unfold valA
  rw [List.foldl_cons]
theorem dig_iff {c : UInt8} : isDig c = true ↔ 48 ≤ c.toNat ∧ c.toNat ≤ 57 := by simp [isDig]
theorem parse_eq {M : Nat} (hM : M = 18446744073709551615) (l : List UInt8) : ∀ (acc : Nat), l.all isDig = true → acc ≤ M → Lib.parseUintM M acc l = if valA acc l ≤ M then .ok (valA acc l) else .range := by
  induction l with
  | nil =>
    intro acc _ h
    have e : valA acc [] = acc := rfl
    rw [e, if_pos h]
    rfl
  | cons c l ih =>
    intro acc hd h
    rw [List.all_cons, Bool.and_eq_true] at hd
    have hc := dig_iff.1 hd.1
    have hg := valA_ge l (acc * 10 + (c.toNat - 48))
    have e : Lib.parseUintM M acc (c :: l) = if 48 ≤ c.toNat ∧ c.toNat ≤ 57 then (if 1844674407370955162 ≤ acc then .range else if M < acc * 10 + (c.toNat - 48) then .range else Lib.parseUintM M (acc * 10 + (c.toNat - 48)) l) else Lib.parseUintM M 0 [47] := rfl
    rw [e, if_pos hc, valA_cons]
    by_cases h1 : 1844674407370955162 ≤ acc
    · rw [if_pos h1, if_neg (by omega)]
    · rw [if_neg h1]
      by_cases h2 : M < acc * 10 + (c.toNat - 48)
      · rw [if_pos h2, if_neg (by omega)]
      · rw [if_neg h2, ih _ hd.2 (by omega)]
theorem parseB_eq {l : List UInt8} (hd : digs l = true) : Lib.parseUintB 64 l = if valA 0 l ≤ 18446744073709551615 then .ok (valA 0 l) else .range := by
  simp only [digs, Bool.and_eq_true, Bool.not_eq_true', List.isEmpty_eq_false_iff] at hd
  rw [Lib.parseUintB, if_neg hd.2]
  exact parse_eq (by decide) l 0 hd.1 (by omega)
/-- Where the first point stands; the length, where there is none. -/
def dot (l : List UInt8) : Nat := l.findIdx (· == 46)
theorem index_dot : ∀ l : List UInt8, Lib.indexByte l 46 = if dot l < l.length then (dot l : Int) else -1
  | [] => rfl
  | c :: l => by
    have ih := index_dot l
    unfold Lib.indexByte dot
    rw [List.findIdx_cons]
    by_cases hc : (c == 46) = true
    · simp [hc]
    · rw [if_neg hc, Bool.eq_false_iff.2 hc, cond_false, ih]
      unfold dot
      have : List.findIdx (· == 46) l ≤ l.length := List.findIdx_le_length
      simp only [List.length_cons]
      by_cases h : List.findIdx (· == 46) l < l.length
      · rw [if_pos h, if_pos (show List.findIdx (· == 46) l + 1 < l.length + 1 by omega)]
        rw [if_neg (by simp)]
        omega
      · rw [if_neg h, if_neg (show ¬ List.findIdx (· == 46) l + 1 < l.length + 1 by omega)]
        rfl
/-- The time that a text is, behind its sign. -/
def timeB (minus : Bool) (t : List UInt8) : Option (Int × Int) :=
  let a := t.take (dot t)
  let b := t.drop (dot t + 1)
  let nano := if dot t < t.length then valA 0 (b ++ List.replicate (9 - b.length) 48) else 0
  let v := valA 0 a
  if natOk a = false then none
  else if dot t < t.length ∧ ¬ (digs b = true ∧ b.length ≤ 9) then none
  else if minus = false then (if 9223372036854775807 < v then none else some ((v : Int), (nano : Int)))
  else if nano = 0 then some (-(v : Int), 0)
  else if 9223372036854775807 < v then none
  else some (-(v : Int) - 1, 1000000000 - (nano : Int))
def timeL (s : List UInt8) : Option (Int × Int) := timeB (decide (s.head? = some 45)) (if s.head? = some 45 then s.drop 1 else s)
theorem valA_lt : ∀ (l : List UInt8) (acc m : Nat), l.all isDig = true → acc < 10 ^ m → valA acc l < 10 ^ (m + l.length)
  | [], acc, m, _, h => h
  | c :: l, acc, m, hd, h => by
    rw [List.all_cons, Bool.and_eq_true] at hd
    have hc := dig_iff.1 hd.1
    have := valA_lt l (acc * 10 + (c.toNat - 48)) (m + 1) hd.2 (by rw [Nat.pow_succ]; omega)
    rw [valA_cons, List.length_cons, show m + (l.length + 1) = m + 1 + l.length from by omega]
    exact this
theorem valA_app (a b : List UInt8) (acc : Nat) : valA acc (a ++ b) = valA (valA acc a) b := by simp [valA, List.foldl_append]
/-! Printing. -/
theorem decDigits_rec {u : Nat} (h : ¬ u < 10) : Lib.decDigits u = Lib.decDigits (u / 10) ++ [UInt8.ofNat (48 + u % 10)] := by rw [Lib.decDigits, dif_neg h]
/-- k digits of a number below 10 ^ 9, the first ahead. -/
def frac : Nat → Nat → List UInt8
  | 0, _ => []
  | k + 1, n => UInt8.ofNat (48 + n / 100000000) :: frac k (n % 100000000 * 10)
/-- The digits of a number below 10 ^ 9 as long as some are left. -/
def loopP : Nat → Nat → List UInt8
  | 0, _ => []
  | k + 1, n => if n = 0 then [] else UInt8.ofNat (48 + n / 100000000) :: loopP k (n % 100000000 * 10)
theorem trim_cons (c : UInt8) (l : List UInt8) (x : UInt8) : Lib.trimRightB (c :: l) x = if Lib.trimRightB l x = [] then (if c = x then [] else [c]) else c :: Lib.trimRightB l x := by
  unfold Lib.trimRightB
  rw [List.reverse_cons, List.dropWhile_append]
  by_cases h : (l.reverse.dropWhile (· == x)).isEmpty = true
  · rw [if_pos h]
    have h' : l.reverse.dropWhile (· == x) = [] := by simpa using h
    rw [h', List.reverse_nil, if_pos rfl]
    by_cases hc : c = x
    · subst hc; simp
    · rw [if_neg hc]; simp [List.dropWhile_cons, hc]
  · rw [if_neg h]
    have h' : l.reverse.dropWhile (· == x) ≠ [] := by simpa using h
    rw [if_neg (by simpa using h')]
    simp
theorem frac_zero : ∀ k, Lib.trimRightB (frac k 0) 48 = []
  | 0 => rfl
  | k + 1 => by
    show Lib.trimRightB (UInt8.ofNat (48 + 0 / 100000000) :: frac k 0) 48 = []
    rw [trim_cons, frac_zero k, if_pos rfl, if_pos (by decide)]
theorem trim_frac : ∀ (k n : Nat), n < 1000000000 → n % 10 ^ (9 - k) = 0 → k ≤ 9 → Lib.trimRightB (frac k n) 48 = loopP k n
  | 0, n, h, hm, _ => rfl
  | k + 1, n, h, hm, hk => by
    unfold frac loopP
    by_cases hn : n = 0
    · rw [if_pos hn]
      subst hn
      exact frac_zero (k + 1)
    · rw [if_neg hn]
      have hm' : (n % 100000000 * 10) % 10 ^ (9 - k) = 0 := by
        have e : 10 ^ (9 - k) = 10 ^ (9 - (k + 1)) * 10 := by rw [← Nat.pow_succ]; congr 1; omega
        rw [e, Nat.mul_mod_mul_right]
        have hd : (10 : Nat) ^ (9 - (k + 1)) ∣ 100000000 := by
          have : (100000000 : Nat) = 10 ^ 8 := rfl
          rw [this]
          exact Nat.pow_dvd_pow 10 (by omega)
        rw [Nat.mod_mod_of_dvd _ hd, hm]
      have ih := trim_frac k (n % 100000000 * 10) (by omega) hm' (by omega)
      rw [trim_cons, ih]
      by_cases he : loopP k (n % 100000000 * 10) = []
      · rw [if_pos he, he]
        cases k with
        | zero =>
          have : n / 100000000 ≠ 0 := by
            simp at hm
            omega
          rw [if_neg]
          intro e
          have := congrArg UInt8.toNat e
          rw [UInt8.toNat_ofNat'] at this
          simp at this
          omega
        | succ k =>
          unfold loopP at he
          split at he
          · rename_i h0
            rw [if_neg]
            intro e
            have := congrArg UInt8.toNat e
            rw [UInt8.toNat_ofNat'] at this
            simp at this
            omega
          · cases he
      · rw [if_neg he]
theorem frac_eq (m : Nat) : ∀ (k j : Nat), k + j ≤ 9 → frac k (m * 10 ^ j % 1000000000) = (List.range k).map fun i => UInt8.ofNat (48 + m / 10 ^ (8 - (j + i)) % 10)
  | 0, j, _ => rfl
  | k + 1, j, h => by
    unfold frac
    have e1 : m * 10 ^ j % 1000000000 / 100000000 = m / 10 ^ (8 - j) % 10 := by
      rw [show (1000000000 : Nat) = 100000000 * 10 from rfl, Nat.mod_mul_right_div_self]
      congr 1
      rw [show (100000000 : Nat) = 10 ^ (8 - j) * 10 ^ j from by rw [← Nat.pow_add, show 8 - j + j = 8 from by omega]]
      exact Nat.mul_div_mul_right _ _ (Nat.pow_pos (by omega))
    have e2 : m * 10 ^ j % 1000000000 % 100000000 * 10 = m * 10 ^ (j + 1) % 1000000000 := by
      rw [Nat.mod_mod_of_dvd _ (by decide), show (1000000000 : Nat) = 100000000 * 10 from rfl, Nat.pow_succ, ← Nat.mul_assoc, Nat.mul_mod_mul_right]
    rw [e1, e2, frac_eq m k (j + 1) (by omega), List.range_succ_eq_map, List.map_cons, List.map_map]
    congr 1
    refine List.map_congr_left fun i _ => ?_
    show UInt8.ofNat (48 + m / 10 ^ (8 - (j + 1 + i)) % 10) = UInt8.ofNat (48 + m / 10 ^ (8 - (j + (i + 1))) % 10)
    rw [show j + 1 + i = j + (i + 1) from by omega]
theorem digits_frac (m : Nat) (h : m < 1000000000) : Lib.decDigits (1000000000 + m) = 49 :: frac 9 m := by
  have hf := frac_eq m 9 0 (by omega)
  rw [Nat.pow_zero, Nat.mul_one, Nat.mod_eq_of_lt h] at hf
  rw [hf, Lib.decDigits_eq, Lib.nDigits_unique 9 _ (by omega) (by omega), List.range_succ_eq_map, List.map_cons, List.map_map]
  congr 1
  · show Lib.dg (1000000000 + m) 9 = 49
    unfold Lib.dg
    rw [show (1000000000 + m) / 10 ^ 9 % 10 = 1 from by omega]
    rfl
  · refine List.map_congr_left fun i hi => ?_
    rw [List.mem_range] at hi
    show Lib.dg (1000000000 + m) (10 - 1 - (i + 1)) = _
    unfold Lib.dg
    rw [show 10 - 1 - (i + 1) = 8 - i from by omega, Nat.zero_add]
    congr 2
    have : (1000000000 : Nat) = 10 ^ (8 - i) * (10 ^ i * 10) := by rw [← Nat.pow_succ, ← Nat.pow_add, show 8 - i + (i + 1) = 9 from by omega]
    rw [this, Nat.mul_add_div (Nat.pow_pos (by omega)), Nat.add_mod, Nat.mul_mod_left, Nat.zero_add, Nat.mod_mod]
/-- The text of a time. -/
def printL (s t : Int) : List UInt8 :=
  if t = 0 then Lib.itoa s
  else if s < 0 then 45 :: Lib.decDigits (-(s + 1)).toNat ++ [46] ++ loopP 9 (1000000000 - t).toNat
  else Lib.decDigits s.toNat ++ [46] ++ loopP 9 t.toNat
end Go.Proofs.YtilbahgfjfcikaaGreatDoor.P04

/- The functions of the Dec laws in plain words. -/
set_option linter.unusedVariables false
set_option linter.unusedSectionVars false
set_option linter.unusedSimpArgs false
namespace Go.Proofs.YtilbahgfjfcikaaGreatDoor.Eng.U
open Go Go.Proofs Go.Proofs.YtilbahgfjfcikaaGreatDoor.Eng Go.Proofs.YtilbahgfjfcikaaGreatDoor.P04
variable {E : Ext} [Core E] {k n : Nat}

def endI : Lib.NumEnd Int → Int → AV
  | .ok v, _ => .tup [.int .i64 v, .nili]
  | .range, d => .tup [.int .i64 d, .ifc]
  | _, _ => .tup [.int .i64 0, .ifc]
def endU : Lib.NumEnd Nat → AV
  | .ok v => .tup [.int .u64 v, .nili]
  | .range => .tup [.int .u64 18446744073709551615, .ifc]
  | _ => .tup [.int .u64 0, .ifc]
class HasNum (E : Ext) : Prop where
  itoa : ∀ (k n : Nat) (v : Int), -9223372036854775808 ≤ v → v ≤ 9223372036854775807 → kp E k n strconv_Itoa [.int .i64 v] = some (.str (str (Lib.itoa v)))
  cutP : ∀ (k n : Nat) (s p : List UInt8), kp E k n strings_CutPrefix [.str (str s), .str (str p)] = some (.tup [.str (str (Lib.trimPrefix s p)), .bool (Lib.hasPrefix s p)])
  index : ∀ (k n : Nat) (s : List UInt8) (x : UInt8), kp E k n stringslite_Index [.str (str s), .str (str [x])] = some (.int .i64 (Lib.indexByte s x))
  indexB : ∀ (k n : Nat) (s : List UInt8) (c : Int), kp E k n strings_IndexByte [.str (str s), .int .u8 c] = some (.int .i64 (Lib.indexByte s c.toNat.toUInt8))
  rep : ∀ (k n : Nat) (s : List UInt8) (c : Nat), c ≤ 9223372036854775807 → s.length * c ≤ 140737488355328 → kp E k n strings_Repeat [.str (str s), .int .i64 c] = some (.str (str (Lib.repeatL s c)))
  pint : ∀ (k n : Nat) (s : List UInt8), s.length ≤ 281474976710656 → kp E k n strconv_ParseInt [.str (str s), .int .i64 10, .int .i64 64] = some (endI (Lib.parseIntB 64 s) (Lib.intSat 64 s))
  puint : ∀ (k n : Nat) (s : List UInt8), s.length ≤ 281474976710656 → kp E k n strconv_ParseUint [.str (str s), .int .i64 10, .int .i64 64] = some (endU (Lib.parseUintB 64 s))

theorem digits_loop (kap : FuncId → List AV → Option AV) : ∀ (suf pre : List UInt8) (k0 : Nat), suf.length < k0 → (pre ++ suf).length < 1000000000000000 →
    dec_digits_L0 kap k k0 (str (pre ++ suf)) (((pre ++ suf).length : Nat) : Int) ((pre.length : Nat) : Int) = some (.bool (suf.all isDig && !(pre ++ suf).isEmpty))
  | [], pre, k0 + 1, h, hb => by
    rw [dec_digits_L0_s, nlt, decide_eq_false (by simp), cond_false, str_dec]
    cases pre <;> simp
  | c :: suf, pre, k0 + 1, h, hb => by
    rw [dec_digits_L0_s]
    rw [mid_len] at hb
    have hg : (pre ++ c :: suf).getD pre.length 0 = c := mid_byte _ _ _
    rw [str_size, mid_len, dec0, nlt, decide_eq_true (by omega), Bool.true_and, cond_true, cond_true, cond_true, Int.toNat_natCast, str_byte, hg, List.all_cons]
    by_cases h1 : 48 ≤ c.toNat
    · rw [bif_f (by omega)]
      by_cases h2 : c.toNat ≤ 57
      · rw [bif_f (by omega), wrap1 (by omega)]
        have := digits_loop kap suf (pre ++ [c]) k0 (by simpa using h) (by simp; omega)
        rw [List.append_assoc, List.singleton_append, mid_len, List.length_append, List.length_singleton] at this
        rw [this, dig_iff.2 ⟨h1, h2⟩, Bool.true_and]
      · rw [bif_t (by omega), show isDig c = false from by simp [isDig]; omega]
        rfl
    · rw [bif_t (by omega), show isDig c = false from by simp [isDig]; omega]
      rfl
theorem digits_k (l : List UInt8) (hb : l.length < 1000000000000000) (hk : l.length < k) : kp E k (n + 1) dec_digits [.str (str l)] = some (.bool (digs l)) := by
  rw [dec_digits_eq, str_size]
  exact digits_loop _ l [] k hk hb
theorem only_loop (kap : FuncId → List AV → Option AV) : ∀ (suf pre : List UInt8) (k0 : Nat), suf.length < k0 → (pre ++ suf).length < 1000000000000000 →
    ref04_only_L0 kap k k0 (str (pre ++ suf)) ((pre.length : Nat) : Int) = some (.bool (suf.all isDig && !(pre ++ suf).isEmpty))
  | [], pre, k0 + 1, h, hb => by
    rw [ref04_only_L0_s, str_size, nlt, decide_eq_false (by simp), cond_false]
    cases pre with
    | nil => rfl
    | cons c l => rw [decide_eq_true (by simp)]; simp
  | c :: suf, pre, k0 + 1, h, hb => by
    rw [ref04_only_L0_s]
    rw [mid_len] at hb
    have hg : (pre ++ c :: suf).getD pre.length 0 = c := mid_byte _ _ _
    rw [str_size, mid_len, dec0, nlt, decide_eq_true (by omega), Bool.true_and, cond_true, cond_true, cond_true, Int.toNat_natCast, str_byte, hg, List.all_cons]
    by_cases h1 : 48 ≤ c.toNat
    · rw [bif_f (by omega)]
      by_cases h2 : c.toNat ≤ 57
      · rw [bif_f (by omega), wrap1 (by omega)]
        have := only_loop kap suf (pre ++ [c]) k0 (by simpa using h) (by simp; omega)
        rw [List.append_assoc, List.singleton_append, List.length_append, List.length_singleton] at this
        rw [this, dig_iff.2 ⟨h1, h2⟩, Bool.true_and]
      · rw [bif_t (by omega), show isDig c = false from by simp [isDig]; omega]
        rfl
    · rw [bif_t (by omega), show isDig c = false from by simp [isDig]; omega]
      rfl
theorem only_k (l : List UInt8) (hb : l.length < 1000000000000000) (hk : l.length < k) : kp E k (n + 1) ref04_only [.str (str l)] = some (.bool (digs l)) := by
  rw [ref04_only_eq]
  exact only_loop _ l [] k hk hb
theorem below_loop (kap : FuncId → List AV → Option AV) : ∀ (suf pre : List UInt8) (k0 acc : Nat), suf.length < k0 → (pre ++ suf).length < 1000000000000000 → suf.all isDig = true → acc ≤ 9223372036854775808 →
    ref04_Below_L0 kap k k0 (str (pre ++ suf)) (-(acc : Int)) ((pre.length : Nat) : Int) = some (if valA acc suf ≤ 9223372036854775808 then .tup [.int .i64 (-(valA acc suf : Int)), .bool true] else .tup [.int .i64 0, .bool false])
  | [], pre, k0 + 1, acc, h, hb, hd, ha => by
    rw [ref04_Below_L0_s, str_size, nlt, decide_eq_false (by simp), cond_false]
    have e : valA acc [] = acc := rfl
    rw [e, if_pos ha]
  | c :: suf, pre, k0 + 1, acc, h, hb, hd, ha => by
    rw [ref04_Below_L0_s]
    rw [mid_len] at hb
    rw [List.all_cons, Bool.and_eq_true] at hd
    have hc := dig_iff.1 hd.1
    have hg : (pre ++ c :: suf).getD pre.length 0 = c := mid_byte _ _ _
    rw [str_size, mid_len, dec0, nlt, decide_eq_true (by omega), Bool.true_and, cond_true, cond_true, Int.toNat_natCast, str_byte, hg, i64w (x := ((c.toNat : Nat) : Int)) (by omega), i64w (x := ((c.toNat : Nat) : Int) - 48) (by omega), valA_cons]
    have hge := valA_ge suf (acc * 10 + (c.toNat - 48))
    have next : acc * 10 + (c.toNat - 48) ≤ 9223372036854775808 → ref04_Below_L0 kap k k0 (str (pre ++ c :: suf)) (IntKind.wrap .i64 ((IntKind.wrap .i64 ((10 : Int) * -(acc : Int))) - (((c.toNat : Nat) : Int) - 48))) (IntKind.wrap .i64 (((pre.length : Nat) : Int) + 1)) = some (if valA (acc * 10 + (c.toNat - 48)) suf ≤ 9223372036854775808 then .tup [.int .i64 (-(valA (acc * 10 + (c.toNat - 48)) suf : Int)), .bool true] else .tup [.int .i64 0, .bool false]) := by
      intro hle
      have := below_loop kap suf (pre ++ [c]) k0 (acc * 10 + (c.toNat - 48)) (by simpa using h) (by simp; omega) hd.2 hle
      rw [List.append_assoc, List.singleton_append, List.length_append, List.length_singleton] at this
      rw [← this, wrap1 (by omega), i64w (x := 10 * -(acc : Int)) (by omega), i64w (by omega)]
      congr 1
      omega
    by_cases h1 : 922337203685477580 < acc
    · rw [bif_t (by omega), if_neg (by omega)]
    · rw [bif_f (by omega)]
      by_cases h2 : acc = 922337203685477580
      · rw [bif_t (by omega)]
        by_cases h3 : 8 < c.toNat - 48
        · rw [bif_t (by omega), if_neg (by omega)]
        · rw [bif_f (by omega)]
          exact next (by omega)
      · rw [bif_f (by omega)]
        exact next (by omega)
theorem head_lead (l : List UInt8) (hl : l ≠ []) : decide (l.getD 0 0 = 48) = decide (l.headD 0 = 48) := by cases l <;> simp at hl ⊢
theorem digs_ne {l : List UInt8} (h : digs l = true) : l ≠ [] := by
  intro e
  subst e
  simp [digs] at h
theorem digs_all {l : List UInt8} (h : digs l = true) : l.all isDig = true := by
  unfold digs at h
  rw [Bool.and_eq_true] at h
  exact h.1
theorem byte48 (c : UInt8) : decide (((c.toNat : Nat) : Int) = (48 : Int)) = decide (c = 48) := byte_is c 48 (by omega)
theorem below_k (l : List UInt8) (hb : l.length < 1000000000000000) (hk : l.length < k) : kp E k (n + 2) ref04_Below [.str (str l)] = some (.tup [.int .i64 (if natOk l then -(valA 0 l : Int) else 0), .bool (natOk l)]) := by
  rw [ref04_Below_eq, only_k l hb hk, callB_ok]
  unfold natOk
  cases hd : digs l with
  | false => rfl
  | true =>
    have hne := digs_ne hd
    have hpos : 0 < l.length := List.length_pos_iff.2 hne
    have hloop := below_loop (k := k) (kp E k (n + 1)) l [] k 0 hk hb (digs_all hd) (by omega)
    rw [List.nil_append] at hloop
    have e0 : (-((0 : Nat) : Int)) = 0 := rfl
    have e1 : ((([] : List UInt8).length : Nat) : Int) = 0 := rfl
    rw [e0, e1] at hloop
    rw [Bool.not_true, cond_false, str_size, bif_t (by omega), str_byte, byte48, head_lead l hne, hloop]
    unfold lead
    by_cases h1 : l.headD 0 = 48
    · rw [decide_eq_true h1, cond_true]
      by_cases h2 : 1 < l.length
      · rw [bif_t (by omega), decide_eq_true h2]
        rfl
      · rw [bif_f (by omega), decide_eq_false h2]
        simp only [Bool.and_false, Bool.not_false, Bool.and_true, Bool.true_and]
        by_cases h3 : valA 0 l ≤ 9223372036854775808
        · rw [if_pos h3, decide_eq_true h3]; rfl
        · rw [if_neg h3, decide_eq_false h3]; rfl
    · rw [decide_eq_false h1, cond_false]
      simp only [Bool.false_and, Bool.not_false, Bool.and_true, Bool.true_and]
      by_cases h3 : valA 0 l ≤ 9223372036854775808
      · rw [if_pos h3, decide_eq_true h3]; rfl
      · rw [if_neg h3, decide_eq_false h3]; rfl
theorem natural_k [HasNum E] (l : List UInt8) (hb : l.length < 100000000000000) (hk : l.length < k) : ∃ m : Int, kp E k (n + 2) dec_natural [.str (str l)] = some (.tup [.int .u64 m, .bool (natOk l)]) ∧ (natOk l = true → m = (valA 0 l : Int)) := by
  rw [dec_natural_eq, digits_k l (by omega) hk, callB_ok]
  unfold natOk
  cases hd : digs l with
  | false => exact ⟨0, rfl, fun h => by cases h⟩
  | true =>
    have hne := digs_ne hd
    have hpos : 0 < l.length := List.length_pos_iff.2 hne
    rw [Bool.not_true, cond_false, str_size, bif_t (by omega), str_byte, byte48, head_lead l hne, HasNum.puint k (n + 1) l (by omega), parseB_eq hd]
    have go : ∃ m : Int, (callT (β := AV) (some (endU (if valA 0 l ≤ 18446744073709551615 then Lib.NumEnd.ok (valA 0 l) else .range))) fun vt11 => (tupI .u64 vt11 fun vn12 vt13 => (tupV vt13 fun vr14 vt15 => (atNil vt15 (nilB vr14 fun q16 => (bif q16 then (some (.tup [(.int .u64 vn12), (.bool (decide (vn12 ≤ (9223372036854775808 : Int))))])) else (some (.tup [(.int .u64 vn12), (.bool false)])))))))) = some (.tup [.int .u64 m, .bool (decide (valA 0 l ≤ 9223372036854775808))]) ∧ (valA 0 l ≤ 9223372036854775808 → m = (valA 0 l : Int)) := by
      by_cases h3 : valA 0 l ≤ 18446744073709551615
      · rw [if_pos h3]
        refine ⟨(valA 0 l : Int), ?_, fun _ => rfl⟩
        have : decide (((valA 0 l : Nat) : Int) ≤ 9223372036854775808) = decide (valA 0 l ≤ 9223372036854775808) := by rw [decide_eq_decide]; omega
        rw [← this]
        rfl
      · rw [if_neg h3]
        refine ⟨18446744073709551615, ?_, fun h => by omega⟩
        rw [decide_eq_false (by omega)]
        rfl
    obtain ⟨m, g1, g2⟩ := go
    unfold lead
    by_cases h1 : l.headD 0 = 48
    · rw [decide_eq_true h1, cond_true]
      by_cases h2 : 1 < l.length
      · rw [bif_t (by omega), decide_eq_true h2]
        exact ⟨0, rfl, fun h => by simp at h⟩
      · rw [bif_f (by omega), decide_eq_false h2, g1]
        exact ⟨m, by simp, fun h => g2 (by simpa using h)⟩
    · rw [decide_eq_false h1, cond_false, g1]
      exact ⟨m, by simp, fun h => g2 (by simpa using h)⟩
theorem ofInt_u8 (d : Nat) (h : d < 10) : (IntKind.wrap .u8 (IntKind.wrap .i64 ((48 : Int) + (d : Int)))) = ((48 + d : Nat) : Int) := by
  rw [i64w (by omega)]
  match d, h with
  | 0, _ | 1, _ | 2, _ | 3, _ | 4, _ | 5, _ | 6, _ | 7, _ | 8, _ | 9, _ => rfl
theorem digits_ref (m : Nat) : ∀ (u : Nat), u < 10 ^ (m + 1) → u ≤ 9223372036854775807 → kp E k (n + m + 1) ref04_Digits [.int .i64 (u : Int)] = some (.str (str (Lib.decDigits u))) := by
  induction m with
  | zero =>
    intro u hu _
    rw [ref04_Digits_eq, bif_t (by omega), ofInt_u8 u (by omega), Lib.decDigits_one (by omega)]
    rfl
  | succ m ih =>
    intro u hu hm
    by_cases h : u < 10
    · rw [ref04_Digits_eq, bif_t (by omega), ofInt_u8 u (by omega), Lib.decDigits_one h]
      rfl
    · have hu' : u < 10 ^ (m + 1) * 10 := by rw [← Nat.pow_succ]; exact hu
      have e1 : Int.tdiv (u : Int) 10 = ((u / 10 : Nat) : Int) := rfl
      have e2 : Int.tmod (u : Int) 10 = ((u % 10 : Nat) : Int) := rfl
      rw [show n + (m + 1) + 1 = (n + m + 1) + 1 from rfl, ref04_Digits_eq, bif_f (by omega), e1, e2, i64w (x := ((u / 10 : Nat) : Int)) (by omega), ih (u / 10) (by omega) (by omega), callS_ok, ofInt_u8 _ (by omega)]
      have hlen : (Lib.decDigits (u / 10)).length ≤ 21 := by
        have := Lib.itoa_length_le ((u / 10 : Nat) : Int) (by omega) (by omega)
        rwa [Lib.itoa_nonneg] at this
      show (bif decide ((str (Lib.decDigits (u / 10))).size + (str [UInt8.ofNat (48 + u % 10)]).size ≤ 9223372036854775807) then _ else _) = _
      rw [str_size, str_size, bif_t (by simp; omega), decDigits_rec h]
      rw [str_app, Int.toNat_natCast]
end Go.Proofs.YtilbahgfjfcikaaGreatDoor.Eng.U

/- The functions of the Dec laws in plain words, part 2: printing. -/
set_option linter.unusedVariables false
set_option linter.unusedSectionVars false
set_option linter.unusedSimpArgs false
namespace Go.Proofs.YtilbahgfjfcikaaGreatDoor.Eng.U
open Go Go.Proofs Go.Proofs.YtilbahgfjfcikaaGreatDoor.Eng Go.Proofs.YtilbahgfjfcikaaGreatDoor.P04
variable {E : Ext} [Core E] [HasNum E] {k n : Nat}

theorem dig_len (u : Nat) (h : u ≤ 9223372036854775808) : (Lib.decDigits u).length ≤ 21 := by
  rw [Lib.decDigits_length]
  cases u with
  | zero => rw [Lib.nDigits_small (by omega)]; omega
  | succ u =>
    by_cases h2 : u + 1 < 9223372036854775808
    · have := Lib.itoa_length_le ((u + 1 : Nat) : Int) (by omega) (by omega)
      rwa [Lib.itoa_nonneg, Lib.decDigits_length] at this
    · rw [Lib.nDigits_unique 18 (u + 1) (by omega) (by omega)]; omega
theorem digits20 (u : Nat) (hu : u ≤ 9223372036854775807) : kp E k (n + 19) ref04_Digits [.int .i64 (u : Int)] = some (.str (str (Lib.decDigits u))) :=
  digits_ref (n := n) 18 u (by omega) hu
theorem refText_k (v : Int) (h0 : -9223372036854775808 ≤ v) (h1 : v ≤ 9223372036854775807) : kp E k (n + 20) ref04_Text [.int .i64 v] = some (.str (str (Lib.itoa v))) := by
  rw [ref04_Text_eq]
  by_cases hv : 0 ≤ v
  · obtain ⟨u, rfl⟩ := Int.eq_ofNat_of_zero_le hv
    rw [bif_t (by omega), digits20 u (by omega), callS_ok, Lib.itoa_nonneg]
  · obtain ⟨u, rfl⟩ : ∃ u : Nat, v = -(u : Int) := ⟨v.natAbs, by omega⟩
    have e1 : Int.tdiv (-(u : Int)) 10 = -((u / 10 : Nat) : Int) := by rw [Int.neg_tdiv]; rfl
    have e2 : Int.tmod (-(u : Int)) 10 = -((u % 10 : Nat) : Int) := by rw [Int.neg_tmod]; rfl
    rw [bif_f (by omega), Lib.itoa_neg u (by omega)]
    by_cases hs : u < 10
    · have := dig_len u (by omega)
      rw [bif_t (by omega), i64w (by omega), show (0 : Int) - -(u : Int) = (u : Int) from by omega, digits20 u (by omega), callS_ok, str_size, bif_t (by omega), str_app]
      rfl
    · have g1 := dig_len (u / 10) (by omega)
      have g2 := dig_len (u % 10) (by omega)
      rw [bif_f (by omega), e1, e2, i64w (x := -((u / 10 : Nat) : Int)) (by omega), i64w (x := 0 - -((u / 10 : Nat) : Int)) (by omega), show (0 : Int) - -((u / 10 : Nat) : Int) = ((u / 10 : Nat) : Int) from by omega, digits20 (u / 10) (by omega), callS_ok, str_size, bif_t (by omega), i64w (by omega), show (0 : Int) - -((u % 10 : Nat) : Int) = ((u % 10 : Nat) : Int) from by omega, digits20 (u % 10) (by omega), callS_ok, str_app, str_size, str_size, bif_t (by simp; omega), str_app, decDigits_rec hs, Lib.decDigits_one (i := u % 10) (by omega)]
      rfl
def rightT (t : Int) : Bool := decide (0 ≤ t) && decide (t < 1000000000)
theorem right_k (s t : Int) : kp E k (n + 1) dec_Right [.agg [.int .i64 s, .int .i64 t]] = some (.bool (rightT t)) := by
  rw [dec_Right_eq]
  unfold rightT
  by_cases h : 0 ≤ t
  · rw [bif_t (by omega), decide_eq_true h, Bool.true_and]
  · rw [bif_f (by omega), decide_eq_false h, Bool.false_and]
theorem refRight_k (s t : Int) : kp E k (n + 1) ref04_Right [.agg [.int .i64 s, .int .i64 t]] = some (.bool (rightT t)) := by
  rw [ref04_Right_eq]
  unfold rightT
  by_cases h : 0 ≤ t
  · rw [bif_t (by omega), decide_eq_true h, Bool.true_and]
    congr 2
    rw [decide_eq_decide]
    omega
  · rw [bif_f (by omega), decide_eq_false h, Bool.false_and]
theorem frac_len : ∀ k n, (frac k n).length = k
  | 0, _ => rfl
  | k + 1, n => by unfold frac; rw [List.length_cons, frac_len k]
theorem loopP_len : ∀ k n, (loopP k n).length ≤ k
  | 0, _ => Nat.le_refl _
  | k + 1, n => by
    unfold loopP
    split
    · simp
    · rw [List.length_cons]
      have := loopP_len k (n % 100000000 * 10)
      omega
theorem ext_one (c : UInt8) (l : List UInt8) : ByteArray.extract (str (c :: l)) 1 (l.length + 1) = str l := by
  rw [str_ext]
  simp
end Go.Proofs.YtilbahgfjfcikaaGreatDoor.Eng.U

/- The functions of the Dec laws in plain words, part 3: reading. -/
set_option linter.unusedVariables false
set_option linter.unusedSectionVars false
set_option linter.unusedSimpArgs false
namespace Go.Proofs.YtilbahgfjfcikaaGreatDoor.Eng.U
open Go Go.Proofs Go.Proofs.YtilbahgfjfcikaaGreatDoor.Eng Go.Proofs.YtilbahgfjfcikaaGreatDoor.P04
variable {E : Ext} [Core E] [HasNum E] {k n : Nat}

theorem dot_le (t : List UInt8) : dot t ≤ t.length := List.findIdx_le_length
theorem cut_k (t : List UInt8) (ht : t.length < 1000000000000) : kp E k (n + 2) strings_Cut [.str (str t), .str (str [46])] = some (.tup [.str (str (t.take (dot t))), .str (str (t.drop (dot t + 1))), .bool (decide (dot t < t.length))]) := by
  have hd := dot_le t
  rw [strings_Cut_eq, stringslite_Cut_eq, HasNum.index k n t 46, callI_ok, index_dot]
  by_cases h : dot t < t.length
  · rw [if_pos h, decide_eq_true h, bif_t (by omega), str_size, str_size, List.length_singleton, wrapP (by omega) (by omega), bif_a, bif_t (by omega), bif_t (by omega), bif_a, bif_t (by omega), bif_t (by omega), Int.toNat_natCast, Int.toNat_natCast, str_ext, str_ext, List.take_length, List.drop_zero]
    rfl
  · rw [if_neg h, decide_eq_false h, bif_f (by omega), List.take_of_length_le (by omega), List.drop_of_length_le (by omega)]
    rfl
theorem trim_minus (s : List UInt8) : Lib.trimPrefix s [45] = (if s.head? = some 45 then s.drop 1 else s) ∧ Lib.hasPrefix s [45] = decide (s.head? = some 45) := by
  have h : Lib.hasPrefix s [45] = decide (s.head? = some 45) := by
    unfold Lib.hasPrefix
    cases s with
    | nil => rfl
    | cons c s =>
      simp only [List.isPrefixOf, List.head?_cons, Option.some.injEq, Bool.and_true]
      rw [Bool.eq_iff_iff, beq_iff_eq, decide_eq_true_eq]
      exact eq_comm
  refine ⟨?_, h⟩
  unfold Lib.trimPrefix
  rw [h]
  by_cases hs : s.head? = some 45
  · rw [if_pos hs, if_pos (decide_eq_true hs)]; rfl
  · rw [if_neg hs, if_neg (by simpa using hs)]
theorem repeat48 : ∀ c, Lib.repeatL [48] c = List.replicate c (48 : UInt8)
  | 0 => rfl
  | c + 1 => by rw [Lib.repeatL, repeat48 c]; rfl
theorem zeros_dig (c : Nat) : (List.replicate c (48 : UInt8)).all isDig = true := by
  rw [List.all_eq_true]
  intro x hx
  rw [List.eq_of_mem_replicate hx]
  rfl
theorem parseI_eq {l : List UInt8} (hd : digs l = true) (h9 : l.length ≤ 9) : Lib.parseIntB 64 l = .ok (valA 0 l : Int) ∧ valA 0 l < 1000000000 := by
  have hall := digs_all hd
  have hv : valA 0 l < 10 ^ (0 + l.length) := valA_lt l 0 0 hall (by omega)
  have hp : 10 ^ (0 + l.length) ≤ 10 ^ 9 := Nat.pow_le_pow_right (by omega) (by omega)
  have hlt : valA 0 l < 1000000000 := by omega
  refine ⟨?_, hlt⟩
  have hB := parseB_eq hd
  rw [if_pos (by omega)] at hB
  cases l with
  | nil => simp [digs] at hd
  | cons c r =>
    rw [List.all_cons, Bool.and_eq_true] at hall
    have hc := dig_iff.1 hall.1
    unfold Lib.parseIntB
    dsimp only
    rw [if_neg (show ¬ (c.toNat = 43 ∨ c.toNat = 45) by omega), hB]
    dsimp only
    have h1 : ¬ (2 : Nat) ^ (64 - 1) ≤ valA 0 (c :: r) := by
      have : (2 : Nat) ^ (64 - 1) = 9223372036854775808 := rfl
      omega
    rw [if_neg (fun h => h1 h.2), if_neg (fun h => by omega), if_neg (by omega)]
theorem nano_digs {b : List UInt8} (hd : digs b = true) (h9 : b.length ≤ 9) : digs (b ++ List.replicate (9 - b.length) 48) = true ∧ (b ++ List.replicate (9 - b.length) (48 : UInt8)).length = 9 := by
  constructor
  · unfold digs
    rw [List.all_append, digs_all hd, zeros_dig, Bool.true_and, Bool.true_and]
    have := digs_ne hd
    cases b with
    | nil => exact absurd rfl this
    | cons c b => rfl
  · rw [List.length_append, List.length_replicate]; omega
theorem half {v : Nat} : decide (Int.fdiv (v : Int) (2 ^ (min (Int.toNat (63 : Int)) (IntKind.bits .u64))) > (0 : Int)) = decide (9223372036854775807 < v) := by
  have e : ((2 : Int) ^ (min (Int.toNat (63 : Int)) (IntKind.bits .u64))) = 9223372036854775808 := rfl
  rw [e, decide_eq_decide, Int.fdiv_eq_ediv_of_nonneg _ (by omega)]
  omega
theorem negW {v : Nat} (h : v ≤ 9223372036854775808) : IntKind.wrap .i64 (IntKind.wrap .u64 (0 - (v : Int))) = -(v : Int) := by
  rw [IntKind.wrap_u64, IntKind.wrap_i64]
  omega
def timeAV : Option (Int × Int) → AV
  | some (a, b) => .tup [.agg [.int .i64 a, .int .i64 b], .int .u8 0]
  | none => .tup [.agg [.int .i64 0, .int .i64 0], .int .u8 15]
theorem number_k (l : List UInt8) (hb : l.length < 1000000000000) (hk : l.length < k) : kp E k (n + 3) dec_Number [.str (str l)] = some (bif natOk l && decide (valA 0 l ≤ 9223372036854775807) then .tup [.int .i64 (valA 0 l : Int), .int .u8 0] else .tup [.int .i64 0, .int .u8 15]) := by
  obtain ⟨m, h1, h2⟩ := natural_k (E := E) (k := k) (n := n) l (by omega) hk
  rw [dec_Number_eq, h1]
  simp (disch := first | omega | (simp only [List.length_append, List.length_cons, List.length_nil, List.length_take, List.length_drop]; done) | (simp only [List.length_append, List.length_cons, List.length_nil, List.length_take, List.length_drop]; omega) | fail) only [bif_t, bif_f, bif_n, bif_a, callB_ok, callI_ok, callS_ok, callL_ok, callF_ok, callT_ok, tupB_ok, tupI_ok, tupS_ok, tupL_ok, tupF_ok, atNil_ok, wrap1, wrapM, wrapP, Int.toNat_natCast, svs_len, ivs_len, bvs_len, str_size, svs_mid, ivs_mid, str_dec, str_ext, str_byte, mid_byte, mid_cut, List.length_nil, List.length_singleton, svs_snoc, ivs_snoc, svs_take, svs_drop, str_app, List.take_length, List.drop_zero, List.nil_append, cond_true, cond_false, Option.bind_some, Bool.not_true, Bool.not_false, Bool.true_and, Bool.and_true]
  cases ho : natOk l with
  | false => rfl
  | true =>
    rw [h2 ho]
    simp only [Bool.not_true, cond_false, Bool.true_and, half]
    by_cases hv : 9223372036854775807 < valA 0 l
    · rw [bif_t hv, decide_eq_false (by omega)]; rfl
    · rw [bif_f hv, decide_eq_true (by omega), i64w (by omega)]; rfl
theorem refNumber_k (l : List UInt8) (hb : l.length < 1000000000000) (hk : l.length < k) : kp E k (n + 3) ref04_Number [.str (str l)] = some (bif natOk l && decide (valA 0 l ≤ 9223372036854775807) then .tup [.int .i64 (valA 0 l : Int), .bool true] else .tup [.int .i64 0, .bool false]) := by
  rw [ref04_Number_eq, below_k l (by omega) hk]
  simp (disch := first | omega | (simp only [List.length_append, List.length_cons, List.length_nil, List.length_take, List.length_drop]; done) | (simp only [List.length_append, List.length_cons, List.length_nil, List.length_take, List.length_drop]; omega) | fail) only [bif_t, bif_f, bif_n, bif_a, callB_ok, callI_ok, callS_ok, callL_ok, callF_ok, callT_ok, tupB_ok, tupI_ok, tupS_ok, tupL_ok, tupF_ok, atNil_ok, wrap1, wrapM, wrapP, Int.toNat_natCast, svs_len, ivs_len, bvs_len, str_size, svs_mid, ivs_mid, str_dec, str_ext, str_byte, mid_byte, mid_cut, List.length_nil, List.length_singleton, svs_snoc, ivs_snoc, svs_take, svs_drop, str_app, List.take_length, List.drop_zero, List.nil_append, cond_true, cond_false, Option.bind_some, Bool.not_true, Bool.not_false, Bool.true_and, Bool.and_true]
  cases ho : natOk l with
  | false => rfl
  | true =>
    have hv : valA 0 l ≤ 9223372036854775808 := by
      unfold natOk at ho
      rw [Bool.and_eq_true, decide_eq_true_eq] at ho
      exact ho.2
    simp only [if_true, Bool.not_true, cond_false, Bool.true_and]
    by_cases hv : 9223372036854775807 < valA 0 l
    · rw [bif_t (by omega), decide_eq_false (by omega)]; rfl
    · rw [bif_f (by omega), decide_eq_true (by omega), i64w (by omega), show (0 : Int) - -(valA 0 l : Int) = (valA 0 l : Int) from by omega]; rfl
theorem natOk_le {l : List UInt8} (ho : natOk l = true) : valA 0 l ≤ 9223372036854775808 := by
  unfold natOk at ho
  rw [Bool.and_eq_true, decide_eq_true_eq] at ho
  exact ho.2
theorem time_k (s : List UInt8) (hs : s.length < 100000000000) (hk : s.length < k) : kp E k (n + 3) dec_Time [.str (str s)] = some (timeAV (timeL s)) := by
  obtain ⟨t1, t2⟩ := trim_minus s
  rw [dec_Time_eq, HasNum.cutP, t1, t2]
  unfold timeL
  have hle : (if s.head? = some 45 then s.drop 1 else s).length ≤ s.length := by split <;> simp
  generalize (if s.head? = some 45 then s.drop 1 else s) = t at hle
  generalize decide (s.head? = some 45) = minus
  simp (disch := first | omega | (simp only [List.length_append, List.length_cons, List.length_nil, List.length_take, List.length_drop]; done) | (simp only [List.length_append, List.length_cons, List.length_nil, List.length_take, List.length_drop]; omega) | fail) only [bif_t, bif_f, bif_n, bif_a, callB_ok, callI_ok, callS_ok, callL_ok, callF_ok, callT_ok, tupB_ok, tupI_ok, tupS_ok, tupL_ok, tupF_ok, atNil_ok, wrap1, wrapM, wrapP, Int.toNat_natCast, svs_len, ivs_len, bvs_len, str_size, svs_mid, ivs_mid, str_dec, str_ext, str_byte, mid_byte, mid_cut, List.length_nil, List.length_singleton, svs_snoc, ivs_snoc, svs_take, svs_drop, str_app, List.take_length, List.drop_zero, List.nil_append, cond_true, cond_false, Option.bind_some, Bool.not_true, Bool.not_false, Bool.true_and, Bool.and_true]
  rw [cut_k t (by omega)]
  simp (disch := first | omega | (simp only [List.length_append, List.length_cons, List.length_nil, List.length_take, List.length_drop]; done) | (simp only [List.length_append, List.length_cons, List.length_nil, List.length_take, List.length_drop]; omega) | fail) only [bif_t, bif_f, bif_n, bif_a, callB_ok, callI_ok, callS_ok, callL_ok, callF_ok, callT_ok, tupB_ok, tupI_ok, tupS_ok, tupL_ok, tupF_ok, atNil_ok, wrap1, wrapM, wrapP, Int.toNat_natCast, svs_len, ivs_len, bvs_len, str_size, svs_mid, ivs_mid, str_dec, str_ext, str_byte, mid_byte, mid_cut, List.length_nil, List.length_singleton, svs_snoc, ivs_snoc, svs_take, svs_drop, str_app, List.take_length, List.drop_zero, List.nil_append, cond_true, cond_false, Option.bind_some, Bool.not_true, Bool.not_false, Bool.true_and, Bool.and_true]
  obtain ⟨m, h1, h2⟩ := natural_k (E := E) (k := k) (n := n) (t.take (dot t)) (by rw [List.length_take]; omega) (by rw [List.length_take]; omega)
  rw [h1]
  simp (disch := first | omega | (simp only [List.length_append, List.length_cons, List.length_nil, List.length_take, List.length_drop]; done) | (simp only [List.length_append, List.length_cons, List.length_nil, List.length_take, List.length_drop]; omega) | fail) only [bif_t, bif_f, bif_n, bif_a, callB_ok, callI_ok, callS_ok, callL_ok, callF_ok, callT_ok, tupB_ok, tupI_ok, tupS_ok, tupL_ok, tupF_ok, atNil_ok, wrap1, wrapM, wrapP, Int.toNat_natCast, svs_len, ivs_len, bvs_len, str_size, svs_mid, ivs_mid, str_dec, str_ext, str_byte, mid_byte, mid_cut, List.length_nil, List.length_singleton, svs_snoc, ivs_snoc, svs_take, svs_drop, str_app, List.take_length, List.drop_zero, List.nil_append, cond_true, cond_false, Option.bind_some, Bool.not_true, Bool.not_false, Bool.true_and, Bool.and_true]
  unfold timeB
  dsimp only
  cases ho : natOk (t.take (dot t)) with
  | false => rfl
  | true =>
    obtain rfl := h2 ho
    have hv := natOk_le ho
    generalize valA 0 (t.take (dot t)) = v at hv
    rw [if_neg (by simp)]
    simp only [half, cond_true, cond_false, Bool.not_true, Bool.not_false]
    by_cases hp : dot t < t.length
    · have hbl : (t.drop (dot t + 1)).length ≤ t.length := by rw [List.length_drop]; omega
      rw [decide_eq_true hp]
      generalize hbe : t.drop (dot t + 1) = b at hbl
      rw [if_pos hp]
      simp only [cond_true, cond_false, Bool.not_true, Bool.not_false]
      rw [digits_k b (by omega) (by omega)]
      simp (disch := first | omega | (simp only [List.length_append, List.length_cons, List.length_nil, List.length_take, List.length_drop]; done) | (simp only [List.length_append, List.length_cons, List.length_nil, List.length_take, List.length_drop]; omega) | fail) only [bif_t, bif_f, bif_n, bif_a, callB_ok, callI_ok, callS_ok, callL_ok, callF_ok, callT_ok, tupB_ok, tupI_ok, tupS_ok, tupL_ok, tupF_ok, atNil_ok, wrap1, wrapM, wrapP, Int.toNat_natCast, svs_len, ivs_len, bvs_len, str_size, svs_mid, ivs_mid, str_dec, str_ext, str_byte, mid_byte, mid_cut, List.length_nil, List.length_singleton, svs_snoc, ivs_snoc, svs_take, svs_drop, str_app, List.take_length, List.drop_zero, List.nil_append, cond_true, cond_false, Option.bind_some, Bool.not_true, Bool.not_false, Bool.true_and, Bool.and_true]
      cases hd : digs b with
      | false => rw [if_pos ⟨hp, fun h => by simp at h⟩]; rfl
      | true =>
        simp only [cond_true, cond_false, Bool.not_true, Bool.not_false]
        by_cases h9 : b.length ≤ 9
        · obtain ⟨q1, q2⟩ := nano_digs hd h9
          obtain ⟨q3, q4⟩ := parseI_eq q1 (by omega)
          rw [if_neg (fun h => h.2 ⟨trivial, h9⟩), bif_f (by omega), i64w (x := 9 - ((b.length : Nat) : Int)) (by omega), show (9 : Int) - ((b.length : Nat) : Int) = ((9 - b.length : Nat) : Int) from by omega, HasNum.rep k (n + 2) _ _ (by omega) (by rw [List.length_singleton]; omega), repeat48]
          simp (disch := first | omega | (simp only [List.length_append, List.length_cons, List.length_nil, List.length_take, List.length_drop]; done) | (simp only [List.length_append, List.length_cons, List.length_nil, List.length_take, List.length_drop]; omega) | fail) only [bif_t, bif_f, bif_n, bif_a, callB_ok, callI_ok, callS_ok, callL_ok, callF_ok, callT_ok, tupB_ok, tupI_ok, tupS_ok, tupL_ok, tupF_ok, atNil_ok, wrap1, wrapM, wrapP, Int.toNat_natCast, svs_len, ivs_len, bvs_len, str_size, svs_mid, ivs_mid, str_dec, str_ext, str_byte, mid_byte, mid_cut, List.length_nil, List.length_singleton, svs_snoc, ivs_snoc, svs_take, svs_drop, str_app, List.take_length, List.drop_zero, List.nil_append, cond_true, cond_false, Option.bind_some, Bool.not_true, Bool.not_false, Bool.true_and, Bool.and_true]
          rw [List.length_replicate, bif_t (by omega), HasNum.pint k (n + 2) _ (by omega), q3]
          generalize valA 0 (b ++ List.replicate (9 - b.length) 48) = w at q4
          unfold endI
          simp (disch := first | omega | (simp only [List.length_append, List.length_cons, List.length_nil, List.length_take, List.length_drop]; done) | (simp only [List.length_append, List.length_cons, List.length_nil, List.length_take, List.length_drop]; omega) | fail) only [bif_t, bif_f, bif_n, bif_a, callB_ok, callI_ok, callS_ok, callL_ok, callF_ok, callT_ok, tupB_ok, tupI_ok, tupS_ok, tupL_ok, tupF_ok, atNil_ok, wrap1, wrapM, wrapP, Int.toNat_natCast, svs_len, ivs_len, bvs_len, str_size, svs_mid, ivs_mid, str_dec, str_ext, str_byte, mid_byte, mid_cut, List.length_nil, List.length_singleton, svs_snoc, ivs_snoc, svs_take, svs_drop, str_app, List.take_length, List.drop_zero, List.nil_append, cond_true, cond_false, Option.bind_some, Bool.not_true, Bool.not_false, Bool.true_and, Bool.and_true]
          have e0 : ∀ K : AV → List AV → Option AV, tupV [AV.nili] K = K .nili [] := fun K => rfl
          rw [e0]
          simp (disch := first | omega | (simp only [List.length_append, List.length_cons, List.length_nil, List.length_take, List.length_drop]; done) | (simp only [List.length_append, List.length_cons, List.length_nil, List.length_take, List.length_drop]; omega) | fail) only [bif_t, bif_f, bif_n, bif_a, callB_ok, callI_ok, callS_ok, callL_ok, callF_ok, callT_ok, tupB_ok, tupI_ok, tupS_ok, tupL_ok, tupF_ok, atNil_ok, wrap1, wrapM, wrapP, Int.toNat_natCast, svs_len, ivs_len, bvs_len, str_size, svs_mid, ivs_mid, str_dec, str_ext, str_byte, mid_byte, mid_cut, List.length_nil, List.length_singleton, svs_snoc, ivs_snoc, svs_take, svs_drop, str_app, List.take_length, List.drop_zero, List.nil_append, cond_true, cond_false, Option.bind_some, Bool.not_true, Bool.not_false, Bool.true_and, Bool.and_true]
          cases minus with
          | false =>
            simp only [cond_true, cond_false, Bool.not_true, Bool.not_false, if_true]
            by_cases h3 : 9223372036854775807 < v
            · rw [bif_t h3, if_pos h3]; rfl
            · rw [bif_f h3, if_neg h3, i64w (by omega)]; rfl
          | true =>
            simp only [cond_true, cond_false, Bool.not_true, Bool.not_false, if_neg (show ¬ true = false by decide)]
            by_cases h4 : w = 0
            · subst h4
              rw [bif_t (by omega), if_pos rfl, negW (by omega)]; rfl
            · rw [bif_f (by omega), if_neg h4]
              by_cases h3 : 9223372036854775807 < v
              · rw [bif_t h3, if_pos h3]; rfl
              · rw [bif_f h3, if_neg h3, i64w (x := (v : Int)) (by omega), i64w (x := 0 - (v : Int)) (by omega), i64w (x := 0 - (v : Int) - 1) (by omega), i64w (by omega), show (0 : Int) - (v : Int) - 1 = -(v : Int) - 1 from by omega]; rfl
        · rw [if_pos ⟨hp, fun h => h9 h.2⟩, bif_t (by omega)]
          rfl
    · rw [decide_eq_false hp, if_neg (fun h => hp h.1), if_neg hp]
      simp only [cond_true, cond_false, Bool.not_true, Bool.not_false]
      cases minus with
      | false =>
        simp only [cond_true, cond_false, Bool.not_true, Bool.not_false, if_true]
        by_cases h3 : 9223372036854775807 < v
        · rw [bif_t h3, if_pos h3]; rfl
        · rw [bif_f h3, if_neg h3, i64w (by omega)]; rfl
      | true =>
        simp only [cond_true, cond_false, Bool.not_true, Bool.not_false, if_neg (show ¬ true = false by decide), if_true]
        rw [negW (by omega)]; rfl
end Go.Proofs.YtilbahgfjfcikaaGreatDoor.Eng.U

/- The program's own data: pairs, times, heads, items: as structures, as abstract values, as a row hands them in. Printed by apigen.py. -/
set_option linter.unusedVariables false
namespace Go.Proofs.YtilbahgfjfcikaaGreatDoor.Eng.U
open Go Go.Proofs Go.Proofs.YtilbahgfjfcikaaGreatDoor.Eng
abbrev Tx := List UInt8
structure Pair where
  key : Tx
  val : Tx
  deriving DecidableEq, Inhabited
structure Time where
  sec : Int
  nano : Int
  deriving DecidableEq, Inhabited
structure Head where
  kind : Int
  name : Tx
  link : Tx
  mode : Int
  uid : Int
  gid : Int
  size : Int
  sec : Int
  nano : Int
  user : Tx
  group : Tx
  major : Int
  minor : Int
  extra : List Pair
  deriving DecidableEq, Inhabited
structure Item where
  head : Head
  data : Tx
  deriving DecidableEq, Inhabited
def bys (l : Tx) : List AV := l.map byteAV
def encPair (p : Pair) : List AV := [.str (str p.key), .str (str p.val)]
def elPair (p : Pair) : AV := .agg (encPair p)
def prs (l : List Pair) : List AV := l.map elPair
def encTime (t : Time) : List AV := [.int .i64 t.sec, .int .i64 t.nano]
def elTime (t : Time) : AV := .agg (encTime t)
def encHead (h : Head) : List AV := [.int .i64 h.kind, .str (str h.name), .str (str h.link), .int .i64 h.mode, .int .i64 h.uid, .int .i64 h.gid, .int .i64 h.size, .int .i64 h.sec, .int .i64 h.nano, .str (str h.user), .str (str h.group), .int .i64 h.major, .int .i64 h.minor, .list 2 (prs h.extra)]
def elHead (h : Head) : AV := .agg (encHead h)
def hds (l : List Head) : List AV := l.map elHead
def encItem (x : Item) : List AV := [.int .i64 x.head.kind, .str (str x.head.name), .str (str x.head.link), .int .i64 x.head.mode, .int .i64 x.head.uid, .int .i64 x.head.gid, .int .i64 x.head.size, .int .i64 x.head.sec, .int .i64 x.head.nano, .str (str x.head.user), .str (str x.head.group), .int .i64 x.head.major, .int .i64 x.head.minor, .list 2 (prs x.head.extra), .list 1 (bys x.data)]
def elItem (x : Item) : AV := .agg (encItem x)
def its (l : List Item) : List AV := l.map elItem
theorem bys_len (l : Tx) : (bys l).length = l.length := by simp [bys]
theorem prs_len (l : List Pair) : (prs l).length = l.length := by simp [prs]
theorem its_len (l : List Item) : (its l).length = l.length := by simp [its]
theorem hds_len (l : List Head) : (hds l).length = l.length := by simp [hds]
theorem cells_pair (p : Pair) : AV.cells (elPair p) = encPair p := (rfl)
theorem cells_time (p : Time) : AV.cells (elTime p) = encTime p := (rfl)
theorem cells_head (p : Head) : AV.cells (elHead p) = encHead p := (rfl)
theorem cells_item (p : Item) : AV.cells (elItem p) = encItem p := (rfl)
theorem fold_pair (p : Pair) : AV.agg [.str (str p.key), .str (str p.val)] = elPair p := (rfl)
theorem fold_time (t : Time) : AV.agg [.int .i64 t.sec, .int .i64 t.nano] = elTime t := (rfl)
theorem fold_head (h : Head) : AV.agg [.int .i64 h.kind, .str (str h.name), .str (str h.link), .int .i64 h.mode, .int .i64 h.uid, .int .i64 h.gid, .int .i64 h.size, .int .i64 h.sec, .int .i64 h.nano, .str (str h.user), .str (str h.group), .int .i64 h.major, .int .i64 h.minor, .list 2 (prs h.extra)] = elHead h := (rfl)
theorem fold_ihead (x : Item) : AV.agg [.int .i64 x.head.kind, .str (str x.head.name), .str (str x.head.link), .int .i64 x.head.mode, .int .i64 x.head.uid, .int .i64 x.head.gid, .int .i64 x.head.size, .int .i64 x.head.sec, .int .i64 x.head.nano, .str (str x.head.user), .str (str x.head.group), .int .i64 x.head.major, .int .i64 x.head.minor, .list 2 (prs x.head.extra)] = elHead x.head := (rfl)
theorem fold_item (x : Item) : AV.agg [.int .i64 x.head.kind, .str (str x.head.name), .str (str x.head.link), .int .i64 x.head.mode, .int .i64 x.head.uid, .int .i64 x.head.gid, .int .i64 x.head.size, .int .i64 x.head.sec, .int .i64 x.head.nano, .str (str x.head.user), .str (str x.head.group), .int .i64 x.head.major, .int .i64 x.head.minor, .list 2 (prs x.head.extra), .list 1 (bys x.data)] = elItem x := (rfl)
section
variable {β : Type}
theorem prs_at (l : List Pair) (i : Nat) (h : i < l.length) (F : AV → Option β) : ((prs l)[i]?).bind F = F (elPair l[i]) := by unfold prs; rw [List.getElem?_map, List.getElem?_eq_getElem h]; rfl
theorem its_at (l : List Item) (i : Nat) (h : i < l.length) (F : AV → Option β) : ((its l)[i]?).bind F = F (elItem l[i]) := by unfold its; rw [List.getElem?_map, List.getElem?_eq_getElem h]; rfl
theorem hds_at (l : List Head) (i : Nat) (h : i < l.length) (F : AV → Option β) : ((hds l)[i]?).bind F = F (elHead l[i]) := by unfold hds; rw [List.getElem?_map, List.getElem?_eq_getElem h]; rfl
theorem bys_at (l : Tx) (i : Nat) (h : i < l.length) (F : AV → Option β) : ((bys l)[i]?).bind F = F (byteAV l[i]) := by unfold bys; rw [List.getElem?_map, List.getElem?_eq_getElem h]; rfl
theorem prs_mid (a b : List Pair) (x : Pair) (F : AV → Option β) : ((prs (a ++ x :: b))[a.length]?).bind F = F (elPair x) := by rw [prs_at _ _ (by simp)]; simp
theorem its_mid (a b : List Item) (x : Item) (F : AV → Option β) : ((its (a ++ x :: b))[a.length]?).bind F = F (elItem x) := by rw [its_at _ _ (by simp)]; simp
theorem hds_mid (a b : List Head) (x : Head) (F : AV → Option β) : ((hds (a ++ x :: b))[a.length]?).bind F = F (elHead x) := by rw [hds_at _ _ (by simp)]; simp
theorem bys_mid (a b : Tx) (x : UInt8) (F : AV → Option β) : ((bys (a ++ x :: b))[a.length]?).bind F = F (byteAV x) := by rw [bys_at _ _ (by simp)]; simp
theorem byte_c (c : UInt8) (K : Int → Option β) : cellI .u8 (AV.cells (byteAV c)) 0 K = K ((c.toNat : Nat) : Int) := cellI_0 _ _ _
theorem callG_pair (p : Pair) (K : List AV → Option β) : callG 2 (some (elPair p)) K = K (encPair p) := (rfl)
theorem callG_time (p : Time) (K : List AV → Option β) : callG 2 (some (elTime p)) K = K (encTime p) := (rfl)
theorem callG_head (p : Head) (K : List AV → Option β) : callG 14 (some (elHead p)) K = K (encHead p) := (rfl)
theorem callG_item (p : Item) (K : List AV → Option β) : callG 15 (some (elItem p)) K = K (encItem p) := (rfl)
theorem tupG_pair (p : Pair) (t : List AV) (K : List AV → List AV → Option β) : tupG 2 (elPair p :: t) K = K (encPair p) t := (rfl)
theorem tupG_time (p : Time) (t : List AV) (K : List AV → List AV → Option β) : tupG 2 (elTime p :: t) K = K (encTime p) t := (rfl)
theorem tupG_head (p : Head) (t : List AV) (K : List AV → List AV → Option β) : tupG 14 (elHead p :: t) K = K (encHead p) t := (rfl)
theorem tupG_item (p : Item) (t : List AV) (K : List AV → List AV → Option β) : tupG 15 (elItem p :: t) K = K (encItem p) t := (rfl)
theorem h_0 (x : Head) (K : Int → Option β) : cellI .i64 (encHead x) 0 K = K x.kind := by first | exact (rfl) | (show cellI .i64 (encHead x) 0 K = _; simp [encHead, cellI, cellL, cellAt, atInt, atList])
theorem i_0 (x : Item) (K : Int → Option β) : cellI .i64 (encItem x) 0 K = K x.head.kind := by first | exact (rfl) | (show cellI .i64 (encItem x) 0 K = _; simp [encItem, cellI, cellL, cellAt, atInt, atList])
theorem h_1 (x : Head) (K : ByteArray → Option β) : cellS (encHead x) 1 K = K (str x.name) := by first | exact (rfl) | (show cellS (encHead x) 1 K = _; simp [encHead, cellI, cellL, cellAt, atInt, atList])
theorem i_1 (x : Item) (K : ByteArray → Option β) : cellS (encItem x) 1 K = K (str x.head.name) := by first | exact (rfl) | (show cellS (encItem x) 1 K = _; simp [encItem, cellI, cellL, cellAt, atInt, atList])
theorem h_2 (x : Head) (K : ByteArray → Option β) : cellS (encHead x) 2 K = K (str x.link) := by first | exact (rfl) | (show cellS (encHead x) 2 K = _; simp [encHead, cellI, cellL, cellAt, atInt, atList])
theorem i_2 (x : Item) (K : ByteArray → Option β) : cellS (encItem x) 2 K = K (str x.head.link) := by first | exact (rfl) | (show cellS (encItem x) 2 K = _; simp [encItem, cellI, cellL, cellAt, atInt, atList])
theorem h_3 (x : Head) (K : Int → Option β) : cellI .i64 (encHead x) 3 K = K x.mode := by first | exact (rfl) | (show cellI .i64 (encHead x) 3 K = _; simp [encHead, cellI, cellL, cellAt, atInt, atList])
theorem i_3 (x : Item) (K : Int → Option β) : cellI .i64 (encItem x) 3 K = K x.head.mode := by first | exact (rfl) | (show cellI .i64 (encItem x) 3 K = _; simp [encItem, cellI, cellL, cellAt, atInt, atList])
theorem h_4 (x : Head) (K : Int → Option β) : cellI .i64 (encHead x) 4 K = K x.uid := by first | exact (rfl) | (show cellI .i64 (encHead x) 4 K = _; simp [encHead, cellI, cellL, cellAt, atInt, atList])
theorem i_4 (x : Item) (K : Int → Option β) : cellI .i64 (encItem x) 4 K = K x.head.uid := by first | exact (rfl) | (show cellI .i64 (encItem x) 4 K = _; simp [encItem, cellI, cellL, cellAt, atInt, atList])
theorem h_5 (x : Head) (K : Int → Option β) : cellI .i64 (encHead x) 5 K = K x.gid := by first | exact (rfl) | (show cellI .i64 (encHead x) 5 K = _; simp [encHead, cellI, cellL, cellAt, atInt, atList])
theorem i_5 (x : Item) (K : Int → Option β) : cellI .i64 (encItem x) 5 K = K x.head.gid := by first | exact (rfl) | (show cellI .i64 (encItem x) 5 K = _; simp [encItem, cellI, cellL, cellAt, atInt, atList])
theorem h_6 (x : Head) (K : Int → Option β) : cellI .i64 (encHead x) 6 K = K x.size := by first | exact (rfl) | (show cellI .i64 (encHead x) 6 K = _; simp [encHead, cellI, cellL, cellAt, atInt, atList])
theorem i_6 (x : Item) (K : Int → Option β) : cellI .i64 (encItem x) 6 K = K x.head.size := by first | exact (rfl) | (show cellI .i64 (encItem x) 6 K = _; simp [encItem, cellI, cellL, cellAt, atInt, atList])
theorem h_7 (x : Head) (K : Int → Option β) : cellI .i64 (encHead x) 7 K = K x.sec := by first | exact (rfl) | (show cellI .i64 (encHead x) 7 K = _; simp [encHead, cellI, cellL, cellAt, atInt, atList])
theorem i_7 (x : Item) (K : Int → Option β) : cellI .i64 (encItem x) 7 K = K x.head.sec := by first | exact (rfl) | (show cellI .i64 (encItem x) 7 K = _; simp [encItem, cellI, cellL, cellAt, atInt, atList])
theorem h_8 (x : Head) (K : Int → Option β) : cellI .i64 (encHead x) 8 K = K x.nano := by first | exact (rfl) | (show cellI .i64 (encHead x) 8 K = _; simp [encHead, cellI, cellL, cellAt, atInt, atList])
theorem i_8 (x : Item) (K : Int → Option β) : cellI .i64 (encItem x) 8 K = K x.head.nano := by first | exact (rfl) | (show cellI .i64 (encItem x) 8 K = _; simp [encItem, cellI, cellL, cellAt, atInt, atList])
theorem h_9 (x : Head) (K : ByteArray → Option β) : cellS (encHead x) 9 K = K (str x.user) := by first | exact (rfl) | (show cellS (encHead x) 9 K = _; simp [encHead, cellI, cellL, cellAt, atInt, atList])
theorem i_9 (x : Item) (K : ByteArray → Option β) : cellS (encItem x) 9 K = K (str x.head.user) := by first | exact (rfl) | (show cellS (encItem x) 9 K = _; simp [encItem, cellI, cellL, cellAt, atInt, atList])
theorem h_10 (x : Head) (K : ByteArray → Option β) : cellS (encHead x) 10 K = K (str x.group) := by first | exact (rfl) | (show cellS (encHead x) 10 K = _; simp [encHead, cellI, cellL, cellAt, atInt, atList])
theorem i_10 (x : Item) (K : ByteArray → Option β) : cellS (encItem x) 10 K = K (str x.head.group) := by first | exact (rfl) | (show cellS (encItem x) 10 K = _; simp [encItem, cellI, cellL, cellAt, atInt, atList])
theorem h_11 (x : Head) (K : Int → Option β) : cellI .i64 (encHead x) 11 K = K x.major := by first | exact (rfl) | (show cellI .i64 (encHead x) 11 K = _; simp [encHead, cellI, cellL, cellAt, atInt, atList])
theorem i_11 (x : Item) (K : Int → Option β) : cellI .i64 (encItem x) 11 K = K x.head.major := by first | exact (rfl) | (show cellI .i64 (encItem x) 11 K = _; simp [encItem, cellI, cellL, cellAt, atInt, atList])
theorem h_12 (x : Head) (K : Int → Option β) : cellI .i64 (encHead x) 12 K = K x.minor := by first | exact (rfl) | (show cellI .i64 (encHead x) 12 K = _; simp [encHead, cellI, cellL, cellAt, atInt, atList])
theorem i_12 (x : Item) (K : Int → Option β) : cellI .i64 (encItem x) 12 K = K x.head.minor := by first | exact (rfl) | (show cellI .i64 (encItem x) 12 K = _; simp [encItem, cellI, cellL, cellAt, atInt, atList])
theorem h_13 (x : Head) (K : List AV → Option β) : cellL 2 (encHead x) 13 K = K (prs x.extra) := by first | exact (rfl) | (show cellL 2 (encHead x) 13 K = _; simp [encHead, cellI, cellL, cellAt, atInt, atList])
theorem i_13 (x : Item) (K : List AV → Option β) : cellL 2 (encItem x) 13 K = K (prs x.head.extra) := by first | exact (rfl) | (show cellL 2 (encItem x) 13 K = _; simp [encItem, cellI, cellL, cellAt, atInt, atList])
theorem i_14 (x : Item) (K : List AV → Option β) : cellL 1 (encItem x) 14 K = K (bys x.data) := by first | exact (rfl) | (show cellL 1 (encItem x) 14 K = _; simp [encItem, cellI, cellL, cellAt, atInt, atList])
theorem p_0 (x : Pair) (K : ByteArray → Option β) : cellS (encPair x) 0 K = K (str x.key) := by first | exact (rfl) | (show cellS (encPair x) 0 K = _; simp [encPair, cellI, cellL, cellAt, atInt, atList])
theorem p_1 (x : Pair) (K : ByteArray → Option β) : cellS (encPair x) 1 K = K (str x.val) := by first | exact (rfl) | (show cellS (encPair x) 1 K = _; simp [encPair, cellI, cellL, cellAt, atInt, atList])
theorem t_0 (x : Time) (K : Int → Option β) : cellI .i64 (encTime x) 0 K = K x.sec := by first | exact (rfl) | (show cellI .i64 (encTime x) 0 K = _; simp [encTime, cellI, cellL, cellAt, atInt, atList])
theorem t_1 (x : Time) (K : Int → Option β) : cellI .i64 (encTime x) 1 K = K x.nano := by first | exact (rfl) | (show cellI .i64 (encTime x) 1 K = _; simp [encTime, cellI, cellL, cellAt, atInt, atList])
end
end Go.Proofs.YtilbahgfjfcikaaGreatDoor.Eng.U

/- The Dec laws answer true. -/
set_option linter.unusedVariables false
set_option linter.unusedSectionVars false
set_option linter.unusedSimpArgs false
namespace Go.Proofs.YtilbahgfjfcikaaGreatDoor.Eng.U
open Go Go.Proofs Go.Proofs.YtilbahgfjfcikaaGreatDoor.Eng Go.Proofs.YtilbahgfjfcikaaGreatDoor.P04
variable {E : Ext} [Core E] [HasNum E] {k n : Nat}

end Go.Proofs.YtilbahgfjfcikaaGreatDoor.Eng.U

/- The program's own data as a row hands them in: what is read is some item, with bounds. -/
set_option linter.unusedVariables false
set_option linter.unusedSimpArgs false
namespace Go.Proofs.YtilbahgfjfcikaaGreatDoor.Eng.U
open Go Go.Proofs Go.Proofs.YtilbahgfjfcikaaGreatDoor.Eng Go.Proofs.YtilbahgfjfcikaaGreatDoor.Eng.Rdv

def InR (n : Int) : Prop := -9223372036854775808 ≤ n ∧ n ≤ 9223372036854775807
structure G_apiPair (p : Pair) : Prop where
  key : p.key.length ≤ 140737488351232
  val : p.val.length ≤ 140737488351232
structure G_apiTime (t : Time) : Prop where
  sec : InR t.sec
  nano : InR t.nano
structure G_apiHead (h : Head) : Prop where
  kind : InR h.kind
  name : h.name.length ≤ 140737488351232
  link : h.link.length ≤ 140737488351232
  mode : InR h.mode
  uid : InR h.uid
  gid : InR h.gid
  size : InR h.size
  sec : InR h.sec
  nano : InR h.nano
  user : h.user.length ≤ 140737488351232
  group : h.group.length ≤ 140737488351232
  major : InR h.major
  minor : InR h.minor
  extra : h.extra.length * 32 ≤ 140737488351232
  pairs : ∀ p ∈ h.extra, G_apiPair p
structure G_apiItem (x : Item) : Prop where
  head : G_apiHead x.head
  data : x.data.length ≤ 140737488351232
def G_LapiItem (l : List Item) : Prop := l.length * 184 ≤ 140737488351232 ∧ ∀ x ∈ l, G_apiItem x
def G_LapiPair (l : List Pair) : Prop := l.length * 32 ≤ 140737488351232 ∧ ∀ x ∈ l, G_apiPair x
def G_Lstring (l : List Tx) : Prop := l.length * 16 ≤ 140737488351232 ∧ ∀ x ∈ l, x.length ≤ 140737488351232
def G_Lint (l : List Int) : Prop := l.length * 8 ≤ 140737488351232 ∧ ∀ x ∈ l, InR x
theorem rdi {t : TypeId} (hu : Tryz.prog.underlying t = some (.int .i64)) (hc : Tryz.prog.cellsOf t = 1) : Rd Tryz.prog t (fun n : Int => [.int .i64 n]) InR := int hu hc
theorem rds {t : TypeId} (hu : Tryz.prog.underlying t = some .string) (hc : Tryz.prog.cellsOf t = 1) : Rd Tryz.prog t (fun s : Tx => [.str (str s)]) (fun s => s.length ≤ 140737488351232) := string hu hc
theorem rd_pair : Rd Tryz.prog 42 encPair G_apiPair :=
  weaken (struct (P := Tryz.prog) (t := 42) Tryz.underlying42 rfl (by kernel_rfl) (by kernel_rfl)
    (iso encPair (fun p : Pair => (p.key, p.val)) (fun y => ⟨y.1, y.2⟩) (fun _ => rfl) (fun _ => rfl)
      (cons (rds (by kernel_rfl) (by kernel_rfl)) (one (rds (by kernel_rfl) (by kernel_rfl)))))) (fun _ h => ⟨h.1, h.2⟩)
theorem rd_time : Rd Tryz.prog 23 encTime G_apiTime :=
  weaken (struct (P := Tryz.prog) (t := 23) Tryz.underlying23 rfl (by kernel_rfl) (by kernel_rfl)
    (iso encTime (fun p : Time => (p.sec, p.nano)) (fun y => ⟨y.1, y.2⟩) (fun _ => rfl) (fun _ => rfl)
      (cons (rdi (by kernel_rfl) (by kernel_rfl)) (one (rdi (by kernel_rfl) (by kernel_rfl)))))) (fun _ h => ⟨h.1, h.2⟩)
theorem rd_pairs : Rd Tryz.prog 24 (fun l : List Pair => [.list 2 (prs l)]) G_LapiPair :=
  weaken (sliceAt (B := 32) elPair (fun _ => rfl) Tryz.underlying24 (by kernel_rfl) (by kernel_rfl) (by kernel_rfl) rd_pair) (fun _ h => h)
theorem rd_head : Rd Tryz.prog 26 encHead G_apiHead :=
  weaken (struct (P := Tryz.prog) (t := 26) Tryz.underlying26 rfl (by kernel_rfl) (by kernel_rfl)
    (iso encHead (fun h : Head => (h.kind, h.name, h.link, h.mode, h.uid, h.gid, h.size, (⟨h.sec, h.nano⟩ : Time), h.user, h.group, h.major, h.minor, h.extra))
      (fun y => ⟨y.1, y.2.1, y.2.2.1, y.2.2.2.1, y.2.2.2.2.1, y.2.2.2.2.2.1, y.2.2.2.2.2.2.1, y.2.2.2.2.2.2.2.1.sec, y.2.2.2.2.2.2.2.1.nano, y.2.2.2.2.2.2.2.2.1, y.2.2.2.2.2.2.2.2.2.1, y.2.2.2.2.2.2.2.2.2.2.1, y.2.2.2.2.2.2.2.2.2.2.2.1, y.2.2.2.2.2.2.2.2.2.2.2.2⟩) (fun _ => rfl) (fun _ => rfl)
      (cons (rdi (by kernel_rfl) (by kernel_rfl)) (cons (rds (by kernel_rfl) (by kernel_rfl)) (cons (rds (by kernel_rfl) (by kernel_rfl))
        (cons (rdi (by kernel_rfl) (by kernel_rfl)) (cons (rdi (by kernel_rfl) (by kernel_rfl)) (cons (rdi (by kernel_rfl) (by kernel_rfl)) (cons (rdi (by kernel_rfl) (by kernel_rfl))
          (cons rd_time (cons (rds (by kernel_rfl) (by kernel_rfl)) (cons (rds (by kernel_rfl) (by kernel_rfl))
            (cons (rdi (by kernel_rfl) (by kernel_rfl)) (cons (rdi (by kernel_rfl) (by kernel_rfl)) (one rd_pairs))))))))))))))) (fun h g =>
      ⟨g.1, g.2.1, g.2.2.1, g.2.2.2.1, g.2.2.2.2.1, g.2.2.2.2.2.1, g.2.2.2.2.2.2.1, g.2.2.2.2.2.2.2.1.sec, g.2.2.2.2.2.2.2.1.nano, g.2.2.2.2.2.2.2.2.1, g.2.2.2.2.2.2.2.2.2.1, g.2.2.2.2.2.2.2.2.2.2.1, g.2.2.2.2.2.2.2.2.2.2.2.1, g.2.2.2.2.2.2.2.2.2.2.2.2.1, g.2.2.2.2.2.2.2.2.2.2.2.2.2⟩)
theorem rd_bytes : Rd Tryz.prog 27 (fun l : Tx => [.list 1 (bys l)]) (fun l => l.length ≤ 140737488351232) := by
  have h := sliceAt (sz := 1) (P := Tryz.prog) (t := 27) (e := 5) (B := 1) (en := fun n : Int => [.int .u8 n]) (fun n : Int => .int .u8 n) (fun _ => rfl) Tryz.underlying27 (by kernel_rfl) (by kernel_rfl) (by kernel_rfl) (int (k := .u8) Tryz.underlying5 (by kernel_rfl))
  refine ⟨fun _ => (by kernel_rfl), fun a b => ?_⟩
  obtain ⟨r, h1, h2, h3⟩ := h.out a b
  have e : r.map (fun n : Int => AV.int .u8 n) = bys (r.map fun n => UInt8.ofNat n.toNat) := by
    unfold bys
    rw [List.map_map]
    apply List.map_congr_left
    intro n hn
    have := h3 n hn
    simp [IntKind.min, IntKind.max, IntKind.signed, IntKind.bits] at this
    show AV.int .u8 n = byteAV (UInt8.ofNat n.toNat)
    have h8 : (UInt8.ofNat n.toNat).toNat = n.toNat := by rw [UInt8.toNat_ofNat']; omega
    simp only [byteAV, h8, Int.toNat_of_nonneg this.1]
  refine ⟨r.map fun n => UInt8.ofNat n.toNat, ?_, by simp; omega⟩
  rw [e] at h1
  exact h1
theorem rd_item : Rd Tryz.prog 29 encItem G_apiItem :=
  weaken (struct (P := Tryz.prog) (t := 29) Tryz.underlying29 rfl (by kernel_rfl) (by kernel_rfl)
    (iso encItem (fun x : Item => (x.head, x.data)) (fun y => ⟨y.1, y.2⟩) (fun _ => rfl) (fun _ => rfl) (cons rd_head (one rd_bytes)))) (fun _ h => ⟨h.1, h.2⟩)
theorem rd_items : Rd Tryz.prog 54 (fun l : List Item => [.list 15 (its l)]) G_LapiItem :=
  weaken (sliceAt (B := 184) elItem (fun _ => rfl) Tryz.underlying54 (by kernel_rfl) (by kernel_rfl) (by kernel_rfl) rd_item) (fun _ h => h)
theorem rd_strs : Rd Tryz.prog 32 (fun l : List Tx => [.list 1 (svs l)]) G_Lstring :=
  weaken (sliceAt (B := 16) sv (fun _ => rfl) Tryz.underlying32 (by kernel_rfl) (by kernel_rfl) (by kernel_rfl) (rds (t := 9) (by kernel_rfl) (by kernel_rfl))) (fun _ h => h)
theorem rd_ints : Rd Tryz.prog 106 (fun l : List Int => [.list 1 (ivs l)]) G_Lint :=
  weaken (sliceAt (B := 8) iv (fun _ => rfl) Tryz.underlying106 (by kernel_rfl) (by kernel_rfl) (by kernel_rfl) (rdi (t := 3) (by kernel_rfl) (by kernel_rfl))) (fun _ h => h)
end Go.Proofs.YtilbahgfjfcikaaGreatDoor.Eng.U

/- The library's functions that the Dec laws call, in pieces: numbers to text and back, texts cut. -/
set_option linter.unusedVariables false
set_option linter.unusedSectionVars false
set_option linter.unusedSimpArgs false
namespace Go.Proofs.YtilbahgfjfcikaaGreatDoor.Eng.U
open Go Go.Proofs Go.Proofs.YtilbahgfjfcikaaGreatDoor.Eng Go.RowKit

theorem str_self (s : ByteArray) : str s.data.toList = s := by cases s; simp [str]
theorem ok_tup {f : FuncId} {args rs : List AV} (hr : rs.all (fun r => !r.isFresh && r.leaf) = true) (h : ∀ (S : Stab) (w : World) (vals : List Value), Agree S w → GlobOk glob S w → VL S args vals → Calls Tryz.prog f vals.toArray w fun e w' => ∃ vs : List Value, e = .returned (.tuple vs.toArray) ∧ rs.length = vs.length ∧ (∀ (S' : Stab) (j : Nat) (c : AV) (u : Value), rs[j]? = some c → vs[j]? = some u → V S' c u) ∧ Below w.heap.size w w') (hr2 : (args.all fun c => !c.isRes) = true := by rfl) : Ok Tryz.prog glob f args (.tup rs) := by
  refine Ok.of_plain (fun c hc => by simpa using List.all_eq_true.1 hr2 c hc) fun S w vals hag hG hV => ?_
  have key : ∀ (j : Nat) (c : AV), rs[j]? = some c → c.isFresh = false ∧ c.leaf = true := by
    intro j c hc
    have := List.all_eq_true.1 hr c (List.mem_of_getElem? hc)
    simpa using this
  refine (h S w vals hag hG hV).mono ?_
  rintro e w' ⟨vs, rfl, hl, hv, hb⟩
  refine ⟨_, S, rfl, fun _ _ h => h, agree_below hag hb, fun _ _ h => .inl h, hb, vs, rfl, hl, fun j c u hc hu => ?_, fun i j c d u v g hc hd hf => ?_⟩
  · have h1 := hv S j c u hc hu
    obtain ⟨h2, h3⟩ := key j c hc
    cases c <;> first | (cases h2; done) | (cases h3; done) | exact h1
  · rw [(key i c hc).1] at hf; cases hf
theorem V2 {S : Stab} {a b : AV} {u v : Value} (ha : V S a u) (hb : V S b v) : ∀ (j : Nat) (c : AV) (x : Value), [a, b][j]? = some c → [u, v][j]? = some x → V S c x := by
  intro j c x hc hx
  match j with
  | 0 => cases hc; cases hx; exact ha
  | 1 => cases hc; cases hx; exact hb
  | j + 2 => simp at hc
theorem eptr_inv {S : Stab} {cs : List AV} {off : Nat} {p : Value} (h : V S (.eptr cs off) p) : ∃ (a : Addr) (f : Nat → Value), p = .pointer (some (a.add off)) ∧ (∀ (j : Nat) (c : AV), cs[j]? = some c → S (a.add j) = some (f j)) ∧ (∀ (j : Nat) (c : AV), cs[j]? = some c → V S c (f j)) := by
  cases h with
  | eptr cs off a f g2 g3 g4 => exact ⟨a, f, rfl, g3, g4⟩
theorem glob_cell {S : Stab} {w : World} {g : Nat} {cs : List AV} (hag : Agree S w) (hG : GlobOk glob S w) (hg : glob g = some cs) (j : Nat) (c : AV) (hj : cs[j]? = some c) : ∃ u, w.cell? ⟨g, j, none⟩ = some u ∧ V S c u := by
  obtain ⟨h1, arr, t, f, h2, h3⟩ := hG g _ hg
  obtain ⟨a, fv, he, g3, g4⟩ := eptr_inv h1
  have ha : a.add j = ⟨g, j, none⟩ := by
    have he' : (⟨g, 0, none⟩ : Addr) = a.add 0 := by injection he with e; injection e
    obtain ⟨b, o, s⟩ := a
    cases s with
    | none => rw [add_lit', Nat.add_zero] at he'; cases he'; rw [add_lit', Nat.zero_add]
    | some s => simp [Addr.add] at he'
  have := hag _ _ (g3 j c hj)
  rw [ha] at this
  exact ⟨_, this, g4 j c hj⟩
theorem tab_of {S : Stab} {w : World} {g : Nat} {name : String} {k : IntKind} {zs : List Int} (hag : Agree S w) (hG : GlobOk glob S w) (hg : glob g = some (zs.map fun z => .int k z)) (hn : Tryz.prog.globalNamed name = some g) : Lib.TabIs Tryz.prog w name k zs := by
  obtain ⟨h1, arr, t, f, h2, h3⟩ := hG g _ hg
  unfold Lib.TabIs World.var?
  rw [hn]
  simp only [Option.bind_some, h2, Option.some.injEq]
  rw [List.length_map] at h3
  refine Array.ext' ?_
  refine List.ext_getElem? fun j => ?_
  by_cases hj : j < zs.length
  · obtain ⟨u, hu, hv⟩ := glob_cell hag hG hg j (.int k zs[j]) (by rw [List.getElem?_map, List.getElem?_eq_getElem hj]; rfl)
    rw [V_int hv] at hu
    have e : w.cell? ⟨g, j, none⟩ = arr[j]? := by simp [World.cell?, h2]
    rw [e] at hu
    rw [List.toList_toArray, List.getElem?_map, List.getElem?_eq_getElem hj]
    simpa using hu
  · rw [List.toList_toArray, List.getElem?_eq_none (by simp; omega), List.getElem?_eq_none (by simp; omega)]
theorem iface_of {S : Stab} {w : World} {g : Nat} (hag : Agree S w) (hG : GlobOk glob S w) (hg : glob g = some [.ifc]) : ∃ t v, w.cell? ⟨g, 0, none⟩ = some (.iface t v) := by
  obtain ⟨u, hu, hv⟩ := glob_cell hag hG hg 0 .ifc rfl
  cases hv
  exact ⟨_, _, hu⟩
theorem below_grow (w : World) (n : Nat) (os : Array Obj) : Below w.heap.size w (Sort.grow (w.drewN n) os) :=
  ⟨rfl, rfl, rfl, by simp [Sort.grow, World.drewN], fun k hk => by
    show (w.heap ++ os)[k]? = _
    rw [Array.getElem?_append_left hk]⟩

def pItoa : Piece := { f := strconv_Itoa, ans := fun args => match args with
  | [.int .i64 n] => bif decide (-9223372036854775808 ≤ n) && decide (n ≤ 9223372036854775807) then some (.str (str (Lib.itoa n))) else none
  | _ => none }
def pCutP : Piece := { f := strings_CutPrefix, ans := fun args => match args with
  | [.str s, .str p] => some (.tup [.str (str (Lib.trimPrefix s.data.toList p.data.toList)), .bool (Lib.hasPrefix s.data.toList p.data.toList)])
  | _ => none }
def one (c : ByteArray) : Option UInt8 := match c.data.toList with | [x] => some x | _ => none
theorem one_some {c : ByteArray} {x : UInt8} (h : one c = some x) : c = ⟨#[x]⟩ := by
  unfold one at h
  split at h
  · rename_i y e
    cases h
    obtain ⟨⟨l⟩⟩ := c
    simp at e
    rw [e]
  · cases h
def pIndex : Piece := { f := stringslite_Index, ans := fun args => match args with
  | [.str s, .str c] => (one c).bind fun x => some (.int .i64 (Lib.indexByte s.data.toList x))
  | _ => none }
def pIndexByte : Piece := { f := strings_IndexByte, ans := fun args => match args with
  | [.str s, .int .u8 c] => some (.int .i64 (Lib.indexByte s.data.toList c.toNat.toUInt8))
  | _ => none }
def pRepeat : Piece := { f := strings_Repeat, ans := fun args => match args with
  | [.str s, .int .i64 c] => bif decide (0 ≤ c) && decide (c ≤ 9223372036854775807) && decide (s.size * c.toNat ≤ 140737488355328) then some (.str (str (Lib.repeatL s.data.toList c.toNat))) else none
  | _ => none }
def pPInt : Piece := { f := strconv_ParseInt, ans := fun args => match args with
  | [.str s, .int .i64 b, .int .i64 z] => bif decide (b = 10) && decide (z = 64) && decide (s.size ≤ 281474976710656) then some (endI (Lib.parseIntB 64 s.data.toList) (Lib.intSat 64 s.data.toList)) else none
  | _ => none }
def pPUint : Piece := { f := strconv_ParseUint, ans := fun args => match args with
  | [.str s, .int .i64 b, .int .i64 z] => bif decide (b = 10) && decide (z = 64) && decide (s.size ≤ 281474976710656) then some (endU (Lib.parseUintB 64 s.data.toList)) else none
  | _ => none }
theorem itoa_right : pItoa.Right := by
  refine ⟨⟨Tryz.f54, Tryz.func54, by kernel_rfl, by kernel_rfl⟩, fun args res h => ?_⟩
  unfold pItoa at h
  dsimp only at h
  split at h
  · rename_i n
    obtain ⟨hc, h'⟩ := some_of_bif h
    clear h
    simp only [Bool.and_eq_true, decide_eq_true_eq] at hc
    obtain ⟨h1, h2⟩ := hc
    obtain rfl := Option.some.inj h'
    refine ok_pure ⟨rfl, rfl⟩ fun S w vals hag hG hV => ?_
    obtain ⟨v, rfl, hv⟩ := VL_1 hV
    obtain rfl := V_int hv
    refine (Tryz.strconv_Itoa n h1 h2 w (tab_of hag hG (g := 1) (zs := Lib.pow10Tab) rfl (by kernel_rfl))).mono ?_
    rintro e w' ⟨rfl, k, os, rfl⟩
    exact ⟨_, rfl, fun S' => V.str _, below_grow _ _ _⟩
  · cases h
theorem cutP_right : pCutP.Right := by
  refine ⟨⟨Tryz.f118, Tryz.func118, by kernel_rfl, by kernel_rfl⟩, fun args res h => ?_⟩
  unfold pCutP at h
  dsimp only at h
  split at h
  · rename_i s p
    obtain rfl := Option.some.inj h
    refine ok_tup rfl fun S w vals hag hG hV => ?_
    obtain ⟨v, u, rfl, hv, hu⟩ := VL_2 hV
    obtain rfl := V_str hv
    obtain rfl := V_str hu
    refine (Tryz.strings_CutPrefix s p w).mono ?_
    rintro e w' ⟨rfl, rfl⟩
    exact ⟨[_, _], rfl, rfl, fun S' => V2 (V.str _) (V.bool _), Below.refl _ _⟩
  · cases h
theorem index_right : pIndex.Right := by
  refine ⟨⟨Tryz.f136, Tryz.func136, by kernel_rfl, by kernel_rfl⟩, fun args res h => ?_⟩
  unfold pIndex at h
  dsimp only at h
  split at h
  · rename_i s c
    obtain ⟨x, hx, h⟩ := Option.bind_eq_some_iff.1 h
    obtain rfl := one_some hx
    obtain rfl := Option.some.inj h
    refine ok_pure ⟨rfl, rfl⟩ fun S w vals hag hG hV => ?_
    obtain ⟨v, u, rfl, hv, hu⟩ := VL_2 hV
    obtain rfl := V_str hv
    obtain rfl := V_str hu
    refine (Tryz.stringslite_Index_one s x w).mono ?_
    rintro e w' ⟨rfl, rfl⟩
    exact ⟨_, rfl, fun S' => V.int _ _, Below.refl _ _⟩
  · cases h
theorem indexByte_right : pIndexByte.Right := by
  refine ⟨⟨Tryz.f104, Tryz.func104, by kernel_rfl, by kernel_rfl⟩, fun args res h => ?_⟩
  unfold pIndexByte at h
  dsimp only at h
  split at h
  · rename_i s c
    obtain rfl := Option.some.inj h
    refine ok_pure ⟨rfl, rfl⟩ fun S w vals hag hG hV => ?_
    obtain ⟨v, u, rfl, hv, hu⟩ := VL_2 hV
    obtain rfl := V_str hv
    obtain rfl := V_int hu
    refine (Tryz.strings_IndexByte s c w).mono ?_
    rintro e w' ⟨rfl, rfl⟩
    exact ⟨_, rfl, fun S' => V.int _ _, Below.refl _ _⟩
  · cases h
theorem repeat_right : pRepeat.Right := by
  refine ⟨⟨Tryz.f121, Tryz.func121, by kernel_rfl, by kernel_rfl⟩, fun args res h => ?_⟩
  unfold pRepeat at h
  dsimp only at h
  split at h
  · rename_i s c
    obtain ⟨hc, h'⟩ := some_of_bif h
    clear h
    simp only [Bool.and_eq_true, decide_eq_true_eq] at hc
    obtain ⟨⟨h1, h2⟩, h3⟩ := hc
    obtain rfl := Option.some.inj h'
    refine ok_pure ⟨rfl, rfl⟩ fun S w vals hag hG hV => ?_
    obtain ⟨v, u, rfl, hv, hu⟩ := VL_2 hV
    obtain rfl := V_str hv
    obtain rfl := V_int hu
    obtain ⟨n, rfl⟩ := Int.eq_ofNat_of_zero_le h1
    rw [Int.toNat_natCast] at h3 ⊢
    refine (Tryz.strings_Repeat s n w (by omega) h3).mono ?_
    rintro e w' ⟨rfl, hb⟩
    exact ⟨_, rfl, fun S' => V.str _, hb⟩
  · cases h
theorem pInt_right : pPInt.Right := by
  refine ⟨⟨Tryz.f120, Tryz.func120, by kernel_rfl, by kernel_rfl⟩, fun args res h => ?_⟩
  unfold pPInt at h
  dsimp only at h
  split at h
  · rename_i s b z
    obtain ⟨hc, h'⟩ := some_of_bif h
    clear h
    simp only [Bool.and_eq_true, decide_eq_true_eq] at hc
    obtain ⟨⟨rfl, rfl⟩, h3⟩ := hc
    obtain rfl := Option.some.inj h'
    cases he : Lib.parseIntB 64 s.data.toList with
    | ok v =>
      refine ok_tup rfl fun S w vals hag hG hV => ?_
      obtain ⟨v1, v2, v3, rfl, g1, g2, g3⟩ := VL_3 hV
      obtain rfl := V_str g1
      obtain rfl := V_int g2
      obtain rfl := V_int g3
      refine (Tryz.strconv_ParseInt_10_at64_ok s (by omega) v he w).mono ?_
      rintro e w' ⟨rfl, hw⟩
      refine ⟨[_, _], rfl, rfl, fun S' => V2 (V.int _ _) V.nili, ?_⟩
      rcases hw with rfl | ⟨t, rfl⟩
      · exact Below.refl _ _
      · exact Lib.bytesWorld_below _ _ _
    | range =>
      refine ok_tup rfl fun S w vals hag hG hV => ?_
      obtain ⟨v1, v2, v3, rfl, g1, g2, g3⟩ := VL_3 hV
      obtain rfl := V_str g1
      obtain rfl := V_int g2
      obtain rfl := V_int g3
      obtain ⟨t, v, hi⟩ := iface_of (g := 6) hag hG rfl
      refine (Tryz.strconv_ParseInt_10_at64_range s h3 he _ w hi (.inr ⟨_, _, rfl⟩)).mono ?_
      rintro e w' ⟨N, rfl, _, _, hb⟩
      exact ⟨[_, _], rfl, rfl, fun S' => V2 (V.int _ _) (V.ifc _ _), hb⟩
    | _ =>
      refine ok_tup rfl fun S w vals hag hG hV => ?_
      obtain ⟨v1, v2, v3, rfl, g1, g2, g3⟩ := VL_3 hV
      obtain rfl := V_str g1
      obtain rfl := V_int g2
      obtain rfl := V_int g3
      obtain ⟨t, v, hi⟩ := iface_of (g := 5) hag hG rfl
      refine (Tryz.strconv_ParseInt_10_at64_syntax s h3 he _ w hi (.inr ⟨_, _, rfl⟩)).mono ?_
      rintro e w' ⟨N, rfl, _, _, hb⟩
      exact ⟨[_, _], rfl, rfl, fun S' => V2 (V.int _ _) (V.ifc _ _), hb⟩
  · cases h
theorem pUint_right : pPUint.Right := by
  refine ⟨⟨Tryz.f141, Tryz.func141, by kernel_rfl, by kernel_rfl⟩, fun args res h => ?_⟩
  unfold pPUint at h
  dsimp only at h
  split at h
  · rename_i s b z
    obtain ⟨hc, h'⟩ := some_of_bif h
    clear h
    simp only [Bool.and_eq_true, decide_eq_true_eq] at hc
    obtain ⟨⟨rfl, rfl⟩, h3⟩ := hc
    obtain rfl := Option.some.inj h'
    cases he : Lib.parseUintB 64 s.data.toList with
    | ok v =>
      refine ok_tup rfl fun S w vals hag hG hV => ?_
      obtain ⟨v1, v2, v3, rfl, g1, g2, g3⟩ := VL_3 hV
      obtain rfl := V_str g1
      obtain rfl := V_int g2
      obtain rfl := V_int g3
      refine (Tryz.strconv_ParseUint_10_at64_ok s (by omega) v he w).mono ?_
      rintro e w' ⟨rfl, hw⟩
      refine ⟨[_, _], rfl, rfl, fun S' => V2 (V.int _ _) V.nili, ?_⟩
      rcases hw with rfl | rfl
      · exact Below.refl _ _
      · exact Lib.bytesWorld_below _ _ _
    | range =>
      refine ok_tup rfl fun S w vals hag hG hV => ?_
      obtain ⟨v1, v2, v3, rfl, g1, g2, g3⟩ := VL_3 hV
      obtain rfl := V_str g1
      obtain rfl := V_int g2
      obtain rfl := V_int g3
      obtain ⟨t, v, hi⟩ := iface_of (g := 6) hag hG rfl
      refine (Tryz.strconv_ParseUint_10_at64_range s h3 he _ w hi (.inr ⟨_, _, rfl⟩)).mono ?_
      rintro e w' ⟨N, rfl, _, _, hb⟩
      exact ⟨[_, _], rfl, rfl, fun S' => V2 (V.int _ _) (V.ifc _ _), hb⟩
    | _ =>
      refine ok_tup rfl fun S w vals hag hG hV => ?_
      obtain ⟨v1, v2, v3, rfl, g1, g2, g3⟩ := VL_3 hV
      obtain rfl := V_str g1
      obtain rfl := V_int g2
      obtain rfl := V_int g3
      obtain ⟨t, v, hi⟩ := iface_of (g := 5) hag hG rfl
      refine (Tryz.strconv_ParseUint_10_at64_syntax s h3 he _ w hi (.inr ⟨_, _, rfl⟩)).mono ?_
      rintro e w' ⟨N, rfl, _, _, hb⟩
      exact ⟨[_, _], rfl, rfl, fun S' => V2 (V.int _ _) (V.ifc _ _), hb⟩
  · cases h
def ps04 : List Piece := [pItoa, pCutP, pIndex, pIndexByte, pRepeat, pPInt, pPUint]
def ext04 : Ext := extOf ps04
instance core04 : Core ext04 := core_of (by kernel_rfl)
theorem num_of {ps : List Piece} (h2 : ps.find? (fun q => q.f == pItoa.f) = some pItoa) (h3 : ps.find? (fun q => q.f == pCutP.f) = some pCutP) (h5 : ps.find? (fun q => q.f == pIndex.f) = some pIndex) (h6 : ps.find? (fun q => q.f == pIndexByte.f) = some pIndexByte) (h7 : ps.find? (fun q => q.f == pRepeat.f) = some pRepeat) (h8 : ps.find? (fun q => q.f == pPInt.f) = some pPInt) (h9 : ps.find? (fun q => q.f == pPUint.f) = some pPUint) : HasNum (extOf ps) where
  itoa k n v g0 g1 := (kp_piece (k := k) (n := n) h2).trans (by
    show (bif decide (-9223372036854775808 ≤ v) && decide (v ≤ 9223372036854775807) then _ else none) = _
    rw [decide_eq_true g0, decide_eq_true g1]
    rfl)
  cutP k n s p := (kp_piece (k := k) (n := n) h3).trans rfl
  index k n s x := (kp_piece (k := k) (n := n) h5).trans rfl
  indexB k n s c := (kp_piece (k := k) (n := n) h6).trans rfl
  rep k n s c g0 g1 := (kp_piece (k := k) (n := n) h7).trans (by
    show (bif decide ((0 : Int) ≤ (c : Int)) && decide ((c : Int) ≤ 9223372036854775807) && decide ((str s).size * (Int.toNat (c : Int)) ≤ 140737488355328) then some (AV.str (str (Lib.repeatL s (Int.toNat (c : Int))))) else none) = _
    rw [str_size, Int.toNat_natCast, decide_eq_true (show (0 : Int) ≤ (c : Int) by omega), decide_eq_true (show (c : Int) ≤ 9223372036854775807 by omega), decide_eq_true g1]
    rfl)
  pint k n s g0 := (kp_piece (k := k) (n := n) h8).trans (by
    show (bif decide ((10 : Int) = 10) && decide ((64 : Int) = 64) && decide ((str s).size ≤ 281474976710656) then _ else none) = _
    rw [str_size, decide_eq_true g0]
    rfl)
  puint k n s g0 := (kp_piece (k := k) (n := n) h9).trans (by
    show (bif decide ((10 : Int) = 10) && decide ((64 : Int) = 64) && decide ((str s).size ≤ 281474976710656) then _ else none) = _
    rw [str_size, decide_eq_true g0]
    rfl)
instance num04 : HasNum ext04 := num_of rfl rfl rfl rfl rfl rfl rfl
theorem good04 (k : Nat) : (bs ext04 k).Good := good_of (fun p hp => by
  simp only [ps04, List.mem_cons, List.not_mem_nil, or_false] at hp
  rcases hp with rfl | rfl | rfl | rfl | rfl | rfl | rfl
  · exact itoa_right
  · exact cutP_right
  · exact index_right
  · exact indexByte_right
  · exact repeat_right
  · exact pInt_right
  · exact pUint_right) names_ok k
end Go.Proofs.YtilbahgfjfcikaaGreatDoor.Eng.U

/- What functions answer, as the engine evaluates their code. Printed by gen2.py. -/
set_option linter.unusedVariables false
namespace Go.Proofs.YtilbahgfjfcikaaGreatDoor.Eng.U
open Go Go.Proofs Go.Proofs.YtilbahgfjfcikaaGreatDoor.Eng
/- oakum/oakumlaw09.ItemWrong -/
noncomputable def law09_ItemWrong_bd : Code := Tryz.f3.body.getD .skip
noncomputable def law09_ItemWrong_L0 (kap : FuncId → List AV → Option AV) (k : Nat) (k0 : Nat) (s3 : List AV) (s4 : List AV) (s5 : Int) (b1_0 : Int) (b1_1 : ByteArray) (b1_2 : ByteArray) (b1_3 : Int) (b1_4 : Int) (b1_5 : Int) (b1_6 : Int) (b1_7 : Int) (b1_8 : Int) (b1_9 : ByteArray) (b1_10 : ByteArray) (b1_11 : Int) (b1_12 : Int) (b1_13 : List AV) (b1_14 : List AV) : Option AV :=
  loop (fun fr K => code ((bs E0 k).cfg kap law09_ItemWrong) (sel law09_ItemWrong_bd [1, 1, 1, 1, 1, 0, 1, 0, 0]) fr K) (canon ((bs E0 k).cfg kap law09_ItemWrong) (firstReg (sel law09_ItemWrong_bd [1, 1, 1, 1, 1, 0, 1, 0, 0]))) k0 (mkFr 57 [(1, (.loc 1 0)), (3, (.list 1 s3)), (4, (.list 1 s4)), (5, (.int .i64 s5))] [(1, (.box [(.int .i64 b1_0), (.str b1_1), (.str b1_2), (.int .i64 b1_3), (.int .i64 b1_4), (.int .i64 b1_5), (.int .i64 b1_6), (.int .i64 b1_7), (.int .i64 b1_8), (.str b1_9), (.str b1_10), (.int .i64 b1_11), (.int .i64 b1_12), (.list 2 b1_13), (.list 1 b1_14)]))]) (plug ((bs E0 k).cfg kap law09_ItemWrong) (retK ((bs E0 k).cfg kap law09_ItemWrong) [] Tryz.f3 [] some) [.blk 0, .seqR (sel law09_ItemWrong_bd [1, 1, 1, 1, 1, 1])])
theorem law09_ItemWrong_L0_s (kap : FuncId → List AV → Option AV) (k : Nat) (k0 : Nat) (s3 : List AV) (s4 : List AV) (s5 : Int) (b1_0 : Int) (b1_1 : ByteArray) (b1_2 : ByteArray) (b1_3 : Int) (b1_4 : Int) (b1_5 : Int) (b1_6 : Int) (b1_7 : Int) (b1_8 : Int) (b1_9 : ByteArray) (b1_10 : ByteArray) (b1_11 : Int) (b1_12 : Int) (b1_13 : List AV) (b1_14 : List AV) : law09_ItemWrong_L0 kap k (k0 + 1) s3 s4 s5 b1_0 b1_1 b1_2 b1_3 b1_4 b1_5 b1_6 b1_7 b1_8 b1_9 b1_10 b1_11 b1_12 b1_13 b1_14 =
  (bif (decide (s5 < (((List.length s3) : Nat) : Int))) then (bif ((decide ((0 : Int) ≤ s5)) && (decide (s5 < (((List.length s3) : Nat) : Int)))) then ((s3[(Int.toNat s5)]?).bind fun vy9 => (cellS (AV.cells vy9) 0 fun vs10 => (bif ((decide ((0 : Int) ≤ s5)) && (decide (s5 < (((List.length s4) : Nat) : Int)))) then ((s4[(Int.toNat s5)]?).bind fun vy11 => (cellS (AV.cells vy11) 0 fun vs12 => (bif (!(decide (vs10 = vs12))) then (some (.bool false)) else (law09_ItemWrong_L0 kap k k0 s3 s4 (IntKind.wrap .i64 (s5 + (1 : Int))) b1_0 b1_1 b1_2 b1_3 b1_4 b1_5 b1_6 b1_7 b1_8 b1_9 b1_10 b1_11 b1_12 b1_13 b1_14)))) else none))) else none) else (callI .i64 (kap item_Wrong [(.agg [(.int .i64 b1_0), (.str b1_1), (.str b1_2), (.int .i64 b1_3), (.int .i64 b1_4), (.int .i64 b1_5), (.int .i64 b1_6), (.int .i64 b1_7), (.int .i64 b1_8), (.str b1_9), (.str b1_10), (.int .i64 b1_11), (.int .i64 b1_12), (.list 2 b1_13)])]) fun vn14 => (callI .i64 (kap ref09_Wrong [(.agg [(.int .i64 b1_0), (.str b1_1), (.str b1_2), (.int .i64 b1_3), (.int .i64 b1_4), (.int .i64 b1_5), (.int .i64 b1_6), (.int .i64 b1_7), (.int .i64 b1_8), (.str b1_9), (.str b1_10), (.int .i64 b1_11), (.int .i64 b1_12), (.list 2 b1_13)])]) fun vn16 => (bif (decide (vn14 = vn16)) then (callB (kap item_Right [(.agg [(.int .i64 b1_0), (.str b1_1), (.str b1_2), (.int .i64 b1_3), (.int .i64 b1_4), (.int .i64 b1_5), (.int .i64 b1_6), (.int .i64 b1_7), (.int .i64 b1_8), (.str b1_9), (.str b1_10), (.int .i64 b1_11), (.int .i64 b1_12), (.list 2 b1_13), (.list 1 b1_14)])]) fun vq18 => (callB (kap ref09_Right [(.agg [(.int .i64 b1_0), (.str b1_1), (.str b1_2), (.int .i64 b1_3), (.int .i64 b1_4), (.int .i64 b1_5), (.int .i64 b1_6), (.int .i64 b1_7), (.int .i64 b1_8), (.str b1_9), (.str b1_10), (.int .i64 b1_11), (.int .i64 b1_12), (.list 2 b1_13), (.list 1 b1_14)])]) fun vq20 => (some (.bool (vq18 == vq20))))) else (some (.bool false)))))) := by kernel_rfl
theorem law09_ItemWrong_eq {E : Ext} [Core E] (k n : Nat) (a0_0 : Int) (a0_1 : ByteArray) (a0_2 : ByteArray) (a0_3 : Int) (a0_4 : Int) (a0_5 : Int) (a0_6 : Int) (a0_7 : Int) (a0_8 : Int) (a0_9 : ByteArray) (a0_10 : ByteArray) (a0_11 : Int) (a0_12 : Int) (a0_13 : List AV) (a0_14 : List AV) : kp E k (n + 1) law09_ItemWrong [(.agg [(.int .i64 a0_0), (.str a0_1), (.str a0_2), (.int .i64 a0_3), (.int .i64 a0_4), (.int .i64 a0_5), (.int .i64 a0_6), (.int .i64 a0_7), (.int .i64 a0_8), (.str a0_9), (.str a0_10), (.int .i64 a0_11), (.int .i64 a0_12), (.list 2 a0_13), (.list 1 a0_14)])] =
  (callB (kp E k n law09_alive []) fun vq2 => (bif (!vq2) then (some (.bool false)) else (callB (kp E k n law09_many [(.agg [(.int .i64 a0_0), (.str a0_1), (.str a0_2), (.int .i64 a0_3), (.int .i64 a0_4), (.int .i64 a0_5), (.int .i64 a0_6), (.int .i64 a0_7), (.int .i64 a0_8), (.str a0_9), (.str a0_10), (.int .i64 a0_11), (.int .i64 a0_12), (.list 2 a0_13)])]) fun vq4 => (bif vq4 then (some (.bool true)) else (bif (decide ((((List.length a0_14) : Nat) : Int) > (5000 : Int))) then (some (.bool true)) else (callL 1 (kp E k n item_Fulls [(.agg [(.int .i64 a0_0), (.str a0_1), (.str a0_2), (.int .i64 a0_3), (.int .i64 a0_4), (.int .i64 a0_5), (.int .i64 a0_6), (.int .i64 a0_7), (.int .i64 a0_8), (.str a0_9), (.str a0_10), (.int .i64 a0_11), (.int .i64 a0_12), (.list 2 a0_13)])]) fun vl6 => (callL 1 (kp E k n ref09_Fulls [(.agg [(.int .i64 a0_0), (.str a0_1), (.str a0_2), (.int .i64 a0_3), (.int .i64 a0_4), (.int .i64 a0_5), (.int .i64 a0_6), (.int .i64 a0_7), (.int .i64 a0_8), (.str a0_9), (.str a0_10), (.int .i64 a0_11), (.int .i64 a0_12), (.list 2 a0_13)])]) fun vl8 => (bif (!(decide ((((List.length vl6) : Nat) : Int) = (((List.length vl8) : Nat) : Int)))) then (some (.bool false)) else (law09_ItemWrong_L0 (kp E k n) k k vl6 vl8 (0 : Int) a0_0 a0_1 a0_2 a0_3 a0_4 a0_5 a0_6 a0_7 a0_8 a0_9 a0_10 a0_11 a0_12 a0_13 a0_14))))))))) := (kp_at (by kernel_rfl)).trans (by kernel_rfl)
/- oakum/oakumlaw09.alive -/
theorem law09_alive_eq {E : Ext} [Core E] (k n : Nat)  : kp E k (n + 1) law09_alive [] =
  (callT (kp E k n item_Told [(.int .i64 (1 : Int)), (.str (str [97, 47]))]) fun vt2 => (tupI .i64 vt2 fun vn3 vt4 => (tupS vt4 fun vs5 vt6 => (atNil vt6 (callL 1 (kp E k n item_Fulls [(.agg [(.int .i64 (6 : Int)), (.str (str [47])), (.str (str [])), (.int .i64 (0 : Int)), (.int .i64 (0 : Int)), (.int .i64 (0 : Int)), (.int .i64 (0 : Int)), (.int .i64 (0 : Int)), (.int .i64 (0 : Int)), (.str (str [])), (.str (str [])), (.int .i64 (0 : Int)), (.int .i64 (0 : Int)), (.list 2 [])])]) fun vl8 => (bif (decide (vn3 = (6 : Int))) then (bif (decide (vs5 = (str [97]))) then (bif (decide ((((List.length vl8) : Nat) : Int) = (2 : Int))) then (bif (decide ((0 : Int) < (((List.length vl8) : Nat) : Int))) then ((vl8[0]?).bind fun vy9 => (cellS (AV.cells vy9) 0 fun vs10 => (bif (decide (vs10 = (str [47]))) then (bif (decide ((1 : Int) < (((List.length vl8) : Nat) : Int))) then ((vl8[1]?).bind fun vy11 => (cellS (AV.cells vy11) 0 fun vs12 => (some (.bool (decide (vs12 = (str [47, 47]))))))) else none) else (some (.bool false))))) else none) else (some (.bool false))) else (some (.bool false))) else (some (.bool false)))))))) := (kp_at (by kernel_rfl)).trans (by kernel_rfl)
/- oakum/oakumlaw09.many -/
noncomputable def law09_many_bd : Code := Tryz.f10.body.getD .skip
noncomputable def law09_many_L0 (kap : FuncId → List AV → Option AV) (k : Nat) (k0 : Nat) (s3 : Int) (s4 : Int) (b1_0 : Int) (b1_1 : ByteArray) (b1_2 : ByteArray) (b1_3 : Int) (b1_4 : Int) (b1_5 : Int) (b1_6 : Int) (b1_7 : Int) (b1_8 : Int) (b1_9 : ByteArray) (b1_10 : ByteArray) (b1_11 : Int) (b1_12 : Int) (b1_13 : List AV) : Option AV :=
  loop (fun fr K => code ((bs E0 k).cfg kap law09_many) (sel law09_many_bd [1, 1, 0, 1, 0, 0]) fr K) (canon ((bs E0 k).cfg kap law09_many) (firstReg (sel law09_many_bd [1, 1, 0, 1, 0, 0]))) k0 (mkFr 52 [(1, (.loc 1 0)), (3, (.int .i64 s3)), (4, (.int .i64 s4))] [(1, (.box [(.int .i64 b1_0), (.str b1_1), (.str b1_2), (.int .i64 b1_3), (.int .i64 b1_4), (.int .i64 b1_5), (.int .i64 b1_6), (.int .i64 b1_7), (.int .i64 b1_8), (.str b1_9), (.str b1_10), (.int .i64 b1_11), (.int .i64 b1_12), (.list 2 b1_13)]))]) (plug ((bs E0 k).cfg kap law09_many) (retK ((bs E0 k).cfg kap law09_many) [] Tryz.f10 [] some) [.blk 0, .seqR (sel law09_many_bd [1, 1, 1])])
theorem law09_many_L0_s (kap : FuncId → List AV → Option AV) (k : Nat) (k0 : Nat) (s3 : Int) (s4 : Int) (b1_0 : Int) (b1_1 : ByteArray) (b1_2 : ByteArray) (b1_3 : Int) (b1_4 : Int) (b1_5 : Int) (b1_6 : Int) (b1_7 : Int) (b1_8 : Int) (b1_9 : ByteArray) (b1_10 : ByteArray) (b1_11 : Int) (b1_12 : Int) (b1_13 : List AV) : law09_many_L0 kap k (k0 + 1) s3 s4 b1_0 b1_1 b1_2 b1_3 b1_4 b1_5 b1_6 b1_7 b1_8 b1_9 b1_10 b1_11 b1_12 b1_13 =
  (bif (decide (s4 < (((List.length b1_13) : Nat) : Int))) then (bif ((decide ((0 : Int) ≤ s4)) && (decide (s4 < (((List.length b1_13) : Nat) : Int)))) then ((b1_13[(Int.toNat s4)]?).bind fun vy1 => (cellS (AV.cells vy1) 0 fun vs2 => (bif ((decide ((0 : Int) ≤ s4)) && (decide (s4 < (((List.length b1_13) : Nat) : Int)))) then ((b1_13[(Int.toNat s4)]?).bind fun vy3 => (cellS (AV.cells vy3) 1 fun vs4 => (law09_many_L0 kap k k0 (IntKind.wrap .i64 ((IntKind.wrap .i64 (s3 + (((ByteArray.size vs2) : Nat) : Int))) + (((ByteArray.size vs4) : Nat) : Int))) (IntKind.wrap .i64 (s4 + (1 : Int))) b1_0 b1_1 b1_2 b1_3 b1_4 b1_5 b1_6 b1_7 b1_8 b1_9 b1_10 b1_11 b1_12 b1_13))) else none))) else none) else (bif (decide (s3 > (200000 : Int))) then (some (.bool true)) else (some (.bool (decide ((((List.length b1_13) : Nat) : Int) > (40 : Int))))))) := by kernel_rfl
theorem law09_many_eq {E : Ext} [Core E] (k n : Nat) (a0_0 : Int) (a0_1 : ByteArray) (a0_2 : ByteArray) (a0_3 : Int) (a0_4 : Int) (a0_5 : Int) (a0_6 : Int) (a0_7 : Int) (a0_8 : Int) (a0_9 : ByteArray) (a0_10 : ByteArray) (a0_11 : Int) (a0_12 : Int) (a0_13 : List AV) : kp E k (n + 1) law09_many [(.agg [(.int .i64 a0_0), (.str a0_1), (.str a0_2), (.int .i64 a0_3), (.int .i64 a0_4), (.int .i64 a0_5), (.int .i64 a0_6), (.int .i64 a0_7), (.int .i64 a0_8), (.str a0_9), (.str a0_10), (.int .i64 a0_11), (.int .i64 a0_12), (.list 2 a0_13)])] =
  (law09_many_L0 (kp E k n) k k (IntKind.wrap .i64 ((IntKind.wrap .i64 ((IntKind.wrap .i64 ((((ByteArray.size a0_1) : Nat) : Int) + (((ByteArray.size a0_2) : Nat) : Int))) + (((ByteArray.size a0_9) : Nat) : Int))) + (((ByteArray.size a0_10) : Nat) : Int))) (0 : Int) a0_0 a0_1 a0_2 a0_3 a0_4 a0_5 a0_6 a0_7 a0_8 a0_9 a0_10 a0_11 a0_12 a0_13) := (kp_at (by kernel_rfl)).trans (by kernel_rfl)
/- oakum/item.Fulls -/
theorem item_Fulls_eq {E : Ext} [Core E] (k n : Nat) (a0_0 : Int) (a0_1 : ByteArray) (a0_2 : ByteArray) (a0_3 : Int) (a0_4 : Int) (a0_5 : Int) (a0_6 : Int) (a0_7 : Int) (a0_8 : Int) (a0_9 : ByteArray) (a0_10 : ByteArray) (a0_11 : Int) (a0_12 : Int) (a0_13 : List AV) : kp E k (n + 1) item_Fulls [(.agg [(.int .i64 a0_0), (.str a0_1), (.str a0_2), (.int .i64 a0_3), (.int .i64 a0_4), (.int .i64 a0_5), (.int .i64 a0_6), (.int .i64 a0_7), (.int .i64 a0_8), (.str a0_9), (.str a0_10), (.int .i64 a0_11), (.int .i64 a0_12), (.list 2 a0_13)])] =
  (bif (!(decide (a0_0 = (6 : Int)))) then (some (.list 1 [(.str a0_1)])) else (bif (decide ((ByteArray.size a0_1) + 1 ≤ 9223372036854775807)) then (callB (kp E k n strings_HasSuffix [(.str a0_1), (.str (str [47]))]) fun vq2 => (bif vq2 then (bif (decide ((((ByteArray.size a0_1) : Nat) : Int) > (1 : Int))) then (some (.list 1 [(.str (a0_1 ++ (str [47])))])) else (some (.list 1 [(.str a0_1), (.str (a0_1 ++ (str [47])))]))) else (some (.list 1 [(.str a0_1), (.str (a0_1 ++ (str [47])))])))) else none)) := (kp_at (by kernel_rfl)).trans (by kernel_rfl)
/- oakum/item.Wrong -/
theorem item_Wrong_eq {E : Ext} [Core E] (k n : Nat) (a0_0 : Int) (a0_1 : ByteArray) (a0_2 : ByteArray) (a0_3 : Int) (a0_4 : Int) (a0_5 : Int) (a0_6 : Int) (a0_7 : Int) (a0_8 : Int) (a0_9 : ByteArray) (a0_10 : ByteArray) (a0_11 : Int) (a0_12 : Int) (a0_13 : List AV) : kp E k (n + 1) item_Wrong [(.agg [(.int .i64 a0_0), (.str a0_1), (.str a0_2), (.int .i64 a0_3), (.int .i64 a0_4), (.int .i64 a0_5), (.int .i64 a0_6), (.int .i64 a0_7), (.int .i64 a0_8), (.str a0_9), (.str a0_10), (.int .i64 a0_11), (.int .i64 a0_12), (.list 2 a0_13)])] =
  (callI .u8 (kp E k n item_Flag [(.int .i64 a0_0)]) fun vn2 => (bif (decide (vn2 = (0 : Int))) then (some (.int .i64 (1 : Int))) else (callB (kp E k n item_named [(.str a0_1)]) fun vq4 => (bif (!vq4) then (some (.int .i64 (2 : Int))) else (bif (decide (a0_0 = (1 : Int))) then (callB (kp E k n strings_HasSuffix [(.str a0_1), (.str (str [47]))]) fun vq6 => (bif vq6 then (some (.int .i64 (2 : Int))) else (callB (kp E k n item_link [(.agg [(.int .i64 a0_0), (.str a0_1), (.str a0_2), (.int .i64 a0_3), (.int .i64 a0_4), (.int .i64 a0_5), (.int .i64 a0_6), (.int .i64 a0_7), (.int .i64 a0_8), (.str a0_9), (.str a0_10), (.int .i64 a0_11), (.int .i64 a0_12), (.list 2 a0_13)])]) fun vq8 => (bif (!vq8) then (some (.int .i64 (3 : Int))) else (bif (decide (a0_3 < (0 : Int))) then (some (.int .i64 (4 : Int))) else (bif (decide (a0_4 < (0 : Int))) then (some (.int .i64 (5 : Int))) else (bif (decide (a0_5 < (0 : Int))) then (some (.int .i64 (6 : Int))) else (bif (decide (a0_6 < (0 : Int))) then (some (.int .i64 (7 : Int))) else (bif (decide (a0_6 > (0 : Int))) then (bif (!(decide (a0_0 = (1 : Int)))) then (some (.int .i64 (7 : Int))) else (callB (kp E k n dec_Right [(.agg [(.int .i64 a0_7), (.int .i64 a0_8)])]) fun vq10 => (bif (!vq10) then (some (.int .i64 (8 : Int))) else (callB (kp E k n item_plain [(.str a0_9)]) fun vq12 => (bif (!vq12) then (some (.int .i64 (9 : Int))) else (callB (kp E k n item_plain [(.str a0_10)]) fun vq14 => (bif (!vq14) then (some (.int .i64 (10 : Int))) else (callB (kp E k n item_device [(.agg [(.int .i64 a0_0), (.str a0_1), (.str a0_2), (.int .i64 a0_3), (.int .i64 a0_4), (.int .i64 a0_5), (.int .i64 a0_6), (.int .i64 a0_7), (.int .i64 a0_8), (.str a0_9), (.str a0_10), (.int .i64 a0_11), (.int .i64 a0_12), (.list 2 a0_13)]), (.int .i64 a0_11)]) fun vq16 => (bif (!vq16) then (some (.int .i64 (11 : Int))) else (callB (kp E k n item_device [(.agg [(.int .i64 a0_0), (.str a0_1), (.str a0_2), (.int .i64 a0_3), (.int .i64 a0_4), (.int .i64 a0_5), (.int .i64 a0_6), (.int .i64 a0_7), (.int .i64 a0_8), (.str a0_9), (.str a0_10), (.int .i64 a0_11), (.int .i64 a0_12), (.list 2 a0_13)]), (.int .i64 a0_12)]) fun vq18 => (bif (!vq18) then (some (.int .i64 (12 : Int))) else (callB (kp E k n item_extra [(.list 2 a0_13)]) fun vq20 => (bif (!vq20) then (some (.int .i64 (13 : Int))) else (some (.int .i64 (0 : Int)))))))))))))))) else (callB (kp E k n dec_Right [(.agg [(.int .i64 a0_7), (.int .i64 a0_8)])]) fun vq22 => (bif (!vq22) then (some (.int .i64 (8 : Int))) else (callB (kp E k n item_plain [(.str a0_9)]) fun vq24 => (bif (!vq24) then (some (.int .i64 (9 : Int))) else (callB (kp E k n item_plain [(.str a0_10)]) fun vq26 => (bif (!vq26) then (some (.int .i64 (10 : Int))) else (callB (kp E k n item_device [(.agg [(.int .i64 a0_0), (.str a0_1), (.str a0_2), (.int .i64 a0_3), (.int .i64 a0_4), (.int .i64 a0_5), (.int .i64 a0_6), (.int .i64 a0_7), (.int .i64 a0_8), (.str a0_9), (.str a0_10), (.int .i64 a0_11), (.int .i64 a0_12), (.list 2 a0_13)]), (.int .i64 a0_11)]) fun vq28 => (bif (!vq28) then (some (.int .i64 (11 : Int))) else (callB (kp E k n item_device [(.agg [(.int .i64 a0_0), (.str a0_1), (.str a0_2), (.int .i64 a0_3), (.int .i64 a0_4), (.int .i64 a0_5), (.int .i64 a0_6), (.int .i64 a0_7), (.int .i64 a0_8), (.str a0_9), (.str a0_10), (.int .i64 a0_11), (.int .i64 a0_12), (.list 2 a0_13)]), (.int .i64 a0_12)]) fun vq30 => (bif (!vq30) then (some (.int .i64 (12 : Int))) else (callB (kp E k n item_extra [(.list 2 a0_13)]) fun vq32 => (bif (!vq32) then (some (.int .i64 (13 : Int))) else (some (.int .i64 (0 : Int)))))))))))))))))))))))) else (callB (kp E k n item_link [(.agg [(.int .i64 a0_0), (.str a0_1), (.str a0_2), (.int .i64 a0_3), (.int .i64 a0_4), (.int .i64 a0_5), (.int .i64 a0_6), (.int .i64 a0_7), (.int .i64 a0_8), (.str a0_9), (.str a0_10), (.int .i64 a0_11), (.int .i64 a0_12), (.list 2 a0_13)])]) fun vq34 => (bif (!vq34) then (some (.int .i64 (3 : Int))) else (bif (decide (a0_3 < (0 : Int))) then (some (.int .i64 (4 : Int))) else (bif (decide (a0_4 < (0 : Int))) then (some (.int .i64 (5 : Int))) else (bif (decide (a0_5 < (0 : Int))) then (some (.int .i64 (6 : Int))) else (bif (decide (a0_6 < (0 : Int))) then (some (.int .i64 (7 : Int))) else (bif (decide (a0_6 > (0 : Int))) then (bif (!(decide (a0_0 = (1 : Int)))) then (some (.int .i64 (7 : Int))) else (callB (kp E k n dec_Right [(.agg [(.int .i64 a0_7), (.int .i64 a0_8)])]) fun vq36 => (bif (!vq36) then (some (.int .i64 (8 : Int))) else (callB (kp E k n item_plain [(.str a0_9)]) fun vq38 => (bif (!vq38) then (some (.int .i64 (9 : Int))) else (callB (kp E k n item_plain [(.str a0_10)]) fun vq40 => (bif (!vq40) then (some (.int .i64 (10 : Int))) else (callB (kp E k n item_device [(.agg [(.int .i64 a0_0), (.str a0_1), (.str a0_2), (.int .i64 a0_3), (.int .i64 a0_4), (.int .i64 a0_5), (.int .i64 a0_6), (.int .i64 a0_7), (.int .i64 a0_8), (.str a0_9), (.str a0_10), (.int .i64 a0_11), (.int .i64 a0_12), (.list 2 a0_13)]), (.int .i64 a0_11)]) fun vq42 => (bif (!vq42) then (some (.int .i64 (11 : Int))) else (callB (kp E k n item_device [(.agg [(.int .i64 a0_0), (.str a0_1), (.str a0_2), (.int .i64 a0_3), (.int .i64 a0_4), (.int .i64 a0_5), (.int .i64 a0_6), (.int .i64 a0_7), (.int .i64 a0_8), (.str a0_9), (.str a0_10), (.int .i64 a0_11), (.int .i64 a0_12), (.list 2 a0_13)]), (.int .i64 a0_12)]) fun vq44 => (bif (!vq44) then (some (.int .i64 (12 : Int))) else (callB (kp E k n item_extra [(.list 2 a0_13)]) fun vq46 => (bif (!vq46) then (some (.int .i64 (13 : Int))) else (some (.int .i64 (0 : Int)))))))))))))))) else (callB (kp E k n dec_Right [(.agg [(.int .i64 a0_7), (.int .i64 a0_8)])]) fun vq48 => (bif (!vq48) then (some (.int .i64 (8 : Int))) else (callB (kp E k n item_plain [(.str a0_9)]) fun vq50 => (bif (!vq50) then (some (.int .i64 (9 : Int))) else (callB (kp E k n item_plain [(.str a0_10)]) fun vq52 => (bif (!vq52) then (some (.int .i64 (10 : Int))) else (callB (kp E k n item_device [(.agg [(.int .i64 a0_0), (.str a0_1), (.str a0_2), (.int .i64 a0_3), (.int .i64 a0_4), (.int .i64 a0_5), (.int .i64 a0_6), (.int .i64 a0_7), (.int .i64 a0_8), (.str a0_9), (.str a0_10), (.int .i64 a0_11), (.int .i64 a0_12), (.list 2 a0_13)]), (.int .i64 a0_11)]) fun vq54 => (bif (!vq54) then (some (.int .i64 (11 : Int))) else (callB (kp E k n item_device [(.agg [(.int .i64 a0_0), (.str a0_1), (.str a0_2), (.int .i64 a0_3), (.int .i64 a0_4), (.int .i64 a0_5), (.int .i64 a0_6), (.int .i64 a0_7), (.int .i64 a0_8), (.str a0_9), (.str a0_10), (.int .i64 a0_11), (.int .i64 a0_12), (.list 2 a0_13)]), (.int .i64 a0_12)]) fun vq56 => (bif (!vq56) then (some (.int .i64 (12 : Int))) else (callB (kp E k n item_extra [(.list 2 a0_13)]) fun vq58 => (bif (!vq58) then (some (.int .i64 (13 : Int))) else (some (.int .i64 (0 : Int))))))))))))))))))))))))))) := (kp_at (by kernel_rfl)).trans (by kernel_rfl)
/- oakum/item.Right -/
theorem item_Right_eq {E : Ext} [Core E] (k n : Nat) (a0_0 : Int) (a0_1 : ByteArray) (a0_2 : ByteArray) (a0_3 : Int) (a0_4 : Int) (a0_5 : Int) (a0_6 : Int) (a0_7 : Int) (a0_8 : Int) (a0_9 : ByteArray) (a0_10 : ByteArray) (a0_11 : Int) (a0_12 : Int) (a0_13 : List AV) (a0_14 : List AV) : kp E k (n + 1) item_Right [(.agg [(.int .i64 a0_0), (.str a0_1), (.str a0_2), (.int .i64 a0_3), (.int .i64 a0_4), (.int .i64 a0_5), (.int .i64 a0_6), (.int .i64 a0_7), (.int .i64 a0_8), (.str a0_9), (.str a0_10), (.int .i64 a0_11), (.int .i64 a0_12), (.list 2 a0_13), (.list 1 a0_14)])] =
  (callI .i64 (kp E k n item_Wrong [(.agg [(.int .i64 a0_0), (.str a0_1), (.str a0_2), (.int .i64 a0_3), (.int .i64 a0_4), (.int .i64 a0_5), (.int .i64 a0_6), (.int .i64 a0_7), (.int .i64 a0_8), (.str a0_9), (.str a0_10), (.int .i64 a0_11), (.int .i64 a0_12), (.list 2 a0_13)])]) fun vn2 => (bif (decide (vn2 = (0 : Int))) then (some (.bool (decide (a0_6 = (((List.length a0_14) : Nat) : Int))))) else (some (.bool false)))) := (kp_at (by kernel_rfl)).trans (by kernel_rfl)
/- oakum/pax.Right -/
theorem pax_Right_eq {E : Ext} [Core E] (k n : Nat) (a0_0 : ByteArray) (a0_1 : ByteArray) : kp E k (n + 1) pax_Right [(.agg [(.str a0_0), (.str a0_1)])] =
  (bif (!(decide (a0_0 = (str [])))) then (callB (kp E k n utf_Right [(.str a0_0)]) fun vq2 => (bif vq2 then (callB (kp E k n strings_ContainsAny [(.str a0_0), (.str (str [61, 0]))]) fun vq4 => (bif (!vq4) then (callB (kp E k n pax_value [(.str a0_0), (.str a0_1)]) fun vq6 => (some (.bool vq6))) else (some (.bool false)))) else (some (.bool false)))) else (some (.bool false))) := (kp_at (by kernel_rfl)).trans (by kernel_rfl)
/- oakum/pax.Known -/
theorem pax_Known_eq {E : Ext} [Core E] (k n : Nat) (a0 : ByteArray) : kp E k (n + 1) pax_Known [(.str a0)] =
  (bif (decide (a0 = (str [112, 97, 116, 104]))) then (bif (decide (a0 = (str [112, 97, 116, 104]))) then (some (.bool true)) else (some (.bool false))) else (bif (decide (a0 = (str [108, 105, 110, 107, 112, 97, 116, 104]))) then (bif (decide (a0 = (str [108, 105, 110, 107, 112, 97, 116, 104]))) then (some (.bool true)) else (some (.bool false))) else (bif (decide (a0 = (str [117, 110, 97, 109, 101]))) then (bif (decide (a0 = (str [117, 110, 97, 109, 101]))) then (some (.bool true)) else (some (.bool false))) else (bif (decide (a0 = (str [103, 110, 97, 109, 101]))) then (bif (decide (a0 = (str [103, 110, 97, 109, 101]))) then (some (.bool true)) else (some (.bool false))) else (bif (decide (a0 = (str [117, 105, 100]))) then (bif (decide (a0 = (str [117, 105, 100]))) then (some (.bool true)) else (some (.bool false))) else (bif (decide (a0 = (str [103, 105, 100]))) then (bif (decide (a0 = (str [103, 105, 100]))) then (some (.bool true)) else (some (.bool false))) else (bif (decide (a0 = (str [115, 105, 122, 101]))) then (bif (decide (a0 = (str [115, 105, 122, 101]))) then (some (.bool true)) else (some (.bool false))) else (bif (decide (a0 = (str [109, 116, 105, 109, 101]))) then (some (.bool true)) else (some (.bool false)))))))))) := (kp_at (by kernel_rfl)).trans (by kernel_rfl)
/- oakum/over.Apply -/
noncomputable def over_Apply_bd : Code := Tryz.f38.body.getD .skip
noncomputable def over_Apply_L0 (kap : FuncId → List AV → Option AV) (k : Nat) (k0 : Nat) (s13 : List AV) (s14 : Int) (s15 : Int) (b2_0 : Int) (b2_1 : ByteArray) (b2_2 : ByteArray) (b2_3 : Int) (b2_4 : Int) (b2_5 : Int) (b2_6 : Int) (b2_7 : Int) (b2_8 : Int) (b2_9 : ByteArray) (b2_10 : ByteArray) (b2_11 : Int) (b2_12 : Int) (b4_0 : Int) (b4_1 : ByteArray) (b4_2 : ByteArray) (b4_3 : Int) (b4_4 : Int) (b4_5 : Int) (b4_6 : Int) (b4_7 : Int) (b4_8 : Int) (b4_9 : ByteArray) (b4_10 : ByteArray) (b4_11 : Int) (b4_12 : Int) (x66 : List AV) (x68 : List AV) : Option AV :=
  loop (fun fr K => code ((bs E0 k).cfg kap over_Apply) (sel over_Apply_bd [1, 1, 1, 0, 1, 0, 0]) fr K) (canon ((bs E0 k).cfg kap over_Apply) (firstReg (sel over_Apply_bd [1, 1, 1, 0, 1, 0, 0]))) k0 (mkFr 32 [(2, (.loc 2 0)), (4, (.loc 4 0)), (13, (.list 2 s13)), (14, (.int .i64 s14)), (15, (.int .i64 s15))] [(2, (.box [(.int .i64 b2_0), (.str b2_1), (.str b2_2), (.int .i64 b2_3), (.int .i64 b2_4), (.int .i64 b2_5), (.int .i64 b2_6), (.int .i64 b2_7), (.int .i64 b2_8), (.str b2_9), (.str b2_10), (.int .i64 b2_11), (.int .i64 b2_12), (.own 66)])), (4, (.box [(.int .i64 b4_0), (.str b4_1), (.str b4_2), (.int .i64 b4_3), (.int .i64 b4_4), (.int .i64 b4_5), (.int .i64 b4_6), (.int .i64 b4_7), (.int .i64 b4_8), (.str b4_9), (.str b4_10), (.int .i64 b4_11), (.int .i64 b4_12), (.own 68)])), (66, (.row 42 x66 false)), (68, (.row 42 x68 false))]) (plug ((bs E0 k).cfg kap over_Apply) (retK ((bs E0 k).cfg kap over_Apply) [] Tryz.f38 [] some) [.blk 0, .seqR (sel over_Apply_bd [1, 1, 1, 1])])
theorem over_Apply_L0_s (kap : FuncId → List AV → Option AV) (k : Nat) (k0 : Nat) (s13 : List AV) (s14 : Int) (s15 : Int) (b2_0 : Int) (b2_1 : ByteArray) (b2_2 : ByteArray) (b2_3 : Int) (b2_4 : Int) (b2_5 : Int) (b2_6 : Int) (b2_7 : Int) (b2_8 : Int) (b2_9 : ByteArray) (b2_10 : ByteArray) (b2_11 : Int) (b2_12 : Int) (b4_0 : Int) (b4_1 : ByteArray) (b4_2 : ByteArray) (b4_3 : Int) (b4_4 : Int) (b4_5 : Int) (b4_6 : Int) (b4_7 : Int) (b4_8 : Int) (b4_9 : ByteArray) (b4_10 : ByteArray) (b4_11 : Int) (b4_12 : Int) (x66 : List AV) (x68 : List AV) : over_Apply_L0 kap k (k0 + 1) s13 s14 s15 b2_0 b2_1 b2_2 b2_3 b2_4 b2_5 b2_6 b2_7 b2_8 b2_9 b2_10 b2_11 b2_12 b4_0 b4_1 b4_2 b4_3 b4_4 b4_5 b4_6 b4_7 b4_8 b4_9 b4_10 b4_11 b4_12 x66 x68 =
  (bif (decide (s15 < s14)) then (bif ((decide ((0 : Int) ≤ s15)) && (decide (s15 < (((List.length s13) : Nat) : Int)))) then ((s13[(Int.toNat s15)]?).bind fun vy3 => (cellS (AV.cells vy3) 0 fun vs4 => (cellS (AV.cells vy3) 1 fun vs5 => (callB (kap pax_Known [(.str vs4)]) fun vq7 => (bif vq7 then (callX (kap over_say [(.lent [(.int .i64 b2_0), (.str b2_1), (.str b2_2), (.int .i64 b2_3), (.int .i64 b2_4), (.int .i64 b2_5), (.int .i64 b2_6), (.int .i64 b2_7), (.int .i64 b2_8), (.str b2_9), (.str b2_10), (.int .i64 b2_11), (.int .i64 b2_12), .hold]), (.agg [(.str vs4), (.str vs5)])]) fun vb8 vz9 => (nxX vz9 fun vx11 vz10 => (nxI .i64 vx11 fun vn13 vx12 => (nxS vx12 fun vs15 vx14 => (nxS vx14 fun vs17 vx16 => (nxI .i64 vx16 fun vn19 vx18 => (nxI .i64 vx18 fun vn21 vx20 => (nxI .i64 vx20 fun vn23 vx22 => (nxI .i64 vx22 fun vn25 vx24 => (nxI .i64 vx24 fun vn27 vx26 => (nxI .i64 vx26 fun vn29 vx28 => (nxS vx28 fun vs31 vx30 => (nxS vx30 fun vs33 vx32 => (nxI .i64 vx32 fun vn35 vx34 => (nxI .i64 vx34 fun vn37 vx36 => (nxH vx36 fun vx38 => (atNil vx38 (atNil vz10 (callT (some vb8) fun vt39 => (atNil vt39 (over_Apply_L0 kap k k0 s13 s14 (IntKind.wrap .i64 (s15 + (1 : Int))) vn13 vs15 vs17 vn19 vn21 vn23 vn25 vn27 vn29 vs31 vs33 vn35 vn37 b4_0 b4_1 b4_2 b4_3 b4_4 b4_5 b4_6 b4_7 b4_8 b4_9 b4_10 b4_11 b4_12 x66 x68))))))))))))))))))))) else (bif (decide (((List.length x66) + 1) * 32 ≤ 140737488355328) && decide (((List.length x66) + 1) ≤ 9223372036854775807)) then (over_Apply_L0 kap k k0 s13 s14 (IntKind.wrap .i64 (s15 + (1 : Int))) b2_0 b2_1 b2_2 b2_3 b2_4 b2_5 b2_6 b2_7 b2_8 b2_9 b2_10 b2_11 b2_12 b4_0 b4_1 b4_2 b4_3 b4_4 b4_5 b4_6 b4_7 b4_8 b4_9 b4_10 b4_11 b4_12 (x66 ++ [(.agg [(.str vs4), (.str vs5)])]) x68) else none)))))) else none) else (some (.tup [(.agg [(.int .i64 b2_0), (.str b2_1), (.str b2_2), (.int .i64 b2_3), (.int .i64 b2_4), (.int .i64 b2_5), (.int .i64 b2_6), (.int .i64 b2_7), (.int .i64 b2_8), (.str b2_9), (.str b2_10), (.int .i64 b2_11), (.int .i64 b2_12), (.list 2 x66)]), (.int .u8 (0 : Int))]))) := by kernel_rfl
theorem over_Apply_eq {E : Ext} [Core E] (k n : Nat) (a0_0 : Int) (a0_1 : ByteArray) (a0_2 : ByteArray) (a0_3 : Int) (a0_4 : Int) (a0_5 : Int) (a0_6 : Int) (a0_7 : Int) (a0_8 : Int) (a0_9 : ByteArray) (a0_10 : ByteArray) (a0_11 : Int) (a0_12 : Int) (a0_13 : List AV) (a1 : List AV) : kp E k (n + 1) over_Apply [(.agg [(.int .i64 a0_0), (.str a0_1), (.str a0_2), (.int .i64 a0_3), (.int .i64 a0_4), (.int .i64 a0_5), (.int .i64 a0_6), (.int .i64 a0_7), (.int .i64 a0_8), (.str a0_9), (.str a0_10), (.int .i64 a0_11), (.int .i64 a0_12), (.list 2 a0_13)]), (.list 2 a1)] =
  (callB (kp E k n over_Right [(.list 2 a1)]) fun vq2 => (bif (!vq2) then (some (.tup [(.agg [(.int .i64 (0 : Int)), (.str (str [])), (.str (str [])), (.int .i64 (0 : Int)), (.int .i64 (0 : Int)), (.int .i64 (0 : Int)), (.int .i64 (0 : Int)), (.int .i64 (0 : Int)), (.int .i64 (0 : Int)), (.str (str [])), (.str (str [])), (.int .i64 (0 : Int)), (.int .i64 (0 : Int)), (.list 2 [])]), (.int .u8 (15 : Int))])) else (over_Apply_L0 (kp E k n) k k a1 (((List.length a1) : Nat) : Int) (0 : Int) a0_0 a0_1 a0_2 a0_3 a0_4 a0_5 a0_6 a0_7 a0_8 a0_9 a0_10 a0_11 a0_12 (0 : Int) (str []) (str []) (0 : Int) (0 : Int) (0 : Int) (0 : Int) (0 : Int) (0 : Int) (str []) (str []) (0 : Int) (0 : Int) [] []))) := (kp_at (by kernel_rfl)).trans (by kernel_rfl)
/- oakum/item.Told -/
theorem item_Told_eq {E : Ext} [Core E] (k n : Nat) (a0 : Int) (a1 : ByteArray) : kp E k (n + 1) item_Told [(.int .i64 a0), (.str a1)] =
  (callB (kp E k n strings_HasSuffix [(.str a1), (.str (str [47]))]) fun vq2 => (bif (decide (a0 = (1 : Int))) then (bif vq2 then (bif vq2 then (bif (decide ((((ByteArray.size a1) : Nat) : Int) > (1 : Int))) then (bif ((decide ((0 : Int) ≤ (IntKind.wrap .i64 ((((ByteArray.size a1) : Nat) : Int) - (1 : Int))))) && (decide ((IntKind.wrap .i64 ((((ByteArray.size a1) : Nat) : Int) - (1 : Int))) ≤ (((ByteArray.size a1) : Nat) : Int)))) then (some (.tup [(.int .i64 (6 : Int)), (.str (ByteArray.extract a1 0 (Int.toNat (IntKind.wrap .i64 ((((ByteArray.size a1) : Nat) : Int) - (1 : Int))))))])) else none) else (some (.tup [(.int .i64 (6 : Int)), (.str a1)]))) else (some (.tup [(.int .i64 (6 : Int)), (.str a1)]))) else (bif (decide (a0 = (6 : Int))) then (bif vq2 then (bif (decide ((((ByteArray.size a1) : Nat) : Int) > (1 : Int))) then (bif ((decide ((0 : Int) ≤ (IntKind.wrap .i64 ((((ByteArray.size a1) : Nat) : Int) - (1 : Int))))) && (decide ((IntKind.wrap .i64 ((((ByteArray.size a1) : Nat) : Int) - (1 : Int))) ≤ (((ByteArray.size a1) : Nat) : Int)))) then (some (.tup [(.int .i64 a0), (.str (ByteArray.extract a1 0 (Int.toNat (IntKind.wrap .i64 ((((ByteArray.size a1) : Nat) : Int) - (1 : Int))))))])) else none) else (some (.tup [(.int .i64 a0), (.str a1)]))) else (some (.tup [(.int .i64 a0), (.str a1)]))) else (some (.tup [(.int .i64 a0), (.str a1)])))) else (bif (decide (a0 = (6 : Int))) then (bif vq2 then (bif (decide ((((ByteArray.size a1) : Nat) : Int) > (1 : Int))) then (bif ((decide ((0 : Int) ≤ (IntKind.wrap .i64 ((((ByteArray.size a1) : Nat) : Int) - (1 : Int))))) && (decide ((IntKind.wrap .i64 ((((ByteArray.size a1) : Nat) : Int) - (1 : Int))) ≤ (((ByteArray.size a1) : Nat) : Int)))) then (some (.tup [(.int .i64 a0), (.str (ByteArray.extract a1 0 (Int.toNat (IntKind.wrap .i64 ((((ByteArray.size a1) : Nat) : Int) - (1 : Int))))))])) else none) else (some (.tup [(.int .i64 a0), (.str a1)]))) else (some (.tup [(.int .i64 a0), (.str a1)]))) else (some (.tup [(.int .i64 a0), (.str a1)]))))) := (kp_at (by kernel_rfl)).trans (by kernel_rfl)
/- strings.HasSuffix -/
theorem strings_HasSuffix_eq {E : Ext} [Core E] (k n : Nat) (a0 : ByteArray) (a1 : ByteArray) : kp E k (n + 1) strings_HasSuffix [(.str a0), (.str a1)] =
  (callB (kp E k n stringslite_HasSuffix [(.str a0), (.str a1)]) fun vq2 => (some (.bool vq2))) := (kp_at (by kernel_rfl)).trans (by kernel_rfl)
/- oakum/item.Flag -/
theorem item_Flag_eq {E : Ext} [Core E] (k n : Nat) (a0 : Int) : kp E k (n + 1) item_Flag [(.int .i64 a0)] =
  (bif (decide (a0 < (1 : Int))) then (some (.int .u8 (0 : Int))) else (bif (decide (a0 > (7 : Int))) then (some (.int .u8 (0 : Int))) else (some (.int .u8 (IntKind.wrap .u8 ((48 : Int) + (IntKind.wrap .u8 (IntKind.wrap .i64 (a0 - (1 : Int)))))))))) := (kp_at (by kernel_rfl)).trans (by kernel_rfl)
/- oakum/item.named -/
theorem item_named_eq {E : Ext} [Core E] (k n : Nat) (a0 : ByteArray) : kp E k (n + 1) item_named [(.str a0)] =
  (bif (!(decide (a0 = (str [])))) then (bif (decide ((((ByteArray.size a0) : Nat) : Int) ≤ (65536 : Int))) then (callB (kp E k n text_Clean [(.str a0)]) fun vq2 => (some (.bool vq2))) else (some (.bool false))) else (some (.bool false))) := (kp_at (by kernel_rfl)).trans (by kernel_rfl)
/- oakum/item.link -/
theorem item_link_eq {E : Ext} [Core E] (k n : Nat) (a0_0 : Int) (a0_1 : ByteArray) (a0_2 : ByteArray) (a0_3 : Int) (a0_4 : Int) (a0_5 : Int) (a0_6 : Int) (a0_7 : Int) (a0_8 : Int) (a0_9 : ByteArray) (a0_10 : ByteArray) (a0_11 : Int) (a0_12 : Int) (a0_13 : List AV) : kp E k (n + 1) item_link [(.agg [(.int .i64 a0_0), (.str a0_1), (.str a0_2), (.int .i64 a0_3), (.int .i64 a0_4), (.int .i64 a0_5), (.int .i64 a0_6), (.int .i64 a0_7), (.int .i64 a0_8), (.str a0_9), (.str a0_10), (.int .i64 a0_11), (.int .i64 a0_12), (.list 2 a0_13)])] =
  (bif (decide (a0_0 = (2 : Int))) then (callB (kp E k n item_named [(.str a0_2)]) fun vq2 => (some (.bool vq2))) else (bif (decide (a0_0 = (3 : Int))) then (callB (kp E k n item_named [(.str a0_2)]) fun vq4 => (some (.bool vq4))) else (some (.bool (decide (a0_2 = (str []))))))) := (kp_at (by kernel_rfl)).trans (by kernel_rfl)
/- oakum/item.plain -/
theorem item_plain_eq {E : Ext} [Core E] (k n : Nat) (a0 : ByteArray) : kp E k (n + 1) item_plain [(.str a0)] =
  (bif (decide ((((ByteArray.size a0) : Nat) : Int) ≤ (65536 : Int))) then (callB (kp E k n text_Clean [(.str a0)]) fun vq2 => (some (.bool vq2))) else (some (.bool false))) := (kp_at (by kernel_rfl)).trans (by kernel_rfl)
/- oakum/item.device -/
theorem item_device_eq {E : Ext} [Core E] (k n : Nat) (a0_0 : Int) (a0_1 : ByteArray) (a0_2 : ByteArray) (a0_3 : Int) (a0_4 : Int) (a0_5 : Int) (a0_6 : Int) (a0_7 : Int) (a0_8 : Int) (a0_9 : ByteArray) (a0_10 : ByteArray) (a0_11 : Int) (a0_12 : Int) (a0_13 : List AV) (a1 : Int) : kp E k (n + 1) item_device [(.agg [(.int .i64 a0_0), (.str a0_1), (.str a0_2), (.int .i64 a0_3), (.int .i64 a0_4), (.int .i64 a0_5), (.int .i64 a0_6), (.int .i64 a0_7), (.int .i64 a0_8), (.str a0_9), (.str a0_10), (.int .i64 a0_11), (.int .i64 a0_12), (.list 2 a0_13)]), (.int .i64 a1)] =
  (bif (decide (a1 = (0 : Int))) then (some (.bool true)) else (bif (decide (a1 > (0 : Int))) then (bif (decide (a0_0 = (4 : Int))) then (some (.bool true)) else (some (.bool (decide (a0_0 = (5 : Int)))))) else (some (.bool false)))) := (kp_at (by kernel_rfl)).trans (by kernel_rfl)
/- oakum/item.extra -/
theorem item_extra_eq {E : Ext} [Core E] (k n : Nat) (a0 : List AV) : kp E k (n + 1) item_extra [(.list 2 a0)] =
  (callB (kp E k n over_Right [(.list 2 a0)]) fun vq2 => (bif vq2 then (callB (kp E k n slices_ContainsFunc_api_Pair [(.list 2 a0), (.func (.func item_extra_1) [] [])]) fun vq4 => (some (.bool (!vq4)))) else (some (.bool false)))) := (kp_at (by kernel_rfl)).trans (by kernel_rfl)
/- oakum/utf.Right -/
theorem utf_Right_eq {E : Ext} [Core E] (k n : Nat) (a0 : ByteArray) : kp E k (n + 1) utf_Right [(.str a0)] =
  (callI .i64 (kp E k n utf_First [(.str a0)]) fun vn2 => (some (.bool (decide (vn2 < (0 : Int)))))) := (kp_at (by kernel_rfl)).trans (by kernel_rfl)
/- oakum/pax.value -/
theorem pax_value_eq {E : Ext} [Core E] (k n : Nat) (a0 : ByteArray) (a1 : ByteArray) : kp E k (n + 1) pax_value [(.str a0), (.str a1)] =
  (callB (kp E k n utf_Right [(.str a1)]) fun vq2 => (bif (!vq2) then (some (.bool false)) else (bif (decide (a1 = (str []))) then (some (.bool true)) else (bif (decide (a0 = (str [112, 97, 116, 104]))) then (bif (decide (a0 = (str [112, 97, 116, 104]))) then (callB (kp E k n pax_clean [(.str a1)]) fun vq4 => (some (.bool vq4))) else (bif (decide (a0 = (str [117, 105, 100]))) then (bif (decide (a0 = (str [117, 105, 100]))) then (callT (kp E k n dec_Number [(.str a1)]) fun vt6 => (tupI .i64 vt6 fun vn7 vt8 => (tupI .u8 vt8 fun vn9 vt10 => (atNil vt10 (some (.bool (decide (vn9 = (0 : Int))))))))) else (bif (decide (a0 = (str [109, 116, 105, 109, 101]))) then (callT (kp E k n dec_Time [(.str a1)]) fun vt12 => (tupG 2 vt12 fun vg13 vt14 => (cellI .i64 vg13 0 fun vn15 => (cellI .i64 vg13 1 fun vn16 => (tupI .u8 vt14 fun vn17 vt18 => (atNil vt18 (some (.bool (decide (vn17 = (0 : Int))))))))))) else (some (.bool true)))) else (bif (decide (a0 = (str [103, 105, 100]))) then (bif (decide (a0 = (str [103, 105, 100]))) then (callT (kp E k n dec_Number [(.str a1)]) fun vt20 => (tupI .i64 vt20 fun vn21 vt22 => (tupI .u8 vt22 fun vn23 vt24 => (atNil vt24 (some (.bool (decide (vn23 = (0 : Int))))))))) else (bif (decide (a0 = (str [109, 116, 105, 109, 101]))) then (callT (kp E k n dec_Time [(.str a1)]) fun vt26 => (tupG 2 vt26 fun vg27 vt28 => (cellI .i64 vg27 0 fun vn29 => (cellI .i64 vg27 1 fun vn30 => (tupI .u8 vt28 fun vn31 vt32 => (atNil vt32 (some (.bool (decide (vn31 = (0 : Int))))))))))) else (some (.bool true)))) else (bif (decide (a0 = (str [115, 105, 122, 101]))) then (callT (kp E k n dec_Number [(.str a1)]) fun vt34 => (tupI .i64 vt34 fun vn35 vt36 => (tupI .u8 vt36 fun vn37 vt38 => (atNil vt38 (some (.bool (decide (vn37 = (0 : Int))))))))) else (bif (decide (a0 = (str [109, 116, 105, 109, 101]))) then (callT (kp E k n dec_Time [(.str a1)]) fun vt40 => (tupG 2 vt40 fun vg41 vt42 => (cellI .i64 vg41 0 fun vn43 => (cellI .i64 vg41 1 fun vn44 => (tupI .u8 vt42 fun vn45 vt46 => (atNil vt46 (some (.bool (decide (vn45 = (0 : Int))))))))))) else (some (.bool true))))))) else (bif (decide (a0 = (str [108, 105, 110, 107, 112, 97, 116, 104]))) then (bif (decide (a0 = (str [108, 105, 110, 107, 112, 97, 116, 104]))) then (callB (kp E k n pax_clean [(.str a1)]) fun vq48 => (some (.bool vq48))) else (bif (decide (a0 = (str [117, 105, 100]))) then (bif (decide (a0 = (str [117, 105, 100]))) then (callT (kp E k n dec_Number [(.str a1)]) fun vt50 => (tupI .i64 vt50 fun vn51 vt52 => (tupI .u8 vt52 fun vn53 vt54 => (atNil vt54 (some (.bool (decide (vn53 = (0 : Int))))))))) else (bif (decide (a0 = (str [109, 116, 105, 109, 101]))) then (callT (kp E k n dec_Time [(.str a1)]) fun vt56 => (tupG 2 vt56 fun vg57 vt58 => (cellI .i64 vg57 0 fun vn59 => (cellI .i64 vg57 1 fun vn60 => (tupI .u8 vt58 fun vn61 vt62 => (atNil vt62 (some (.bool (decide (vn61 = (0 : Int))))))))))) else (some (.bool true)))) else (bif (decide (a0 = (str [103, 105, 100]))) then (bif (decide (a0 = (str [103, 105, 100]))) then (callT (kp E k n dec_Number [(.str a1)]) fun vt64 => (tupI .i64 vt64 fun vn65 vt66 => (tupI .u8 vt66 fun vn67 vt68 => (atNil vt68 (some (.bool (decide (vn67 = (0 : Int))))))))) else (bif (decide (a0 = (str [109, 116, 105, 109, 101]))) then (callT (kp E k n dec_Time [(.str a1)]) fun vt70 => (tupG 2 vt70 fun vg71 vt72 => (cellI .i64 vg71 0 fun vn73 => (cellI .i64 vg71 1 fun vn74 => (tupI .u8 vt72 fun vn75 vt76 => (atNil vt76 (some (.bool (decide (vn75 = (0 : Int))))))))))) else (some (.bool true)))) else (bif (decide (a0 = (str [115, 105, 122, 101]))) then (callT (kp E k n dec_Number [(.str a1)]) fun vt78 => (tupI .i64 vt78 fun vn79 vt80 => (tupI .u8 vt80 fun vn81 vt82 => (atNil vt82 (some (.bool (decide (vn81 = (0 : Int))))))))) else (bif (decide (a0 = (str [109, 116, 105, 109, 101]))) then (callT (kp E k n dec_Time [(.str a1)]) fun vt84 => (tupG 2 vt84 fun vg85 vt86 => (cellI .i64 vg85 0 fun vn87 => (cellI .i64 vg85 1 fun vn88 => (tupI .u8 vt86 fun vn89 vt90 => (atNil vt90 (some (.bool (decide (vn89 = (0 : Int))))))))))) else (some (.bool true))))))) else (bif (decide (a0 = (str [117, 110, 97, 109, 101]))) then (bif (decide (a0 = (str [117, 110, 97, 109, 101]))) then (callB (kp E k n pax_clean [(.str a1)]) fun vq92 => (some (.bool vq92))) else (bif (decide (a0 = (str [117, 105, 100]))) then (bif (decide (a0 = (str [117, 105, 100]))) then (callT (kp E k n dec_Number [(.str a1)]) fun vt94 => (tupI .i64 vt94 fun vn95 vt96 => (tupI .u8 vt96 fun vn97 vt98 => (atNil vt98 (some (.bool (decide (vn97 = (0 : Int))))))))) else (bif (decide (a0 = (str [109, 116, 105, 109, 101]))) then (callT (kp E k n dec_Time [(.str a1)]) fun vt100 => (tupG 2 vt100 fun vg101 vt102 => (cellI .i64 vg101 0 fun vn103 => (cellI .i64 vg101 1 fun vn104 => (tupI .u8 vt102 fun vn105 vt106 => (atNil vt106 (some (.bool (decide (vn105 = (0 : Int))))))))))) else (some (.bool true)))) else (bif (decide (a0 = (str [103, 105, 100]))) then (bif (decide (a0 = (str [103, 105, 100]))) then (callT (kp E k n dec_Number [(.str a1)]) fun vt108 => (tupI .i64 vt108 fun vn109 vt110 => (tupI .u8 vt110 fun vn111 vt112 => (atNil vt112 (some (.bool (decide (vn111 = (0 : Int))))))))) else (bif (decide (a0 = (str [109, 116, 105, 109, 101]))) then (callT (kp E k n dec_Time [(.str a1)]) fun vt114 => (tupG 2 vt114 fun vg115 vt116 => (cellI .i64 vg115 0 fun vn117 => (cellI .i64 vg115 1 fun vn118 => (tupI .u8 vt116 fun vn119 vt120 => (atNil vt120 (some (.bool (decide (vn119 = (0 : Int))))))))))) else (some (.bool true)))) else (bif (decide (a0 = (str [115, 105, 122, 101]))) then (callT (kp E k n dec_Number [(.str a1)]) fun vt122 => (tupI .i64 vt122 fun vn123 vt124 => (tupI .u8 vt124 fun vn125 vt126 => (atNil vt126 (some (.bool (decide (vn125 = (0 : Int))))))))) else (bif (decide (a0 = (str [109, 116, 105, 109, 101]))) then (callT (kp E k n dec_Time [(.str a1)]) fun vt128 => (tupG 2 vt128 fun vg129 vt130 => (cellI .i64 vg129 0 fun vn131 => (cellI .i64 vg129 1 fun vn132 => (tupI .u8 vt130 fun vn133 vt134 => (atNil vt134 (some (.bool (decide (vn133 = (0 : Int))))))))))) else (some (.bool true))))))) else (bif (decide (a0 = (str [103, 110, 97, 109, 101]))) then (callB (kp E k n pax_clean [(.str a1)]) fun vq136 => (some (.bool vq136))) else (bif (decide (a0 = (str [117, 105, 100]))) then (bif (decide (a0 = (str [117, 105, 100]))) then (callT (kp E k n dec_Number [(.str a1)]) fun vt138 => (tupI .i64 vt138 fun vn139 vt140 => (tupI .u8 vt140 fun vn141 vt142 => (atNil vt142 (some (.bool (decide (vn141 = (0 : Int))))))))) else (bif (decide (a0 = (str [109, 116, 105, 109, 101]))) then (callT (kp E k n dec_Time [(.str a1)]) fun vt144 => (tupG 2 vt144 fun vg145 vt146 => (cellI .i64 vg145 0 fun vn147 => (cellI .i64 vg145 1 fun vn148 => (tupI .u8 vt146 fun vn149 vt150 => (atNil vt150 (some (.bool (decide (vn149 = (0 : Int))))))))))) else (some (.bool true)))) else (bif (decide (a0 = (str [103, 105, 100]))) then (bif (decide (a0 = (str [103, 105, 100]))) then (callT (kp E k n dec_Number [(.str a1)]) fun vt152 => (tupI .i64 vt152 fun vn153 vt154 => (tupI .u8 vt154 fun vn155 vt156 => (atNil vt156 (some (.bool (decide (vn155 = (0 : Int))))))))) else (bif (decide (a0 = (str [109, 116, 105, 109, 101]))) then (callT (kp E k n dec_Time [(.str a1)]) fun vt158 => (tupG 2 vt158 fun vg159 vt160 => (cellI .i64 vg159 0 fun vn161 => (cellI .i64 vg159 1 fun vn162 => (tupI .u8 vt160 fun vn163 vt164 => (atNil vt164 (some (.bool (decide (vn163 = (0 : Int))))))))))) else (some (.bool true)))) else (bif (decide (a0 = (str [115, 105, 122, 101]))) then (callT (kp E k n dec_Number [(.str a1)]) fun vt166 => (tupI .i64 vt166 fun vn167 vt168 => (tupI .u8 vt168 fun vn169 vt170 => (atNil vt170 (some (.bool (decide (vn169 = (0 : Int))))))))) else (bif (decide (a0 = (str [109, 116, 105, 109, 101]))) then (callT (kp E k n dec_Time [(.str a1)]) fun vt172 => (tupG 2 vt172 fun vg173 vt174 => (cellI .i64 vg173 0 fun vn175 => (cellI .i64 vg173 1 fun vn176 => (tupI .u8 vt174 fun vn177 vt178 => (atNil vt178 (some (.bool (decide (vn177 = (0 : Int))))))))))) else (some (.bool true))))))))))))) := (kp_at (by kernel_rfl)).trans (by kernel_rfl)
/- oakum/over.Lay -/
noncomputable def over_Lay_bd : Code := Tryz.f73.body.getD .skip
noncomputable def over_Lay_L0 (kap : FuncId → List AV → Option AV) (k : Nat) (k0 : Nat) (s1 : List AV) (s10 : List AV) (s11 : Int) (s12 : Int) (x5 : List AV) : Option AV :=
  loop (fun fr K => code ((bs E0 k).cfg kap over_Lay) (sel over_Lay_bd [1, 1, 0, 1, 0, 0]) fr K) (canon ((bs E0 k).cfg kap over_Lay) (firstReg (sel over_Lay_bd [1, 1, 0, 1, 0, 0]))) k0 (mkFr 31 [(1, (.list 2 s1)), (5, (.own 5)), (10, (.list 2 s10)), (11, (.int .i64 s11)), (12, (.int .i64 s12))] [(5, (.row 42 x5 false))]) (plug ((bs E0 k).cfg kap over_Lay) (retK ((bs E0 k).cfg kap over_Lay) [] Tryz.f73 [] some) [.blk 0, .seqR (sel over_Lay_bd [1, 1, 1])])
noncomputable def over_Lay_L1 (kap : FuncId → List AV → Option AV) (k : Nat) (k1 : Nat) (s20 : List AV) (s21 : Int) (s22 : Int) (x5 : List AV) : Option AV :=
  loop (fun fr K => code ((bs E0 k).cfg kap over_Lay) (sel over_Lay_bd [1, 1, 1, 0, 1, 0, 0]) fr K) (canon ((bs E0 k).cfg kap over_Lay) (firstReg (sel over_Lay_bd [1, 1, 1, 0, 1, 0, 0]))) k1 (mkFr 31 [(5, (.own 5)), (20, (.list 2 s20)), (21, (.int .i64 s21)), (22, (.int .i64 s22))] [(5, (.row 42 x5 false))]) (plug ((bs E0 k).cfg kap over_Lay) (retK ((bs E0 k).cfg kap over_Lay) [] Tryz.f73 [] some) [.blk 2, .seqR (sel over_Lay_bd [1, 1, 1, 1])])
theorem over_Lay_L0_s (kap : FuncId → List AV → Option AV) (k : Nat) (k0 : Nat) (s1 : List AV) (s10 : List AV) (s11 : Int) (s12 : Int) (x5 : List AV) : over_Lay_L0 kap k (k0 + 1) s1 s10 s11 s12 x5 =
  (bif (decide (s12 < s11)) then (bif ((decide ((0 : Int) ≤ s12)) && (decide (s12 < (((List.length s10) : Nat) : Int)))) then ((s10[(Int.toNat s12)]?).bind fun vy1 => (cellS (AV.cells vy1) 0 fun vs2 => (cellS (AV.cells vy1) 1 fun vs3 => (callX (kap over_lay [(.fresh 42 x5), (.agg [(.str vs2), (.str vs3)])]) fun vb4 vz5 => (atNil vz5 (callF 42 (some vb4) fun vw6 => (over_Lay_L0 kap k k0 s1 s10 s11 (IntKind.wrap .i64 (s12 + (1 : Int))) vw6))))))) else none) else (over_Lay_L1 kap k k s1 (((List.length s1) : Nat) : Int) (0 : Int) x5)) := by kernel_rfl
theorem over_Lay_L1_s (kap : FuncId → List AV → Option AV) (k : Nat) (k1 : Nat) (s20 : List AV) (s21 : Int) (s22 : Int) (x5 : List AV) : over_Lay_L1 kap k (k1 + 1) s20 s21 s22 x5 =
  (bif (decide (s22 < s21)) then (bif ((decide ((0 : Int) ≤ s22)) && (decide (s22 < (((List.length s20) : Nat) : Int)))) then ((s20[(Int.toNat s22)]?).bind fun vy7 => (cellS (AV.cells vy7) 0 fun vs8 => (cellS (AV.cells vy7) 1 fun vs9 => (callX (kap over_lay [(.fresh 42 x5), (.agg [(.str vs8), (.str vs9)])]) fun vb10 vz11 => (atNil vz11 (callF 42 (some vb10) fun vw12 => (over_Lay_L1 kap k k1 s20 s21 (IntKind.wrap .i64 (s22 + (1 : Int))) vw12))))))) else none) else (some (.list 2 x5))) := by kernel_rfl
theorem over_Lay_eq {E : Ext} [Core E] (k n : Nat) (a0 : List AV) (a1 : List AV) : kp E k (n + 1) over_Lay [(.list 2 a0), (.list 2 a1)] =
  (over_Lay_L0 (kp E k n) k k a1 a0 (((List.length a0) : Nat) : Int) (0 : Int) []) := (kp_at (by kernel_rfl)).trans (by kernel_rfl)
/- oakum/over.Right -/
noncomputable def over_Right_bd : Code := Tryz.f74.body.getD .skip
noncomputable def over_Right_L0 (kap : FuncId → List AV → Option AV) (k : Nat) (k0 : Nat) (s0 : List AV) (s5 : List AV) (s6 : Int) (s7 : Int) : Option AV :=
  loop (fun fr K => code ((bs E0 k).cfg kap over_Right) (sel over_Right_bd [1, 0, 1, 0, 0]) fr K) (canon ((bs E0 k).cfg kap over_Right) (firstReg (sel over_Right_bd [1, 0, 1, 0, 0]))) k0 (mkFr 36 [(0, (.list 2 s0)), (5, (.list 2 s5)), (6, (.int .i64 s6)), (7, (.int .i64 s7))] []) (plug ((bs E0 k).cfg kap over_Right) (retK ((bs E0 k).cfg kap over_Right) [] Tryz.f74 [] some) [.blk 0, .seqR (sel over_Right_bd [1, 1])])
theorem over_Right_L0_s (kap : FuncId → List AV → Option AV) (k : Nat) (k0 : Nat) (s0 : List AV) (s5 : List AV) (s6 : Int) (s7 : Int) : over_Right_L0 kap k (k0 + 1) s0 s5 s6 s7 =
  (bif (decide (s7 < s6)) then (bif ((decide ((0 : Int) ≤ s7)) && (decide (s7 < (((List.length s5) : Nat) : Int)))) then ((s5[(Int.toNat s7)]?).bind fun vy1 => (cellS (AV.cells vy1) 0 fun vs2 => (cellS (AV.cells vy1) 1 fun vs3 => (bif (decide (vs3 = (str []))) then (some (.bool false)) else (callB (kap pax_Right [(.agg [(.str vs2), (.str vs3)])]) fun vq5 => (bif (!vq5) then (some (.bool false)) else (bif (decide (s7 > (0 : Int))) then (bif ((decide ((0 : Int) ≤ (IntKind.wrap .i64 (s7 - (1 : Int))))) && (decide ((IntKind.wrap .i64 (s7 - (1 : Int))) < (((List.length s0) : Nat) : Int)))) then ((s0[(Int.toNat (IntKind.wrap .i64 (s7 - (1 : Int))))]?).bind fun vy6 => (cellS (AV.cells vy6) 0 fun vs7 => (bif (!(Op.bytesLess (ByteArray.toList vs7) (ByteArray.toList vs2))) then (some (.bool false)) else (over_Right_L0 kap k k0 s0 s5 s6 (IntKind.wrap .i64 (s7 + (1 : Int))))))) else none) else (over_Right_L0 kap k k0 s0 s5 s6 (IntKind.wrap .i64 (s7 + (1 : Int))))))))))) else none) else (some (.bool true))) := by kernel_rfl
theorem over_Right_eq {E : Ext} [Core E] (k n : Nat) (a0 : List AV) : kp E k (n + 1) over_Right [(.list 2 a0)] =
  (over_Right_L0 (kp E k n) k k a0 a0 (((List.length a0) : Nat) : Int) (0 : Int)) := (kp_at (by kernel_rfl)).trans (by kernel_rfl)
/- oakum/over.say -/
theorem over_say_eq {E : Ext} [Core E] (k n : Nat) (a0_0 : Int) (a0_1 : ByteArray) (a0_2 : ByteArray) (a0_3 : Int) (a0_4 : Int) (a0_5 : Int) (a0_6 : Int) (a0_7 : Int) (a0_8 : Int) (a0_9 : ByteArray) (a0_10 : ByteArray) (a0_11 : Int) (a0_12 : Int) (a1_0 : ByteArray) (a1_1 : ByteArray) : kp E k (n + 1) over_say [(.lent [(.int .i64 a0_0), (.str a0_1), (.str a0_2), (.int .i64 a0_3), (.int .i64 a0_4), (.int .i64 a0_5), (.int .i64 a0_6), (.int .i64 a0_7), (.int .i64 a0_8), (.str a0_9), (.str a0_10), (.int .i64 a0_11), (.int .i64 a0_12), .hold]), (.agg [(.str a1_0), (.str a1_1)])] =
  (bif (decide (a1_0 = (str [112, 97, 116, 104]))) then (some (.lback (.tup []) [(.lent [(.int .i64 a0_0), (.str a1_1), (.str a0_2), (.int .i64 a0_3), (.int .i64 a0_4), (.int .i64 a0_5), (.int .i64 a0_6), (.int .i64 a0_7), (.int .i64 a0_8), (.str a0_9), (.str a0_10), (.int .i64 a0_11), (.int .i64 a0_12), .hold])])) else (bif (decide (a1_0 = (str [108, 105, 110, 107, 112, 97, 116, 104]))) then (some (.lback (.tup []) [(.lent [(.int .i64 a0_0), (.str a0_1), (.str a1_1), (.int .i64 a0_3), (.int .i64 a0_4), (.int .i64 a0_5), (.int .i64 a0_6), (.int .i64 a0_7), (.int .i64 a0_8), (.str a0_9), (.str a0_10), (.int .i64 a0_11), (.int .i64 a0_12), .hold])])) else (bif (decide (a1_0 = (str [117, 110, 97, 109, 101]))) then (some (.lback (.tup []) [(.lent [(.int .i64 a0_0), (.str a0_1), (.str a0_2), (.int .i64 a0_3), (.int .i64 a0_4), (.int .i64 a0_5), (.int .i64 a0_6), (.int .i64 a0_7), (.int .i64 a0_8), (.str a1_1), (.str a0_10), (.int .i64 a0_11), (.int .i64 a0_12), .hold])])) else (bif (decide (a1_0 = (str [103, 110, 97, 109, 101]))) then (some (.lback (.tup []) [(.lent [(.int .i64 a0_0), (.str a0_1), (.str a0_2), (.int .i64 a0_3), (.int .i64 a0_4), (.int .i64 a0_5), (.int .i64 a0_6), (.int .i64 a0_7), (.int .i64 a0_8), (.str a0_9), (.str a1_1), (.int .i64 a0_11), (.int .i64 a0_12), .hold])])) else (bif (decide (a1_0 = (str [117, 105, 100]))) then (callT (kp E k n dec_Number [(.str a1_1)]) fun vt2 => (tupI .i64 vt2 fun vn3 vt4 => (tupI .u8 vt4 fun vn5 vt6 => (atNil vt6 (some (.lback (.tup []) [(.lent [(.int .i64 a0_0), (.str a0_1), (.str a0_2), (.int .i64 a0_3), (.int .i64 vn3), (.int .i64 a0_5), (.int .i64 a0_6), (.int .i64 a0_7), (.int .i64 a0_8), (.str a0_9), (.str a0_10), (.int .i64 a0_11), (.int .i64 a0_12), .hold])])))))) else (bif (decide (a1_0 = (str [103, 105, 100]))) then (callT (kp E k n dec_Number [(.str a1_1)]) fun vt8 => (tupI .i64 vt8 fun vn9 vt10 => (tupI .u8 vt10 fun vn11 vt12 => (atNil vt12 (some (.lback (.tup []) [(.lent [(.int .i64 a0_0), (.str a0_1), (.str a0_2), (.int .i64 a0_3), (.int .i64 a0_4), (.int .i64 vn9), (.int .i64 a0_6), (.int .i64 a0_7), (.int .i64 a0_8), (.str a0_9), (.str a0_10), (.int .i64 a0_11), (.int .i64 a0_12), .hold])])))))) else (bif (decide (a1_0 = (str [115, 105, 122, 101]))) then (callT (kp E k n dec_Number [(.str a1_1)]) fun vt14 => (tupI .i64 vt14 fun vn15 vt16 => (tupI .u8 vt16 fun vn17 vt18 => (atNil vt18 (some (.lback (.tup []) [(.lent [(.int .i64 a0_0), (.str a0_1), (.str a0_2), (.int .i64 a0_3), (.int .i64 a0_4), (.int .i64 a0_5), (.int .i64 vn15), (.int .i64 a0_7), (.int .i64 a0_8), (.str a0_9), (.str a0_10), (.int .i64 a0_11), (.int .i64 a0_12), .hold])])))))) else (bif (decide (a1_0 = (str [109, 116, 105, 109, 101]))) then (callT (kp E k n dec_Time [(.str a1_1)]) fun vt20 => (tupG 2 vt20 fun vg21 vt22 => (cellI .i64 vg21 0 fun vn23 => (cellI .i64 vg21 1 fun vn24 => (tupI .u8 vt22 fun vn25 vt26 => (atNil vt26 (some (.lback (.tup []) [(.lent [(.int .i64 a0_0), (.str a0_1), (.str a0_2), (.int .i64 a0_3), (.int .i64 a0_4), (.int .i64 a0_5), (.int .i64 a0_6), (.int .i64 vn23), (.int .i64 vn24), (.str a0_9), (.str a0_10), (.int .i64 a0_11), (.int .i64 a0_12), .hold])])))))))) else (some (.lback (.tup []) [(.lent [(.int .i64 a0_0), (.str a0_1), (.str a0_2), (.int .i64 a0_3), (.int .i64 a0_4), (.int .i64 a0_5), (.int .i64 a0_6), (.int .i64 a0_7), (.int .i64 a0_8), (.str a0_9), (.str a0_10), (.int .i64 a0_11), (.int .i64 a0_12), .hold])])))))))))) := (kp_at (by kernel_rfl)).trans (by kernel_rfl)
/- internal/stringslite.HasSuffix -/
theorem stringslite_HasSuffix_eq {E : Ext} [Core E] (k n : Nat) (a0 : ByteArray) (a1 : ByteArray) : kp E k (n + 1) stringslite_HasSuffix [(.str a0), (.str a1)] =
  (bif (decide ((((ByteArray.size a0) : Nat) : Int) ≥ (((ByteArray.size a1) : Nat) : Int))) then (bif ((decide ((0 : Int) ≤ (IntKind.wrap .i64 ((((ByteArray.size a0) : Nat) : Int) - (((ByteArray.size a1) : Nat) : Int))))) && (decide ((IntKind.wrap .i64 ((((ByteArray.size a0) : Nat) : Int) - (((ByteArray.size a1) : Nat) : Int))) ≤ (((ByteArray.size a0) : Nat) : Int)))) then (some (.bool (decide ((ByteArray.extract a0 (Int.toNat (IntKind.wrap .i64 ((((ByteArray.size a0) : Nat) : Int) - (((ByteArray.size a1) : Nat) : Int)))) (ByteArray.size a0)) = a1)))) else none) else (some (.bool false))) := (kp_at (by kernel_rfl)).trans (by kernel_rfl)
/- oakum/text.Clean -/
theorem text_Clean_eq {E : Ext} [Core E] (k n : Nat) (a0 : ByteArray) : kp E k (n + 1) text_Clean [(.str a0)] =
  (callI .i64 (kp E k n strings_IndexByte [(.str a0), (.int .u8 (0 : Int))]) fun vn2 => (some (.bool (decide (vn2 < (0 : Int)))))) := (kp_at (by kernel_rfl)).trans (by kernel_rfl)
/- slices.ContainsFunc[[]oakum/api.Pair,oakum/api.Pair] -/
theorem slices_ContainsFunc_api_Pair_eq {E : Ext} [Core E] (k n : Nat) (a0 : List AV) : kp E k (n + 1) slices_ContainsFunc_api_Pair [(.list 2 a0), (.func (.func item_extra_1) [] [])] =
  (callI .i64 (kp E k n slices_IndexFunc_api_Pair [(.list 2 a0), (.func (.func item_extra_1) [] [])]) fun vn2 => (some (.bool (decide (vn2 ≥ (0 : Int)))))) := (kp_at (by kernel_rfl)).trans (by kernel_rfl)
/- oakum/item.extra$1 -/
theorem item_extra_1_eq {E : Ext} [Core E] (k n : Nat) (a0_0 : ByteArray) (a0_1 : ByteArray) : kp E k (n + 1) item_extra_1 [(.agg [(.str a0_0), (.str a0_1)])] =
  (callB (kp E k n pax_Known [(.str a0_0)]) fun vq2 => (some (.bool vq2))) := (kp_at (by kernel_rfl)).trans (by kernel_rfl)
/- oakum/utf.First -/
noncomputable def utf_First_bd : Code := Tryz.f92.body.getD .skip
noncomputable def utf_First_L0 (kap : FuncId → List AV → Option AV) (k : Nat) (k0 : Nat) (s0 : ByteArray) (i6s : ByteArray) (i6p : Nat) : Option AV :=
  loop (fun fr K => code ((bs E0 k).cfg kap utf_First) (sel utf_First_bd [1, 0, 1, 0, 0]) fr K) (canon ((bs E0 k).cfg kap utf_First) (firstReg (sel utf_First_bd [1, 0, 1, 0, 0]))) k0 (mkFr 16 [(0, (.str s0)), (6, (.itr 6))] [(6, (.it i6s i6p))]) (plug ((bs E0 k).cfg kap utf_First) (retK ((bs E0 k).cfg kap utf_First) [] Tryz.f92 [] some) [.blk 0, .seqR (sel utf_First_bd [1, 1])])
theorem utf_First_L0_s (kap : FuncId → List AV → Option AV) (k : Nat) (k0 : Nat) (s0 : ByteArray) (i6s : ByteArray) (i6p : Nat) : utf_First_L0 kap k (k0 + 1) s0 i6s i6p =
  (bif (decide (i6p < (ByteArray.size i6s))) then (callB (kap utf_wrong [(.str s0), (.int .i64 ((i6p : Nat) : Int)), (.int .i32 (((Utf8.decode i6s i6p).1 : Nat) : Int))]) fun vq2 => (bif vq2 then (some (.int .i64 ((i6p : Nat) : Int))) else (utf_First_L0 kap k k0 s0 i6s (i6p + (Utf8.decode i6s i6p).2)))) else (some (.int .i64 (-1 : Int)))) := by kernel_rfl
theorem utf_First_eq {E : Ext} [Core E] (k n : Nat) (a0 : ByteArray) : kp E k (n + 1) utf_First [(.str a0)] =
  (utf_First_L0 (kp E k n) k k a0 a0 0) := (kp_at (by kernel_rfl)).trans (by kernel_rfl)
/- oakum/pax.clean -/
theorem pax_clean_eq {E : Ext} [Core E] (k n : Nat) (a0 : ByteArray) : kp E k (n + 1) pax_clean [(.str a0)] =
  (callI .i64 (kp E k n strings_IndexByte [(.str a0), (.int .u8 (0 : Int))]) fun vn2 => (some (.bool (decide (vn2 < (0 : Int)))))) := (kp_at (by kernel_rfl)).trans (by kernel_rfl)
/- oakum/over.lay -/
theorem over_lay_eq {E : Ext} [Core E] (k n : Nat) (a0 : List AV) (a1_0 : ByteArray) (a1_1 : ByteArray) : kp E k (n + 1) over_lay [(.fresh 42 a0), (.agg [(.str a1_0), (.str a1_1)])] =
  (callX (kp E k n over_byKey [(.lrow 42 a0), (.str a1_0)]) fun vb1 vz2 => (nxR 42 vz2 fun vw4 vz3 => (bif List.length vw4 == (List.length a0) then (atNil vz3 (callT (some vb1) fun vt5 => (tupI .i64 vt5 fun vn6 vt7 => (tupB vt7 fun vq8 vt9 => (atNil vt9 (bif (decide (a1_1 = (str []))) then (bif vq8 then (callX (kp E k n slices_Delete_api_Pair [(.fresh 42 vw4), (.int .i64 vn6), (.int .i64 (IntKind.wrap .i64 (vn6 + (1 : Int))))]) fun vb10 vz11 => (atNil vz11 (callF 42 (some vb10) fun vw12 => (some (.lback (.fresh 42 vw12) []))))) else (bif (decide (a1_1 = (str []))) then (some (.lback (.fresh 42 vw4) [])) else (bif vq8 then (bif ((decide ((0 : Int) ≤ vn6)) && (decide (vn6 < (((List.length vw4) : Nat) : Int)))) then ((vw4[(Int.toNat vn6)]?).bind fun vy13 => (bif (decide (0 + 2 ≤ (AV.cells vy13).length) && true) then (some (.lback (.fresh 42 (List.set vw4 (Int.toNat vn6) (mkElem 2 (splice (AV.cells vy13) 0 [(.str a1_0), (.str a1_1)]) vy13))) [])) else none)) else none) else (callX (kp E k n slices_Insert_api_Pair [(.fresh 42 vw4), (.int .i64 vn6), (.list 2 [(.agg [(.str a1_0), (.str a1_1)])])]) fun vb14 vz15 => (atNil vz15 (callF 42 (some vb14) fun vw16 => (some (.lback (.fresh 42 vw16) [])))))))) else (bif (decide (a1_1 = (str []))) then (some (.lback (.fresh 42 vw4) [])) else (bif vq8 then (bif ((decide ((0 : Int) ≤ vn6)) && (decide (vn6 < (((List.length vw4) : Nat) : Int)))) then ((vw4[(Int.toNat vn6)]?).bind fun vy17 => (bif (decide (0 + 2 ≤ (AV.cells vy17).length) && true) then (some (.lback (.fresh 42 (List.set vw4 (Int.toNat vn6) (mkElem 2 (splice (AV.cells vy17) 0 [(.str a1_0), (.str a1_1)]) vy17))) [])) else none)) else none) else (callX (kp E k n slices_Insert_api_Pair [(.fresh 42 vw4), (.int .i64 vn6), (.list 2 [(.agg [(.str a1_0), (.str a1_1)])])]) fun vb18 vz19 => (atNil vz19 (callF 42 (some vb18) fun vw20 => (some (.lback (.fresh 42 vw20) []))))))))))))) else none))) := (kp_at (by kernel_rfl)).trans (by kernel_rfl)
/- slices.IndexFunc[[]oakum/api.Pair,oakum/api.Pair] -/
noncomputable def slices_IndexFunc_api_Pair_bd : Code := Tryz.f105.body.getD .skip
noncomputable def slices_IndexFunc_api_Pair_L0 (kap : FuncId → List AV → Option AV) (k : Nat) (k0 : Nat) (s0 : List AV) (s7 : Int) (s8 : Int) : Option AV :=
  loop (fun fr K => code ((bs E0 k).cfg kap slices_IndexFunc_api_Pair) (sel slices_IndexFunc_api_Pair_bd [1, 0, 1, 0, 0]) fr K) (canon ((bs E0 k).cfg kap slices_IndexFunc_api_Pair) (firstReg (sel slices_IndexFunc_api_Pair_bd [1, 0, 1, 0, 0]))) k0 (mkFr 19 [(0, (.list 2 s0)), (1, (.func (.func item_extra_1) [] [])), (7, (.int .i64 s7)), (8, (.int .i64 s8))] []) (plug ((bs E0 k).cfg kap slices_IndexFunc_api_Pair) (retK ((bs E0 k).cfg kap slices_IndexFunc_api_Pair) [] Tryz.f105 [] some) [.blk 0, .seqR (sel slices_IndexFunc_api_Pair_bd [1, 1])])
theorem slices_IndexFunc_api_Pair_L0_s (kap : FuncId → List AV → Option AV) (k : Nat) (k0 : Nat) (s0 : List AV) (s7 : Int) (s8 : Int) : slices_IndexFunc_api_Pair_L0 kap k (k0 + 1) s0 s7 s8 =
  (bif (decide (s8 < s7)) then (bif ((decide ((0 : Int) ≤ s8)) && (decide (s8 < (((List.length s0) : Nat) : Int)))) then ((s0[(Int.toNat s8)]?).bind fun vy1 => (cellS (AV.cells vy1) 0 fun vs2 => (cellS (AV.cells vy1) 1 fun vs3 => (callB (kap item_extra_1 [(.agg [(.str vs2), (.str vs3)])]) fun vq5 => (bif vq5 then (some (.int .i64 s8)) else (slices_IndexFunc_api_Pair_L0 kap k k0 s0 s7 (IntKind.wrap .i64 (s8 + (1 : Int))))))))) else none) else (some (.int .i64 (-1 : Int)))) := by kernel_rfl
theorem slices_IndexFunc_api_Pair_eq {E : Ext} [Core E] (k n : Nat) (a0 : List AV) : kp E k (n + 1) slices_IndexFunc_api_Pair [(.list 2 a0), (.func (.func item_extra_1) [] [])] =
  (slices_IndexFunc_api_Pair_L0 (kp E k n) k k a0 (((List.length a0) : Nat) : Int) (0 : Int)) := (kp_at (by kernel_rfl)).trans (by kernel_rfl)
/- oakum/utf.wrong -/
theorem utf_wrong_eq {E : Ext} [Core E] (k n : Nat) (a0 : ByteArray) (a1 : Int) (a2 : Int) : kp E k (n + 1) utf_wrong [(.str a0), (.int .i64 a1), (.int .i32 a2)] =
  (bif (!(decide (a2 = (65533 : Int)))) then (some (.bool false)) else (bif ((decide ((0 : Int) ≤ a1)) && (decide (a1 ≤ (((ByteArray.size a0) : Nat) : Int)))) then (callT (kp E k n unicode_utf8_DecodeRuneInString [(.str (ByteArray.extract a0 (Int.toNat a1) (ByteArray.size a0)))]) fun vt2 => (tupI .i32 vt2 fun vn3 vt4 => (tupI .i64 vt4 fun vn5 vt6 => (atNil vt6 (some (.bool (decide (vn5 = (1 : Int))))))))) else none)) := (kp_at (by kernel_rfl)).trans (by kernel_rfl)
/- oakum/over.byKey -/
theorem over_byKey_eq {E : Ext} [Core E] (k n : Nat) (a0 : List AV) (a1 : ByteArray) : kp E k (n + 1) over_byKey [(.lrow 42 a0), (.str a1)] =
  (callX (kp E k n slices_BinarySearchFunc_string [(.lrow 42 a0), (.str a1), (.func (.func over_byKey_1) [] [])]) fun vb1 vz2 => (nxR 42 vz2 fun vw4 vz3 => (bif List.length vw4 == (List.length a0) then (atNil vz3 (callT (some vb1) fun vt5 => (tupI .i64 vt5 fun vn6 vt7 => (tupB vt7 fun vq8 vt9 => (atNil vt9 (some (.lback (.tup [(.int .i64 vn6), (.bool vq8)]) [(.lrow 42 vw4)]))))))) else none))) := (kp_at (by kernel_rfl)).trans (by kernel_rfl)
/- slices.BinarySearchFunc[[]oakum/api.Pair,oakum/api.Pair,string] -/
noncomputable def slices_BinarySearchFunc_string_bd : Code := Tryz.f152.body.getD .skip
noncomputable def slices_BinarySearchFunc_string_L0 (kap : FuncId → List AV → Option AV) (k : Nat) (k0 : Nat) (s1 : ByteArray) (s8 : Int) (s9 : Int) (s10 : Int) (x0 : List AV) : Option AV :=
  loop (fun fr K => code ({ (bs E0 k).cfg kap slices_BinarySearchFunc_string with rs := [0] } : Cfg) (sel slices_BinarySearchFunc_string_bd [1, 1, 1, 0, 0, 0]) fr K) (canon ({ (bs E0 k).cfg kap slices_BinarySearchFunc_string with rs := [0] } : Cfg) (firstReg (sel slices_BinarySearchFunc_string_bd [1, 1, 1, 0, 0, 0]))) k0 (mkFr 49 [(0, (.own 0)), (1, (.str s1)), (2, (.func (.func over_byKey_1) [] [])), (8, (.int .i64 s8)), (9, (.int .i64 s9)), (10, (.int .i64 s10))] [(0, (.row 42 x0 false))]) (plug ({ (bs E0 k).cfg kap slices_BinarySearchFunc_string with rs := [0] } : Cfg) (retK ({ (bs E0 k).cfg kap slices_BinarySearchFunc_string with rs := [0] } : Cfg) [] Tryz.f152 [.lrow 0 [], .junk, .junk] some) [.blk 0, .seqR (sel slices_BinarySearchFunc_string_bd [1, 1, 1, 1])])
theorem slices_BinarySearchFunc_string_L0_s (kap : FuncId → List AV → Option AV) (k : Nat) (k0 : Nat) (s1 : ByteArray) (s8 : Int) (s9 : Int) (s10 : Int) (x0 : List AV) : slices_BinarySearchFunc_string_L0 kap k (k0 + 1) s1 s8 s9 s10 x0 =
  (bif (decide (s9 < s10)) then (bif ((decide ((0 : Int) ≤ (IntKind.wrap .i64 (Int.fdiv (IntKind.wrap .u64 (IntKind.wrap .i64 (s9 + s10))) (2 ^ (min (Int.toNat (1 : Int)) (IntKind.bits .u64))))))) && (decide ((IntKind.wrap .i64 (Int.fdiv (IntKind.wrap .u64 (IntKind.wrap .i64 (s9 + s10))) (2 ^ (min (Int.toNat (1 : Int)) (IntKind.bits .u64))))) < (((List.length x0) : Nat) : Int)))) then ((x0[(Int.toNat (IntKind.wrap .i64 (Int.fdiv (IntKind.wrap .u64 (IntKind.wrap .i64 (s9 + s10))) (2 ^ (min (Int.toNat (1 : Int)) (IntKind.bits .u64))))))]?).bind fun vy1 => (cellS (AV.cells vy1) 0 fun vs2 => (cellS (AV.cells vy1) 1 fun vs3 => (callI .i64 (kap over_byKey_1 [(.agg [(.str vs2), (.str vs3)]), (.str s1)]) fun vn5 => (bif (decide (vn5 < (0 : Int))) then (slices_BinarySearchFunc_string_L0 kap k k0 s1 s8 (IntKind.wrap .i64 ((IntKind.wrap .i64 (Int.fdiv (IntKind.wrap .u64 (IntKind.wrap .i64 (s9 + s10))) (2 ^ (min (Int.toNat (1 : Int)) (IntKind.bits .u64))))) + (1 : Int))) s10 x0) else (slices_BinarySearchFunc_string_L0 kap k k0 s1 s8 s9 (IntKind.wrap .i64 (Int.fdiv (IntKind.wrap .u64 (IntKind.wrap .i64 (s9 + s10))) (2 ^ (min (Int.toNat (1 : Int)) (IntKind.bits .u64))))) x0)))))) else none) else (bif (decide (s9 < s8)) then (bif ((decide ((0 : Int) ≤ s9)) && (decide (s9 < (((List.length x0) : Nat) : Int)))) then ((x0[(Int.toNat s9)]?).bind fun vy6 => (cellS (AV.cells vy6) 0 fun vs7 => (cellS (AV.cells vy6) 1 fun vs8 => (callI .i64 (kap over_byKey_1 [(.agg [(.str vs7), (.str vs8)]), (.str s1)]) fun vn10 => (some (.lback (.tup [(.int .i64 s9), (.bool (decide (vn10 = (0 : Int))))]) [(.lrow 42 x0)])))))) else none) else (some (.lback (.tup [(.int .i64 s9), (.bool false)]) [(.lrow 42 x0)])))) := by kernel_rfl
theorem slices_BinarySearchFunc_string_eq {E : Ext} [Core E] (k n : Nat) (a0 : List AV) (a1 : ByteArray) : kp E k (n + 1) slices_BinarySearchFunc_string [(.lrow 42 a0), (.str a1), (.func (.func over_byKey_1) [] [])] =
  (slices_BinarySearchFunc_string_L0 (kp E k n) k k a1 (((List.length a0) : Nat) : Int) (0 : Int) (((List.length a0) : Nat) : Int) a0) := (kp_at (by kernel_rfl)).trans (by kernel_rfl)
/- oakum/over.byKey$1 -/
theorem over_byKey_1_eq {E : Ext} [Core E] (k n : Nat) (a0_0 : ByteArray) (a0_1 : ByteArray) (a1 : ByteArray) : kp E k (n + 1) over_byKey_1 [(.agg [(.str a0_0), (.str a0_1)]), (.str a1)] =
  (callI .i64 (kp E k n strings_Compare [(.str a0_0), (.str a1)]) fun vn2 => (some (.int .i64 vn2))) := (kp_at (by kernel_rfl)).trans (by kernel_rfl)
/- slices.rotateRight[oakum/api.Pair] -/
theorem slices_rotateRight_api_Pair_eq {E : Ext} [Core E] (k n : Nat) (a0 : List AV) (a1 : Int) : kp E k (n + 1) slices_rotateRight_api_Pair [(.list 2 a0), (.int .i64 a1)] =
  (callT (kp E k n slices_rotateLeft_api_Pair [(.list 2 a0), (.int .i64 (IntKind.wrap .i64 ((((List.length a0) : Nat) : Int) - a1)))]) fun vt2 => (atNil vt2 (some (.tup [])))) := (kp_at (by kernel_rfl)).trans (by kernel_rfl)
/- slices.rotateLeft[oakum/api.Pair] -/
theorem slices_rotateLeft_api_Pair_eq {E : Ext} [Core E] (k n : Nat) (a0 : List AV) (a1 : Int) : kp E k (n + 1) slices_rotateLeft_api_Pair [(.list 2 a0), (.int .i64 a1)] =
  (bif ((decide ((0 : Int) ≤ a1)) && (decide (a1 ≤ (((List.length a0) : Nat) : Int)))) then (callT (kp E k n slices_Reverse_api_Pair [(.list 2 (List.drop 0 (List.take (Int.toNat a1) a0)))]) fun vt2 => (atNil vt2 (bif ((decide ((0 : Int) ≤ a1)) && (decide (a1 ≤ (((List.length a0) : Nat) : Int)))) then (callT (kp E k n slices_Reverse_api_Pair [(.list 2 (List.drop (Int.toNat a1) (List.take (List.length a0) a0)))]) fun vt4 => (atNil vt4 (callT (kp E k n slices_Reverse_api_Pair [(.list 2 a0)]) fun vt6 => (atNil vt6 (some (.tup [])))))) else none))) else none) := (kp_at (by kernel_rfl)).trans (by kernel_rfl)
end Go.Proofs.YtilbahgfjfcikaaGreatDoor.Eng.U

/- Items' names in plain words: what a full name tells, a head's full names, how much a head is. -/
set_option linter.unusedVariables false
set_option linter.unusedSectionVars false
set_option linter.unusedSimpArgs false
namespace Go.Proofs.YtilbahgfjfcikaaGreatDoor.Eng.U
open Go Go.Proofs Go.Proofs.YtilbahgfjfcikaaGreatDoor.Eng
variable {E : Ext} [Core E] {k n : Nat}

theorem snoc_cases (s : List UInt8) : s = [] ∨ ∃ l c, s = l ++ [c] := by
  induction s with
  | nil => exact .inl rfl
  | cons x s ih =>
    rcases ih with rfl | ⟨l, c, rfl⟩
    · exact .inr ⟨[], x, rfl⟩
    · exact .inr ⟨x :: l, c, rfl⟩
/-- Does a text end in a slash? -/
def sl (s : List UInt8) : Bool := decide (s.getLast? = some 47)
theorem suffix_k (s : List UInt8) (h : s.length ≤ 1000000000000000) : kp E k (n + 2) strings_HasSuffix [.str (str s), .str (str [47])] = some (.bool (sl s)) := by
  rw [strings_HasSuffix_eq, stringslite_HasSuffix_eq, str_size, str_size, List.length_singleton]
  rcases snoc_cases s with rfl | ⟨l, c, rfl⟩
  · rfl
  · rw [List.length_append, List.length_singleton] at h ⊢
    have hd : (l ++ [c]).drop l.length = [c] := by simp
    rw [bif_t (by omega), i64w (by omega), bif_a, bif_t (by omega), bif_t (by omega), show (((l.length + 1 : Nat) : Int) - ((1 : Nat) : Int)).toNat = l.length from by omega, str_ext, List.take_of_length_le (by simp), hd, callB_ok, str_dec]
    unfold sl
    simp
def told (kind : Int) (s : List UInt8) : Int × List UInt8 :=
  if kind = 1 ∧ sl s = true then (if 1 < s.length then (6, s.dropLast) else (6, s))
  else if kind = 6 ∧ sl s = true ∧ 1 < s.length then (6, s.dropLast) else (kind, s)
theorem told_k (kind : Int) (s : List UInt8) (h : s.length ≤ 1000000000000000) : kp E k (n + 3) item_Told [.int .i64 kind, .str (str s)] = some (.tup [.int .i64 (told kind s).1, .str (str (told kind s).2)]) := by
  rw [item_Told_eq, suffix_k s h, callB_ok, str_size]
  have hcut : 1 < s.length → ByteArray.extract (str s) 0 (Int.toNat (IntKind.wrap .i64 ((((s.length : Nat) : Int)) - (1 : Int)))) = str s.dropLast := fun hl => by
    rw [i64w (by omega), show (((s.length : Nat) : Int) - (1 : Int)).toNat = s.length - 1 from by omega, str_ext, List.drop_zero, List.dropLast_eq_take]
  have hin : 1 < s.length → (decide ((0 : Int) ≤ (IntKind.wrap .i64 (((s.length : Nat) : Int) - (1 : Int)))) && decide ((IntKind.wrap .i64 (((s.length : Nat) : Int) - (1 : Int))) ≤ ((s.length : Nat) : Int))) = true := fun hl => by
    rw [i64w (by omega), decide_eq_true (by omega), decide_eq_true (by omega)]; rfl
  have hgt : decide (((s.length : Nat) : Int) > 1) = decide (1 < s.length) := by rw [decide_eq_decide]; omega
  unfold told
  by_cases h1 : kind = 1
  · subst h1
    cases hs : sl s with
    | false => simp only [decide_true, cond_true, cond_false, show decide ((1 : Int) = 6) = false from rfl, Bool.false_eq_true, and_false, false_and, if_false]
    | true =>
      by_cases hl : 1 < s.length
      · simp only [decide_true, cond_true, hgt, decide_eq_true hl, hin hl, hcut hl, and_self, if_true, if_pos hl]
      · simp only [decide_true, cond_true, cond_false, hgt, decide_eq_false hl, and_self, if_true, if_neg hl]
  · by_cases h6 : kind = 6
    · subst h6
      cases hs : sl s with
      | false => simp only [show decide ((6 : Int) = 1) = false from rfl, decide_true, cond_true, cond_false, Bool.false_eq_true, and_false, false_and, if_false]
      | true =>
        by_cases hl : 1 < s.length
        · simp only [show decide ((6 : Int) = 1) = false from rfl, show ¬ ((6 : Int) = 1) by omega, decide_true, decide_false, cond_true, cond_false, hgt, decide_eq_true hl, hin hl, hcut hl, false_and, if_false, true_and, and_self, if_true, if_pos hl, hl]
        · simp only [show decide ((6 : Int) = 1) = false from rfl, show ¬ ((6 : Int) = 1) by omega, decide_true, decide_false, cond_true, cond_false, hgt, decide_eq_false hl, false_and, if_false, true_and, hl]
    · simp only [decide_eq_false h1, decide_eq_false h6, decide_false, cond_false, h1, h6, false_and, if_false]
def fulls (kind : Int) (s : List UInt8) : List (List UInt8) :=
  if kind = 6 then (if sl s = true ∧ 1 < s.length then [s ++ [47]] else [s, s ++ [47]]) else [s]
theorem fulls_k (h : Head) (hl : h.name.length ≤ 1000000000000000) : kp E k (n + 3) item_Fulls [.agg (encHead h)] = some (.list 1 (svs (fulls h.kind h.name))) := by
  unfold encHead
  rw [item_Fulls_eq, str_size]
  have hgt : decide (((h.name.length : Nat) : Int) > 1) = decide (1 < h.name.length) := by rw [decide_eq_decide]; omega
  unfold fulls
  by_cases h6 : h.kind = 6
  · rw [decide_eq_true h6, Bool.not_true, cond_false, bif_t (by omega), suffix_k _ (by omega), callB_ok, if_pos h6, str_app, hgt]
    cases hs : sl h.name with
    | false => rw [cond_false, if_neg (by simp)]; rfl
    | true =>
      by_cases hl : 1 < h.name.length
      · rw [cond_true, decide_eq_true hl, cond_true, if_pos ⟨rfl, hl⟩]; rfl
      · rw [cond_true, decide_eq_false hl, cond_false, if_neg (fun h => hl h.2)]; rfl
  · rw [decide_eq_false h6, Bool.not_false, cond_true, if_neg h6]; rfl
/-- What the two say of each other. -/
theorem told_fulls (kind : Int) (s other : List UInt8) (hs : s ≠ []) (hf : ¬ (kind = 1 ∧ sl s = true)) : (∀ f ∈ fulls kind s, told kind f = (kind, s)) ∧ (other ∈ fulls kind s ↔ told kind other = (kind, s)) := by
  have e1 : ∀ t : List UInt8, sl (t ++ [47]) = true := fun t => by simp [sl]
  have e2 : ∀ t : List UInt8, sl t = true → t = t.dropLast ++ [47] := by
    intro t ht
    rcases snoc_cases t with rfl | ⟨l, c, rfl⟩
    · simp [sl] at ht
    · simp [sl] at ht
      subst ht
      simp
  have hpos : 0 < s.length := List.length_pos_iff.2 hs
  by_cases h6 : kind = 6
  · subst h6
    have t2 : told 6 (s ++ [47]) = (6, s) := by
      unfold told
      rw [if_neg (fun h => by omega), if_pos ⟨rfl, e1 s, by rw [List.length_append, List.length_singleton]; omega⟩, List.dropLast_concat]
    unfold fulls
    rw [if_pos rfl]
    by_cases he : sl s = true ∧ 1 < s.length
    · rw [if_pos he]
      refine ⟨fun f hf => by rw [List.mem_singleton.1 hf, t2], ⟨fun h => by rw [List.mem_singleton.1 h, t2], fun h => ?_⟩⟩
      unfold told at h
      rw [if_neg (fun h => by omega)] at h
      by_cases ho : sl other = true ∧ 1 < other.length
      · rw [if_pos ⟨rfl, ho⟩] at h
        have := congrArg Prod.snd h
        rw [List.mem_singleton, e2 other ho.1]
        exact congrArg (· ++ [47]) this
      · rw [if_neg (fun h => ho h.2)] at h
        have := congrArg Prod.snd h
        have : other = s := this
        subst this
        exact absurd he ho
    · rw [if_neg he]
      have t1 : told 6 s = (6, s) := by
        unfold told
        rw [if_neg (fun h => by omega), if_neg (fun h => he h.2)]
      refine ⟨fun f hf => ?_, ⟨fun h => ?_, fun h => ?_⟩⟩
      · rcases List.mem_cons.1 hf with rfl | hf
        · exact t1
        · rw [List.mem_singleton.1 hf, t2]
      · rcases List.mem_cons.1 h with rfl | hf
        · exact t1
        · rw [List.mem_singleton.1 hf, t2]
      · unfold told at h
        rw [if_neg (fun h => by omega)] at h
        by_cases ho : sl other = true ∧ 1 < other.length
        · rw [if_pos ⟨rfl, ho⟩] at h
          have := congrArg Prod.snd h
          refine List.mem_cons_of_mem _ ?_
          rw [List.mem_singleton, e2 other ho.1]
          exact congrArg (· ++ [47]) this
        · rw [if_neg (fun h => ho h.2)] at h
          have := congrArg Prod.snd h
          have : other = s := this
          subst this
          simp
  · have tk : ∀ t : List UInt8, ¬ (kind = 1 ∧ sl t = true) → told kind t = (kind, t) := fun t ht => by
      unfold told
      rw [if_neg ht, if_neg (fun h => h6 h.1)]
    unfold fulls
    rw [if_neg h6]
    refine ⟨fun f hf' => by rw [List.mem_singleton.1 hf', tk s hf], ⟨fun h => by rw [List.mem_singleton.1 h, tk s hf], fun h => ?_⟩⟩
    by_cases ho : kind = 1 ∧ sl other = true
    · unfold told at h
      rw [if_pos ho] at h
      split at h
      · have := congrArg Prod.fst h
        exact absurd this.symm h6
      · have := congrArg Prod.fst h
        exact absurd this.symm h6
    · rw [tk other ho] at h
      have := congrArg Prod.snd h
      rw [List.mem_singleton]
      exact this
end Go.Proofs.YtilbahgfjfcikaaGreatDoor.Eng.U
