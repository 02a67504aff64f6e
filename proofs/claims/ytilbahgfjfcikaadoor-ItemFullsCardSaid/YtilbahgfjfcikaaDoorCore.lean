/- The functions of a seat, by their names; what each loop keeps; a base open at its given functions. Printed by gen2.py. -/
import Derived.Test.YtilbahgfjfcikaaDoorE22
import Derived.Test.YtilbahgfjfcikaaDoorProg
import Derived.Lib.DecodeN
import Derived.Lib.ItoaNum
set_option linter.unusedVariables false
namespace Go.Proofs.YtilbahgfjfcikaaDoor.Eng.U
open Go Go.Proofs Go.Proofs.YtilbahgfjfcikaaDoor.Eng
def main_main : FuncId := 0
def law32_CrcChecks : FuncId := 3
def law04_DecPrints : FuncId := 4
def law04_DecReads : FuncId := 5
def law04_DecBack : FuncId := 6
def law09_ItemFulls : FuncId := 7
def law07_PaxBack : FuncId := 8
def law32_alive : FuncId := 9
def law17_Many : FuncId := 10
def crc_Check : FuncId := 11
def ref32_Check : FuncId := 12
def law04_alive : FuncId := 13
def dec_Print : FuncId := 14
def dec_Text : FuncId := 15
def ref04_Text : FuncId := 16
def dec_Right : FuncId := 17
def ref04_Right : FuncId := 18
def dec_Before : FuncId := 19
def ref04_Print : FuncId := 20
def dec_Number : FuncId := 21
def dec_Time : FuncId := 22
def ref04_Number : FuncId := 23
def ref04_Time : FuncId := 24
def law04_form : FuncId := 25
def law09_alive : FuncId := 26
def law09_many : FuncId := 27
def item_Wrong : FuncId := 28
def item_Fulls : FuncId := 29
def item_Told : FuncId := 30
def law07_alive : FuncId := 31
def law07_few : FuncId := 32
def pax_Print : FuncId := 33
def pax_Len : FuncId := 34
def pax_Parse : FuncId := 35
def ref07_Same : FuncId := 36
def crc_Sum : FuncId := 37
def crc_parse : FuncId := 38
def ref20_Words : FuncId := 39
def ref21_Hex : FuncId := 40
def ref02_Unquote : FuncId := 41
def ref32_File : FuncId := 42
def ref32_More : FuncId := 43
def strconv_FormatInt : FuncId := 44
def strings_TrimRight : FuncId := 45
def ref04_Digits : FuncId := 46
def dec_natural : FuncId := 47
def strings_CutPrefix : FuncId := 48
def strings_Cut : FuncId := 49
def dec_digits : FuncId := 50
def strconv_ParseInt : FuncId := 51
def strings_Repeat : FuncId := 52
def ref04_Below : FuncId := 53
def ref04_only : FuncId := 54
def item_Flag : FuncId := 55
def item_named : FuncId := 56
def strings_HasSuffix : FuncId := 57
def item_link : FuncId := 58
def item_plain : FuncId := 59
def item_device : FuncId := 60
def item_extra : FuncId := 61
def pax_Right : FuncId := 62
def bytes_Buffer_WriteString : FuncId := 63
def strconv_Itoa : FuncId := 64
def bytes_Buffer_Bytes : FuncId := 65
def pax_record : FuncId := 66
def crc_More : FuncId := 67
def strings_Split : FuncId := 68
def strings_ContainsAny : FuncId := 69
def strings_HasPrefix : FuncId := 70
def strconv_ParseUint : FuncId := 71
def text_Unquote : FuncId := 72
def ref21_digit : FuncId := 73
def ref02_open : FuncId := 74
def ref02_code : FuncId := 75
def strconv_FormatInt_76 : FuncId := 76
def strings_trimRightByte : FuncId := 77
def strings_makeASCIISet : FuncId := 78
def strings_trimRightASCII : FuncId := 79
def strings_trimRightUnicode : FuncId := 80
def stringslite_CutPrefix : FuncId := 81
def stringslite_Cut : FuncId := 82
def strconv_ParseInt_83 : FuncId := 83
def strconv_toError : FuncId := 84
def math_bits_Mul : FuncId := 85
def strings_Builder_Grow : FuncId := 86
def strings_Builder_WriteString : FuncId := 87
def strings_Builder_Len : FuncId := 88
def strings_Builder_String : FuncId := 89
def text_Clean : FuncId := 90
def stringslite_HasSuffix : FuncId := 91
def over_Right : FuncId := 92
def slices_ContainsFunc_api_Pair : FuncId := 93
def item_extra_1 : FuncId := 94
def pax_Known : FuncId := 95
def utf_Right : FuncId := 96
def pax_value : FuncId := 97
def bytes_Buffer_tryGrowByReslice : FuncId := 98
def bytes_Buffer_grow : FuncId := 99
def strconv_Itoa_100 : FuncId := 100
def pax_length : FuncId := 101
def crc_table : FuncId := 102
def strings_genSplit : FuncId := 103
def strings_IndexAny : FuncId := 104
def stringslite_HasPrefix : FuncId := 105
def strconv_ParseUint_106 : FuncId := 106
def text_open : FuncId := 107
def text_digit : FuncId := 108
def strconv_small : FuncId := 109
def strconv_numDigits : FuncId := 110
def strconv_formatBase10 : FuncId := 111
def strconv_formatBits : FuncId := 112
def strings_asciiSet_contains : FuncId := 113
def unicode_utf8_DecodeLastRuneInString : FuncId := 114
def strings_ContainsRune : FuncId := 115
def stringslite_Index : FuncId := 116
def strconv_syntaxError : FuncId := 117
def strconv_rangeError : FuncId := 118
def strconv_baseError : FuncId := 119
def strconv_bitSizeError : FuncId := 120
def math_bits_Mul32 : FuncId := 121
def math_bits_Mul64 : FuncId := 122
def strings_Builder_copyCheck : FuncId := 123
def strings_Builder_grow : FuncId := 124
def strings_IndexByte : FuncId := 125
def slices_IndexFunc_api_Pair : FuncId := 126
def utf_First : FuncId := 127
def pax_clean : FuncId := 128
def bytes_Buffer_Len : FuncId := 129
def bytes_Buffer_Reset : FuncId := 130
def bytes_growSlice : FuncId := 131
def strings_explode : FuncId := 132
def strings_Count : FuncId := 133
def strings_Index : FuncId := 134
def strings_IndexRune : FuncId := 135
def strings_shouldUseASCIISet : FuncId := 136
def strconv_lower : FuncId := 137
def strconv_underscoreOK : FuncId := 138
def strconv_log10Pow2 : FuncId := 139
def math_bits_Len64 : FuncId := 140
def strconv_bool2_int : FuncId := 141
def strconv_isPowerOfTwo : FuncId := 142
def math_bits_TrailingZeros : FuncId := 143
def unicode_utf8_RuneStart : FuncId := 144
def unicode_utf8_DecodeRuneInString : FuncId := 145
def stringslite_IndexByte : FuncId := 146
def bytealg_IndexString : FuncId := 147
def bytealg_Cutover : FuncId := 148
def bytealg_IndexRabinKarp_string : FuncId := 149
def stringslite_Clone : FuncId := 150
def errors_New : FuncId := 151
def abi_NoEscape : FuncId := 152
def bytealg_MakeNoZero : FuncId := 153
def utf_wrong : FuncId := 154
def bytes_growSlice_1 : FuncId := 155
def unicode_utf8_RuneCountInString : FuncId := 156
def bytealg_CountString : FuncId := 157
def unicode_utf8_ValidRune : FuncId := 158
def math_bits_TrailingZeros32 : FuncId := 159
def math_bits_TrailingZeros64 : FuncId := 160
def unicode_utf8_decodeRuneInStringSlow : FuncId := 161
def bytealg_IndexByteString : FuncId := 162
def bytealg_hashStr_string : FuncId := 163
def runtime_boundsError_Error : FuncId := 164
def runtime_boundsError_RuntimeError : FuncId := 165
def runtime_errorString_Error : FuncId := 166
def runtime_errorString_RuntimeError : FuncId := 167
def runtime_plainError_Error : FuncId := 168
def runtime_plainError_RuntimeError : FuncId := 169
def runtime_errorAddressString_Error : FuncId := 170
def runtime_errorAddressString_RuntimeError : FuncId := 171
def runtime_TypeAssertionError_Error : FuncId := 172
def runtime_TypeAssertionError_RuntimeError : FuncId := 173
def runtime_PanicNilError_Error : FuncId := 174
def runtime_PanicNilError_RuntimeError : FuncId := 175
def abi_Type_Align : FuncId := 176
def runtime_maps_unhashableTypeError_Error : FuncId := 177
def runtime_maps_unhashableTypeError_RuntimeError : FuncId := 178
def api_Code_String : FuncId := 179
def strings_Builder_Reset : FuncId := 180
def bytes_Buffer_String : FuncId := 181
def strconv_Error_Error : FuncId := 182
def strconv_NumError_Error : FuncId := 183
def errors_errorString_Error : FuncId := 184
def abi_Kind_String : FuncId := 185
def dirs : FuncId → Nat → Option Dir
  | 3, 5 => some { slots := [(0, .keep), (1, .keep), (5, .keep), (6, .keep)], boxes := [] }
  | 3, 13 => some { slots := [(0, .keep), (1, .keep), (7, .keep), (8, .keep), (9, .keep)], boxes := [] }
  | 7, 8 => some { slots := [(1, .keep), (2, .keep), (5, .keep), (6, .keep), (7, .keep)], boxes := [2] }
  | 8, 9 => some { slots := [(0, .keep), (1, .keep), (5, .keep), (7, .keep), (8, .keep)], boxes := [] }
  | 10, 3 => some { slots := [(0, .keep), (3, .keep), (4, .keep)], boxes := [] }
  | 10, 8 => some { slots := [(0, .keep), (3, .keep), (4, .keep), (5, .keep), (6, .keep)], boxes := [5] }
  | 20, 9 => some { slots := [(4, .keep), (5, .keep)], boxes := [] }
  | 24, 6 => some { slots := [(0, .keep), (2, .keep), (4, .keep), (5, .keep), (6, .keep)], boxes := [2] }
  | 24, 17 => some { slots := [(2, .keep), (4, .keep), (7, .keep), (8, .keep), (9, .keep), (10, .keep), (11, .keep)], boxes := [2] }
  | 27, 3 => some { slots := [(1, .keep), (3, .keep), (4, .keep)], boxes := [1] }
  | 32, 3 => some { slots := [(0, .keep), (3, .keep), (4, .keep)], boxes := [] }
  | 34, 3 => some { slots := [(3, .keep), (4, .keep)], boxes := [] }
  | 35, 2 => some { slots := [(0, .keep), (4, .own 68 false)], boxes := [] }
  | 36, 4 => some { slots := [(0, .keep), (1, .keep), (5, .keep)], boxes := [] }
  | 39, 4 => some { slots := [(0, .keep), (3, .own 9 false), (4, .keep), (5, .keep)], boxes := [] }
  | 40, 7 => some { slots := [(0, .keep), (4, .own 5 false), (5, .keep)], boxes := [] }
  | 41, 3 => some { slots := [(0, .keep), (4, .own 5 false), (5, .keep)], boxes := [] }
  | 41, 9 => some { slots := [(0, .keep), (4, .own 5 false), (5, .keep), (6, .keep), (7, .keep)], boxes := [] }
  | 42, 2 => some { slots := [(0, .keep), (1, .keep), (6, .keep)], boxes := [] }
  | 43, 3 => some { slots := [(1, .keep), (5, .keep), (6, .keep)], boxes := [] }
  | 43, 7 => some { slots := [(1, .keep), (5, .keep), (6, .keep), (7, .keep)], boxes := [] }
  | 50, 2 => some { slots := [(0, .keep), (5, .keep), (6, .keep)], boxes := [] }
  | 53, 5 => some { slots := [(0, .keep), (4, .keep), (5, .keep)], boxes := [] }
  | 54, 2 => some { slots := [(0, .keep), (3, .keep)], boxes := [] }
  | 72, 2 => some { slots := [(0, .keep), (4, .own 5 false)], boxes := [] }
  | 77, 1 => some { slots := [(0, .keep), (1, .keep)], boxes := [] }
  | 79, 1 => some { slots := [(0, .keep), (1, .keep)], boxes := [] }
  | 80, 1 => some { slots := [(0, .keep), (1, .keep)], boxes := [] }
  | 92, 2 => some { slots := [(0, .keep), (5, .keep), (6, .keep), (7, .keep)], boxes := [] }
  | 101, 3 => some { slots := [(0, .keep), (5, .keep), (8, .keep), (9, .keep), (10, .keep)], boxes := [] }
  | 103, 11 => some { slots := [(0, .keep), (1, .keep), (2, .keep), (3, .keep), (9, .own 9 false), (10, .keep)], boxes := [] }
  | 104, 12 => some { slots := [(0, .keep), (6, .keep), (8, .keep)], boxes := [6] }
  | 104, 18 => some { slots := [(1, .keep), (45, .keep)], boxes := [45] }
  | 114, 10 => some { slots := [(0, .keep), (4, .keep), (5, .keep), (6, .keep)], boxes := [] }
  | 126, 2 => some { slots := [(0, .keep), (1, .keep), (7, .keep), (8, .keep)], boxes := [] }
  | 127, 2 => some { slots := [(0, .keep), (6, .keep)], boxes := [6] }
  | 132, 6 => some { slots := [(0, .keep), (1, .keep), (6, .own 9 false), (7, .keep)], boxes := [] }
  | 133, 6 => some { slots := [(0, .keep), (1, .keep), (5, .keep)], boxes := [] }
  | 135, 5 => some { slots := [(0, .keep), (7, .keep), (8, .keep), (9, .keep)], boxes := [] }
  | 135, 12 => some { slots := [(0, .keep), (7, .keep), (8, .keep), (9, .keep), (12, .keep)], boxes := [] }
  | 135, 25 => some { slots := [(0, .keep), (7, .keep), (8, .keep), (9, .keep), (14, .keep), (15, .keep)], boxes := [] }
  | 135, 29 => some { slots := [(0, .keep), (7, .keep), (8, .keep), (9, .keep), (14, .keep), (15, .keep), (16, .keep)], boxes := [] }
  | 135, 38 => some { slots := [(175, .keep)], boxes := [175] }
  | 138, 10 => some { slots := [(0, .keep), (3, .keep), (4, .keep), (5, .keep)], boxes := [] }
  | 149, 5 => some { slots := [(0, .keep), (1, .keep), (5, .keep), (6, .keep), (7, .keep), (8, .keep), (9, .keep)], boxes := [] }
  | 149, 11 => some { slots := [(0, .keep), (1, .keep), (5, .keep), (6, .keep), (7, .keep), (8, .keep), (10, .keep)], boxes := [] }
  | 156, 2 => some { slots := [(2, .keep), (4, .keep)], boxes := [4] }
  | 163, 3 => some { slots := [(0, .keep), (4, .keep), (5, .keep)], boxes := [] }
  | 163, 8 => some { slots := [(4, .keep), (6, .keep), (7, .keep), (8, .keep)], boxes := [] }
  | _, _ => none
def fl : FuncId → List Bool
  | _ => []
def glob (g : Nat) : Option (List AV) :=
  if g = 7 then some ((List.range 256).map fun c => .int .u8 (Lib.firstT c : Int)) else if g = 8 then some ((List.range 32).map fun i => .int .u8 ((if i % 2 = 0 then Lib.accLo (i / 2) else Lib.accHi (i / 2) : Nat) : Int)) else if g = 1 then some (Lib.pow10Tab.map fun z => .int .u64 z) else if g = 3 then some [.ifc] else if g = 4 then some [.ifc] else none
def coreFs : List FuncId := [3, 4, 5, 6, 7, 8, 10, 12, 13, 14, 15, 16, 17, 18, 19, 20, 21, 22, 23, 24, 25, 26, 27, 28, 29, 30, 32, 34, 35, 36, 37, 38, 39, 40, 41, 42, 43, 46, 47, 49, 50, 53, 54, 55, 56, 57, 58, 59, 60, 61, 62, 66, 68, 69, 70, 72, 73, 74, 75, 77, 79, 80, 81, 82, 85, 90, 91, 92, 93, 94, 95, 96, 97, 100, 101, 103, 105, 107, 108, 109, 114, 115, 121, 122, 126, 127, 128, 132, 133, 134, 135, 136, 137, 138, 139, 140, 141, 142, 143, 144, 146, 148, 149, 154, 156, 158, 163]
noncomputable def bs (E : Ext) (k : Nat) : Base := { P := Tryd.prog, fs := E.fs, isBase := E.isBase, base := E.base, fl := fl, glob := glob, dirs := dirs, k := k }
/-- An extension that has no given functions: for what doesn't look at them. -/
def E0 : Ext := { fs := [], isBase := fun _ => false, base := fun _ _ => none }
class Core (E : Ext) : Prop where
  isB : ∀ f, coreFs.contains f = true → E.isBase f = false
  has : ∀ f, coreFs.contains f = true → E.fs.contains f = true
/-- What a function answers, calls nested n deep, k rounds of each loop. -/
noncomputable def kp (E : Ext) (k n : Nat) : FuncId → List AV → Option AV := (bs E k).kap n
theorem kp_at {E : Ext} [h : Core E] {k n : Nat} {f : FuncId} {args : List AV} (hf : coreFs.contains f = true) : kp E k (n + 1) f args = (bs E k).at (kp E k n) f args := Base.kap_at (h.isB f hf) (h.has f hf) args
theorem kp_base {E : Ext} {k n : Nat} {f : FuncId} {args : List AV} (hf : E.isBase f = true) : kp E k n f args = E.base f args := Base.kap_base (B := bs E k) hf args
end Go.Proofs.YtilbahgfjfcikaaDoor.Eng.U
