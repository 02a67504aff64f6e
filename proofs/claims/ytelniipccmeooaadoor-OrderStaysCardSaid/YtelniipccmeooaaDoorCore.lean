/- The functions of a seat, by their names; what each loop keeps; a base open at its given functions. Printed by gen2.py. -/
import Derived.Test.YtelniipccmeooaaDoorE22
import Derived.Test.YtelniipccmeooaaDoorProg
import Derived.Lib.DecodeN
set_option linter.unusedVariables false
namespace Go.Proofs.YtelniipccmeooaaDoor.Eng.U
open Go Go.Proofs Go.Proofs.YtelniipccmeooaaDoor.Eng
def main_main : FuncId := 0
def law05_UtfLooks : FuncId := 3
def law05_UtfMends : FuncId := 4
def law05_UtfAgain : FuncId := 5
def law24_PathForms : FuncId := 6
def law24_PathPairs : FuncId := 7
def law24_PathStays : FuncId := 8
def law40_OrderSorts : FuncId := 9
def law40_OrderStays : FuncId := 10
def law05_alive : FuncId := 11
def ref05_First : FuncId := 12
def utf_First : FuncId := 13
def utf_Right : FuncId := 14
def utf_Count : FuncId := 15
def ref05_Ends : FuncId := 16
def utf_Mend : FuncId := 17
def ref05_Mend : FuncId := 18
def utf_Cut : FuncId := 19
def ref05_Cut : FuncId := 20
def law24_alive : FuncId := 21
def path_Up : FuncId := 22
def ref24_Left : FuncId := 23
def ref24_Clean : FuncId := 24
def ref24_Form : FuncId := 25
def ref24_Root : FuncId := 26
def path_Strip : FuncId := 27
def ref24_Strip : FuncId := 28
def law24_same : FuncId := 29
def path_Parts : FuncId := 30
def ref24_Parts : FuncId := 31
def path_Clean : FuncId := 32
def path_Safe : FuncId := 33
def ref24_Safe : FuncId := 34
def path_Join : FuncId := 35
def ref24_Join : FuncId := 36
def path_In : FuncId := 37
def ref24_In : FuncId := 38
def law40_alive : FuncId := 39
def law40_few : FuncId := 40
def order_Sorted : FuncId := 41
def ref40_Sorted : FuncId := 42
def ref40_Leans : FuncId := 43
def order_Items : FuncId := 44
def ref09_Same : FuncId := 45
def ref10_SameInts : FuncId := 46
def order_Is : FuncId := 47
def order_Leans : FuncId := 48
def ref09_SameAll : FuncId := 49
def utf_wrong : FuncId := 50
def ref05_size : FuncId := 51
def strings_Builder_WriteRune : FuncId := 52
def strings_Builder_String : FuncId := 53
def path_stack : FuncId := 54
def path_form : FuncId := 55
def path_absolute : FuncId := 56
def strings_Join : FuncId := 57
def strings_SplitSeq : FuncId := 58
def slices_Contains_string : FuncId := 59
def slices_Equal_string : FuncId := 60
def law17_Many : FuncId := 61
def ref40_free : FuncId := 62
def ref40_hasFree : FuncId := 63
def ref40_has : FuncId := 64
def item_Copy : FuncId := 65
def ref08_SameHead : FuncId := 66
def ref01_Same : FuncId := 67
def order_leans : FuncId := 68
def unicode_utf8_DecodeRuneInString : FuncId := 69
def strings_Builder_copyCheck : FuncId := 70
def unicode_utf8_AppendRune : FuncId := 71
def strings_HasPrefix : FuncId := 72
def strings_Builder_Grow : FuncId := 73
def strings_Builder_WriteString : FuncId := 74
def strings_splitSeq : FuncId := 75
def slices_Index_string : FuncId := 76
def slices_Clone_api_Pair : FuncId := 77
def slices_Clone_byte : FuncId := 78
def ref07_Same : FuncId := 79
def unicode_utf8_decodeRuneInStringSlow : FuncId := 80
def abi_NoEscape : FuncId := 81
def unicode_utf8_appendRuneNonASCII : FuncId := 82
def stringslite_HasPrefix : FuncId := 83
def strings_Builder_grow : FuncId := 84
def strings_splitSeq_1 : FuncId := 85
def strings_Index : FuncId := 86
def bytealg_MakeNoZero : FuncId := 87
def stringslite_Index : FuncId := 88
def stringslite_IndexByte : FuncId := 89
def bytealg_IndexString : FuncId := 90
def bytealg_Cutover : FuncId := 91
def bytealg_IndexRabinKarp_string : FuncId := 92
def bytealg_IndexByteString : FuncId := 93
def bytealg_hashStr_string : FuncId := 94
def runtime_boundsError_Error : FuncId := 95
def runtime_boundsError_RuntimeError : FuncId := 96
def runtime_errorString_Error : FuncId := 97
def runtime_errorString_RuntimeError : FuncId := 98
def runtime_plainError_Error : FuncId := 99
def runtime_plainError_RuntimeError : FuncId := 100
def runtime_errorAddressString_Error : FuncId := 101
def runtime_errorAddressString_RuntimeError : FuncId := 102
def runtime_TypeAssertionError_Error : FuncId := 103
def runtime_TypeAssertionError_RuntimeError : FuncId := 104
def runtime_PanicNilError_Error : FuncId := 105
def runtime_PanicNilError_RuntimeError : FuncId := 106
def abi_Type_Align : FuncId := 107
def runtime_maps_unhashableTypeError_Error : FuncId := 108
def runtime_maps_unhashableTypeError_RuntimeError : FuncId := 109
def strings_Builder_Reset : FuncId := 110
def abi_Kind_String : FuncId := 111
def dirs : FuncId → Nat → Option Dir
  | 9, 9 => some { slots := [(0, .keep), (1, .keep), (2, .keep), (7, .keep), (8, .keep), (9, .keep), (10, .keep)], boxes := [] }
  | 9, 12 => some { slots := [(0, .keep), (1, .keep), (2, .keep), (7, .keep), (8, .keep), (9, .keep), (10, .keep), (11, .keep)], boxes := [] }
  | 9, 17 => some { slots := [(0, .keep), (1, .keep), (2, .keep), (7, .keep), (8, .keep), (9, .keep), (12, .keep), (13, .keep)], boxes := [] }
  | 10, 11 => some { slots := [(0, .keep), (4, .keep), (5, .own 4 false), (6, .keep)], boxes := [] }
  | 12, 3 => some { slots := [(3, .keep), (4, .keep)], boxes := [] }
  | 13, 2 => some { slots := [(0, .keep), (6, .keep)], boxes := [6] }
  | 15, 3 => some { slots := [(3, .keep), (5, .keep)], boxes := [5] }
  | 16, 3 => some { slots := [(0, .keep), (3, .own 3 false), (4, .keep)], boxes := [] }
  | 18, 5 => some { slots := [(0, .keep), (3, .keep), (4, .keep), (5, .keep), (6, .keep)], boxes := [] }
  | 19, 5 => some { slots := [(0, .keep), (1, .keep), (5, .keep), (13, .keep)], boxes := [13] }
  | 20, 4 => some { slots := [(0, .keep), (1, .keep), (5, .keep), (6, .keep), (7, .keep)], boxes := [] }
  | 23, 2 => some { slots := [(0, .keep), (3, .frz)], boxes := [] }
  | 23, 4 => some { slots := [(0, .keep), (3, .frz), (4, .keep), (5, .keep)], boxes := [] }
  | 23, 10 => some { slots := [(0, .keep), (3, .frz)], boxes := [] }
  | 25, 3 => some { slots := [(0, .keep), (1, .keep), (5, .keep), (6, .keep)], boxes := [] }
  | 29, 4 => some { slots := [(0, .keep), (1, .keep), (5, .keep)], boxes := [] }
  | 31, 4 => some { slots := [(0, .keep), (3, .own 9 false), (4, .keep), (5, .keep)], boxes := [] }
  | 38, 5 => some { slots := [(5, .keep), (6, .keep), (7, .keep)], boxes := [] }
  | 40, 2 => some { slots := [(0, .keep), (3, .keep)], boxes := [] }
  | 41, 4 => some { slots := [(0, .keep), (3, .own 4 false), (4, .own 3 false), (13, .keep), (14, .keep)], boxes := [] }
  | 41, 7 => some { slots := [(0, .keep), (3, .own 4 false), (4, .own 3 false), (5, .keep), (13, .keep), (14, .keep), (17, .keep), (18, .keep)], boxes := [] }
  | 41, 14 => some { slots := [(0, .keep), (3, .own 4 false), (4, .own 3 false), (5, .keep), (6, .keep), (7, .keep), (13, .keep), (14, .keep), (17, .keep), (18, .keep), (29, .keep), (30, .keep)], boxes := [] }
  | 42, 2 => some { slots := [(0, .keep), (3, .own 3 true)], boxes := [] }
  | 42, 5 => some { slots := [(0, .keep), (3, .own 3 true), (4, .keep), (5, .keep)], boxes := [] }
  | 42, 10 => some { slots := [(0, .keep), (3, .own 3 true), (4, .keep), (6, .keep)], boxes := [] }
  | 44, 3 => some { slots := [(0, .keep), (3, .own 55 false), (7, .keep), (8, .keep), (9, .keep)], boxes := [] }
  | 46, 4 => some { slots := [(0, .keep), (1, .keep), (5, .keep)], boxes := [] }
  | 47, 2 => some { slots := [(0, .keep), (6, .keep), (7, .keep)], boxes := [] }
  | 47, 5 => some { slots := [(0, .keep), (3, .keep), (4, .keep), (6, .keep), (7, .keep)], boxes := [] }
  | 49, 4 => some { slots := [(0, .keep), (1, .keep), (5, .keep)], boxes := [] }
  | 51, 15 => some { slots := [(0, .keep), (1, .keep), (6, .keep), (7, .keep), (8, .keep)], boxes := [] }
  | 54, 3 => some { slots := [(0, .keep), (3, .own 9 false), (7, .keep), (8, .keep), (9, .keep)], boxes := [] }
  | 60, 4 => some { slots := [(0, .keep), (1, .keep), (12, .keep), (13, .keep)], boxes := [] }
  | 61, 3 => some { slots := [(0, .keep), (3, .keep), (4, .keep)], boxes := [] }
  | 61, 8 => some { slots := [(0, .keep), (3, .keep), (4, .keep), (5, .keep), (6, .keep)], boxes := [5] }
  | 62, 2 => some { slots := [(0, .keep), (1, .keep), (2, .keep), (7, .keep)], boxes := [] }
  | 63, 2 => some { slots := [(0, .keep), (1, .keep), (5, .keep)], boxes := [] }
  | 64, 2 => some { slots := [(0, .keep), (1, .keep), (5, .keep)], boxes := [] }
  | 76, 2 => some { slots := [(0, .keep), (1, .keep), (7, .keep), (8, .keep)], boxes := [] }
  | 79, 4 => some { slots := [(0, .keep), (1, .keep), (5, .keep)], boxes := [] }
  | 92, 5 => some { slots := [(0, .keep), (1, .keep), (5, .keep), (6, .keep), (7, .keep), (8, .keep), (9, .keep)], boxes := [] }
  | 92, 11 => some { slots := [(0, .keep), (1, .keep), (5, .keep), (6, .keep), (7, .keep), (8, .keep), (10, .keep)], boxes := [] }
  | 94, 3 => some { slots := [(0, .keep), (4, .keep), (5, .keep)], boxes := [] }
  | 94, 8 => some { slots := [(4, .keep), (6, .keep), (7, .keep), (8, .keep)], boxes := [] }
  | _, _ => none
def fl : FuncId → List Bool
  | _ => []
def glob (g : Nat) : Option (List AV) :=
  if g = 0 then some ((List.range 256).map fun c => .int .u8 (Lib.firstT c : Int)) else if g = 1 then some ((List.range 32).map fun i => .int .u8 ((if i % 2 = 0 then Lib.accLo (i / 2) else Lib.accHi (i / 2) : Nat) : Int)) else none
def coreFs : List FuncId := [3, 4, 5, 6, 7, 8, 9, 10, 11, 12, 13, 14, 15, 16, 18, 19, 20, 21, 22, 23, 24, 25, 26, 27, 28, 29, 31, 32, 33, 34, 35, 36, 37, 38, 39, 40, 41, 42, 43, 44, 45, 46, 47, 48, 49, 50, 51, 54, 55, 56, 58, 59, 60, 61, 62, 63, 64, 65, 66, 67, 68, 72, 75, 76, 79, 83, 86, 89, 91, 92, 94]
noncomputable def bs (E : Ext) (k : Nat) : Base := { P := Tryd.prog, fs := E.fs, isBase := E.isBase, base := E.base, fl := fl, glob := glob, dirs := dirs, k := k }
/-- An extension that has no given functions: for what doesn't look at them. -/
def E0 : Ext := { fs := [], isBase := fun _ => false, base := fun _ _ => none }
class Core (E : Ext) : Prop where
  isB : ∀ f, coreFs.contains f = true → E.isBase f = false
  has : ∀ f, coreFs.contains f = true → E.fs.contains f = true
/-- What a function answers, calls nested n deep, k rounds of each loop. -/
noncomputable def kp (E : Ext) (k n : Nat) : FuncId → List AV → Option AV := (bs E k).kap n
theorem kp_at {E : Ext} [h : Core E] {k n : Nat} {f : FuncId} {args : List AV} (hf : coreFs.contains f = true) : kp E k (n + 1) f args = (bs E k).at (kp E k n) f args := Base.kap_at (h.isB f hf) (h.has f hf) args
theorem kp_base {E : Ext} {k n : Nat} {f : FuncId} {args : List AV} (hf : E.isBase f = true) : kp E k n f args = E.base f args := Base.kap_base (B := bs E k) hf args
end Go.Proofs.YtelniipccmeooaaDoor.Eng.U
