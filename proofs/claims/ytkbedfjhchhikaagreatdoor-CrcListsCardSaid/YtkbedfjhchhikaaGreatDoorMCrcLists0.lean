/- Several texts of this proof in one file: Core, Shelf, RowT, R32, S32, S32b, Q32, Ext, R04, Q04, U04, U04b, U04c, Api, V04, ApiR, B04. -/
import Derived.Test.YtkbedfjhchhikaaGreatDoorMECrcLists2
import Derived.Test.YtkbedfjhchhikaaGreatDoorProg
import Derived.Lib.DecodeN
import Derived.Lib.ItoaNum
import Derived.Shelf.Strings.Builder1
import Derived.Shelf.Strings.Builder2
import Derived.Shelf.Small.Utf8
import Derived.Shelf.Small.Strs
import Derived.Shelf.Small.Wraps
import Derived.Shelf.Strings.BuilderF
import Derived.Shelf.Strings.BuilderK
import Derived.Shelf.Strings.Builder2Cap
import Derived.Shelf.Strconv.Itoa0
import Derived.Shelf.Strconv.Itoa1
import Derived.Shelf.LaysM
import Derived.Shelf.Strconv.Itoa2
import Derived.Shelf.Strconv.Itoa3
import Derived.Shelf.Strconv.ParseIntEmpty
import Derived.Shelf.Strconv.Clone
import Derived.Shelf.Strconv.SyntaxError
import Derived.Shelf.LaysC
import Derived.Shelf.Strconv.ToError
import Derived.Shelf.Strconv.Lower
import Derived.Shelf.Strconv.ParseUint10
import Derived.Shelf.Strconv.ParseUint10Empty
import Derived.Shelf.Strconv.ParseUint10Any
import Derived.Shelf.Strconv.ParseInt10
import Derived.Shelf.Strconv.RangeError
import Derived.Shelf.Strconv.ToErrorRange
import Derived.Shelf.Strconv.ParseUintEmpty
import Derived.Shelf.Strconv.ParseUint10b64
import Derived.Shelf.Strconv.ParseUint10b32
import Derived.Shelf.Strconv.ParseUint10b16
import Derived.Shelf.Strconv.ParseUint10b8
import Derived.Shelf.Strconv.ParseUint10At
import Derived.Shelf.Strconv.ParseInt10At64
import Derived.Shelf.Strconv.ParseInt10At32
import Derived.Shelf.Strconv.ParseInt10At16
import Derived.Shelf.Strconv.ParseInt10At8
import Derived.Shelf.Strconv.ParseInt10All
import Derived.Shelf.Strconv.ParseIntPublic10
import Derived.Shelf.Strconv.ErrVarParseInt
import Derived.Ground.MpProg
import Derived.Shelf.Pu.ParseUintPublic10
import Derived.Shelf.Pu.ErrVarParseUint
import Derived.Shelf.Strings.Search1
import Derived.Shelf.Strings.Search2
import Derived.Shelf.Strings.Cut
import Derived.Shelf.Strings.Shaped
import Derived.Shelf.Strings.Prefix
import Derived.Shelf.Unicode.Decode
import Derived.Shelf.Strings.Runes
import Derived.Shelf.Strings.IndexAny
import Derived.Shelf.Strings.AsciiSet
import Derived.Shelf.Strings.IndexAnyAll
import Derived.Shelf.Bits.Mul64
import Derived.Shelf.Strings.Repeat
import Derived.Shelf.Unicode.DecodeSlow
import Derived.Shelf.Unicode.DecodeAny
import Derived.Shelf.Strings.BuilderCap
import Derived.Test.YtkbedfjhchhikaaGreatDoorCards
import Derived.Test.YtkbedfjhchhikaaGreatDoorTie
import Derived.Lib.LaidIn
import Derived.Lib.LaidU8
import Derived.PinnedBridge
import Derived.Deep.DeepHandedRow
import Derived.ChangeSlices
import Derived.WalkKit
import Derived.ProofKit
import Derived.OpenShut
import Derived.ShutString
import Derived.ChangeOld
import Derived.ChangeSame
import Derived.Below
import Derived.KernelRfl
import Derived.Tactics
import Derived.Laws.Rows
import Derived.Laws.Tables
import Derived.Laws.CopyOwn
import Derived.Laws.BitsLemmas
import Derived.Lib.Hide
import Derived.Laws.Slices
import Derived.Lib.ItoaWalk
import Derived.Laws.IdiomStrings
import Derived.Laws.BytesString
import Derived.Lib.ParseIntB
import Derived.Lib.Bytealg
import Derived.Lib.TrimByte
import Derived.Lib.Strings
import Derived.Lib.Repeat
import Derived.Lib.ItoaMem
import Derived.Lib.ItoaLen
import Derived.WalkSmall
import Derived.Lib.SmallJoins
/- The functions of a seat, by their names; what each loop keeps; a base open at its given functions. Printed by gen2.py. -/
set_option linter.unusedVariables false
namespace Go.Proofs.YtkbedfjhchhikaaGreatDoor.Eng.U
open Go Go.Proofs Go.Proofs.YtkbedfjhchhikaaGreatDoor.Eng
def law32_CrcLists : FuncId := 3
def law32_alive : FuncId := 4
def law17_Many : FuncId := 5
def crc_List : FuncId := 6
def crc_Line : FuncId := 7
def ref09_Right : FuncId := 8
def ref32_Line : FuncId := 9
def crc_Sum : FuncId := 10
def item_Right : FuncId := 11
def crc_line : FuncId := 12
def ref09_Wrong : FuncId := 13
def ref32_More : FuncId := 14
def ref21_Word : FuncId := 15
def ref04_Text : FuncId := 16
def ref02_Quote : FuncId := 17
def crc_More : FuncId := 18
def item_Wrong : FuncId := 19
def crc_eight : FuncId := 20
def strconv_Itoa : FuncId := 21
def text_Quote : FuncId := 22
def ref09_fields : FuncId := 23
def ref04_Digits : FuncId := 24
def ref02_open : FuncId := 25
def ref02_code : FuncId := 26
def crc_table : FuncId := 27
def item_Flag : FuncId := 28
def item_named : FuncId := 29
def strings_HasSuffix : FuncId := 30
def item_link : FuncId := 31
def dec_Right : FuncId := 32
def item_plain : FuncId := 33
def item_device : FuncId := 34
def item_extra : FuncId := 35
def strconv_FormatUint : FuncId := 36
def strings_Repeat : FuncId := 37
def ref09_name : FuncId := 42
def ref09_Slash : FuncId := 43
def ref04_Right : FuncId := 44
def ref08_Right : FuncId := 45
def ref07_Which : FuncId := 46
def text_Clean : FuncId := 47
def stringslite_HasSuffix : FuncId := 48
def over_Right : FuncId := 49
def slices_ContainsFunc_api_Pair : FuncId := 50
def item_extra_1 : FuncId := 51
def pax_Known : FuncId := 52
def ref02_Clean : FuncId := 61
def ref07_Right : FuncId := 62
def ref07_Same : FuncId := 63
def ref08_Lay : FuncId := 64
def ref07_Keys : FuncId := 65
def strings_IndexByte : FuncId := 66
def pax_Right : FuncId := 67
def slices_IndexFunc_api_Pair : FuncId := 68
def ref02_Get : FuncId := 78
def ref05_First : FuncId := 79
def ref04_Number : FuncId := 80
def ref04_Time : FuncId := 81
def ref08_Last : FuncId := 82
def utf_Right : FuncId := 84
def strings_ContainsAny : FuncId := 85
def pax_value : FuncId := 86
def ref05_Ends : FuncId := 93
def ref04_Below : FuncId := 94
def ref04_only : FuncId := 95
def utf_First : FuncId := 97
def strings_IndexAny : FuncId := 98
def pax_clean : FuncId := 99
def dec_Number : FuncId := 100
def dec_Time : FuncId := 101
def ref05_size : FuncId := 104
def utf_wrong : FuncId := 105
def strings_IndexRune : FuncId := 106
def strings_shouldUseASCIISet : FuncId := 107
def dec_natural : FuncId := 110
def strings_CutPrefix : FuncId := 111
def strings_Cut : FuncId := 112
def dec_digits : FuncId := 113
def strconv_ParseInt : FuncId := 114
def unicode_utf8_DecodeRuneInString : FuncId := 115
def unicode_utf8_ValidRune : FuncId := 116
def strconv_ParseUint : FuncId := 119
def stringslite_Cut : FuncId := 121
def stringslite_Index : FuncId := 126
def dirs : FuncId → Nat → Option Dir
  | 3, 9 => some { slots := [(0, .keep), (3, .keep), (4, .keep), (5, .own 9 false), (6, .keep), (7, .keep)], boxes := [] }
  | 3, 25 => some { slots := [(3, .keep), (5, .own 9 false), (11, .keep)], boxes := [] }
  | 5, 3 => some { slots := [(0, .keep), (3, .keep), (4, .keep)], boxes := [] }
  | 5, 8 => some { slots := [(0, .keep), (3, .keep), (4, .keep), (5, .keep), (6, .keep)], boxes := [5] }
  | 6, 3 => some { slots := [(4, .own 9 false), (7, .keep), (8, .keep), (9, .keep)], boxes := [] }
  | 13, 3 => some { slots := [(3, .keep), (4, .keep)], boxes := [3] }
  | 14, 3 => some { slots := [(1, .keep), (5, .keep), (6, .keep)], boxes := [] }
  | 14, 7 => some { slots := [(1, .keep), (5, .keep), (6, .keep), (7, .keep)], boxes := [] }
  | 15, 6 => some { slots := [(0, .keep), (3, .keep), (4, .keep), (5, .keep)], boxes := [] }
  | 17, 3 => some { slots := [(0, .keep), (3, .keep), (4, .keep)], boxes := [] }
  | 23, 2 => some { slots := [(1, .keep), (2, .keep), (3, .keep)], boxes := [1, 2], gate := true }
  | 23, 3 => some { slots := [(1, .keep), (2, .keep), (3, .keep), (4, .keep)], boxes := [1, 2], gate := true }
  | 23, 5 => some { slots := [(1, .keep), (2, .keep), (3, .keep), (4, .keep), (5, .keep)], boxes := [1, 2, 5], gate := true }
  | 23, 6 => some { slots := [(1, .keep), (2, .keep), (3, .keep), (4, .keep), (5, .keep)], boxes := [1, 2, 5], gate := true }
  | 23, 7 => some { slots := [(1, .keep), (2, .keep), (4, .keep), (5, .keep)], boxes := [1, 2, 5], gate := true }
  | 23, 11 => some { slots := [(1, .keep), (2, .keep), (4, .keep), (5, .keep)], boxes := [1, 2, 5], gate := true }
  | 23, 13 => some { slots := [(1, .keep), (2, .keep), (4, .keep), (5, .keep)], boxes := [1, 2, 5], gate := true }
  | 23, 14 => some { slots := [(1, .keep), (2, .keep), (4, .keep), (5, .keep)], boxes := [1, 2, 5], gate := true }
  | 23, 15 => some { slots := [(1, .keep), (2, .keep), (4, .keep), (5, .keep)], boxes := [1, 2, 5], gate := true }
  | 23, 16 => some { slots := [(1, .keep), (2, .keep), (5, .keep)], boxes := [1, 2, 5], gate := true }
  | 23, 18 => some { slots := [(1, .keep), (2, .keep), (5, .keep), (6, .keep)], boxes := [1, 2, 5] }
  | 45, 2 => some { slots := [(0, .keep), (3, .keep)], boxes := [] }
  | 46, 3 => some { slots := [(0, .keep), (3, .keep), (4, .keep)], boxes := [] }
  | 49, 2 => some { slots := [(0, .keep), (5, .keep), (6, .keep), (7, .keep)], boxes := [] }
  | 62, 4 => some { slots := [(1, .keep), (3, .keep)], boxes := [1] }
  | 63, 4 => some { slots := [(0, .keep), (1, .keep), (5, .keep)], boxes := [] }
  | 64, 4 => some { slots := [(5, .own 44 true), (6, .own 44 false), (7, .keep), (8, .keep)], boxes := [] }
  | 64, 6 => some { slots := [(5, .own 44 true), (6, .own 44 false), (7, .keep), (8, .keep), (9, .keep), (10, .keep), (11, .keep)], boxes := [] }
  | 68, 2 => some { slots := [(0, .keep), (1, .keep), (7, .keep), (8, .keep)], boxes := [] }
  | 78, 3 => some { slots := [(0, .keep), (3, .own 5 false), (4, .keep)], boxes := [] }
  | 79, 3 => some { slots := [(3, .keep), (4, .keep)], boxes := [] }
  | 81, 6 => some { slots := [(0, .keep), (2, .keep), (4, .keep), (5, .keep), (6, .keep)], boxes := [2] }
  | 81, 17 => some { slots := [(2, .keep), (4, .keep), (7, .keep), (8, .keep), (9, .keep), (10, .keep), (11, .keep)], boxes := [2] }
  | 82, 2 => some { slots := [(0, .keep), (1, .keep), (6, .keep)], boxes := [] }
  | 93, 3 => some { slots := [(0, .keep), (3, .own 3 false), (4, .keep)], boxes := [] }
  | 94, 5 => some { slots := [(0, .keep), (4, .keep), (5, .keep)], boxes := [] }
  | 95, 2 => some { slots := [(0, .keep), (3, .keep)], boxes := [] }
  | 97, 2 => some { slots := [(0, .keep), (6, .keep)], boxes := [6] }
  | 98, 12 => some { slots := [(0, .keep), (6, .keep), (8, .keep)], boxes := [6] }
  | 98, 18 => some { slots := [(1, .keep), (45, .keep)], boxes := [45] }
  | 104, 15 => some { slots := [(0, .keep), (1, .keep), (6, .keep), (7, .keep), (8, .keep)], boxes := [] }
  | 106, 5 => some { slots := [(0, .keep), (7, .keep), (8, .keep), (9, .keep)], boxes := [] }
  | 106, 12 => some { slots := [(0, .keep), (7, .keep), (8, .keep), (9, .keep), (12, .keep)], boxes := [] }
  | 106, 25 => some { slots := [(0, .keep), (7, .keep), (8, .keep), (9, .keep), (14, .keep), (15, .keep)], boxes := [] }
  | 106, 29 => some { slots := [(0, .keep), (7, .keep), (8, .keep), (9, .keep), (14, .keep), (15, .keep), (16, .keep)], boxes := [] }
  | 106, 38 => some { slots := [(175, .keep)], boxes := [175] }
  | 113, 2 => some { slots := [(0, .keep), (5, .keep), (6, .keep)], boxes := [] }
  | 132, 10 => some { slots := [(0, .keep), (3, .keep), (4, .keep), (5, .keep)], boxes := [] }
  | 133, 5 => some { slots := [(0, .keep), (1, .keep), (5, .keep), (6, .keep), (7, .keep), (8, .keep), (9, .keep)], boxes := [] }
  | 133, 11 => some { slots := [(0, .keep), (1, .keep), (5, .keep), (6, .keep), (7, .keep), (8, .keep), (10, .keep)], boxes := [] }
  | 136, 3 => some { slots := [(0, .keep), (4, .keep), (5, .keep)], boxes := [] }
  | 136, 8 => some { slots := [(4, .keep), (6, .keep), (7, .keep), (8, .keep)], boxes := [] }
  | _, _ => none
def fl : FuncId → List Bool
  | _ => []
def ln : FuncId → List Nat
  | _ => []
def hd : FuncId → List Nat
  | _ => []
def glob (g : Nat) : Option (List AV) :=
  if g = 4 then some ((List.range 256).map fun c => .int .u8 (Lib.firstT c : Int)) else if g = 5 then some ((List.range 32).map fun i => .int .u8 ((if i % 2 = 0 then Lib.accLo (i / 2) else Lib.accHi (i / 2) : Nat) : Int)) else if g = 0 then some (Lib.pow10Tab.map fun z => .int .u64 z) else if g = 6 then some [.ifc] else if g = 7 then some [.ifc] else if g = 3 then some (([0, 1, 56, 2, 57, 49, 28, 3, 61, 58, 42, 50, 38, 29, 17, 4, 62, 47, 59, 36, 45, 43, 51, 22, 53, 39, 33, 30, 24, 18, 12, 5, 63, 55, 48, 27, 60, 41, 37, 16, 46, 35, 44, 21, 52, 32, 23, 11, 54, 26, 40, 15, 34, 20, 31, 10, 25, 14, 19, 9, 13, 8, 7, 6] : List Int).map fun z => .int .u8 z) else none
def coreFs : List FuncId := [3, 4, 5, 6, 7, 8, 9, 10, 11, 12, 13, 14, 15, 16, 17, 19, 20, 23, 24, 25, 26, 28, 29, 30, 31, 32, 33, 34, 35, 38, 39, 42, 43, 44, 45, 46, 47, 48, 49, 50, 51, 52, 54, 55, 61, 62, 63, 64, 65, 67, 68, 69, 73, 74, 75, 78, 79, 80, 81, 82, 83, 84, 85, 86, 87, 88, 89, 90, 91, 93, 94, 95, 97, 99, 100, 101, 104, 105, 106, 107, 110, 112, 113, 116, 117, 120, 121, 131, 132, 133, 136]
noncomputable def bs (E : Ext) (k : Nat) : Base := { P := Tryz.prog, fs := E.fs, isBase := E.isBase, base := E.base, fl := fl, ln := ln, hd := hd, glob := glob, dirs := dirs, k := k }
/-- An extension that has no given functions: for what doesn't look at them. -/
def E0 : Ext := { fs := [], isBase := fun _ => false, base := fun _ _ => none }
class Core (E : Ext) : Prop where
  isB : ∀ f, coreFs.contains f = true → E.isBase f = false
  has : ∀ f, coreFs.contains f = true → E.fs.contains f = true
/-- What a function answers, calls nested n deep, k rounds of each loop. -/
noncomputable def kp (E : Ext) (k n : Nat) : FuncId → List AV → Option AV := (bs E k).kap n
theorem kp_at {E : Ext} [h : Core E] {k n : Nat} {f : FuncId} {args : List AV} (hf : coreFs.contains f = true) : kp E k (n + 1) f args = (bs E k).at (kp E k n) f args := Base.kap_at (h.isB f hf) (h.has f hf) args
theorem kp_base {E : Ext} {k n : Nat} {f : FuncId} {args : List AV} (hf : E.isBase f = true) : kp E k n f args = E.base f args := Base.kap_base (B := bs E k) hf args
end Go.Proofs.YtkbedfjhchhikaaGreatDoor.Eng.U


/-
  DERIVED: THE SHELF's CONTRACTS AT THIS DUMP, IN PLAIN WORDS (tools/lay-plain.mjs out of 'TryzShelf.lean', which tools/lay-shelf.mjs wrote): THE SAME DECLARATIONS UNDER THE SAME NAMES: 'import', 'namespace', 'open', 'def', 'theorem' AND NOTHING ELSE: no command of the shelf's: FOR A HAND-IN. Each laying: the table of numbers ('.._ren') and one theorem, a field a fact of the dump's own or the kernel's comparison; each contract: ONE APPLICATION.
-/
namespace Go.Proofs
open Go.Shelf
def Tryz.lays169_ren : Go.Shelf.Ren := ⟨fun | 169 => 41 | n => n, fun | 70 => 69 | 9 => 9 | 0 => 0 | 72 => 71 | 37 => 36 | 127 => 86 | 3 => 3 | 5 => 5 | n => n, fun | n => n⟩
theorem Tryz.lays169 : Go.Proofs.Lays.n169 Tryz.prog Tryz.lays169_ren := {
  mixed := by kernel_rfl
  f169 := Tryz.func41.trans (congrArg some (by kernel_rfl))
  t0 := Tryz.underlying0
  a0 := Tryz.isAgg0
  z0 := Tryz.sizeOf0
  v0 := Tryz.zeroValue0
  t3 := Tryz.underlying3
  a3 := Tryz.isAgg3
  z3 := Tryz.sizeOf3
  v3 := Tryz.zeroValue3
  t9 := Tryz.underlying9
  a9 := Tryz.isAgg9
  z9 := Tryz.sizeOf9
  v9 := Tryz.zeroValue9
  t37 := Tryz.underlying36
  a37 := Tryz.isAgg36
  z37 := Tryz.sizeOf36
  v37 := Tryz.zeroValue36
  t70 := Tryz.underlying69
  a70 := Tryz.isAgg69
  z70 := Tryz.sizeOf69
  v70 := Tryz.zeroValue69
  t72 := Tryz.underlying71
  a72 := Tryz.isAgg71
  z72 := Tryz.sizeOf71
  v72 := Tryz.zeroValue71
  t127 := Tryz.underlying86
  a127 := Tryz.isAgg86
  z127 := Tryz.sizeOf86
  v127 := Tryz.zeroValue86 }
theorem Tryz.Builder_Extra_169 : Builder.Extra Tryz.prog Tryz.lays169_ren := {
  sizeBuilder := by kernel_rfl
  liesBuilder := by kernel_rfl
  t5 := Tryz.underlying5
  a5 := Tryz.isAgg5
  z5 := Tryz.sizeOf5
  v5 := Tryz.zeroValue5
  infoByte := by kernel_rfl
  cellsByte := by kernel_rfl
  sizeByte := by kernel_rfl
  neB5 := by decide }
def Tryz.lays137_ren : Go.Shelf.Ren := ⟨fun | 137 => 66 | 217 => 83 | 266 => 96 | n => n, fun | 9 => 9 | 5 => 5 | 3 => 3 | n => n, fun | n => n⟩
theorem Tryz.lays137 : Go.Proofs.Lays.n137 Tryz.prog Tryz.lays137_ren := {
  mixed := by kernel_rfl
  f137 := Tryz.func66.trans (congrArg some (by kernel_rfl))
  f217 := Tryz.func83.trans (congrArg some (by kernel_rfl))
  f266 := Tryz.func96.trans (congrArg some (by kernel_rfl))
  t3 := Tryz.underlying3
  a3 := Tryz.isAgg3
  z3 := Tryz.sizeOf3
  v3 := Tryz.zeroValue3
  t5 := Tryz.underlying5
  a5 := Tryz.isAgg5
  z5 := Tryz.sizeOf5
  v5 := Tryz.zeroValue5
  t9 := Tryz.underlying9
  a9 := Tryz.isAgg9
  z9 := Tryz.sizeOf9
  v9 := Tryz.zeroValue9 }
open Go.RowKit in
/-- strings.IndexByte: "IndexByte returns the index of the first instance of c in s, or -1 if c is not present in s.": IT RETURNS 'Lib.indexByte s c'; the world is as it was. (LAID: no walk: one application.) -/
theorem Tryz.strings_IndexByte (s : ByteArray) (c : Int) (w : World) :
    Calls Tryz.prog 66 #[.string s, .int .u8 c] w fun e w' => e = .returned (.int .i64 (Lib.indexByte s.data.toList c.toNat.toUInt8)) ∧ w' = w := Any.strings_IndexByte Tryz.lays137 s c w
def Tryz.lays103_ren : Go.Shelf.Ren := ⟨fun | 103 => 111 | 210 => 120 | 206 => 75 | n => n, fun | 9 => 9 | 4 => 4 | 24 => 107 | 3 => 3 | n => n, fun | n => n⟩
theorem Tryz.lays103 : Go.Proofs.Lays.n103 Tryz.prog Tryz.lays103_ren := {
  mixed := by kernel_rfl
  f103 := Tryz.func111.trans (congrArg some (by kernel_rfl))
  f206 := Tryz.func75.trans (congrArg some (by kernel_rfl))
  f210 := Tryz.func120.trans (congrArg some (by kernel_rfl))
  t3 := Tryz.underlying3
  a3 := Tryz.isAgg3
  z3 := Tryz.sizeOf3
  v3 := Tryz.zeroValue3
  t4 := Tryz.underlying4
  a4 := Tryz.isAgg4
  z4 := Tryz.sizeOf4
  v4 := Tryz.zeroValue4
  t9 := Tryz.underlying9
  a9 := Tryz.isAgg9
  z9 := Tryz.sizeOf9
  v9 := Tryz.zeroValue9
  t24 := Tryz.underlying107
  a24 := Tryz.isAgg107
  z24 := Tryz.sizeOf107
  v24 := Tryz.zeroValue107 }
open Go.RowKit in
/-- strings.CutPrefix: "CutPrefix returns s without the provided leading prefix string and reports whether it found the prefix. If s doesn't start with prefix, CutPrefix returns s, false. If prefix is the empty string, CutPrefix returns s, true.": IT RETURNS '(Lib.trimPrefix s p, Lib.hasPrefix s p)'; the world is as it was. (LAID: no walk: one application.) -/
theorem Tryz.strings_CutPrefix (s p : ByteArray) (w : World) :
    Calls Tryz.prog 111 #[.string s, .string p] w fun e w' => e = .returned (.tuple #[.string ⟨(Lib.trimPrefix s.data.toList p.data.toList).toArray⟩, .bool (Lib.hasPrefix s.data.toList p.data.toList)]) ∧ w' = w := Any.strings_CutPrefix Tryz.lays103 s p w
open Go.RowKit in
/-- (*strings.Builder).String: "String returns the accumulated string.": WHATEVER THE BUILDER HOLDS; THE FORM '_k': OVER 'Lib.IsBuilderF' (a builder that 'String()' may have read), AND WITH THE FRAME THAT REACHES ABOVE THE BUILDER: 'Lib.OthersKept': every block that is not b and is no row of uint8's stands as it stood: the iterator of a range among them. (LAID: no walk: one application.) -/
theorem Tryz.Builder_String_any_k (B b : Nat) (l : List UInt8) (w : World) (h : Lib.IsBuilderF 71 5 B b (Lib.byteCells l) w) (hBw : B ≤ w.heap.size) :
    Calls Tryz.prog 41 #[.pointer (some ⟨b, 0, none⟩)] w fun e w' => e = .returned (.string ⟨l.toArray⟩) ∧ (Lib.IsBuilderF 71 5 B b (Lib.byteCells l) w' ∧ Below B w w' ∧ Lib.OthersKept 5 (some b) w w') := Any.Builder_String_any_k Tryz.lays169 Tryz.Builder_Extra_169 B b l w h hBw
def Tryz.laysM171_ren : Go.Shelf.Ren := ⟨fun | 171 => 21 | 243 => 38 | 246 => 59 | 283 => 69 | 284 => 70 | 285 => 71 | 286 => 72 | 129 => 88 | 317 => 87 | 318 => 89 | 319 => 90 | 320 => 91 | 337 => 102 | 338 => 103 | n => n, fun | 3 => 3 | 9 => 9 | 2 => 2 | 4 => 4 | 171 => 92 | 0 => 0 | 53 => 54 | 37 => 36 | 5 => 5 | 173 => 95 | 212 => 111 | 51 => 41 | 20 => 20 | 213 => 112 | 46 => 59 | 232 => 138 | 233 => 139 | n => n, fun | 17 => 0 | 18 => 2 | 19 => 3 | n => n⟩
theorem Tryz.laysM171 : Go.Proofs.LaysM.n171 Tryz.prog Tryz.laysM171_ren := {
  mixed := by kernel_rfl
  f129 := Tryz.func88.trans (congrArg some (by kernel_rfl))
  f171 := Tryz.func21.trans (congrArg some (by kernel_rfl))
  f243 := Tryz.func38.trans (congrArg some (by kernel_rfl))
  f246 := Tryz.func59.trans (congrArg some (by kernel_rfl))
  f283 := Tryz.func69.trans (congrArg some (by kernel_rfl))
  f284 := Tryz.func70.trans (congrArg some (by kernel_rfl))
  f285 := Tryz.func71.trans (congrArg some (by kernel_rfl))
  f286 := Tryz.func72.trans (congrArg some (by kernel_rfl))
  f317 := Tryz.func87.trans (congrArg some (by kernel_rfl))
  f318 := Tryz.func89.trans (congrArg some (by kernel_rfl))
  f319 := Tryz.func90.trans (congrArg some (by kernel_rfl))
  f320 := Tryz.func91.trans (congrArg some (by kernel_rfl))
  f337 := Tryz.func102.trans (congrArg some (by kernel_rfl))
  f338 := Tryz.func103.trans (congrArg some (by kernel_rfl))
  t0 := Tryz.underlying0
  a0 := Tryz.isAgg0
  z0 := Tryz.sizeOf0
  v0 := Tryz.zeroValue0
  t2 := Tryz.underlying2
  a2 := Tryz.isAgg2
  z2 := Tryz.sizeOf2
  v2 := Tryz.zeroValue2
  t3 := Tryz.underlying3
  a3 := Tryz.isAgg3
  z3 := Tryz.sizeOf3
  v3 := Tryz.zeroValue3
  t4 := Tryz.underlying4
  a4 := Tryz.isAgg4
  z4 := Tryz.sizeOf4
  v4 := Tryz.zeroValue4
  t5 := Tryz.underlying5
  a5 := Tryz.isAgg5
  z5 := Tryz.sizeOf5
  v5 := Tryz.zeroValue5
  t9 := Tryz.underlying9
  a9 := Tryz.isAgg9
  z9 := Tryz.sizeOf9
  v9 := Tryz.zeroValue9
  t20 := Tryz.underlying20
  a20 := Tryz.isAgg20
  z20 := Tryz.sizeOf20
  v20 := Tryz.zeroValue20
  t37 := Tryz.underlying36
  a37 := Tryz.isAgg36
  z37 := Tryz.sizeOf36
  v37 := Tryz.zeroValue36
  t46 := Tryz.underlying59
  a46 := Tryz.isAgg59
  z46 := Tryz.sizeOf59
  v46 := Tryz.zeroValue59
  t51 := Tryz.underlying41
  a51 := Tryz.isAgg41
  z51 := Tryz.sizeOf41
  v51 := Tryz.zeroValue41
  t53 := Tryz.underlying54
  a53 := Tryz.isAgg54
  z53 := Tryz.sizeOf54
  v53 := Tryz.zeroValue54
  t171 := Tryz.underlying92
  a171 := Tryz.isAgg92
  z171 := Tryz.sizeOf92
  v171 := Tryz.zeroValue92
  t173 := Tryz.underlying95
  a173 := Tryz.isAgg95
  z173 := Tryz.sizeOf95
  v173 := Tryz.zeroValue95
  t212 := Tryz.underlying111
  a212 := Tryz.isAgg111
  z212 := Tryz.sizeOf111
  v212 := Tryz.zeroValue111
  t213 := Tryz.underlying112
  a213 := Tryz.isAgg112
  z213 := Tryz.sizeOf112
  t232 := Tryz.underlying138
  a232 := Tryz.isAgg138
  z232 := Tryz.sizeOf138
  v232 := Tryz.zeroValue138
  t233 := Tryz.underlying139
  a233 := Tryz.isAgg139
  z233 := Tryz.sizeOf139
  v233 := Tryz.zeroValue139
  g17 := by kernel_rfl
  g18 := by kernel_rfl
  g19 := by kernel_rfl
  i0 := by kernel_rfl
  i2 := by kernel_rfl
  i3 := by kernel_rfl
  i4 := by kernel_rfl
  i5 := by kernel_rfl
  i9 := by kernel_rfl
  i20 := by kernel_rfl
  i37 := by kernel_rfl
  i46 := by kernel_rfl
  i51 := by kernel_rfl
  i53 := by kernel_rfl
  i171 := by kernel_rfl
  i173 := by kernel_rfl
  i212 := by kernel_rfl
  i232 := by kernel_rfl
  i233 := by kernel_rfl
  m17 := by kernel_rfl
  m18 := by kernel_rfl
  m19 := by kernel_rfl }
open Go.RowKit Go.Sort Go.Lib in
/-- strconv.Itoa: "Itoa is equivalent to FormatInt(int64(i), 10).": i's DECIMAL NUMERAL ('Lib.itoa': a '-' where i is negative, then the digits), FOR EVERY int. The world behind the call: the world before it, new blocks behind the heap (the library's 'var a [24]byte'), draws. (LAID: no walk: one application.) -/
theorem Tryz.strconv_Itoa (n : Int) (h0 : -9223372036854775808 ≤ n) (h1 : n ≤ 9223372036854775807) (w : World) (htab : Lib.TabIs Tryz.prog w "internal/strconv.uint64pow10" .u64 Lib.pow10Tab) :
    Calls Tryz.prog 21 #[.int .i64 n] w fun e w' => e = .returned (.string ⟨(Lib.itoa n).toArray⟩) ∧ ∃ k os, w' = grow (w.drewN k) os := Any.strconv_Itoa Tryz.laysM171 n h0 h1 w htab
def Tryz.laysC174_ren : Go.Shelf.Ren := ⟨fun | 174 => 114 | 247 => 122 | 245 => 123 | 287 => 125 | 279 => 127 | 280 => 128 | 281 => 129 | 282 => 130 | 321 => 131 | 322 => 132 | 316 => 134 | 171 => 21 | 205 => 135 | 243 => 38 | 246 => 59 | 283 => 69 | 284 => 70 | 285 => 71 | 286 => 72 | 129 => 88 | 317 => 87 | 318 => 89 | 319 => 90 | 320 => 91 | 337 => 102 | 338 => 103 | n => n, fun | 9 => 9 | 3 => 3 | 2 => 2 | 75 => 73 | 85 => 136 | 4 => 4 | 167 => 147 | 5 => 5 | 53 => 54 | 175 => 144 | 46 => 59 | 168 => 148 | 37 => 36 | 0 => 0 | 210 => 157 | 21 => 21 | 127 => 86 | 145 => 162 | 143 => 160 | 171 => 92 | 173 => 95 | 212 => 111 | 51 => 41 | 20 => 20 | 213 => 112 | 232 => 138 | 233 => 139 | 80 => 75 | n => n, fun | 15 => 6 | 16 => 7 | 17 => 0 | 18 => 2 | 19 => 3 | n => n⟩
theorem Tryz.laysC174 : Go.Proofs.LaysC.n174 Tryz.prog Tryz.laysC174_ren := {
  mixed := by kernel_rfl
  f129 := Tryz.func88.trans (congrArg some (by kernel_rfl))
  f171 := Tryz.func21.trans (congrArg some (by kernel_rfl))
  f174 := Tryz.func114.trans (congrArg some (by kernel_rfl))
  f205 := Tryz.func135.trans (congrArg some (by kernel_rfl))
  f243 := Tryz.func38.trans (congrArg some (by kernel_rfl))
  f245 := Tryz.func123.trans (congrArg some (by kernel_rfl))
  f246 := Tryz.func59.trans (congrArg some (by kernel_rfl))
  f247 := Tryz.func122.trans (congrArg some (by kernel_rfl))
  f279 := Tryz.func127.trans (congrArg some (by kernel_rfl))
  f280 := Tryz.func128.trans (congrArg some (by kernel_rfl))
  f281 := Tryz.func129.trans (congrArg some (by kernel_rfl))
  f282 := Tryz.func130.trans (congrArg some (by kernel_rfl))
  f283 := Tryz.func69.trans (congrArg some (by kernel_rfl))
  f284 := Tryz.func70.trans (congrArg some (by kernel_rfl))
  f285 := Tryz.func71.trans (congrArg some (by kernel_rfl))
  f286 := Tryz.func72.trans (congrArg some (by kernel_rfl))
  f287 := Tryz.func125.trans (congrArg some (by kernel_rfl))
  f316 := Tryz.func134.trans (congrArg some (by kernel_rfl))
  f317 := Tryz.func87.trans (congrArg some (by kernel_rfl))
  f318 := Tryz.func89.trans (congrArg some (by kernel_rfl))
  f319 := Tryz.func90.trans (congrArg some (by kernel_rfl))
  f320 := Tryz.func91.trans (congrArg some (by kernel_rfl))
  f321 := Tryz.func131.trans (congrArg some (by kernel_rfl))
  f322 := Tryz.func132.trans (congrArg some (by kernel_rfl))
  f337 := Tryz.func102.trans (congrArg some (by kernel_rfl))
  f338 := Tryz.func103.trans (congrArg some (by kernel_rfl))
  t0 := Tryz.underlying0
  a0 := Tryz.isAgg0
  z0 := Tryz.sizeOf0
  v0 := Tryz.zeroValue0
  t2 := Tryz.underlying2
  a2 := Tryz.isAgg2
  z2 := Tryz.sizeOf2
  v2 := Tryz.zeroValue2
  t3 := Tryz.underlying3
  a3 := Tryz.isAgg3
  z3 := Tryz.sizeOf3
  v3 := Tryz.zeroValue3
  t4 := Tryz.underlying4
  a4 := Tryz.isAgg4
  z4 := Tryz.sizeOf4
  v4 := Tryz.zeroValue4
  t5 := Tryz.underlying5
  a5 := Tryz.isAgg5
  z5 := Tryz.sizeOf5
  v5 := Tryz.zeroValue5
  t9 := Tryz.underlying9
  a9 := Tryz.isAgg9
  z9 := Tryz.sizeOf9
  v9 := Tryz.zeroValue9
  t20 := Tryz.underlying20
  a20 := Tryz.isAgg20
  z20 := Tryz.sizeOf20
  v20 := Tryz.zeroValue20
  t21 := Tryz.underlying21
  a21 := Tryz.isAgg21
  z21 := Tryz.sizeOf21
  v21 := Tryz.zeroValue21
  t37 := Tryz.underlying36
  a37 := Tryz.isAgg36
  z37 := Tryz.sizeOf36
  v37 := Tryz.zeroValue36
  t46 := Tryz.underlying59
  a46 := Tryz.isAgg59
  z46 := Tryz.sizeOf59
  v46 := Tryz.zeroValue59
  t51 := Tryz.underlying41
  a51 := Tryz.isAgg41
  z51 := Tryz.sizeOf41
  v51 := Tryz.zeroValue41
  t53 := Tryz.underlying54
  a53 := Tryz.isAgg54
  z53 := Tryz.sizeOf54
  v53 := Tryz.zeroValue54
  t75 := Tryz.underlying73
  a75 := Tryz.isAgg73
  z75 := Tryz.sizeOf73
  v75 := Tryz.zeroValue73
  t85 := Tryz.underlying136
  a85 := Tryz.isAgg136
  z85 := Tryz.sizeOf136
  v85 := Tryz.zeroValue136
  t127 := Tryz.underlying86
  a127 := Tryz.isAgg86
  z127 := Tryz.sizeOf86
  v127 := Tryz.zeroValue86
  t143 := Tryz.underlying160
  a143 := Tryz.isAgg160
  z143 := Tryz.sizeOf160
  v143 := Tryz.zeroValue160
  t145 := Tryz.underlying162
  a145 := Tryz.isAgg162
  z145 := Tryz.sizeOf162
  v145 := Tryz.zeroValue162
  t167 := Tryz.underlying147
  a167 := Tryz.isAgg147
  z167 := Tryz.sizeOf147
  v167 := Tryz.zeroValue147
  t168 := Tryz.underlying148
  a168 := Tryz.isAgg148
  z168 := Tryz.sizeOf148
  v168 := Tryz.zeroValue148
  t171 := Tryz.underlying92
  a171 := Tryz.isAgg92
  z171 := Tryz.sizeOf92
  v171 := Tryz.zeroValue92
  t173 := Tryz.underlying95
  a173 := Tryz.isAgg95
  z173 := Tryz.sizeOf95
  v173 := Tryz.zeroValue95
  t175 := Tryz.underlying144
  a175 := Tryz.isAgg144
  z175 := Tryz.sizeOf144
  v175 := Tryz.zeroValue144
  t210 := Tryz.underlying157
  a210 := Tryz.isAgg157
  z210 := Tryz.sizeOf157
  v210 := Tryz.zeroValue157
  t212 := Tryz.underlying111
  a212 := Tryz.isAgg111
  z212 := Tryz.sizeOf111
  v212 := Tryz.zeroValue111
  t213 := Tryz.underlying112
  a213 := Tryz.isAgg112
  z213 := Tryz.sizeOf112
  t232 := Tryz.underlying138
  a232 := Tryz.isAgg138
  z232 := Tryz.sizeOf138
  v232 := Tryz.zeroValue138
  t233 := Tryz.underlying139
  a233 := Tryz.isAgg139
  z233 := Tryz.sizeOf139
  v233 := Tryz.zeroValue139
  g15 := by kernel_rfl
  g16 := by kernel_rfl
  g17 := by kernel_rfl
  g18 := by kernel_rfl
  g19 := by kernel_rfl
  t80 := Tryz.underlying75
  a80 := Tryz.isAgg75
  z80 := Tryz.sizeOf75
  v80 := Tryz.zeroValue75
  i0 := by kernel_rfl
  i2 := by kernel_rfl
  i3 := by kernel_rfl
  i4 := by kernel_rfl
  i5 := by kernel_rfl
  i9 := by kernel_rfl
  i20 := by kernel_rfl
  i21 := by kernel_rfl
  i37 := by kernel_rfl
  i46 := by kernel_rfl
  i51 := by kernel_rfl
  i53 := by kernel_rfl
  i75 := by kernel_rfl
  i80 := by kernel_rfl
  i85 := by kernel_rfl
  i127 := by kernel_rfl
  i143 := by kernel_rfl
  i145 := by kernel_rfl
  i167 := by kernel_rfl
  i168 := by kernel_rfl
  i171 := by kernel_rfl
  i173 := by kernel_rfl
  i175 := by kernel_rfl
  i210 := by kernel_rfl
  i212 := by kernel_rfl
  i232 := by kernel_rfl
  i233 := by kernel_rfl
  m15 := by kernel_rfl
  m16 := by kernel_rfl
  m17 := by kernel_rfl
  m18 := by kernel_rfl
  m19 := by kernel_rfl
  c0 := by kernel_rfl
  c2 := by kernel_rfl
  c3 := by kernel_rfl
  c4 := by kernel_rfl
  c5 := by kernel_rfl
  c9 := by kernel_rfl
  c20 := by kernel_rfl
  c21 := by kernel_rfl
  c37 := by kernel_rfl
  c46 := by kernel_rfl
  c51 := by kernel_rfl
  c53 := by kernel_rfl
  c75 := by kernel_rfl
  c80 := by kernel_rfl
  c85 := by kernel_rfl
  c127 := by kernel_rfl
  c143 := by kernel_rfl
  c145 := by kernel_rfl
  c167 := by kernel_rfl
  c168 := by kernel_rfl
  c171 := by kernel_rfl
  c173 := by kernel_rfl
  c175 := by kernel_rfl
  c210 := by kernel_rfl
  c212 := by kernel_rfl
  c213 := by kernel_rfl
  c232 := by kernel_rfl
  c233 := by kernel_rfl }
open Go.RowKit in
/-- strconv.ParseInt(s, 10, 64), AT EVERY STRING THAT SPELLS AN int64 ('Lib.parseIntB 64 s.data.toList = .ok v'): v, AND NO ERROR. (LAID: no walk: one application.) -/
theorem Tryz.strconv_ParseInt_10_at64_ok (s : ByteArray) (hmax : s.size ≤ 9223372036854775806) (v : Int) (h : Lib.parseIntB 64 s.data.toList = .ok v) (w : World) :
    Calls Tryz.prog 114 #[.string s, .int .i64 10, .int .i64 64] w fun e w' => e = .returned (.tuple #[.int .i64 v, .nilIface]) ∧ (w' = w ∨ ∃ t, w' = Lib.bytesWorld w 5 t) := Any.strconv_ParseInt_10_at64_ok Tryz.laysC174 s hmax v h w
open Go.RowKit in
/-- strconv.ParseInt(s, 10, 64), AT EVERY STRING THAT IS NO DECIMAL NUMERAL: 0, AND AN ERROR THAT IS NOT nil: a *NumError in a new block N: {Func: "ParseInt", Num: s's bytes, Err: what the variable ErrSyntax holds}. Of what was there nothing has turned. (LAID: no walk: one application.) -/
theorem Tryz.strconv_ParseInt_10_at64_syntax (s : ByteArray) (hlim : s.size ≤ 281474976710656) (h : Lib.parseIntB 64 s.data.toList = Lib.parseIntB 64 []) (ev : Value) (w : World) (hv : w.cell? ⟨6, 0, none⟩ = some ev) (hev : ev = .nilIface ∨ ∃ te pe, ev = .iface te pe) :
    Calls Tryz.prog 114 #[.string s, .int .i64 10, .int .i64 64] w fun e w' => ∃ N, e = .returned (.tuple #[.int .i64 (0), .iface 148 (.pointer (some ⟨N, 0, none⟩))]) ∧ w.heap.size ≤ N ∧ w'.heap[N]? = some (.cells #[.string ⟨#[80, 97, 114, 115, 101, 73, 110, 116]⟩, .string s, ev] 157 (0, 0)) ∧ Below w.heap.size w w' := Any.strconv_ParseInt_10_at64_syntax Tryz.laysC174 s hlim h ev w hv hev
open Go.RowKit in
/-- strconv.ParseInt(s, 10, 64), AT EVERY NUMERAL THAT NO int64 HOLDS: THE GREATEST OR THE LEAST int64, BY THE SIGN ('Lib.intSat 64'), AND AN ERROR THAT IS NOT nil: a *NumError in a new block N: {Func: "ParseInt", Num: s's bytes, Err: what the variable ErrRange holds}. Of what was there nothing has turned. (LAID: no walk: one application.) -/
theorem Tryz.strconv_ParseInt_10_at64_range (s : ByteArray) (hlim : s.size ≤ 281474976710656) (h : Lib.parseIntB 64 s.data.toList = .range) (ev : Value) (w : World) (hv : w.cell? ⟨7, 0, none⟩ = some ev) (hev : ev = .nilIface ∨ ∃ te pe, ev = .iface te pe) :
    Calls Tryz.prog 114 #[.string s, .int .i64 10, .int .i64 64] w fun e w' => ∃ N, e = .returned (.tuple #[.int .i64 (Lib.intSat 64 s.data.toList), .iface 148 (.pointer (some ⟨N, 0, none⟩))]) ∧ w.heap.size ≤ N ∧ w'.heap[N]? = some (.cells #[.string ⟨#[80, 97, 114, 115, 101, 73, 110, 116]⟩, .string s, ev] 157 (0, 0)) ∧ Below w.heap.size w w' := Any.strconv_ParseInt_10_at64_range Tryz.laysC174 s hlim h ev w hv hev
def Tryz.laysPu14_ren : Go.Shelf.Ren := ⟨fun | 14 => 119 | 16 => 125 | 17 => 123 | 19 => 131 | 20 => 132 | 21 => 127 | 22 => 128 | 23 => 129 | 24 => 130 | 25 => 134 | 27 => 21 | 26 => 135 | 28 => 38 | 29 => 59 | 30 => 69 | 31 => 70 | 32 => 71 | 33 => 72 | 35 => 88 | 34 => 87 | 36 => 89 | 37 => 90 | 38 => 91 | 39 => 102 | 40 => 103 | n => n, fun | 9 => 9 | 3 => 3 | 22 => 54 | 24 => 73 | 25 => 144 | 4 => 4 | 34 => 147 | 5 => 5 | 36 => 59 | 37 => 36 | 0 => 0 | 39 => 148 | 21 => 21 | 44 => 157 | 47 => 86 | 50 => 162 | 48 => 160 | 2 => 2 | 52 => 92 | 55 => 95 | 59 => 111 | 60 => 41 | 20 => 20 | 61 => 112 | 65 => 138 | 66 => 139 | 67 => 75 | n => n, fun | 0 => 6 | 1 => 7 | 2 => 0 | 3 => 2 | 4 => 3 | n => n⟩
theorem Tryz.laysPu14 : Go.Proofs.LaysPu.n14 Tryz.prog Tryz.laysPu14_ren := {
  mixed := by kernel_rfl
  f14 := Tryz.func119.trans (congrArg some (by kernel_rfl))
  f16 := Tryz.func125.trans (congrArg some (by kernel_rfl))
  f17 := Tryz.func123.trans (congrArg some (by kernel_rfl))
  f19 := Tryz.func131.trans (congrArg some (by kernel_rfl))
  f20 := Tryz.func132.trans (congrArg some (by kernel_rfl))
  f21 := Tryz.func127.trans (congrArg some (by kernel_rfl))
  f22 := Tryz.func128.trans (congrArg some (by kernel_rfl))
  f23 := Tryz.func129.trans (congrArg some (by kernel_rfl))
  f24 := Tryz.func130.trans (congrArg some (by kernel_rfl))
  f25 := Tryz.func134.trans (congrArg some (by kernel_rfl))
  f26 := Tryz.func135.trans (congrArg some (by kernel_rfl))
  f27 := Tryz.func21.trans (congrArg some (by kernel_rfl))
  f28 := Tryz.func38.trans (congrArg some (by kernel_rfl))
  f29 := Tryz.func59.trans (congrArg some (by kernel_rfl))
  f30 := Tryz.func69.trans (congrArg some (by kernel_rfl))
  f31 := Tryz.func70.trans (congrArg some (by kernel_rfl))
  f32 := Tryz.func71.trans (congrArg some (by kernel_rfl))
  f33 := Tryz.func72.trans (congrArg some (by kernel_rfl))
  f34 := Tryz.func87.trans (congrArg some (by kernel_rfl))
  f35 := Tryz.func88.trans (congrArg some (by kernel_rfl))
  f36 := Tryz.func89.trans (congrArg some (by kernel_rfl))
  f37 := Tryz.func90.trans (congrArg some (by kernel_rfl))
  f38 := Tryz.func91.trans (congrArg some (by kernel_rfl))
  f39 := Tryz.func102.trans (congrArg some (by kernel_rfl))
  f40 := Tryz.func103.trans (congrArg some (by kernel_rfl))
  t0 := Tryz.underlying0
  a0 := Tryz.isAgg0
  z0 := Tryz.sizeOf0
  v0 := Tryz.zeroValue0
  i0 := by kernel_rfl
  t2 := Tryz.underlying2
  a2 := Tryz.isAgg2
  z2 := Tryz.sizeOf2
  v2 := Tryz.zeroValue2
  i2 := by kernel_rfl
  t3 := Tryz.underlying3
  a3 := Tryz.isAgg3
  z3 := Tryz.sizeOf3
  v3 := Tryz.zeroValue3
  i3 := by kernel_rfl
  t4 := Tryz.underlying4
  a4 := Tryz.isAgg4
  z4 := Tryz.sizeOf4
  v4 := Tryz.zeroValue4
  i4 := by kernel_rfl
  t5 := Tryz.underlying5
  a5 := Tryz.isAgg5
  z5 := Tryz.sizeOf5
  v5 := Tryz.zeroValue5
  i5 := by kernel_rfl
  t9 := Tryz.underlying9
  a9 := Tryz.isAgg9
  z9 := Tryz.sizeOf9
  v9 := Tryz.zeroValue9
  i9 := by kernel_rfl
  t20 := Tryz.underlying20
  a20 := Tryz.isAgg20
  z20 := Tryz.sizeOf20
  v20 := Tryz.zeroValue20
  i20 := by kernel_rfl
  t21 := Tryz.underlying21
  a21 := Tryz.isAgg21
  z21 := Tryz.sizeOf21
  v21 := Tryz.zeroValue21
  i21 := by kernel_rfl
  t22 := Tryz.underlying54
  a22 := Tryz.isAgg54
  z22 := Tryz.sizeOf54
  v22 := Tryz.zeroValue54
  i22 := by kernel_rfl
  t24 := Tryz.underlying73
  a24 := Tryz.isAgg73
  z24 := Tryz.sizeOf73
  v24 := Tryz.zeroValue73
  i24 := by kernel_rfl
  t25 := Tryz.underlying144
  a25 := Tryz.isAgg144
  z25 := Tryz.sizeOf144
  v25 := Tryz.zeroValue144
  i25 := by kernel_rfl
  t34 := Tryz.underlying147
  a34 := Tryz.isAgg147
  z34 := Tryz.sizeOf147
  v34 := Tryz.zeroValue147
  i34 := by kernel_rfl
  c34 := by kernel_rfl
  t36 := Tryz.underlying59
  a36 := Tryz.isAgg59
  z36 := Tryz.sizeOf59
  v36 := Tryz.zeroValue59
  i36 := by kernel_rfl
  t37 := Tryz.underlying36
  a37 := Tryz.isAgg36
  z37 := Tryz.sizeOf36
  v37 := Tryz.zeroValue36
  i37 := by kernel_rfl
  t39 := Tryz.underlying148
  a39 := Tryz.isAgg148
  z39 := Tryz.sizeOf148
  v39 := Tryz.zeroValue148
  i39 := by kernel_rfl
  t44 := Tryz.underlying157
  a44 := Tryz.isAgg157
  z44 := Tryz.sizeOf157
  v44 := Tryz.zeroValue157
  i44 := by kernel_rfl
  t47 := Tryz.underlying86
  a47 := Tryz.isAgg86
  z47 := Tryz.sizeOf86
  v47 := Tryz.zeroValue86
  i47 := by kernel_rfl
  t48 := Tryz.underlying160
  a48 := Tryz.isAgg160
  z48 := Tryz.sizeOf160
  v48 := Tryz.zeroValue160
  i48 := by kernel_rfl
  t50 := Tryz.underlying162
  a50 := Tryz.isAgg162
  z50 := Tryz.sizeOf162
  v50 := Tryz.zeroValue162
  i50 := by kernel_rfl
  t52 := Tryz.underlying92
  a52 := Tryz.isAgg92
  z52 := Tryz.sizeOf92
  v52 := Tryz.zeroValue92
  i52 := by kernel_rfl
  t55 := Tryz.underlying95
  a55 := Tryz.isAgg95
  z55 := Tryz.sizeOf95
  v55 := Tryz.zeroValue95
  i55 := by kernel_rfl
  t59 := Tryz.underlying111
  a59 := Tryz.isAgg111
  z59 := Tryz.sizeOf111
  v59 := Tryz.zeroValue111
  i59 := by kernel_rfl
  t60 := Tryz.underlying41
  a60 := Tryz.isAgg41
  z60 := Tryz.sizeOf41
  v60 := Tryz.zeroValue41
  i60 := by kernel_rfl
  t61 := Tryz.underlying112
  a61 := Tryz.isAgg112
  z61 := Tryz.sizeOf112
  t65 := Tryz.underlying138
  a65 := Tryz.isAgg138
  z65 := Tryz.sizeOf138
  v65 := Tryz.zeroValue138
  i65 := by kernel_rfl
  t66 := Tryz.underlying139
  a66 := Tryz.isAgg139
  z66 := Tryz.sizeOf139
  v66 := Tryz.zeroValue139
  i66 := by kernel_rfl
  t67 := Tryz.underlying75
  a67 := Tryz.isAgg75
  z67 := Tryz.sizeOf75
  v67 := Tryz.zeroValue75
  i67 := by kernel_rfl
  g0 := by kernel_rfl
  m0 := by kernel_rfl
  g1 := by kernel_rfl
  m1 := by kernel_rfl
  g2 := by kernel_rfl
  m2 := by kernel_rfl
  g3 := by kernel_rfl
  m3 := by kernel_rfl
  g4 := by kernel_rfl
  m4 := by kernel_rfl }
open Go.RowKit in
/-- strconv.ParseUint(s, 10, 64), AT EVERY STRING THAT SPELLS A uint64 ('Lib.parseUintB 64 s.data.toList = .ok u'): u, AND NO ERROR. (LAID: no walk: one application.) -/
theorem Tryz.strconv_ParseUint_10_at64_ok (s : ByteArray) (hmax : s.size ≤ 9223372036854775806) (u : Nat) (h : Lib.parseUintB 64 s.data.toList = .ok u) (w : World) :
    Calls Tryz.prog 119 #[.string s, .int .i64 10, .int .i64 64] w fun e w' => e = .returned (.tuple #[.int .u64 u, .nilIface]) ∧ (w' = w ∨ w' = Lib.bytesWorld w 5 s) := Any.strconv_ParseUint_10_at64_ok Tryz.laysPu14 s hmax u h w
open Go.RowKit in
/-- strconv.ParseUint(s, 10, 64), AT EVERY STRING THAT IS NO ROW OF DECIMAL DIGITS (a sign is a fault): 0, AND AN ERROR THAT IS NOT nil: a *NumError in a new block N: {Func: "ParseUint", Num: s's bytes, Err: what the variable ErrSyntax holds}. Of what was there nothing has turned. (LAID: no walk: one application.) -/
theorem Tryz.strconv_ParseUint_10_at64_syntax (s : ByteArray) (hlim : s.size ≤ 281474976710656) (h : Lib.parseUintB 64 s.data.toList = Lib.parseUintB 64 []) (ev : Value) (w : World) (hv : w.cell? ⟨6, 0, none⟩ = some ev) (hev : ev = .nilIface ∨ ∃ te pe, ev = .iface te pe) :
    Calls Tryz.prog 119 #[.string s, .int .i64 10, .int .i64 64] w fun e w' => ∃ N, e = .returned (.tuple #[.int .u64 0, .iface 148 (.pointer (some ⟨N, 0, none⟩))]) ∧ w.heap.size ≤ N ∧ w'.heap[N]? = some (.cells #[.string ⟨#[80, 97, 114, 115, 101, 85, 105, 110, 116]⟩, .string s, ev] 157 (0, 0)) ∧ Below w.heap.size w w' := Any.strconv_ParseUint_10_at64_syntax Tryz.laysPu14 s hlim h ev w hv hev
open Go.RowKit in
/-- strconv.ParseUint(s, 10, 64), AT EVERY NUMERAL THAT NO uint64 HOLDS: THE GREATEST uint64, AND AN ERROR THAT IS NOT nil: a *NumError in a new block N: {Func: "ParseUint", Num: s's bytes, Err: what the variable ErrRange holds}. Of what was there nothing has turned. (LAID: no walk: one application.) -/
theorem Tryz.strconv_ParseUint_10_at64_range (s : ByteArray) (hlim : s.size ≤ 281474976710656) (h : Lib.parseUintB 64 s.data.toList = .range) (ev : Value) (w : World) (hv : w.cell? ⟨7, 0, none⟩ = some ev) (hev : ev = .nilIface ∨ ∃ te pe, ev = .iface te pe) :
    Calls Tryz.prog 119 #[.string s, .int .i64 10, .int .i64 64] w fun e w' => ∃ N, e = .returned (.tuple #[.int .u64 18446744073709551615, .iface 148 (.pointer (some ⟨N, 0, none⟩))]) ∧ w.heap.size ≤ N ∧ w'.heap[N]? = some (.cells #[.string ⟨#[80, 97, 114, 115, 101, 85, 105, 110, 116]⟩, .string s, ev] 157 (0, 0)) ∧ Below w.heap.size w w' := Any.strconv_ParseUint_10_at64_range Tryz.laysPu14 s hlim h ev w hv hev
def Tryz.lays219_ren : Go.Shelf.Ren := ⟨fun | 219 => 126 | 217 => 83 | 225 => 118 | 224 => 117 | 267 => 133 | 266 => 96 | 314 => 136 | n => n, fun | 9 => 9 | 3 => 3 | 4 => 4 | 5 => 5 | 46 => 59 | 146 => 97 | 51 => 41 | n => n, fun | 1 => 1 | n => n⟩
theorem Tryz.lays219 : Go.Proofs.Lays.n219 Tryz.prog Tryz.lays219_ren := {
  mixed := by kernel_rfl
  f217 := Tryz.func83.trans (congrArg some (by kernel_rfl))
  f219 := Tryz.func126.trans (congrArg some (by kernel_rfl))
  f224 := Tryz.func117.trans (congrArg some (by kernel_rfl))
  f225 := Tryz.func118.trans (congrArg some (by kernel_rfl))
  f266 := Tryz.func96.trans (congrArg some (by kernel_rfl))
  f267 := Tryz.func133.trans (congrArg some (by kernel_rfl))
  f314 := Tryz.func136.trans (congrArg some (by kernel_rfl))
  t3 := Tryz.underlying3
  a3 := Tryz.isAgg3
  z3 := Tryz.sizeOf3
  v3 := Tryz.zeroValue3
  t4 := Tryz.underlying4
  a4 := Tryz.isAgg4
  z4 := Tryz.sizeOf4
  v4 := Tryz.zeroValue4
  t5 := Tryz.underlying5
  a5 := Tryz.isAgg5
  z5 := Tryz.sizeOf5
  v5 := Tryz.zeroValue5
  t9 := Tryz.underlying9
  a9 := Tryz.isAgg9
  z9 := Tryz.sizeOf9
  v9 := Tryz.zeroValue9
  t46 := Tryz.underlying59
  a46 := Tryz.isAgg59
  z46 := Tryz.sizeOf59
  v46 := Tryz.zeroValue59
  t51 := Tryz.underlying41
  a51 := Tryz.isAgg41
  z51 := Tryz.sizeOf41
  v51 := Tryz.zeroValue41
  t146 := Tryz.underlying97
  a146 := Tryz.isAgg97
  z146 := Tryz.sizeOf97
  v146 := Tryz.zeroValue97
  g1 := by kernel_rfl }
open Go.RowKit Go.Lib in
/-- internal/stringslite.Index (what strings.Index calls) AT A substr OF ONE BYTE c: IT RETURNS 'Lib.indexByte s c'; the world is as it was. (LAID: no walk: one application.) -/
theorem Tryz.stringslite_Index_one (s : ByteArray) (c : UInt8) (w : World) :
    Calls Tryz.prog 126 #[.string s, .string ⟨#[c]⟩] w fun e w' => e = .returned (.int .i64 (Lib.indexByte s.data.toList c)) ∧ w' = w := Any.stringslite_Index_one Tryz.lays219 s c w
open Go.RowKit Go.Lib in
/-- internal/stringslite.Index (what strings.Index calls) AT A substr OF WHATEVER LENGTH: IT RETURNS 'Lib.index s substr'; the world is as it was. 'm': what internal/bytealg.MaxLen holds: whatever. (LAID: no walk: one application.) -/
theorem Tryz.stringslite_Index (s sub : ByteArray) (m : Int) (w : World) (hs : s.size < 4294967281) (hm : w.cell? ⟨1, 0, none⟩ = some (.int .i64 m)) :
    Calls Tryz.prog 126 #[.string s, .string sub] w fun e w' => e = .returned (.int .i64 (Lib.index s.data.toList sub.data.toList)) ∧ w' = w := Any.stringslite_Index Tryz.lays219 s sub m w hs hm
def Tryz.lays220_ren : Go.Shelf.Ren := ⟨fun | 220 => 121 | 219 => 126 | 217 => 83 | 225 => 118 | 224 => 117 | 267 => 133 | 266 => 96 | 314 => 136 | n => n, fun | 9 => 9 | 4 => 4 | 3 => 3 | 5 => 5 | 46 => 59 | 146 => 97 | 51 => 41 | n => n, fun | 1 => 1 | n => n⟩
theorem Tryz.lays220 : Go.Proofs.Lays.n220 Tryz.prog Tryz.lays220_ren := {
  mixed := by kernel_rfl
  f217 := Tryz.func83.trans (congrArg some (by kernel_rfl))
  f219 := Tryz.func126.trans (congrArg some (by kernel_rfl))
  f220 := Tryz.func121.trans (congrArg some (by kernel_rfl))
  f224 := Tryz.func117.trans (congrArg some (by kernel_rfl))
  f225 := Tryz.func118.trans (congrArg some (by kernel_rfl))
  f266 := Tryz.func96.trans (congrArg some (by kernel_rfl))
  f267 := Tryz.func133.trans (congrArg some (by kernel_rfl))
  f314 := Tryz.func136.trans (congrArg some (by kernel_rfl))
  t3 := Tryz.underlying3
  a3 := Tryz.isAgg3
  z3 := Tryz.sizeOf3
  v3 := Tryz.zeroValue3
  t4 := Tryz.underlying4
  a4 := Tryz.isAgg4
  z4 := Tryz.sizeOf4
  v4 := Tryz.zeroValue4
  t5 := Tryz.underlying5
  a5 := Tryz.isAgg5
  z5 := Tryz.sizeOf5
  v5 := Tryz.zeroValue5
  t9 := Tryz.underlying9
  a9 := Tryz.isAgg9
  z9 := Tryz.sizeOf9
  v9 := Tryz.zeroValue9
  t46 := Tryz.underlying59
  a46 := Tryz.isAgg59
  z46 := Tryz.sizeOf59
  v46 := Tryz.zeroValue59
  t51 := Tryz.underlying41
  a51 := Tryz.isAgg41
  z51 := Tryz.sizeOf41
  v51 := Tryz.zeroValue41
  t146 := Tryz.underlying97
  a146 := Tryz.isAgg97
  z146 := Tryz.sizeOf97
  v146 := Tryz.zeroValue97
  g1 := by kernel_rfl }
open Go.RowKit Go.Lib in
/-- internal/stringslite.Cut (what strings.Cut calls): IT RETURNS 'Lib.cut s sep'; the world is as it was but for the count of draws. (LAID: no walk: one application.) -/
theorem Tryz.stringslite_Cut (s sep : ByteArray) (m : Int) (w : World) (hs : s.size < 4294967281) (hm : w.cell? ⟨1, 0, none⟩ = some (.int .i64 m)) :
    Calls Tryz.prog 121 #[.string s, .string sep] w fun e w' => e = .returned (.tuple #[.string ⟨(Lib.cut s.data.toList sep.data.toList).1.toArray⟩, .string ⟨(Lib.cut s.data.toList sep.data.toList).2.1.toArray⟩, .bool (Lib.cut s.data.toList sep.data.toList).2.2]) ∧ ∃ n, w' = w.drewN n := Any.stringslite_Cut Tryz.lays220 s sep m w hs hm
def Tryz.lays145_ren : Go.Shelf.Ren := ⟨fun | 145 => 112 | 220 => 121 | 219 => 126 | 217 => 83 | 225 => 118 | 224 => 117 | 267 => 133 | 266 => 96 | 314 => 136 | n => n, fun | 9 => 9 | 4 => 4 | 59 => 134 | 3 => 3 | 5 => 5 | 46 => 59 | 146 => 97 | 51 => 41 | n => n, fun | 1 => 1 | n => n⟩
theorem Tryz.lays145 : Go.Proofs.Lays.n145 Tryz.prog Tryz.lays145_ren := {
  mixed := by kernel_rfl
  f145 := Tryz.func112.trans (congrArg some (by kernel_rfl))
  f217 := Tryz.func83.trans (congrArg some (by kernel_rfl))
  f219 := Tryz.func126.trans (congrArg some (by kernel_rfl))
  f220 := Tryz.func121.trans (congrArg some (by kernel_rfl))
  f224 := Tryz.func117.trans (congrArg some (by kernel_rfl))
  f225 := Tryz.func118.trans (congrArg some (by kernel_rfl))
  f266 := Tryz.func96.trans (congrArg some (by kernel_rfl))
  f267 := Tryz.func133.trans (congrArg some (by kernel_rfl))
  f314 := Tryz.func136.trans (congrArg some (by kernel_rfl))
  t3 := Tryz.underlying3
  a3 := Tryz.isAgg3
  z3 := Tryz.sizeOf3
  v3 := Tryz.zeroValue3
  t4 := Tryz.underlying4
  a4 := Tryz.isAgg4
  z4 := Tryz.sizeOf4
  v4 := Tryz.zeroValue4
  t5 := Tryz.underlying5
  a5 := Tryz.isAgg5
  z5 := Tryz.sizeOf5
  v5 := Tryz.zeroValue5
  t9 := Tryz.underlying9
  a9 := Tryz.isAgg9
  z9 := Tryz.sizeOf9
  v9 := Tryz.zeroValue9
  t46 := Tryz.underlying59
  a46 := Tryz.isAgg59
  z46 := Tryz.sizeOf59
  v46 := Tryz.zeroValue59
  t51 := Tryz.underlying41
  a51 := Tryz.isAgg41
  z51 := Tryz.sizeOf41
  v51 := Tryz.zeroValue41
  t59 := Tryz.underlying134
  a59 := Tryz.isAgg134
  z59 := Tryz.sizeOf134
  v59 := Tryz.zeroValue134
  t146 := Tryz.underlying97
  a146 := Tryz.isAgg97
  z146 := Tryz.sizeOf97
  v146 := Tryz.zeroValue97
  g1 := by kernel_rfl }
open Go.RowKit Go.Lib in
/-- strings.Cut: "Cut slices s around the first instance of sep, returning the text before and after sep. The found result reports whether sep appears in s. If sep does not appear in s, cut returns s, "", false.": IT RETURNS 'Lib.cut s sep'; the world is as it was but for the count of draws. (LAID: no walk: one application.) -/
theorem Tryz.strings_Cut (s sep : ByteArray) (m : Int) (w : World) (hs : s.size < 4294967281) (hm : w.cell? ⟨1, 0, none⟩ = some (.int .i64 m)) :
    Calls Tryz.prog 112 #[.string s, .string sep] w fun e w' => e = .returned (.tuple #[.string ⟨(Lib.cut s.data.toList sep.data.toList).1.toArray⟩, .string ⟨(Lib.cut s.data.toList sep.data.toList).2.1.toArray⟩, .bool (Lib.cut s.data.toList sep.data.toList).2.2]) ∧ ∃ n, w' = w.drewN n := Any.strings_Cut Tryz.lays145 s sep m w hs hm
def Tryz.lays207_ren : Go.Shelf.Ren := ⟨fun | 207 => 48 | n => n, fun | 9 => 9 | 4 => 4 | 3 => 3 | n => n, fun | n => n⟩
theorem Tryz.lays207 : Go.Proofs.Lays.n207 Tryz.prog Tryz.lays207_ren := {
  mixed := by kernel_rfl
  f207 := Tryz.func48.trans (congrArg some (by kernel_rfl))
  t3 := Tryz.underlying3
  a3 := Tryz.isAgg3
  z3 := Tryz.sizeOf3
  v3 := Tryz.zeroValue3
  t4 := Tryz.underlying4
  a4 := Tryz.isAgg4
  z4 := Tryz.sizeOf4
  v4 := Tryz.zeroValue4
  t9 := Tryz.underlying9
  a9 := Tryz.isAgg9
  z9 := Tryz.sizeOf9
  v9 := Tryz.zeroValue9 }
open Go.RowKit Go.Lib in
/-- internal/stringslite.HasSuffix (what strings.HasSuffix calls). (LAID: no walk: one application.) -/
theorem Tryz.stringslite_HasSuffix (s p : ByteArray) (w : World) (hs : s.size ≤ 9223372036854775807) :
    Calls Tryz.prog 48 #[.string s, .string p] w fun e w' => e = .returned (.bool (Lib.hasSuffix s.data.toList p.data.toList)) ∧ w' = w := Any.stringslite_HasSuffix Tryz.lays207 s p w hs
def Tryz.lays100_ren : Go.Shelf.Ren := ⟨fun | 100 => 30 | 207 => 48 | n => n, fun | 9 => 9 | 4 => 4 | 3 => 3 | n => n, fun | n => n⟩
theorem Tryz.lays100 : Go.Proofs.Lays.n100 Tryz.prog Tryz.lays100_ren := {
  mixed := by kernel_rfl
  f100 := Tryz.func30.trans (congrArg some (by kernel_rfl))
  f207 := Tryz.func48.trans (congrArg some (by kernel_rfl))
  t3 := Tryz.underlying3
  a3 := Tryz.isAgg3
  z3 := Tryz.sizeOf3
  v3 := Tryz.zeroValue3
  t4 := Tryz.underlying4
  a4 := Tryz.isAgg4
  z4 := Tryz.sizeOf4
  v4 := Tryz.zeroValue4
  t9 := Tryz.underlying9
  a9 := Tryz.isAgg9
  z9 := Tryz.sizeOf9
  v9 := Tryz.zeroValue9 }
open Go.RowKit Go.Lib in
/-- strings.HasSuffix: "HasSuffix reports whether the string s ends with suffix.": IT RETURNS 'Lib.hasSuffix s suffix'; the world is as it was. ('hs': no Go string is longer: a caller has it of every string that it was handed.) (LAID: no walk: one application.) -/
theorem Tryz.strings_HasSuffix (s p : ByteArray) (w : World) (hs : s.size ≤ 9223372036854775807) :
    Calls Tryz.prog 30 #[.string s, .string p] w fun e w' => e = .returned (.bool (Lib.hasSuffix s.data.toList p.data.toList)) ∧ w' = w := Any.strings_HasSuffix Tryz.lays100 s p w hs
def Tryz.lays197_ren : Go.Shelf.Ren := ⟨fun | 197 => 115 | 260 => 124 | n => n, fun | 9 => 9 | 21 => 21 | 3 => 3 | 4 => 4 | 5 => 5 | 105 => 140 | 119 => 151 | 0 => 0 | 46 => 59 | 139 => 154 | 138 => 153 | n => n, fun | 3 => 4 | 4 => 5 | n => n⟩
theorem Tryz.lays197 : Go.Proofs.Lays.n197 Tryz.prog Tryz.lays197_ren := {
  mixed := by kernel_rfl
  f197 := Tryz.func115.trans (congrArg some (by kernel_rfl))
  f260 := Tryz.func124.trans (congrArg some (by kernel_rfl))
  t0 := Tryz.underlying0
  a0 := Tryz.isAgg0
  z0 := Tryz.sizeOf0
  v0 := Tryz.zeroValue0
  t3 := Tryz.underlying3
  a3 := Tryz.isAgg3
  z3 := Tryz.sizeOf3
  v3 := Tryz.zeroValue3
  t4 := Tryz.underlying4
  a4 := Tryz.isAgg4
  z4 := Tryz.sizeOf4
  v4 := Tryz.zeroValue4
  t5 := Tryz.underlying5
  a5 := Tryz.isAgg5
  z5 := Tryz.sizeOf5
  v5 := Tryz.zeroValue5
  t9 := Tryz.underlying9
  a9 := Tryz.isAgg9
  z9 := Tryz.sizeOf9
  v9 := Tryz.zeroValue9
  t21 := Tryz.underlying21
  a21 := Tryz.isAgg21
  z21 := Tryz.sizeOf21
  v21 := Tryz.zeroValue21
  t46 := Tryz.underlying59
  a46 := Tryz.isAgg59
  z46 := Tryz.sizeOf59
  v46 := Tryz.zeroValue59
  t105 := Tryz.underlying140
  a105 := Tryz.isAgg140
  z105 := Tryz.sizeOf140
  v105 := Tryz.zeroValue140
  t119 := Tryz.underlying151
  a119 := Tryz.isAgg151
  z119 := Tryz.sizeOf151
  t138 := Tryz.underlying153
  a138 := Tryz.isAgg153
  z138 := Tryz.sizeOf153
  v138 := Tryz.zeroValue153
  t139 := Tryz.underlying154
  a139 := Tryz.isAgg154
  z139 := Tryz.sizeOf154
  v139 := Tryz.zeroValue154
  g3 := by kernel_rfl
  g4 := by kernel_rfl }
def Tryz.lays226_ren : Go.Shelf.Ren := ⟨fun | 226 => 107 | n => n, fun | 3 => 3 | 4 => 4 | n => n, fun | n => n⟩
theorem Tryz.lays226 : Go.Proofs.Lays.n226 Tryz.prog Tryz.lays226_ren := {
  mixed := by kernel_rfl
  f226 := Tryz.func107.trans (congrArg some (by kernel_rfl))
  t3 := Tryz.underlying3
  a3 := Tryz.isAgg3
  z3 := Tryz.sizeOf3
  v3 := Tryz.zeroValue3
  t4 := Tryz.underlying4
  a4 := Tryz.isAgg4
  z4 := Tryz.sizeOf4
  v4 := Tryz.zeroValue4 }
open Go.RowKit Go.Lib in
theorem Tryz.strings_shouldUseASCIISet (n : Int) (w : World) :
    Calls Tryz.prog 107 #[.int .i64 n] w fun e w' => e = .returned (.bool (decide (8 < n))) ∧ w' = w := Any.strings_shouldUseASCIISet Tryz.lays226 n w
def Tryz.lays153_ren : Go.Shelf.Ren := ⟨fun | 153 => 98 | 152 => 106 | 226 => 107 | 227 => 108 | 228 => 109 | 137 => 66 | 119 => 116 | 224 => 117 | 225 => 118 | 217 => 83 | 266 => 96 | n => n, fun | 9 => 9 | 3 => 3 | 4 => 4 | 5 => 5 | 21 => 21 | 117 => 129 | 116 => 128 | 0 => 0 | 46 => 59 | 124 => 143 | n => n, fun | n => n⟩
theorem Tryz.lays153 : Go.Proofs.Lays.n153 Tryz.prog Tryz.lays153_ren := {
  mixed := by kernel_rfl
  f119 := Tryz.func116.trans (congrArg some (by kernel_rfl))
  f137 := Tryz.func66.trans (congrArg some (by kernel_rfl))
  f152 := Tryz.func106.trans (congrArg some (by kernel_rfl))
  f153 := Tryz.func98.trans (congrArg some (by kernel_rfl))
  f217 := Tryz.func83.trans (congrArg some (by kernel_rfl))
  f224 := Tryz.func117.trans (congrArg some (by kernel_rfl))
  f225 := Tryz.func118.trans (congrArg some (by kernel_rfl))
  f226 := Tryz.func107.trans (congrArg some (by kernel_rfl))
  f227 := Tryz.func108.trans (congrArg some (by kernel_rfl))
  f228 := Tryz.func109.trans (congrArg some (by kernel_rfl))
  f266 := Tryz.func96.trans (congrArg some (by kernel_rfl))
  t0 := Tryz.underlying0
  a0 := Tryz.isAgg0
  z0 := Tryz.sizeOf0
  v0 := Tryz.zeroValue0
  t3 := Tryz.underlying3
  a3 := Tryz.isAgg3
  z3 := Tryz.sizeOf3
  v3 := Tryz.zeroValue3
  t4 := Tryz.underlying4
  a4 := Tryz.isAgg4
  z4 := Tryz.sizeOf4
  v4 := Tryz.zeroValue4
  t5 := Tryz.underlying5
  a5 := Tryz.isAgg5
  z5 := Tryz.sizeOf5
  v5 := Tryz.zeroValue5
  t9 := Tryz.underlying9
  a9 := Tryz.isAgg9
  z9 := Tryz.sizeOf9
  v9 := Tryz.zeroValue9
  t21 := Tryz.underlying21
  a21 := Tryz.isAgg21
  z21 := Tryz.sizeOf21
  v21 := Tryz.zeroValue21
  t46 := Tryz.underlying59
  a46 := Tryz.isAgg59
  z46 := Tryz.sizeOf59
  v46 := Tryz.zeroValue59
  t116 := Tryz.underlying128
  a116 := Tryz.isAgg128
  z116 := Tryz.sizeOf128
  t117 := Tryz.underlying129
  a117 := Tryz.isAgg129
  z117 := Tryz.sizeOf129
  v117 := Tryz.zeroValue129
  t124 := Tryz.underlying143
  a124 := Tryz.isAgg143
  z124 := Tryz.sizeOf143
  v124 := Tryz.zeroValue143 }
open Go.RowKit Go.Lib in
theorem Tryz.strings_IndexAny_long (hv116 : ∀ w, (zeroValue 128).run Tryz.prog w = .ok (.agg (Array.replicate 256 (.bool false))) w) (s chars : ByteArray) (w : World) (h2 : 2 ≤ chars.size) (h8 : 8 < s.size) (hs : s.size < 4294967281) (hcs : chars.size < 4294967281) (hascii : ∀ (j : Nat) b, chars.data.toList[j]? = some b → b.toNat < 128) :
    Calls Tryz.prog 98 #[.string s, .string chars] w fun e w' => e = .returned (.int .i64 (Lib.indexAny s.data.toList chars.data.toList)) ∧ w' = ((w.alloc (.cells (Lib.setCells chars.data.toList) 128)).alloc (.cells (Lib.setCells chars.data.toList) 128)) := Any.strings_IndexAny_long Tryz.lays153 hv116 (by kernel_rfl) s chars w h2 h8 hs hcs hascii
open Go.RowKit Go.Lib in
/-- strings.IndexAny ON ASCII BYTES: the four roads under one statement. (LAID: no walk: one application.) -/
theorem Tryz.strings_IndexAny (hv116 : ∀ w, (zeroValue 128).run Tryz.prog w = .ok (.agg (Array.replicate 256 (.bool false))) w) (s chars : ByteArray) (w : World) (hs : s.size < 4294967281) (hcs : chars.size < 4294967281) (has : ∀ (j : Nat) b, s.data.toList[j]? = some b → b.toNat < 128) (hac : ∀ (j : Nat) b, chars.data.toList[j]? = some b → b.toNat < 128) :
    Calls Tryz.prog 98 #[.string s, .string chars] w fun e w' => e = .returned (.int .i64 (Lib.indexAny s.data.toList chars.data.toList)) ∧ Below w.heap.size w w' := Any.strings_IndexAny Tryz.lays153 hv116 (by kernel_rfl) s chars w hs hcs has hac
def Tryz.lays150_ren : Go.Shelf.Ren := ⟨fun | 150 => 85 | 153 => 98 | 152 => 106 | 226 => 107 | 227 => 108 | 228 => 109 | 137 => 66 | 119 => 116 | 224 => 117 | 225 => 118 | 217 => 83 | 266 => 96 | n => n, fun | 9 => 9 | 4 => 4 | 3 => 3 | 5 => 5 | 21 => 21 | 117 => 129 | 116 => 128 | 0 => 0 | 46 => 59 | 124 => 143 | n => n, fun | n => n⟩
theorem Tryz.lays150 : Go.Proofs.Lays.n150 Tryz.prog Tryz.lays150_ren := {
  mixed := by kernel_rfl
  f119 := Tryz.func116.trans (congrArg some (by kernel_rfl))
  f137 := Tryz.func66.trans (congrArg some (by kernel_rfl))
  f150 := Tryz.func85.trans (congrArg some (by kernel_rfl))
  f152 := Tryz.func106.trans (congrArg some (by kernel_rfl))
  f153 := Tryz.func98.trans (congrArg some (by kernel_rfl))
  f217 := Tryz.func83.trans (congrArg some (by kernel_rfl))
  f224 := Tryz.func117.trans (congrArg some (by kernel_rfl))
  f225 := Tryz.func118.trans (congrArg some (by kernel_rfl))
  f226 := Tryz.func107.trans (congrArg some (by kernel_rfl))
  f227 := Tryz.func108.trans (congrArg some (by kernel_rfl))
  f228 := Tryz.func109.trans (congrArg some (by kernel_rfl))
  f266 := Tryz.func96.trans (congrArg some (by kernel_rfl))
  t0 := Tryz.underlying0
  a0 := Tryz.isAgg0
  z0 := Tryz.sizeOf0
  v0 := Tryz.zeroValue0
  t3 := Tryz.underlying3
  a3 := Tryz.isAgg3
  z3 := Tryz.sizeOf3
  v3 := Tryz.zeroValue3
  t4 := Tryz.underlying4
  a4 := Tryz.isAgg4
  z4 := Tryz.sizeOf4
  v4 := Tryz.zeroValue4
  t5 := Tryz.underlying5
  a5 := Tryz.isAgg5
  z5 := Tryz.sizeOf5
  v5 := Tryz.zeroValue5
  t9 := Tryz.underlying9
  a9 := Tryz.isAgg9
  z9 := Tryz.sizeOf9
  v9 := Tryz.zeroValue9
  t21 := Tryz.underlying21
  a21 := Tryz.isAgg21
  z21 := Tryz.sizeOf21
  v21 := Tryz.zeroValue21
  t46 := Tryz.underlying59
  a46 := Tryz.isAgg59
  z46 := Tryz.sizeOf59
  v46 := Tryz.zeroValue59
  t116 := Tryz.underlying128
  a116 := Tryz.isAgg128
  z116 := Tryz.sizeOf128
  t117 := Tryz.underlying129
  a117 := Tryz.isAgg129
  z117 := Tryz.sizeOf129
  v117 := Tryz.zeroValue129
  t124 := Tryz.underlying143
  a124 := Tryz.isAgg143
  z124 := Tryz.sizeOf143
  v124 := Tryz.zeroValue143 }
open Go.RowKit Go.Lib in
/-- strings.ContainsAny ON ASCII BYTES. (LAID: no walk: one application.) -/
theorem Tryz.strings_ContainsAny (hv116 : ∀ w, (zeroValue 128).run Tryz.prog w = .ok (.agg (Array.replicate 256 (.bool false))) w) (s chars : ByteArray) (w : World) (hs : s.size < 4294967281) (hcs : chars.size < 4294967281) (has : ∀ (j : Nat) b, s.data.toList[j]? = some b → b.toNat < 128) (hac : ∀ (j : Nat) b, chars.data.toList[j]? = some b → b.toNat < 128) :
    Calls Tryz.prog 85 #[.string s, .string chars] w fun e w' => e = .returned (.bool (Lib.containsAny s.data.toList chars.data.toList)) ∧ Below w.heap.size w w' := Any.strings_ContainsAny Tryz.lays150 hv116 (by kernel_rfl) s chars w hs hcs has hac
def Tryz.lays105_ren : Go.Shelf.Ren := ⟨fun | 105 => 37 | 212 => 54 | 99 => 55 | 165 => 56 | 166 => 57 | 170 => 58 | 169 => 41 | 263 => 73 | 264 => 74 | 206 => 75 | 240 => 60 | 241 => 76 | 276 => 77 | 277 => 92 | n => n, fun | 9 => 9 | 3 => 3 | 4 => 4 | 20 => 20 | 0 => 0 | 46 => 59 | 109 => 79 | 5 => 5 | 72 => 71 | 76 => 82 | 51 => 41 | 146 => 97 | 53 => 54 | 148 => 99 | 70 => 69 | 37 => 36 | 75 => 73 | 127 => 86 | 164 => 101 | 80 => 75 | n => n, fun | n => n⟩
theorem Tryz.lays105 : Go.Proofs.Lays.n105 Tryz.prog Tryz.lays105_ren := {
  mixed := by kernel_rfl
  f99 := Tryz.func55.trans (congrArg some (by kernel_rfl))
  f105 := Tryz.func37.trans (congrArg some (by kernel_rfl))
  f165 := Tryz.func56.trans (congrArg some (by kernel_rfl))
  f166 := Tryz.func57.trans (congrArg some (by kernel_rfl))
  f169 := Tryz.func41.trans (congrArg some (by kernel_rfl))
  f170 := Tryz.func58.trans (congrArg some (by kernel_rfl))
  f206 := Tryz.func75.trans (congrArg some (by kernel_rfl))
  f212 := Tryz.func54.trans (congrArg some (by kernel_rfl))
  f240 := Tryz.func60.trans (congrArg some (by kernel_rfl))
  f241 := Tryz.func76.trans (congrArg some (by kernel_rfl))
  f263 := Tryz.func73.trans (congrArg some (by kernel_rfl))
  f264 := Tryz.func74.trans (congrArg some (by kernel_rfl))
  f276 := Tryz.func77.trans (congrArg some (by kernel_rfl))
  f277 := Tryz.func92.trans (congrArg some (by kernel_rfl))
  t0 := Tryz.underlying0
  a0 := Tryz.isAgg0
  z0 := Tryz.sizeOf0
  v0 := Tryz.zeroValue0
  t3 := Tryz.underlying3
  a3 := Tryz.isAgg3
  z3 := Tryz.sizeOf3
  v3 := Tryz.zeroValue3
  t4 := Tryz.underlying4
  a4 := Tryz.isAgg4
  z4 := Tryz.sizeOf4
  v4 := Tryz.zeroValue4
  t5 := Tryz.underlying5
  a5 := Tryz.isAgg5
  z5 := Tryz.sizeOf5
  v5 := Tryz.zeroValue5
  t9 := Tryz.underlying9
  a9 := Tryz.isAgg9
  z9 := Tryz.sizeOf9
  v9 := Tryz.zeroValue9
  t20 := Tryz.underlying20
  a20 := Tryz.isAgg20
  z20 := Tryz.sizeOf20
  v20 := Tryz.zeroValue20
  t37 := Tryz.underlying36
  a37 := Tryz.isAgg36
  z37 := Tryz.sizeOf36
  v37 := Tryz.zeroValue36
  t46 := Tryz.underlying59
  a46 := Tryz.isAgg59
  z46 := Tryz.sizeOf59
  v46 := Tryz.zeroValue59
  t51 := Tryz.underlying41
  a51 := Tryz.isAgg41
  z51 := Tryz.sizeOf41
  v51 := Tryz.zeroValue41
  t53 := Tryz.underlying54
  a53 := Tryz.isAgg54
  z53 := Tryz.sizeOf54
  v53 := Tryz.zeroValue54
  t70 := Tryz.underlying69
  a70 := Tryz.isAgg69
  z70 := Tryz.sizeOf69
  v70 := Tryz.zeroValue69
  t72 := Tryz.underlying71
  a72 := Tryz.isAgg71
  z72 := Tryz.sizeOf71
  v72 := Tryz.zeroValue71
  t75 := Tryz.underlying73
  a75 := Tryz.isAgg73
  z75 := Tryz.sizeOf73
  v75 := Tryz.zeroValue73
  t76 := Tryz.underlying82
  a76 := Tryz.isAgg82
  z76 := Tryz.sizeOf82
  v76 := Tryz.zeroValue82
  t109 := Tryz.underlying79
  a109 := Tryz.isAgg79
  z109 := Tryz.sizeOf79
  v109 := Tryz.zeroValue79
  t127 := Tryz.underlying86
  a127 := Tryz.isAgg86
  z127 := Tryz.sizeOf86
  v127 := Tryz.zeroValue86
  t146 := Tryz.underlying97
  a146 := Tryz.isAgg97
  z146 := Tryz.sizeOf97
  v146 := Tryz.zeroValue97
  t148 := Tryz.underlying99
  a148 := Tryz.isAgg99
  z148 := Tryz.sizeOf99
  v148 := Tryz.zeroValue99
  t164 := Tryz.underlying101
  a164 := Tryz.isAgg101
  z164 := Tryz.sizeOf101
  v164 := Tryz.zeroValue101 }
theorem Tryz.Builder_Extra_105 : Builder.Extra Tryz.prog Tryz.lays105_ren := {
  sizeBuilder := by kernel_rfl
  liesBuilder := by kernel_rfl
  t5 := Tryz.underlying5
  a5 := Tryz.isAgg5
  z5 := Tryz.sizeOf5
  v5 := Tryz.zeroValue5
  infoByte := by kernel_rfl
  cellsByte := by kernel_rfl
  sizeByte := by kernel_rfl
  neB5 := by decide }
open Go.RowKit Go.Lib in
/-- **strings.Repeat: count ≥ 0, the result within one allocation: count copies of s.** (LAID: no walk: one application.) -/
theorem Tryz.strings_Repeat (s : ByteArray) (c : Nat) (w : World) (hc : c ≤ 9223372036854775807) (hlen : s.size * c ≤ 140737488355328) :
    Calls Tryz.prog 37 #[.string s, .int .i64 c] w fun e w' => e = .returned (.string ⟨(Lib.repeatL s.data.toList c).toArray⟩) ∧ Below w.heap.size w w' := Any.strings_Repeat Tryz.lays105 Tryz.Builder_Extra_105 s c w hc hlen
def Tryz.lays260_ren : Go.Shelf.Ren := ⟨fun | 260 => 124 | n => n, fun | 9 => 9 | 21 => 21 | 3 => 3 | 4 => 4 | 5 => 5 | 119 => 151 | 0 => 0 | 46 => 59 | 139 => 154 | 138 => 153 | n => n, fun | 3 => 4 | 4 => 5 | n => n⟩
theorem Tryz.lays260 : Go.Proofs.Lays.n260 Tryz.prog Tryz.lays260_ren := {
  mixed := by kernel_rfl
  f260 := Tryz.func124.trans (congrArg some (by kernel_rfl))
  t0 := Tryz.underlying0
  a0 := Tryz.isAgg0
  z0 := Tryz.sizeOf0
  v0 := Tryz.zeroValue0
  t3 := Tryz.underlying3
  a3 := Tryz.isAgg3
  z3 := Tryz.sizeOf3
  v3 := Tryz.zeroValue3
  t4 := Tryz.underlying4
  a4 := Tryz.isAgg4
  z4 := Tryz.sizeOf4
  v4 := Tryz.zeroValue4
  t5 := Tryz.underlying5
  a5 := Tryz.isAgg5
  z5 := Tryz.sizeOf5
  v5 := Tryz.zeroValue5
  t9 := Tryz.underlying9
  a9 := Tryz.isAgg9
  z9 := Tryz.sizeOf9
  v9 := Tryz.zeroValue9
  t21 := Tryz.underlying21
  a21 := Tryz.isAgg21
  z21 := Tryz.sizeOf21
  v21 := Tryz.zeroValue21
  t46 := Tryz.underlying59
  a46 := Tryz.isAgg59
  z46 := Tryz.sizeOf59
  v46 := Tryz.zeroValue59
  t119 := Tryz.underlying151
  a119 := Tryz.isAgg151
  z119 := Tryz.sizeOf151
  t138 := Tryz.underlying153
  a138 := Tryz.isAgg153
  z138 := Tryz.sizeOf153
  v138 := Tryz.zeroValue153
  t139 := Tryz.underlying154
  a139 := Tryz.isAgg154
  z139 := Tryz.sizeOf154
  v139 := Tryz.zeroValue154
  g3 := by kernel_rfl
  g4 := by kernel_rfl }
open Go.RowKit Go.Lib in
/-- **unicode/utf8.DecodeRuneInString AT EVERY STRING.** (LAID: no walk: one application.) -/
theorem Tryz.utf8_DecodeRuneInString (s : ByteArray) (w : World) (hT : Lib.Utf8Tabs 4 5 w) :
    Calls Tryz.prog 115 #[.string s] w fun e w' => e = .returned (.tuple #[.int .i32 (Lib.decodeGo s).1, .int .i64 (Lib.decodeGo s).2]) ∧ Below w.heap.size w w' := Any.utf8_DecodeRuneInString Tryz.lays197 s w hT
end Go.Proofs


/- What the rows of a seat with laid tables and sentinels share: the tables, the witness. -/
set_option linter.unusedVariables false
set_option linter.unusedSimpArgs false
namespace Go.Proofs.YtkbedfjhchhikaaGreatDoor.row
open Go Go.ChangeShapes Go.WideShapes Go.ChangeAt Go.RowKit Go.Proofs Go.Shelf Go.Proofs.YtkbedfjhchhikaaGreatDoor.Eng Go.Proofs.YtkbedfjhchhikaaGreatDoor.Eng.Rdv

theorem own : ownKnob Tryz.prog.godebug = none := by kernel_rfl
theorem laidOut : laidOutB Tryz.prog = true := by kernel_rfl
section
variable {H : Type} {enc : TypeId × Value → H} {P : Program} {w : World} {base : Nat} {sp : Nat → Bool} {held : Bool}
theorem arr_len {fuel : Nat} {t e : TypeId} {n : Nat} {cs : List Value} {d : DataW H} {p : List MemPlace} (ht : P.underlying t = some (.array n e)) (h : DataW.trod enc P w base sp held fuel t cs = some (d, p)) : cs.length = P.cellsOf t := by
  cases fuel with
  | zero => simp [DataW.trod] at h
  | succ fuel =>
    simp only [DataW.trod, ht] at h
    split at h
    · assumption
    · cases h
theorem iface_only {fuel : Nat} {t : TypeId} {ms : Array (String × TypeId)} {cs : List Value} {nm : String} {d : DataW H} {p : List MemPlace} (ht : P.underlying t = some (.interface ms)) (h : DataW.trod enc P w base sp held fuel t cs = some (.iface nm d, p)) : ∃ u v, cs = [.iface u v] := by
  cases fuel with
  | zero => simp [DataW.trod] at h
  | succ fuel =>
    simp only [DataW.trod, ht] at h
    split at h <;> first | exact ⟨_, _, rfl⟩ | (cases h; done) | simp_all
end
theorem add0 (g j : Nat) : (⟨g, 0, none⟩ : Addr).add j = ⟨g, j, none⟩ := by rw [add_lit', Nat.zero_add]
/-- A variable of so many leaves, cell by cell. -/
theorem glob_one {W : World} {g : Nat} {arr : Array Value} {name : String} (hn : Tryz.prog.globalNamed name = some g) (hv : W.var? Tryz.prog name = some arr) (cs : List AV) (f : Nat → Value) (hl : arr.size = cs.length) (hleaf : ∀ (j : Nat) (c : AV), cs[j]? = some c → c.leaf = true ∧ arr[j]? = some (f j) ∧ V (stab W) c (f j)) :
    V (stab W) (.eptr cs 0) (.pointer (some ⟨g, 0, none⟩)) ∧ ∃ arr t f, W.heap[g]? = some (.cells arr t f) ∧ arr.size = cs.length := by
  refine ⟨?_, ?_⟩
  · have := V.eptr (S := stab W) cs 0 ⟨g, 0, none⟩ f (fun j c h => (hleaf j c h).1) (fun j c h => by
      rw [add0]
      show W.cell? ⟨g, j, none⟩ = _
      rw [World.var?_cell hn hv j]
      exact (hleaf j c h).2.1) (fun j c h => (hleaf j c h).2.2)
    rwa [add0] at this
  · unfold World.var? at hv
    rw [hn, Option.bind_some] at hv
    split at hv
    · rename_i cs' t f' he
      obtain rfl := Option.some.inj hv
      exact ⟨_, _, _, he, hl⟩
    · cases hv
theorem ints_one {W : World} {g : Nat} {name : String} {k : IntKind} {zs : List Int} (hn : Tryz.prog.globalNamed name = some g) (hv : W.var? Tryz.prog name = some (zs.map fun z => Value.int k z).toArray) :
    V (stab W) (.eptr (zs.map fun z => .int k z) 0) (.pointer (some ⟨g, 0, none⟩)) ∧ ∃ arr t f, W.heap[g]? = some (.cells arr t f) ∧ arr.size = (zs.map fun z => AV.int k z).length := by
  refine glob_one hn hv _ (fun j => .int k (zs.getD j 0)) (by simp) fun j c hc => ?_
  rw [List.getElem?_map] at hc
  obtain ⟨z, hz, rfl⟩ := Option.map_eq_some_iff.1 hc
  refine ⟨rfl, ?_, ?_⟩
  · simp [List.getD_eq_getElem?_getD, hz]
  · rw [List.getD_eq_getElem?_getD, hz]; exact V.int _ _
theorem iface_one {W : World} {g : Nat} {name : String} {nm : String} {d : DataW Unit} {t : TypeId} {ms : Array (String × TypeId)} (hn : Tryz.prog.globalNamed name = some g) (hy : (Tryz.prog.globals[g]?).map (·.type) = some t) (hi : Tryz.prog.underlying t = some (.interface ms)) (h : Lib.VarReads Tryz.prog W name (.iface nm d)) :
    V (stab W) (.eptr [.ifc] 0) (.pointer (some ⟨g, 0, none⟩)) ∧ ∃ arr t f, W.heap[g]? = some (.cells arr t f) ∧ arr.size = [AV.ifc].length := by
  obtain ⟨g', t', cs, fuel, p, hg, hty, hvar, hd⟩ := h
  obtain rfl := Option.some.inj (hn.symm.trans hg)
  obtain rfl := Option.some.inj (hy.symm.trans hty)
  obtain ⟨u, v, e⟩ := iface_only hi hd
  obtain ⟨cs⟩ := cs
  obtain rfl : cs = [.iface u v] := e
  refine glob_one hn hvar _ (fun _ => .iface u v) rfl fun j c hc => ?_
  match j with
  | 0 => cases hc; exact ⟨rfl, rfl, V.ifc _ _⟩
  | j + 1 => simp at hc
theorem tab_var {W : World} {g : Nat} {name : String} {k : IntKind} {zs : List Int} {t e : TypeId} {n : Nat} (hn : Tryz.prog.globalNamed name = some g) (hy : (Tryz.prog.globals[g]?).map (·.type) = some t) (ht : Tryz.prog.underlying t = some (.array n e)) (he : Tryz.prog.underlying e = some (.int k)) (hce : Tryz.prog.cellsOf e = 1) (hct : Tryz.prog.cellsOf t = n) (h : Lib.VarReads Tryz.prog W name (Lib.tabData k zs)) : W.var? Tryz.prog name = some (zs.map fun z => Value.int k z).toArray := by
  obtain ⟨g', t', cs, fuel, p, hg, hty, hvar, hd⟩ := h
  obtain rfl := Option.some.inj (hn.symm.trans hg)
  obtain rfl := Option.some.inj (hy.symm.trans hty)
  rw [hvar, ← Lib.cells_of_tab ht he hce hct hd]
/-- What the row's laid variables give. -/
theorem tables {W : World} {l : List (String × DataW Unit)} (hl : l = [("math/bits.deBruijn32tab", Rows.laid_math_bits_deBruijn32tab), ("math/bits.deBruijn64tab", Rows.laid_math_bits_deBruijn64tab), ("internal/strconv.uint64pow10", Rows.laid_internal_strconv_uint64pow10), ("unicode/utf8.acceptRanges", Rows.laid_unicode_utf8_acceptRanges), ("strconv.ErrRange", Rows.laid_strconv_ErrRange), ("strconv.ErrSyntax", Rows.laid_strconv_ErrSyntax), ("unicode/utf8.first", Rows.laid_unicode_utf8_first)]) (h : laidMetH Tryz.prog l W) : GlobOk U.glob (stab W) W := by
  subst hl
  have h' : laidMet Tryz.prog [("math/bits.deBruijn32tab", Rows.laid_math_bits_deBruijn32tab), ("math/bits.deBruijn64tab", Lib.tabData .u8 [0, 1, 56, 2, 57, 49, 28, 3, 61, 58, 42, 50, 38, 29, 17, 4, 62, 47, 59, 36, 45, 43, 51, 22, 53, 39, 33, 30, 24, 18, 12, 5, 63, 55, 48, 27, 60, 41, 37, 16, 46, 35, 44, 21, 52, 32, 23, 11, 54, 26, 40, 15, 34, 20, 31, 10, 25, 14, 19, 9, 13, 8, 7, 6]), ("internal/strconv.uint64pow10", Lib.tabData .u64 Lib.pow10Tab), ("unicode/utf8.acceptRanges", Lib.acceptData), ("strconv.ErrRange", Rows.laid_strconv_ErrRange), ("strconv.ErrSyntax", Rows.laid_strconv_ErrSyntax), ("unicode/utf8.first", Lib.firstData)] W := by
    have e1 : (Rows.laid_unicode_utf8_acceptRanges : DataW Unit) = Lib.acceptData := by kernel_rfl
    have e2 : Rows.laid_unicode_utf8_first = Lib.firstData := by kernel_rfl
    have e3 : (Rows.laid_internal_strconv_uint64pow10 : DataW Unit) = Lib.tabData .u64 Lib.pow10Tab := by kernel_rfl
    have e4 : (Rows.laid_math_bits_deBruijn64tab : DataW Unit) = Lib.tabData .u8 [0, 1, 56, 2, 57, 49, 28, 3, 61, 58, 42, 50, 38, 29, 17, 4, 62, 47, 59, 36, 45, 43, 51, 22, 53, 39, 33, 30, 24, 18, 12, 5, 63, 55, 48, 27, 60, 41, 37, 16, 46, 35, 44, 21, 52, 32, 23, 11, 54, 26, 40, 15, 34, 20, 31, 10, 25, 14, 19, 9, 13, 8, 7, 6] := by kernel_rfl
    rw [← e1, ← e2, ← e3, ← e4]
    exact h
  have r2 : Lib.VarReads Tryz.prog W "math/bits.deBruijn64tab" (Lib.tabData .u8 [0, 1, 56, 2, 57, 49, 28, 3, 61, 58, 42, 50, 38, 29, 17, 4, 62, 47, 59, 36, 45, 43, 51, 22, 53, 39, 33, 30, 24, 18, 12, 5, 63, 55, 48, 27, 60, 41, 37, 16, 46, 35, 44, 21, 52, 32, 23, 11, 54, 26, 40, 15, 34, 20, 31, 10, 25, 14, 19, 9, 13, 8, 7, 6]) := Lib.laidMet.reads h' (.tail _ (.head _))
  have r1 : Lib.VarReads Tryz.prog W "internal/strconv.uint64pow10" (Lib.tabData .u64 Lib.pow10Tab) := Lib.laidMet.reads h' (.tail _ (.tail _ (.head _)))
  have r3 : Lib.VarReads Tryz.prog W "strconv.ErrSyntax" Rows.laid_strconv_ErrSyntax := Lib.laidMet.reads h' (.tail _ (.tail _ (.tail _ (.tail _ (.tail _ (.head _))))))
  have r4 : Lib.VarReads Tryz.prog W "strconv.ErrRange" Rows.laid_strconv_ErrRange := Lib.laidMet.reads h' (.tail _ (.tail _ (.tail _ (.tail _ (.head _)))))
  have r7 : Lib.VarReads Tryz.prog W "unicode/utf8.first" Lib.firstData := Lib.laidMet.reads h' (.tail _ (.tail _ (.tail _ (.tail _ (.tail _ (.tail _ (.head _)))))))
  have r8 : Lib.VarReads Tryz.prog W "unicode/utf8.acceptRanges" Lib.acceptData := Lib.laidMet.reads h' (.tail _ (.tail _ (.tail _ (.head _))))
  have hU : Lib.Utf8Tabs 4 5 W := Go.Proofs.utf8Tabs_of_reads (P := Tryz.prog) (ρ := Tryz.lays260_ren) { Tryz.lays260 with } ⟨by kernel_rfl, by kernel_rfl, by kernel_rfl, by kernel_rfl, by kernel_rfl, by kernel_rfl, by kernel_rfl⟩ r7 r8
  intro g cs hg
  unfold U.glob at hg
  split at hg
  · rename_i h0
    subst h0
    obtain rfl := Option.some.inj hg
    have := ints_one (g := 4) (name := "unicode/utf8.first") (by kernel_rfl) (tab_var (g := 4) (t := 151) (e := 5) (n := 256) (by kernel_rfl) (by kernel_rfl) Tryz.underlying151 Tryz.underlying5 (by kernel_rfl) (by kernel_rfl) r7)
    rw [Lib.firstTab, List.map_map] at this
    exact this
  · split at hg
    · rename_i h0 h1
      subst h1
      obtain rfl := Option.some.inj hg
      obtain ⟨g', t', cs, fuel, p, hgn, hty, hvar, hd⟩ := r8
      obtain rfl := Option.some.inj ((show Tryz.prog.globalNamed "unicode/utf8.acceptRanges" = some 5 by kernel_rfl).symm.trans hgn)
      obtain rfl := Option.some.inj ((show (Tryz.prog.globals[5]?).map (·.type) = some 154 by kernel_rfl).symm.trans hty)
      have hlen := arr_len Tryz.underlying154 hd
      have hsz : Tryz.prog.cellsOf 154 = 32 := by kernel_rfl
      rw [hsz, Array.length_toList] at hlen
      refine glob_one hgn hvar _ (fun i => .int .u8 (((if i % 2 = 0 then Lib.accLo (i / 2) else Lib.accHi (i / 2) : Nat) : Int))) (by simp [hlen]) fun j c hc => ?_
      rw [List.getElem?_map] at hc
      obtain ⟨x, hx, rfl⟩ := Option.map_eq_some_iff.1 hc
      obtain ⟨hj, rfl⟩ := List.getElem?_eq_some_iff.1 hx
      rw [List.length_range] at hj
      rw [List.getElem_range]
      refine ⟨rfl, ?_, V.int _ _⟩
      rw [← World.var?_cell hgn hvar j]
      obtain ⟨h2, h3⟩ := hU.2 (j / 2) (by omega)
      by_cases hm : j % 2 = 0
      · rw [if_pos hm]
        rwa [show 2 * (j / 2) = j from by omega] at h2
      · rw [if_neg hm]
        rwa [show 2 * (j / 2) + 1 = j from by omega] at h3
    · split at hg
      · rename_i h0 h1 h2
        subst h2
        obtain rfl := Option.some.inj hg
        exact ints_one (g := 0) (name := "internal/strconv.uint64pow10") (by kernel_rfl) (tab_var (g := 0) (t := 111) (e := 54) (n := 20) (by kernel_rfl) (by kernel_rfl) Tryz.underlying111 Tryz.underlying54 (by kernel_rfl) (by kernel_rfl) r1)
      · split at hg
        · rename_i h0 h1 h2 h3
          subst h3
          obtain rfl := Option.some.inj hg
          exact iface_one (name := "strconv.ErrSyntax") (by kernel_rfl) (t := 73) (by kernel_rfl) Tryz.underlying73 r3
        · split at hg
          · rename_i h0 h1 h2 h3 h4
            subst h4
            obtain rfl := Option.some.inj hg
            exact iface_one (name := "strconv.ErrRange") (by kernel_rfl) (t := 73) (by kernel_rfl) Tryz.underlying73 r4
          · split at hg
            · rename_i h0 h1 h2 h3 h4 h5
              subst h5
              obtain rfl := Option.some.inj hg
              exact ints_one (g := 3) (name := "math/bits.deBruijn64tab") (by kernel_rfl) (tab_var (g := 3) (t := 139) (e := 5) (n := 64) (by kernel_rfl) (by kernel_rfl) Tryz.underlying139 Tryz.underlying5 (by kernel_rfl) (by kernel_rfl) r2)
            · cases hg
/-- The cells that a datum of numbers is. -/
def litV : DataW Unit → Value
  | .lit (.int k n) => .int k n
  | _ => .nilIface
def rowV : DataW Unit → Array Value
  | .agg l => (l.map litV).toArray
  | _ => #[]
/-- So many blocks has the settled world. -/
noncomputable def low : Nat := (World.holding Tryz.prog default ⟨#[], #[], []⟩).heap.size
/-- The witness: the settled memory with the two errors' texts behind it, the variables holding what their initialisers lay. -/
noncomputable def laidWorld (os : Os) : World :=
  let w0 := World.holding Tryz.prog os ⟨#[.cells #[.string ⟨#[118, 97, 108, 117, 101, 32, 111, 117, 116, 32, 111, 102, 32, 114, 97, 110, 103, 101]⟩] 162, .cells #[.string ⟨#[105, 110, 118, 97, 108, 105, 100, 32, 115, 121, 110, 116, 97, 120]⟩] 162], #[], []⟩
  let put (h : Array Obj) (g : Nat) (cs : Array Value) : Array Obj := h.modify g fun
    | .cells _ t frozen => .cells cs t frozen
    | o => o
  let h1 := put w0.heap 4 (Lib.firstTab.map fun z => Value.int .u8 z).toArray
  let h2 := put h1 5 ((List.range 16).flatMap fun i => [Value.int .u8 (Lib.accLo i), Value.int .u8 (Lib.accHi i)]).toArray
  let h3 := put h2 2 (rowV Rows.laid_math_bits_deBruijn32tab)
  let h4 := put h3 3 (rowV Rows.laid_math_bits_deBruijn64tab)
  let h5 := put h4 0 (rowV Rows.laid_internal_strconv_uint64pow10)
  let h6 := put h5 7 #[.iface 160 (.pointer (some ⟨low, 0, none⟩))]
  let h7 := put h6 6 #[.iface 160 (.pointer (some ⟨low + 1, 0, none⟩))]
  { w0 with heap := h7 }
noncomputable abbrev laidBlocks : List Nat := [2, 3, 0, 5, 7, 6, 4, low, low + 1]
theorem cells_slice (a : Option Addr) (l c : Nat) : (Value.slice a l c).cells.toList = [Value.slice a l c] := rfl
end Go.Proofs.YtkbedfjhchhikaaGreatDoor.row


/- What functions answer, as the engine evaluates their code. Printed by gen2.py. -/
set_option linter.unusedVariables false
namespace Go.Proofs.YtkbedfjhchhikaaGreatDoor.Eng.U
open Go Go.Proofs Go.Proofs.YtkbedfjhchhikaaGreatDoor.Eng
/- oakum/oakumlaw32.CrcLists -/
noncomputable def law32_CrcLists_bd : Code := Tryz.f3.body.getD .skip
noncomputable def law32_CrcLists_L0 (kap : FuncId → List AV → Option AV) (k : Nat) (k0 : Nat) (s0 : List AV) (s3 : List AV) (s4 : Int) (s6 : Bool) (s7 : Int) (x5 : List AV) : Option AV :=
  loop (fun fr K => code ((bs E0 k).cfg kap law32_CrcLists) (sel law32_CrcLists_bd [1, 1, 1, 1, 1, 1, 0, 1, 0, 0]) fr K) (canon ((bs E0 k).cfg kap law32_CrcLists) (firstReg (sel law32_CrcLists_bd [1, 1, 1, 1, 1, 1, 0, 1, 0, 0]))) k0 (mkFr 125 [(0, (.list 15 s0)), (3, (.list 1 s3)), (4, (.int .u8 s4)), (5, (.own 5)), (6, (.bool s6)), (7, (.int .i64 s7))] [(5, (.row 9 x5 false))]) (plug ((bs E0 k).cfg kap law32_CrcLists) (retK ((bs E0 k).cfg kap law32_CrcLists) [] Tryz.f3 [] some) [.blk 0, .seqR (sel law32_CrcLists_bd [1, 1, 1, 1, 1, 1, 1])])
noncomputable def law32_CrcLists_L1 (kap : FuncId → List AV → Option AV) (k : Nat) (k1 : Nat) (s3 : List AV) (s11 : Int) (x5 : List AV) : Option AV :=
  loop (fun fr K => code ((bs E0 k).cfg kap law32_CrcLists) (sel law32_CrcLists_bd [1, 1, 1, 1, 1, 1, 1, 1, 1, 0, 1, 0, 0]) fr K) (canon ((bs E0 k).cfg kap law32_CrcLists) (firstReg (sel law32_CrcLists_bd [1, 1, 1, 1, 1, 1, 1, 1, 1, 0, 1, 0, 0]))) k1 (mkFr 125 [(3, (.list 1 s3)), (5, (.own 5)), (11, (.int .i64 s11))] [(5, (.row 9 x5 false))]) (plug ((bs E0 k).cfg kap law32_CrcLists) (retK ((bs E0 k).cfg kap law32_CrcLists) [] Tryz.f3 [] some) [.blk 2, .seqR (sel law32_CrcLists_bd [1, 1, 1, 1, 1, 1, 1, 1, 1, 1])])
theorem law32_CrcLists_L0_s (kap : FuncId → List AV → Option AV) (k : Nat) (k0 : Nat) (s0 : List AV) (s3 : List AV) (s4 : Int) (s6 : Bool) (s7 : Int) (x5 : List AV) : law32_CrcLists_L0 kap k (k0 + 1) s0 s3 s4 s6 s7 x5 =
  (bif (decide (s7 < (((List.length s0) : Nat) : Int))) then (bif ((decide ((0 : Int) ≤ s7)) && (decide (s7 < (((List.length s0) : Nat) : Int)))) then ((s0[(Int.toNat s7)]?).bind fun vy11 => (cellI .i64 (AV.cells vy11) 0 fun vn12 => (cellS (AV.cells vy11) 1 fun vs13 => (cellS (AV.cells vy11) 2 fun vs14 => (cellI .i64 (AV.cells vy11) 3 fun vn15 => (cellI .i64 (AV.cells vy11) 4 fun vn16 => (cellI .i64 (AV.cells vy11) 5 fun vn17 => (cellI .i64 (AV.cells vy11) 6 fun vn18 => (cellI .i64 (AV.cells vy11) 7 fun vn19 => (cellI .i64 (AV.cells vy11) 8 fun vn20 => (cellS (AV.cells vy11) 9 fun vs21 => (cellS (AV.cells vy11) 10 fun vs22 => (cellI .i64 (AV.cells vy11) 11 fun vn23 => (cellI .i64 (AV.cells vy11) 12 fun vn24 => (cellL 2 (AV.cells vy11) 13 fun vl25 => (cellL 1 (AV.cells vy11) 14 fun vl26 => (callT (kap crc_Line [(.agg [(.int .i64 vn12), (.str vs13), (.str vs14), (.int .i64 vn15), (.int .i64 vn16), (.int .i64 vn17), (.int .i64 vn18), (.int .i64 vn19), (.int .i64 vn20), (.str vs21), (.str vs22), (.int .i64 vn23), (.int .i64 vn24), (.list 2 vl25), (.list 1 vl26)])]) fun vt28 => (tupS vt28 fun vs29 vt30 => (tupI .u8 vt30 fun vn31 vt32 => (atNil vt32 (bif ((decide ((0 : Int) ≤ s7)) && (decide (s7 < (((List.length s0) : Nat) : Int)))) then ((s0[(Int.toNat s7)]?).bind fun vy33 => (cellI .i64 (AV.cells vy33) 0 fun vn34 => (cellS (AV.cells vy33) 1 fun vs35 => (cellS (AV.cells vy33) 2 fun vs36 => (cellI .i64 (AV.cells vy33) 3 fun vn37 => (cellI .i64 (AV.cells vy33) 4 fun vn38 => (cellI .i64 (AV.cells vy33) 5 fun vn39 => (cellI .i64 (AV.cells vy33) 6 fun vn40 => (cellI .i64 (AV.cells vy33) 7 fun vn41 => (cellI .i64 (AV.cells vy33) 8 fun vn42 => (cellS (AV.cells vy33) 9 fun vs43 => (cellS (AV.cells vy33) 10 fun vs44 => (cellI .i64 (AV.cells vy33) 11 fun vn45 => (cellI .i64 (AV.cells vy33) 12 fun vn46 => (cellL 2 (AV.cells vy33) 13 fun vl47 => (cellL 1 (AV.cells vy33) 14 fun vl48 => (callB (kap ref09_Right [(.agg [(.int .i64 vn34), (.str vs35), (.str vs36), (.int .i64 vn37), (.int .i64 vn38), (.int .i64 vn39), (.int .i64 vn40), (.int .i64 vn41), (.int .i64 vn42), (.str vs43), (.str vs44), (.int .i64 vn45), (.int .i64 vn46), (.list 2 vl47), (.list 1 vl48)])]) fun vq50 => (bif s6 then (bif (!vq50) then (bif (!(decide ((IntKind.wrap .i64 vn31) = (15 : Int)))) then (some (.bool false)) else (bif (!(decide (vs29 = (str [])))) then (some (.bool false)) else (law32_CrcLists_L0 kap k k0 s0 s3 s4 true (IntKind.wrap .i64 (s7 + (1 : Int))) x5))) else (bif ((decide ((0 : Int) ≤ s7)) && (decide (s7 < (((List.length s0) : Nat) : Int)))) then ((s0[(Int.toNat s7)]?).bind fun vy51 => (cellI .i64 (AV.cells vy51) 0 fun vn52 => (bif (!(decide (vn52 = (1 : Int)))) then (bif (!(decide ((IntKind.wrap .i64 vn31) = (15 : Int)))) then (some (.bool false)) else (bif (!(decide (vs29 = (str [])))) then (some (.bool false)) else (law32_CrcLists_L0 kap k k0 s0 s3 s4 true (IntKind.wrap .i64 (s7 + (1 : Int))) x5))) else (bif ((decide ((0 : Int) ≤ s7)) && (decide (s7 < (((List.length s0) : Nat) : Int)))) then ((s0[(Int.toNat s7)]?).bind fun vy53 => (cellS (AV.cells vy53) 1 fun vs54 => (bif ((decide ((0 : Int) ≤ s7)) && (decide (s7 < (((List.length s0) : Nat) : Int)))) then ((s0[(Int.toNat s7)]?).bind fun vy55 => (cellL 1 (AV.cells vy55) 14 fun vl56 => (callS (kap ref32_Line [(.str vs54), (.list 1 vl56)]) fun vs58 => (bif (decide (((List.length x5) + 1) * 16 ≤ 140737488355328) && decide (((List.length x5) + 1) ≤ 9223372036854775807)) then (bif (!(decide ((IntKind.wrap .i64 vn31) = (0 : Int)))) then (some (.bool false)) else (bif ((decide ((0 : Int) ≤ (IntKind.wrap .i64 ((((List.length (x5 ++ [(.str vs58)])) : Nat) : Int) - (1 : Int))))) && (decide ((IntKind.wrap .i64 ((((List.length (x5 ++ [(.str vs58)])) : Nat) : Int) - (1 : Int))) < (((List.length (x5 ++ [(.str vs58)])) : Nat) : Int)))) then (((x5 ++ [(.str vs58)])[(Int.toNat (IntKind.wrap .i64 ((((List.length (x5 ++ [(.str vs58)])) : Nat) : Int) - (1 : Int))))]?).bind fun vy59 => (cellS (AV.cells vy59) 0 fun vs60 => (bif (!(decide (vs29 = vs60))) then (some (.bool false)) else (law32_CrcLists_L0 kap k k0 s0 s3 s4 true (IntKind.wrap .i64 (s7 + (1 : Int))) (x5 ++ [(.str vs58)]))))) else none)) else none)))) else none))) else none)))) else none)) else (bif (!vq50) then (bif (!(decide ((IntKind.wrap .i64 vn31) = (15 : Int)))) then (some (.bool false)) else (bif (!(decide (vs29 = (str [])))) then (some (.bool false)) else (law32_CrcLists_L0 kap k k0 s0 s3 s4 (!vq50) (IntKind.wrap .i64 (s7 + (1 : Int))) x5))) else (bif ((decide ((0 : Int) ≤ s7)) && (decide (s7 < (((List.length s0) : Nat) : Int)))) then ((s0[(Int.toNat s7)]?).bind fun vy61 => (cellI .i64 (AV.cells vy61) 0 fun vn62 => (bif (!(decide (vn62 = (1 : Int)))) then (bif (!(decide ((IntKind.wrap .i64 vn31) = (15 : Int)))) then (some (.bool false)) else (bif (!(decide (vs29 = (str [])))) then (some (.bool false)) else (law32_CrcLists_L0 kap k k0 s0 s3 s4 (!vq50) (IntKind.wrap .i64 (s7 + (1 : Int))) x5))) else (bif ((decide ((0 : Int) ≤ s7)) && (decide (s7 < (((List.length s0) : Nat) : Int)))) then ((s0[(Int.toNat s7)]?).bind fun vy63 => (cellS (AV.cells vy63) 1 fun vs64 => (bif ((decide ((0 : Int) ≤ s7)) && (decide (s7 < (((List.length s0) : Nat) : Int)))) then ((s0[(Int.toNat s7)]?).bind fun vy65 => (cellL 1 (AV.cells vy65) 14 fun vl66 => (callS (kap ref32_Line [(.str vs64), (.list 1 vl66)]) fun vs68 => (bif (decide (((List.length x5) + 1) * 16 ≤ 140737488355328) && decide (((List.length x5) + 1) ≤ 9223372036854775807)) then (bif (!(decide ((IntKind.wrap .i64 vn31) = (0 : Int)))) then (some (.bool false)) else (bif ((decide ((0 : Int) ≤ (IntKind.wrap .i64 ((((List.length (x5 ++ [(.str vs68)])) : Nat) : Int) - (1 : Int))))) && (decide ((IntKind.wrap .i64 ((((List.length (x5 ++ [(.str vs68)])) : Nat) : Int) - (1 : Int))) < (((List.length (x5 ++ [(.str vs68)])) : Nat) : Int)))) then (((x5 ++ [(.str vs68)])[(Int.toNat (IntKind.wrap .i64 ((((List.length (x5 ++ [(.str vs68)])) : Nat) : Int) - (1 : Int))))]?).bind fun vy69 => (cellS (AV.cells vy69) 0 fun vs70 => (bif (!(decide (vs29 = vs70))) then (some (.bool false)) else (law32_CrcLists_L0 kap k k0 s0 s3 s4 (!vq50) (IntKind.wrap .i64 (s7 + (1 : Int))) (x5 ++ [(.str vs68)]))))) else none)) else none)))) else none))) else none)))) else none)))))))))))))))))))) else none))))))))))))))))))))) else none) else (bif s6 then (bif (decide ((IntKind.wrap .i64 s4) = (15 : Int))) then (some (.bool (decide ((((List.length s3) : Nat) : Int) = (0 : Int))))) else (some (.bool false))) else (bif (!(decide ((IntKind.wrap .i64 s4) = (0 : Int)))) then (some (.bool false)) else (bif (!(decide ((((List.length s3) : Nat) : Int) = (((List.length x5) : Nat) : Int)))) then (some (.bool false)) else (law32_CrcLists_L1 kap k k s3 (0 : Int) x5))))) := by kernel_rfl
theorem law32_CrcLists_L1_s (kap : FuncId → List AV → Option AV) (k : Nat) (k1 : Nat) (s3 : List AV) (s11 : Int) (x5 : List AV) : law32_CrcLists_L1 kap k (k1 + 1) s3 s11 x5 =
  (bif (decide (s11 < (((List.length s3) : Nat) : Int))) then (bif ((decide ((0 : Int) ≤ s11)) && (decide (s11 < (((List.length s3) : Nat) : Int)))) then ((s3[(Int.toNat s11)]?).bind fun vy71 => (cellS (AV.cells vy71) 0 fun vs72 => (bif ((decide ((0 : Int) ≤ s11)) && (decide (s11 < (((List.length x5) : Nat) : Int)))) then ((x5[(Int.toNat s11)]?).bind fun vy73 => (cellS (AV.cells vy73) 0 fun vs74 => (bif (!(decide (vs72 = vs74))) then (some (.bool false)) else (law32_CrcLists_L1 kap k k1 s3 (IntKind.wrap .i64 (s11 + (1 : Int))) x5)))) else none))) else none) else (some (.bool true))) := by kernel_rfl
theorem law32_CrcLists_eq {E : Ext} [Core E] (k n : Nat) (a0 : List AV) : kp E k (n + 1) law32_CrcLists [(.list 15 a0)] =
  (callB (kp E k n law32_alive []) fun vq2 => (bif (!vq2) then (some (.bool false)) else (callB (kp E k n law17_Many [(.list 15 a0)]) fun vq4 => (bif vq4 then (some (.bool true)) else (callT (kp E k n crc_List [(.list 15 a0)]) fun vt6 => (tupL 1 vt6 fun vl7 vt8 => (tupI .u8 vt8 fun vn9 vt10 => (atNil vt10 (law32_CrcLists_L0 (kp E k n) k k a0 vl7 vn9 false (0 : Int) []))))))))) := (kp_at (by kernel_rfl)).trans (by kernel_rfl)
/- oakum/oakumlaw32.alive -/
theorem law32_alive_eq {E : Ext} [Core E] (k n : Nat)  : kp E k (n + 1) law32_alive [] =
  (callI .u32 (kp E k n crc_Sum [(.list 1 [(.int .u8 (49 : Int)), (.int .u8 (50 : Int)), (.int .u8 (51 : Int)), (.int .u8 (52 : Int)), (.int .u8 (53 : Int)), (.int .u8 (54 : Int)), (.int .u8 (55 : Int)), (.int .u8 (56 : Int)), (.int .u8 (57 : Int))])]) fun vn2 => (some (.bool (decide (vn2 = (3421780262 : Int)))))) := (kp_at (by kernel_rfl)).trans (by kernel_rfl)
/- oakum/crc.List -/
noncomputable def crc_List_bd : Code := Tryz.f6.body.getD .skip
noncomputable def crc_List_L0 (kap : FuncId → List AV → Option AV) (k : Nat) (k0 : Nat) (s7 : List AV) (s8 : Int) (s9 : Int) (x4 : List AV) : Option AV :=
  loop (fun fr K => code ((bs E0 k).cfg kap crc_List) (sel crc_List_bd [1, 1, 0, 1, 0, 0]) fr K) (canon ((bs E0 k).cfg kap crc_List) (firstReg (sel crc_List_bd [1, 1, 0, 1, 0, 0]))) k0 (mkFr 31 [(4, (.own 4)), (7, (.list 15 s7)), (8, (.int .i64 s8)), (9, (.int .i64 s9))] [(4, (.row 9 x4 false))]) (plug ((bs E0 k).cfg kap crc_List) (retK ((bs E0 k).cfg kap crc_List) [] Tryz.f6 [] some) [.blk 0, .seqR (sel crc_List_bd [1, 1, 1])])
theorem crc_List_L0_s (kap : FuncId → List AV → Option AV) (k : Nat) (k0 : Nat) (s7 : List AV) (s8 : Int) (s9 : Int) (x4 : List AV) : crc_List_L0 kap k (k0 + 1) s7 s8 s9 x4 =
  (bif (decide (s9 < s8)) then (bif ((decide ((0 : Int) ≤ s9)) && (decide (s9 < (((List.length s7) : Nat) : Int)))) then ((s7[(Int.toNat s9)]?).bind fun vy1 => (cellI .i64 (AV.cells vy1) 0 fun vn2 => (cellS (AV.cells vy1) 1 fun vs3 => (cellS (AV.cells vy1) 2 fun vs4 => (cellI .i64 (AV.cells vy1) 3 fun vn5 => (cellI .i64 (AV.cells vy1) 4 fun vn6 => (cellI .i64 (AV.cells vy1) 5 fun vn7 => (cellI .i64 (AV.cells vy1) 6 fun vn8 => (cellI .i64 (AV.cells vy1) 7 fun vn9 => (cellI .i64 (AV.cells vy1) 8 fun vn10 => (cellS (AV.cells vy1) 9 fun vs11 => (cellS (AV.cells vy1) 10 fun vs12 => (cellI .i64 (AV.cells vy1) 11 fun vn13 => (cellI .i64 (AV.cells vy1) 12 fun vn14 => (cellL 2 (AV.cells vy1) 13 fun vl15 => (cellL 1 (AV.cells vy1) 14 fun vl16 => (callB (kap item_Right [(.agg [(.int .i64 vn2), (.str vs3), (.str vs4), (.int .i64 vn5), (.int .i64 vn6), (.int .i64 vn7), (.int .i64 vn8), (.int .i64 vn9), (.int .i64 vn10), (.str vs11), (.str vs12), (.int .i64 vn13), (.int .i64 vn14), (.list 2 vl15), (.list 1 vl16)])]) fun vq18 => (bif (!vq18) then (some (.tup [(.list 1 []), (.int .u8 (15 : Int))])) else (bif (decide (vn2 = (1 : Int))) then (callS (kap crc_line [(.str vs3), (.list 1 vl16)]) fun vs20 => (bif (decide (((List.length x4) + 1) * 16 ≤ 140737488355328) && decide (((List.length x4) + 1) ≤ 9223372036854775807)) then (crc_List_L0 kap k k0 s7 s8 (IntKind.wrap .i64 (s9 + (1 : Int))) (x4 ++ [(.str vs20)])) else none)) else (crc_List_L0 kap k k0 s7 s8 (IntKind.wrap .i64 (s9 + (1 : Int))) x4)))))))))))))))))))) else none) else (some (.tup [(.list 1 x4), (.int .u8 (0 : Int))]))) := by kernel_rfl
theorem crc_List_eq {E : Ext} [Core E] (k n : Nat) (a0 : List AV) : kp E k (n + 1) crc_List [(.list 15 a0)] =
  (crc_List_L0 (kp E k n) k k a0 (((List.length a0) : Nat) : Int) (0 : Int) []) := (kp_at (by kernel_rfl)).trans (by kernel_rfl)
/- oakum/crc.Line -/
theorem crc_Line_eq {E : Ext} [Core E] (k n : Nat) (a0_0 : Int) (a0_1 : ByteArray) (a0_2 : ByteArray) (a0_3 : Int) (a0_4 : Int) (a0_5 : Int) (a0_6 : Int) (a0_7 : Int) (a0_8 : Int) (a0_9 : ByteArray) (a0_10 : ByteArray) (a0_11 : Int) (a0_12 : Int) (a0_13 : List AV) (a0_14 : List AV) : kp E k (n + 1) crc_Line [(.agg [(.int .i64 a0_0), (.str a0_1), (.str a0_2), (.int .i64 a0_3), (.int .i64 a0_4), (.int .i64 a0_5), (.int .i64 a0_6), (.int .i64 a0_7), (.int .i64 a0_8), (.str a0_9), (.str a0_10), (.int .i64 a0_11), (.int .i64 a0_12), (.list 2 a0_13), (.list 1 a0_14)])] =
  (callB (kp E k n item_Right [(.agg [(.int .i64 a0_0), (.str a0_1), (.str a0_2), (.int .i64 a0_3), (.int .i64 a0_4), (.int .i64 a0_5), (.int .i64 a0_6), (.int .i64 a0_7), (.int .i64 a0_8), (.str a0_9), (.str a0_10), (.int .i64 a0_11), (.int .i64 a0_12), (.list 2 a0_13), (.list 1 a0_14)])]) fun vq2 => (bif (!vq2) then (some (.tup [(.str (str [])), (.int .u8 (15 : Int))])) else (bif (!(decide (a0_0 = (1 : Int)))) then (some (.tup [(.str (str [])), (.int .u8 (15 : Int))])) else (callS (kp E k n crc_line [(.str a0_1), (.list 1 a0_14)]) fun vs4 => (some (.tup [(.str vs4), (.int .u8 (0 : Int))])))))) := (kp_at (by kernel_rfl)).trans (by kernel_rfl)
/- oakum/oakumref32.Line -/
theorem ref32_Line_eq {E : Ext} [Core E] (k n : Nat) (a0 : ByteArray) (a1 : List AV) : kp E k (n + 1) ref32_Line [(.str a0), (.list 1 a1)] =
  (callI .u32 (kp E k n ref32_More [(.int .u32 (0 : Int)), (.list 1 a1)]) fun vn2 => (callS (kp E k n ref21_Word [(.list 1 [(.int .u8 (IntKind.wrap .u8 (IntKind.wrap .u32 (Int.tdiv vn2 (16777216 : Int))))), (.int .u8 (IntKind.wrap .u8 (Int.tmod (IntKind.wrap .u32 (Int.tdiv vn2 (65536 : Int))) (256 : Int)))), (.int .u8 (IntKind.wrap .u8 (Int.tmod (IntKind.wrap .u32 (Int.tdiv vn2 (256 : Int))) (256 : Int)))), (.int .u8 (IntKind.wrap .u8 (Int.tmod vn2 (256 : Int))))])]) fun vs4 => (bif (decide ((ByteArray.size vs4) + 1 ≤ 9223372036854775807)) then (callS (kp E k n ref04_Text [(.int .i64 (((List.length a1) : Nat) : Int))]) fun vs6 => (bif (decide ((ByteArray.size (vs4 ++ (str [32]))) + (ByteArray.size vs6) ≤ 9223372036854775807)) then (bif (decide ((ByteArray.size ((vs4 ++ (str [32])) ++ vs6)) + 2 ≤ 9223372036854775807)) then (callS (kp E k n ref02_Quote [(.str a0)]) fun vs8 => (bif (decide ((ByteArray.size (((vs4 ++ (str [32])) ++ vs6) ++ (str [32, 61]))) + (ByteArray.size vs8) ≤ 9223372036854775807)) then (some (.str ((((vs4 ++ (str [32])) ++ vs6) ++ (str [32, 61])) ++ vs8))) else none)) else none) else none)) else none))) := (kp_at (by kernel_rfl)).trans (by kernel_rfl)
/- oakum/crc.Sum -/
theorem crc_Sum_eq {E : Ext} [Core E] (k n : Nat) (a0 : List AV) : kp E k (n + 1) crc_Sum [(.list 1 a0)] =
  (callI .u32 (kp E k n crc_More [(.int .u32 (0 : Int)), (.list 1 a0)]) fun vn2 => (some (.int .u32 vn2))) := (kp_at (by kernel_rfl)).trans (by kernel_rfl)
/- oakum/crc.line -/
theorem crc_line_eq {E : Ext} [Core E] (k n : Nat) (a0 : ByteArray) (a1 : List AV) : kp E k (n + 1) crc_line [(.str a0), (.list 1 a1)] =
  (callI .u32 (kp E k n crc_Sum [(.list 1 a1)]) fun vn2 => (callS (kp E k n crc_eight [(.int .u32 vn2)]) fun vs4 => (bif (decide ((ByteArray.size vs4) + 1 ≤ 9223372036854775807)) then (callS (kp E k n strconv_Itoa [(.int .i64 (((List.length a1) : Nat) : Int))]) fun vs6 => (bif (decide ((ByteArray.size (vs4 ++ (str [32]))) + (ByteArray.size vs6) ≤ 9223372036854775807)) then (bif (decide ((ByteArray.size ((vs4 ++ (str [32])) ++ vs6)) + 2 ≤ 9223372036854775807)) then (callS (kp E k n text_Quote [(.str a0)]) fun vs8 => (bif (decide ((ByteArray.size (((vs4 ++ (str [32])) ++ vs6) ++ (str [32, 61]))) + (ByteArray.size vs8) ≤ 9223372036854775807)) then (some (.str ((((vs4 ++ (str [32])) ++ vs6) ++ (str [32, 61])) ++ vs8))) else none)) else none) else none)) else none))) := (kp_at (by kernel_rfl)).trans (by kernel_rfl)
/- oakum/oakumref32.More -/
noncomputable def ref32_More_bd : Code := Tryz.f14.body.getD .skip
noncomputable def ref32_More_L0 (kap : FuncId → List AV → Option AV) (k : Nat) (k0 : Nat) (s1 : List AV) (s5 : Int) (s6 : Int) : Option AV :=
  loop (fun fr K => code ((bs E0 k).cfg kap ref32_More) (sel ref32_More_bd [1, 1, 0, 1, 0, 0]) fr K) (canon ((bs E0 k).cfg kap ref32_More) (firstReg (sel ref32_More_bd [1, 1, 0, 1, 0, 0]))) k0 (mkFr 40 [(1, (.list 1 s1)), (5, (.int .u64 s5)), (6, (.int .i64 s6))] []) (plug ((bs E0 k).cfg kap ref32_More) (retK ((bs E0 k).cfg kap ref32_More) [] Tryz.f14 [] some) [.blk 0, .seqR (sel ref32_More_bd [1, 1, 1])])
noncomputable def ref32_More_L1 (kap : FuncId → List AV → Option AV) (k : Nat) (k0 : Nat) (k1 : Nat) (s1 : List AV) (s5 : Int) (s6 : Int) (s7 : Int) : Option AV :=
  loop (fun fr K => code ((bs E0 k).cfg kap ref32_More) (sel ref32_More_bd [1, 1, 0, 1, 0, 0, 1, 0, 0, 1, 1, 0, 0]) fr K) (canon ((bs E0 k).cfg kap ref32_More) (firstReg (sel ref32_More_bd [1, 1, 0, 1, 0, 0, 1, 0, 0, 1, 1, 0, 0]))) k1 (mkFr 40 [(1, (.list 1 s1)), (5, (.int .u64 s5)), (6, (.int .i64 s6)), (7, (.int .i64 s7))] []) (plug ((bs E0 k).cfg kap ref32_More) (retK ((bs E0 k).cfg kap ref32_More) [] Tryz.f14 [] some) [.blk 2, .blk 1, .seqR (sel ref32_More_bd [1, 1, 0, 1, 0, 0, 1, 1]), .lp (sel ref32_More_bd [1, 1, 0, 1, 0, 0]) k0, .blk 0, .seqR (sel ref32_More_bd [1, 1, 1])])
theorem ref32_More_L0_s (kap : FuncId → List AV → Option AV) (k : Nat) (k0 : Nat) (s1 : List AV) (s5 : Int) (s6 : Int) : ref32_More_L0 kap k (k0 + 1) s1 s5 s6 =
  (bif (decide (s6 < (((List.length s1) : Nat) : Int))) then (bif ((decide ((0 : Int) ≤ s6)) && (decide (s6 < (((List.length s1) : Nat) : Int)))) then ((s1[(Int.toNat s6)]?).bind fun vy1 => (cellI .u8 (AV.cells vy1) 0 fun vn2 => (ref32_More_L1 kap k k0 k s1 (IntKind.wrap .u64 ((BitVec.ofInt (IntKind.bits .u64) s5 ^^^ BitVec.ofInt (IntKind.bits .u64) (IntKind.wrap .u64 vn2)).toNat : Int)) s6 (0 : Int)))) else none) else (some (.int .u32 (IntKind.wrap .u32 (IntKind.wrap .u64 ((4294967295 : Int) - s5)))))) := by kernel_rfl
theorem ref32_More_L1_s (kap : FuncId → List AV → Option AV) (k : Nat) (k0 : Nat) (k1 : Nat) (s1 : List AV) (s5 : Int) (s6 : Int) (s7 : Int) : ref32_More_L1 kap k k0 (k1 + 1) s1 s5 s6 s7 =
  (bif (decide (s7 < (8 : Int))) then (bif (decide ((Int.tmod s5 (2 : Int)) = (1 : Int))) then (ref32_More_L1 kap k k0 k1 s1 (IntKind.wrap .u64 ((BitVec.ofInt (IntKind.bits .u64) (IntKind.wrap .u64 (Int.tdiv s5 (2 : Int))) ^^^ BitVec.ofInt (IntKind.bits .u64) (3988292384 : Int)).toNat : Int)) s6 (IntKind.wrap .i64 (s7 + (1 : Int)))) else (ref32_More_L1 kap k k0 k1 s1 (IntKind.wrap .u64 (Int.tdiv s5 (2 : Int))) s6 (IntKind.wrap .i64 (s7 + (1 : Int))))) else (ref32_More_L0 kap k k0 s1 s5 (IntKind.wrap .i64 (s6 + (1 : Int))))) := by kernel_rfl
theorem ref32_More_eq {E : Ext} [Core E] (k n : Nat) (a0 : Int) (a1 : List AV) : kp E k (n + 1) ref32_More [(.int .u32 a0), (.list 1 a1)] =
  (ref32_More_L0 (kp E k n) k k a1 (IntKind.wrap .u64 ((4294967295 : Int) - (IntKind.wrap .u64 a0))) (0 : Int)) := (kp_at (by kernel_rfl)).trans (by kernel_rfl)
/- oakum/oakumref21.Word -/
noncomputable def ref21_Word_bd : Code := Tryz.f15.body.getD .skip
noncomputable def ref21_Word_L0 (kap : FuncId → List AV → Option AV) (k : Nat) (k0 : Nat) (s0 : List AV) (s3 : ByteArray) (s4 : ByteArray) (s5 : Int) : Option AV :=
  loop (fun fr K => code ((bs E0 k).cfg kap ref21_Word) (sel ref21_Word_bd [1, 1, 1, 1, 0, 1, 0, 0]) fr K) (canon ((bs E0 k).cfg kap ref21_Word) (firstReg (sel ref21_Word_bd [1, 1, 1, 1, 0, 1, 0, 0]))) k0 (mkFr 43 [(0, (.list 1 s0)), (3, (.str s3)), (4, (.str s4)), (5, (.int .i64 s5))] []) (plug ((bs E0 k).cfg kap ref21_Word) (retK ((bs E0 k).cfg kap ref21_Word) [] Tryz.f15 [] some) [.blk 0, .seqR (sel ref21_Word_bd [1, 1, 1, 1, 1])])
theorem ref21_Word_L0_s (kap : FuncId → List AV → Option AV) (k : Nat) (k0 : Nat) (s0 : List AV) (s3 : ByteArray) (s4 : ByteArray) (s5 : Int) : ref21_Word_L0 kap k (k0 + 1) s0 s3 s4 s5 =
  (bif (decide (s5 < (((List.length s0) : Nat) : Int))) then (bif ((decide ((0 : Int) ≤ s5)) && (decide (s5 < (((List.length s0) : Nat) : Int)))) then ((s0[(Int.toNat s5)]?).bind fun vy1 => (cellI .u8 (AV.cells vy1) 0 fun vn2 => (bif ((decide ((0 : Int) ≤ s5)) && (decide (s5 < (((List.length s0) : Nat) : Int)))) then ((s0[(Int.toNat s5)]?).bind fun vy3 => (cellI .u8 (AV.cells vy3) 0 fun vn4 => (bif ((decide ((0 : Int) ≤ (IntKind.wrap .i64 ((IntKind.wrap .i64 (Int.tdiv (IntKind.wrap .i64 vn2) (16 : Int))) + (1 : Int))))) && (decide ((IntKind.wrap .i64 ((IntKind.wrap .i64 (Int.tdiv (IntKind.wrap .i64 vn2) (16 : Int))) + (1 : Int))) ≤ (((ByteArray.size s3) : Nat) : Int)))) then (bif ((decide ((0 : Int) ≤ (IntKind.wrap .i64 (Int.tdiv (IntKind.wrap .i64 vn2) (16 : Int))))) && (decide ((IntKind.wrap .i64 (Int.tdiv (IntKind.wrap .i64 vn2) (16 : Int))) ≤ (((Int.toNat (IntKind.wrap .i64 ((IntKind.wrap .i64 (Int.tdiv (IntKind.wrap .i64 vn2) (16 : Int))) + (1 : Int)))) : Nat) : Int)))) then (bif (decide ((ByteArray.size s4) + (ByteArray.size (ByteArray.extract s3 (Int.toNat (IntKind.wrap .i64 (Int.tdiv (IntKind.wrap .i64 vn2) (16 : Int)))) (Int.toNat (IntKind.wrap .i64 ((IntKind.wrap .i64 (Int.tdiv (IntKind.wrap .i64 vn2) (16 : Int))) + (1 : Int)))))) ≤ 9223372036854775807)) then (bif ((decide ((0 : Int) ≤ (IntKind.wrap .i64 ((Int.tmod (IntKind.wrap .i64 vn4) (16 : Int)) + (1 : Int))))) && (decide ((IntKind.wrap .i64 ((Int.tmod (IntKind.wrap .i64 vn4) (16 : Int)) + (1 : Int))) ≤ (((ByteArray.size s3) : Nat) : Int)))) then (bif ((decide ((0 : Int) ≤ (Int.tmod (IntKind.wrap .i64 vn4) (16 : Int)))) && (decide ((Int.tmod (IntKind.wrap .i64 vn4) (16 : Int)) ≤ (((Int.toNat (IntKind.wrap .i64 ((Int.tmod (IntKind.wrap .i64 vn4) (16 : Int)) + (1 : Int)))) : Nat) : Int)))) then (bif (decide ((ByteArray.size (s4 ++ (ByteArray.extract s3 (Int.toNat (IntKind.wrap .i64 (Int.tdiv (IntKind.wrap .i64 vn2) (16 : Int)))) (Int.toNat (IntKind.wrap .i64 ((IntKind.wrap .i64 (Int.tdiv (IntKind.wrap .i64 vn2) (16 : Int))) + (1 : Int))))))) + (ByteArray.size (ByteArray.extract s3 (Int.toNat (Int.tmod (IntKind.wrap .i64 vn4) (16 : Int))) (Int.toNat (IntKind.wrap .i64 ((Int.tmod (IntKind.wrap .i64 vn4) (16 : Int)) + (1 : Int)))))) ≤ 9223372036854775807)) then (ref21_Word_L0 kap k k0 s0 s3 ((s4 ++ (ByteArray.extract s3 (Int.toNat (IntKind.wrap .i64 (Int.tdiv (IntKind.wrap .i64 vn2) (16 : Int)))) (Int.toNat (IntKind.wrap .i64 ((IntKind.wrap .i64 (Int.tdiv (IntKind.wrap .i64 vn2) (16 : Int))) + (1 : Int)))))) ++ (ByteArray.extract s3 (Int.toNat (Int.tmod (IntKind.wrap .i64 vn4) (16 : Int))) (Int.toNat (IntKind.wrap .i64 ((Int.tmod (IntKind.wrap .i64 vn4) (16 : Int)) + (1 : Int)))))) (IntKind.wrap .i64 (s5 + (1 : Int)))) else none) else none) else none) else none) else none) else none))) else none))) else none) else (some (.str s4))) := by kernel_rfl
theorem ref21_Word_eq {E : Ext} [Core E] (k n : Nat) (a0 : List AV) : kp E k (n + 1) ref21_Word [(.list 1 a0)] =
  (bif (decide ((((List.length a0) : Nat) : Int) = (0 : Int))) then (some (.str (str [45]))) else (ref21_Word_L0 (kp E k n) k k a0 (str [48, 49, 50, 51, 52, 53, 54, 55, 56, 57, 97, 98, 99, 100, 101, 102]) (str []) (0 : Int))) := (kp_at (by kernel_rfl)).trans (by kernel_rfl)
/- oakum/crc.eight -/
theorem crc_eight_eq {E : Ext} [Core E] (k n : Nat) (a0 : Int) : kp E k (n + 1) crc_eight [(.int .u32 a0)] =
  (callS (kp E k n strconv_FormatUint [(.int .u64 (IntKind.wrap .u64 a0)), (.int .i64 (16 : Int))]) fun vs2 => (callS (kp E k n strings_Repeat [(.str (str [48])), (.int .i64 (IntKind.wrap .i64 ((8 : Int) - (((ByteArray.size vs2) : Nat) : Int))))]) fun vs4 => (bif (decide ((ByteArray.size vs4) + (ByteArray.size vs2) ≤ 9223372036854775807)) then (some (.str (vs4 ++ vs2))) else none))) := (kp_at (by kernel_rfl)).trans (by kernel_rfl)
end Go.Proofs.YtkbedfjhchhikaaGreatDoor.Eng.U


/- crc.table and crc.More, walked: the sum of any bytes behind others. -/
set_option linter.unusedVariables false
set_option linter.unusedSimpArgs false
namespace Go.Proofs.YtkbedfjhchhikaaGreatDoor.S32
open Go Go.RowKit Go.Proofs

def crc_step (x : Int) : Int := if (Go.bits .and .u32 x 1 == 1) = true then Go.bits .xor .u32 (x / 2) 3988292384 else x / 2
def crc_steps : Nat → Int → Int
  | 0, x => x
  | n + 1, x => crc_steps n (crc_step x)
def crc_entry (i : Nat) : Int := crc_steps 8 i
theorem bits_u32 (o : BinOp) (x y : Int) : 0 ≤ Go.bits o .u32 x y ∧ Go.bits o .u32 x y ≤ 4294967295 := by
  unfold Go.bits
  split <;> (simp only [IntKind.wrap_u32]; omega)
def CrcTab (W : World) (g : Nat) (n : Nat) : Prop := ∃ cs : Array Value, W.heap[g]? = some (.cells cs 57 (0, 0)) ∧ cs.size = 256 ∧ ∀ j, j < n → cs[j]? = some (.int .u32 (crc_entry j))
theorem CrcTab.lt {W : World} {g n : Nat} (h : CrcTab W g n) : g < W.heap.size := by
  obtain ⟨cs, h, _⟩ := h
  exact (Array.getElem?_eq_some_iff.1 h).1
theorem CrcTab.cell {W : World} {g n : Nat} (h : CrcTab W g n) (i : Nat) (hi : i < 256) : ∃ v, W.cell? ⟨g, i, none⟩ = some v ∧ W.frozen? ⟨g, i, none⟩ = false := by
  obtain ⟨cs, h, hs, _⟩ := h
  exact ⟨cs[i], by rw [cell_of_row W g i cs _ _ h]; exact Array.getElem?_eq_getElem (by omega), frozen_of_row W g i cs _ h⟩
theorem CrcTab.set {W : World} {g n : Nat} (h : CrcTab W g n) {x : Int} (hx : x = crc_entry n) (hn : n < 256) : CrcTab (W.setCell ⟨g, n, none⟩ (.int .u32 x)) g (n + 1) := by
  obtain ⟨cs, h, hs, hc⟩ := h
  refine ⟨cs.setIfInBounds n (.int .u32 x), heap_setCell_same W g n cs _ _ h, by simp [hs], fun j hj => ?_⟩
  subst hx
  rw [Array.getElem?_setIfInBounds]
  by_cases e : n = j
  · subst e; simp [hs, hn]
  · rw [if_neg e]; exact hc j (by omega)
set_option maxHeartbeats 1000000 in
set_option maxRecDepth 100000 in
theorem crc_table.calls (w : World) :
    Calls Tryz.prog 27 #[] w fun e w' => ∃ cs : Array Value, e = .returned (.agg cs) ∧ (cs.size = 256 ∧ ∀ j, j < 256 → cs[j]? = some (.int .u32 (crc_entry j))) ∧ Below w.heap.size w w' := by
  have hu := Tryz.underlying57
  have hi0 : (Tryz.prog.info? 57).map (·.size) = some 256 := by kernel_rfl
  have Hi := Go.Lib.hid hi0; clear hi0
  obtain ⟨z, hz, hzs, hzo⟩ : ∃ z : Array Value, (∀ W, (zeroValue 57).run Tryz.prog W = .ok (.agg z) W) ∧ z.size = 256 ∧ z.all (·.oneCell') = true :=
    ⟨Array.replicate 256 (.int .u32 0), fun W => by kernel_rfl, by simp, by rw [Array.all_eq_true]; intro i hi; simp; rfl⟩
  have Hzs := Go.Lib.hid hzs; clear hzs
  have Hzo := Go.Lib.hid hzo; clear hzo
  have hB0 := Go.Lib.hid (((Below.refl w.heap.size w).alloc (Nat.le_refl _) (.cells z 57)).alloc (by simp) (.cells z 57))
  have hT0 := Go.Lib.hid (show CrcTab ((w.alloc (.cells z 57)).alloc (.cells z 57)) (w.heap.size + 1) 0 from ⟨z, heap_alloc2_new w _ _, Hzs.out, fun j hj => by omega⟩)
  have hR0 := Go.Lib.hid (show ((w.alloc (.cells z 57)).alloc (.cells z 57)).heap[w.heap.size]? = some (.cells z 57 (0, 0)) from heap_alloc2_old w _ _)
  go_enter Tryz.func27, Tryz.ntmps27
  go_wp2
  go_loopw [4] (fun i wr => ∃ n : Nat, n ≤ 256 ∧ i = .int .i64 n ∧ Hid (CrcTab wr (w.heap.size + 1) n) ∧ Hid (wr.heap[w.heap.size]? = some (.cells z 57 (0, 0))) ∧ Hid (Below w.heap.size w wr)) (fun i _ => 256 - (intOf i).toNat)
  case atStart => exact ⟨0, by omega, rfl, hT0, hR0, hB0⟩
  case round =>
    clear hT0 hR0 hB0
    obtain ⟨n, hn, rfl, HT, HR, HB⟩ := hrel
    by_cases hlt : n < 256
    · have hw : IntKind.u32.wrap (n : Int) = n := by rw [IntKind.wrap_u32]; omega
      go_wp2
      obtain ⟨wo, rfl⟩ : ∃ wo : World, wo = wr := ⟨_, rfl⟩
      go_loop [3, 9] (fun x k => ∃ (m : Nat) (y : Int), m ≤ 8 ∧ k = .int .i64 m ∧ x = .int .u32 y ∧ 0 ≤ y ∧ y ≤ 4294967295 ∧ Hid (crc_steps (8 - m) y = crc_entry n)) (fun _ k => 8 - (intOf k).toNat)
      case atStart => exact ⟨0, n, by omega, rfl, rfl, by omega, by omega, rfl⟩
      case round =>
        obtain ⟨m, y, hm, rfl, rfl, hy0, hy1, HY⟩ := hrel
        by_cases hlt2 : m < 8
        · have hs : crc_steps (8 - m) y = crc_steps (8 - (m + 1)) (crc_step y) := by rw [show 8 - m = (8 - (m + 1)) + 1 by omega]; rfl
          have hdiv : 0 ≤ y / 2 ∧ y / 2 ≤ 4294967295 := by omega
          have HS := Go.Lib.hid hs; clear hs
          by_cases ho : (Go.bits .and .u32 y 1 == 1) = true
          · have e : crc_step y = Go.bits .xor .u32 (y / 2) 3988292384 := if_pos ho
            have E := Go.Lib.hid e; clear e
            have hb := bits_u32 .xor (y / 2) 3988292384
            go_wp2
            go_round
            case rel => exact ⟨m + 1, _, by omega, by go_num, rfl, hb.1, hb.2, by rw [← E.out, ← HS.out]; exact HY.out⟩
            case measure => simp [intOf]; omega
          · have e : crc_step y = y / 2 := if_neg ho
            have E := Go.Lib.hid e; clear e
            replace ho : (Go.bits .and .u32 y 1 == 1) = false := by simpa using ho
            go_wp2
            go_round
            case rel => exact ⟨m + 1, _, by omega, by go_num, rfl, hdiv.1, hdiv.2, by rw [← E.out, ← HS.out]; exact HY.out⟩
            case measure => simp [intOf]; omega
        · obtain rfl : m = 8 := by omega
          have hT := HT.out
          obtain ⟨v, hc, hf⟩ := hT.cell n hlt
          have HT2 := Go.Lib.hid (hT.set (x := y) HY.out hlt)
          have HR2 := Go.Lib.hid ((heap_setCell_other wo ⟨w.heap.size + 1, n, none⟩ w.heap.size (.int .u32 y) (by simp)).trans HR.out)
          have HB2 := Go.Lib.hid (HB.out.setCell (p := ⟨w.heap.size + 1, n, none⟩) (by simp) (.int .u32 y))
          clear hT HT HR HB hlt2
          go_wp2
          go_roundw
          case rel => exact ⟨n + 1, by omega, by go_num, HT2, HR2, HB2⟩
          case measure => simp [intOf]; omega
    · obtain rfl : n = 256 := by omega
      have hT := HT.out
      obtain ⟨cs, hg, hs, hc⟩ := hT
      have hr2 := setRow_heap wr w.heap.size z cs 57 (0, 0) HR.out
      have hb2 : Below w.heap.size w (wr.setRow w.heap.size cs) := below_setRow HB.out (Nat.le_refl _) cs
      have hall : cs.all (·.oneCell') = true := by
        rw [Array.all_eq_true]; intro i hi
        have hj := hc i (by omega)
        rw [Array.getElem?_eq_getElem hi] at hj
        rw [Option.some.inj hj]; rfl
      have HG := Go.Lib.hid hg; clear hg
      have HS := Go.Lib.hid hs; clear hs
      have HC := Go.Lib.hid hc; clear hc
      have HA := Go.Lib.hid hall; clear hall
      have HR2 := Go.Lib.hid hr2; clear hr2
      have HB2 := Go.Lib.hid hb2; clear hb2
      go_wp2_with (first | (refine wpList_load_row rfl 57 (.tmp 1) rfl (w.heap.size + 1) rfl 57 cs (0, 0) _ HG.out hu rfl (by rw [HS.out]; exact Hi.out) ?_) | (refine wpList_store_row rfl 57 (.tmp 0) (.tmp 24) rfl w.heap.size cs rfl rfl 57 z HR.out (by rw [HS.out]; exact Hi.out) (by rw [HS.out]; exact Hzs.out) HA.out ?_))
      exact bodyPost_ret (v := .agg cs) (results_cell_row (fn := Tryz.f27) rfl _ _ w.heap.size 57 cs (0, 0) _ rfl HR2.out hu rfl (by rw [HS.out]; exact Hi.out)) rfl ⟨cs, rfl, ⟨HS.out, HC.out⟩, HB2.out⟩

def rd (l : List Int) (m : Nat) : Int := l.getD m 0
/-- What a row of bytes reads as. -/
def ReadsB (w : World) (A : Option Addr) (l : List Int) : Prop := l = [] ∨ ∃ a, A = some a ∧ ∀ j, j < l.length → w.cell? (a.add j) = some (.int .u8 (l.getD j 0))
theorem ReadsB.below {w W : World} {A : Option Addr} {l : List Int} (h : ReadsB w A l) (hb : Below w.heap.size w W) : ReadsB W A l := by
  rcases h with h | ⟨a, rfl, h⟩
  · exact .inl h
  · refine .inr ⟨a, rfl, fun j hj => ?_⟩
    have hc := h j hj
    exact (hb.cell (World.block_lt_of_cell? w _ hc)).trans hc
theorem ReadsB.at {w : World} {A : Option Addr} {l : List Int} (h : ReadsB w A l) (m : Nat) (hm : m < l.length) : ∃ a, A = some a ∧ w.cell? (a.add m) = some (.int .u8 (rd l m)) := by
  rcases h with rfl | ⟨a, rfl, h⟩
  · simp at hm
  · exact ⟨a, rfl, h m hm⟩
def crc_next (x c : Int) : Int := Go.bits .xor .u32 (x / 256) (crc_entry (Go.bits .xor .u8 (x % 256) c).toNat)
def crc_not (x : Int) : Int := Go.bits .xor .u32 IntKind.u32.max x
def crc_More.f (a0 : Int) (l1 : List Int) : Option Int := some (crc_not (l1.foldl crc_next (crc_not a0)))
theorem crc_bitsN (o : BinOp) (x : Int) : 0 ≤ Go.bits o .u32 IntKind.u32.max x ∧ Go.bits o .u32 IntKind.u32.max x ≤ 4294967295 := bits_u32 o _ _
theorem crc_bits8 (o : BinOp) (x y : Int) : 0 ≤ Go.bits o .u8 x y ∧ Go.bits o .u8 x y ≤ 255 := by
  unfold Go.bits
  split <;> (simp only [IntKind.wrap_u8]; omega)
set_option maxHeartbeats 1000000 in
set_option maxRecDepth 100000 in
theorem crc_More.calls (a0 : Int) (A1 : Option Addr) (c1 : Nat) (l1 : List Int) (r : Int) (w : World) (hr1 : ReadsB w A1 l1) (hlm : l1.length ≤ 1000000000) (h : crc_More.f a0 l1 = some r) :
    Calls Tryz.prog 18 #[.int .u32 a0, .slice A1 l1.length c1] w fun e w' => e = .returned (.int .u32 r) ∧ Below w.heap.size w w' := by
  have hu := Tryz.underlying57
  have hi0 : (Tryz.prog.info? 57).map (·.size) = some 256 := by kernel_rfl
  have Hi := Go.Lib.hid hi0; clear hi0
  have HF := Go.Lib.hid h; clear h
  have HR1 := Go.Lib.hid hr1
  clear hr1
  obtain ⟨z, hz, hzs, hzo⟩ : ∃ z : Array Value, (∀ W, (zeroValue 57).run Tryz.prog W = .ok (.agg z) W) ∧ z.size = 256 ∧ z.all (·.oneCell') = true :=
    ⟨Array.replicate 256 (.int .u32 0), fun W => by kernel_rfl, by simp, by rw [Array.all_eq_true]; intro i hi; simp; rfl⟩
  have Hzs := Go.Lib.hid hzs; clear hzs
  have Hzo := Go.Lib.hid hzo; clear hzo
  go_enter Tryz.func18, Tryz.ntmps18
  go_wp2_with fail
  refine (crc_table.calls _).mono ?_
  rintro e w1 ⟨cs, rfl, ⟨hs, hc⟩, hb⟩
  have hall : cs.all (·.oneCell') = true := by
    rw [Array.all_eq_true]; intro i hi
    have hj := hc i (by omega)
    rw [Array.getElem?_eq_getElem hi] at hj
    rw [Option.some.inj hj]; rfl
  have hb2 : Below w.heap.size w ((w1.alloc (.cells z 57)).setRow w1.heap.size cs) := below_setRow (hb.alloc hb.size _) hb.size cs
  have hg2 := setRow_heap (w1.alloc (.cells z 57)) w1.heap.size z cs 57 (0, 0) (heap_alloc_new w1 _)
  have HG0 := Go.Lib.hid (heap_alloc_new w1 (.cells z 57))
  have HS := Go.Lib.hid hs; clear hs
  have HC := Go.Lib.hid hc; clear hc
  have HA := Go.Lib.hid hall; clear hall
  have HB := Go.Lib.hid hb2; clear hb2 hb
  have HG := Go.Lib.hid hg2; clear hg2
  go_wp2_with (refine wpList_store_row rfl 57 (.tmp 5) (.tmp 9) rfl w1.heap.size cs rfl rfl 57 z HG0.out (by rw [HS.out]; exact Hi.out) (by rw [HS.out]; exact Hzs.out) HA.out ?_)
  have HR := Go.Lib.hid (HR1.out.below HB.out)
  have hcl : w1.heap.size < ((w1.alloc (.cells z 57)).setRow w1.heap.size cs).heap.size := by simp
  clear HG0 HR1
  generalize hW : (w1.alloc (.cells z 57)).setRow w1.heap.size cs = W2 at HB HG HR hcl ⊢
  clear hW
  obtain ⟨g, rfl⟩ : ∃ g, g = w1.heap.size := ⟨_, rfl⟩
  go_loop [6, 14] (fun x i => ∃ (m : Nat) (y : Int), m ≤ l1.length ∧ i = .int .i64 m ∧ x = .int .u32 y ∧ 0 ≤ y ∧ y ≤ 4294967295 ∧ Hid (y = (l1.take m).foldl crc_next (crc_not a0))) (fun _ i => l1.length - (intOf i).toNat)
  case atStart => exact ⟨0, _, by omega, rfl, rfl, (crc_bitsN _ _).1, (crc_bitsN _ _).2, rfl⟩
  case round =>
    obtain ⟨m, y, hm, rfl, rfl, hy0, hy1, HY⟩ := hrel
    by_cases hlt : m < l1.length
    · obtain ⟨ad, hA, hcell⟩ := HR.out.at m (by omega)
      cases hA
      have hx := crc_bits8 .xor (y % 256) (rd l1 m)
      have hb := bits_u32 .xor (y / 256) (crc_entry (Go.bits .xor .u8 (y % 256) (rd l1 m)).toNat)
      have hwy : IntKind.u8.wrap y = y % 256 := IntKind.wrap_u8 y
      have hr : (l1.take (m + 1)).foldl crc_next (crc_not a0) = crc_next ((l1.take m).foldl crc_next (crc_not a0)) (rd l1 m) := by
        rw [List.take_succ_eq_append_getElem hlt, List.foldl_append]
        simp [rd, List.getD_eq_getElem?_getD, List.getElem?_eq_getElem hlt]
      have HT := Go.Lib.hid hr; clear hr
      generalize hq : Go.bits .xor .u8 (y % 256) (rd l1 m) = q at hx hb
      obtain ⟨q', rfl⟩ := Int.eq_ofNat_of_zero_le hx.1
      have ht : W2.cell? ⟨w1.heap.size, q', none⟩ = some (.int .u32 (crc_entry q')) := by
        rw [cell_of_row W2 _ q' cs _ _ HG.out]; exact HC.out q' (by omega)
      have HQ := Go.Lib.hid hq
      have HE := Go.Lib.hid (show crc_next y (rd l1 m) = Go.bits .xor .u32 (y / 256) (crc_entry q') from by unfold crc_next; rw [HQ.out]; rfl)
      have hb' : 0 ≤ Go.bits .xor .u32 (y / 256) (crc_entry q') ∧ Go.bits .xor .u32 (y / 256) (crc_entry q') ≤ 4294967295 := hb
      clear hb
      have hdiv : 0 ≤ y / 256 := by omega
      go_wp2
      go_round
      case rel => exact ⟨m + 1, _, by omega, by go_num, rfl, hb'.1, hb'.2, by show _ = _; rw [HT.out, ← HE.out, ← HY.out]⟩
      case measure => simp [intOf]; omega
    · obtain rfl : m = l1.length := by omega
      have hv : r = crc_not y := by
        have h1 := HF.out
        unfold crc_More.f at h1
        rw [List.take_length] at HY
        rw [HY.out]; exact (Option.some.inj h1).symm
      have HV := Go.Lib.hid hv; clear hv
      clear HY
      go_wp2
      go_ret
      exact ⟨by rw [HV.out]; rfl, HB.out⟩
end Go.Proofs.YtkbedfjhchhikaaGreatDoor.S32


/- strconv.FormatUint at base 16, walked: the digits of any number below 2^64. -/
set_option linter.unusedVariables false
set_option linter.unusedSimpArgs false
namespace Go.Proofs.YtkbedfjhchhikaaGreatDoor.S32
open Go Go.RowKit Go.Proofs

set_option maxHeartbeats 1000000 in
set_option maxRecDepth 100000 in
theorem tz64 (w : World) (h : w.cell? ⟨3, 15, none⟩ = some (.int .u8 4)) : Calls Tryz.prog 103 #[.int .u64 16] w fun e w' => e = .returned (.int .i64 4) ∧ w' = w := by
  have hx : IntKind.u64.wrap (Go.bits .and .u64 16 (IntKind.u64.wrap (-16)) * 285870213051353865) / 288230376151711744 = 15 := by decide +kernel
  go_enter Tryz.func103, Tryz.ntmps103
  go_wp2_with (rw [hx])
  go_ret
  exact ⟨rfl, rfl⟩
set_option maxHeartbeats 1000000 in
set_option maxRecDepth 100000 in
theorem tz (w : World) (h : w.cell? ⟨3, 15, none⟩ = some (.int .u8 4)) : Calls Tryz.prog 91 #[.int .u64 16] w fun e w' => e = .returned (.int .i64 4) ∧ w' = w := by
  go_enter Tryz.func91, Tryz.ntmps91
  go_wp2_with fail
  refine (tz64 _ h).mono ?_
  rintro e w' ⟨rfl, rfl⟩
  go_wp2
  go_ret
  exact ⟨rfl, rfl⟩
set_option maxHeartbeats 1000000 in
set_option maxRecDepth 100000 in
theorem pow2 (w : World) : Calls Tryz.prog 90 #[.int .i64 16] w fun e w' => e = .returned (.bool true) ∧ w' = w := by
  have hx : Go.bits .and .i64 16 (IntKind.i64.wrap (16 - 1)) = 0 := by decide +kernel
  go_enter Tryz.func90, Tryz.ntmps90
  go_wp2_with (rw [hx])
  go_ret
  exact ⟨rfl, rfl⟩
/-! The digits. -/
def hexD (d : Nat) : UInt8 := if d < 10 then UInt8.ofNat (48 + d) else UInt8.ofNat (87 + d)
def hexL : Nat → Nat → List UInt8
  | 0, n => [hexD n]
  | f + 1, n => if n < 16 then [hexD n] else hexL f (n / 16) ++ [hexD (n % 16)]
theorem hexL_one {f n : Nat} (h : n < 16) : hexL f n = [hexD n] := by
  cases f with
  | zero => rfl
  | succ f => unfold hexL; rw [if_pos h]
theorem hexL_more {f n : Nat} (h : ¬ n < 16) : hexL (f + 1) n = hexL f (n / 16) ++ [hexD (n % 16)] := by
  rw [hexL, if_neg h]
/-- The row of 65 bytes, its last ones told. -/
def Arr (W : World) (g : Nat) (acc : List UInt8) : Prop := ∃ cs : Array Value, W.heap[g]? = some (.cells cs 112 (0, 0)) ∧ cs.size = 65 ∧ ∀ j c, acc[j]? = some c → cs[65 - acc.length + j]? = some (.int .u8 c.toNat)
theorem Arr.cell {W : World} {g : Nat} {acc : List UInt8} (h : Arr W g acc) (i : Nat) (hi : i < 65) : ∃ v, W.cell? ⟨g, i, none⟩ = some v ∧ W.frozen? ⟨g, i, none⟩ = false := by
  obtain ⟨cs, h, hs, _⟩ := h
  exact ⟨cs[i], by rw [cell_of_row W g i cs _ _ h]; exact Array.getElem?_eq_getElem (by omega), frozen_of_row W g i cs _ h⟩
theorem Arr.set {W : World} {g : Nat} {acc : List UInt8} (h : Arr W g acc) (c : UInt8) (hm : acc.length < 65) : Arr (W.setCell ⟨g, 64 - acc.length, none⟩ (.int .u8 c.toNat)) g (c :: acc) := by
  obtain ⟨cs, h, hs, hc⟩ := h
  refine ⟨cs.setIfInBounds (64 - acc.length) (.int .u8 c.toNat), heap_setCell_same W g _ cs _ _ h, by simp [hs], fun j d hj => ?_⟩
  rw [Array.getElem?_setIfInBounds, List.length_cons]
  cases j with
  | zero => rw [if_pos (by omega), if_pos (by omega)]; simp at hj; rw [hj]
  | succ j =>
    rw [List.getElem?_cons_succ] at hj
    have hl : j < acc.length := (List.getElem?_eq_some_iff.1 hj).1
    rw [if_neg (by omega), show 65 - (acc.length + 1) + (j + 1) = 65 - acc.length + j from by omega]
    exact hc j d hj
theorem add0' (g i j : Nat) : (⟨g, i, none⟩ : Addr).add j = ⟨g, i + j, none⟩ := by simp [Addr.add]
theorem Arr.text {W : World} {g : Nat} {acc : List UInt8} (h : Arr W g acc) (cap : Nat) : (convert 36 9 (.slice (some ⟨g, 65 - acc.length, none⟩) acc.length cap)).run Tryz.prog W = .ok (.string ⟨acc.toArray⟩) W := by
  refine run_convert_bytes_back W _ _ 5 _ _ _ Tryz.underlying36 Tryz.underlying5 Tryz.underlying9 fun j hj => ?_
  obtain ⟨cs, h, hs, hc⟩ := h
  rw [add0', cell_of_row W g _ cs _ _ h]
  exact hc j _ (List.getElem?_eq_getElem hj)
theorem and15 (u : Nat) (h : u < 18446744073709551616) : Go.bits .and .u64 ((u : Nat) : Int) 15 = ((u : Nat) : Int) % 16 := bits_mask .u64 64 (by decide) (fun n h0 h1 => by simp only [IntKind.wrap, IntKind.bits, IntKind.signed, Bool.false_and, Bool.false_eq_true, if_false]; omega) 4 (by decide) ((u : Nat) : Int) (by omega) (by omega)
set_option maxHeartbeats 4000000 in
set_option maxRecDepth 100000 in
theorem bits16 (n : Nat) (w : World) (hn : n < 18446744073709551616) (h : w.cell? ⟨3, 15, none⟩ = some (.int .u8 4)) :
    Calls Tryz.prog 72 #[.slice none 0 0, .int .u64 ((n : Nat) : Int), .int .i64 16, .bool false, .bool false] w fun e w' => e = .returned (.tuple #[.slice none 0 0, .string ⟨(hexL 15 n).toArray⟩]) ∧ Below w.heap.size w w' := by
  have hu := Tryz.underlying112
  obtain ⟨z, hz, hzs, hzo⟩ : ∃ z : Array Value, (∀ W, (zeroValue 112).run Tryz.prog W = .ok (.agg z) W) ∧ z.size = 65 ∧ z.all (·.oneCell') = true :=
    ⟨Array.replicate 65 (.int .u8 0), fun W => by kernel_rfl, by simp, by rw [Array.all_eq_true]; intro i hi; simp; rfl⟩
  have Hzs := Go.Lib.hid hzs; clear hzs
  have Hzo := Go.Lib.hid hzo; clear hzo
  have hb := World.block_lt_of_cell? w _ h
  have h1 : (w.alloc (.cells z 112)).cell? ⟨3, 15, none⟩ = some (.int .u8 4) := (World.cell?_of_block (Below.heap_alloc w _ _ hb)).trans h
  have HN := Go.Lib.hid hn; clear hn
  have HT := Go.Lib.hid (show Arr (w.alloc (.cells z 112)) w.heap.size [] from ⟨z, heap_alloc_new w _, Hzs.out, fun j c hj => by simp at hj⟩)
  have HB := Go.Lib.hid ((Below.refl w.heap.size w).alloc (Nat.le_refl _) (.cells z 112))
  go_enter Tryz.func72, Tryz.ntmps72
  go_wp2_with fail
  refine (pow2 _).mono ?_
  rintro e w1 ⟨rfl, rfl⟩
  go_wp2_with fail
  refine (tz _ h1).mono ?_
  rintro e w1 ⟨rfl, rfl⟩
  go_wp2_with fail
  clear h1
  go_loopw [1, 13] (fun vu vi wr => ∃ (u : Nat) (acc : List UInt8), vu = .int .u64 u ∧ vi = .int .i64 ((65 - acc.length : Nat) : Int) ∧ acc.length ≤ 15 ∧ u < 18446744073709551616 ∧ Hid (u * 16 ^ acc.length ≤ n) ∧ Hid (hexL (15 - acc.length) u ++ acc = hexL 15 n) ∧ Hid (Arr wr w.heap.size acc) ∧ Hid (Below w.heap.size w wr)) (fun vu _ _ => (RowKit.intOf vu).toNat)
  case atStart => exact ⟨n, [], rfl, rfl, by simp, HN.out, Go.Lib.hid (by simp), Go.Lib.hid (by simp), HT, HB⟩
  case round =>
    clear HT HB
    obtain ⟨u, acc, rfl, rfl, hm, hu64, HU, HX, HA, HB⟩ := hrel
    have hq := and15 u hu64
    obtain ⟨v, hc, hf⟩ := HA.out.cell (64 - acc.length) (by omega)
    have hi1 : (((65 - acc.length : Nat) : Int) - 1) = ((64 - acc.length : Nat) : Int) := by omega
    go_name_bytes SM hSM
    have hsz : SM.size = 36 := by rw [← hSM]; rfl
    have hdig : ∀ d, d < 16 → SM.data.toList[d]? = some (hexD d) := by rw [← hSM]; decide +kernel
    have HD := Go.Lib.hid hdig; clear hdig
    have HSM := Go.Lib.hid hSM; clear hSM
    have hdg : ∀ d (hd : d < 16) (h : d < SM.size), SM[d]'h = hexD d := fun d hd h => by
      have e := HD.out d hd
      rw [List.getElem?_eq_getElem (by rw [Array.length_toList]; exact h)] at e
      exact Option.some.inj e
    have HG := Go.Lib.hid hdg; clear hdg HD
    by_cases hlt : u < 16
    · have hin : 0 ≤ ((u : Nat) : Int) ∧ ((u : Nat) : Int) < ((SM.size : Nat) : Int) := by omega
      have HA2 := Go.Lib.hid (HA.out.set (SM[u]'(by omega)) (by omega))
      have HB2 := Go.Lib.hid (HB.out.setCell (p := ⟨w.heap.size, 64 - acc.length, none⟩) (Nat.le_refl _) (.int .u8 (SM[u]'(by omega)).toNat))
      have hal : Tryz.prog.arrayLen 112 = 65 := by kernel_rfl
      have hel : Tryz.prog.elem 112 = 5 := by kernel_rfl
      have hsl : ∀ W, (Instr.sliceAt 112 (.pointer (some ⟨w.heap.size, 0, none⟩)) (some (.int .i64 ((64 - acc.length : Nat) : Int))) none none).run Tryz.prog W = .ok (.slice (some ⟨w.heap.size, 64 - acc.length, none⟩) (acc.length + 1) (acc.length + 1)) W := fun W => by
        rw [run_sliceAt_array_l W 112 ⟨w.heap.size, 0, none⟩ (by kernel_rfl) .i64 ((64 - acc.length : Nat) : Int) (by omega) (by rw [hal]; omega), hal, hel]
        have hs1 : (sizeOf 5).run Tryz.prog W = .ok 1 W := by kernel_rfl
        rw [hs1]
        simp only [Result.andThen, slicedAt]
        rw [if_neg (by omega), add0', show 0 + (((64 - acc.length : Nat) : Int)).toNat * 1 = 64 - acc.length from by omega, show 65 - (((64 - acc.length : Nat) : Int)).toNat = acc.length + 1 from by omega]
      have HSL := Go.Lib.hid hsl; clear hsl hal hel
      go_wp2_with (first | rw [hi1] | fail)
      rw [HSL.out]
      simp only [Result.andThen]
      rw [Oper.upon_value]
      have ht2 := HA2.out.text (acc.length + 1)
      rw [show 65 - (SM[u]'(by omega) :: acc).length = 64 - acc.length from by rw [List.length_cons]; omega, List.length_cons] at ht2
      have hres : SM[u]'(by omega) :: acc = hexL 15 n := by
        have h1 := HX.out
        rw [hexL_one hlt] at h1
        rw [HG.out _ hlt, ← h1]
        rfl
      have HR := Go.Lib.hid hres; clear hres
      have HT2 := Go.Lib.hid ht2; clear ht2
      go_wp2_with fail
      simp only [HSM.out]
      rw [HT2.out]
      simp only [Result.andThen]
      rw [Oper.upon_value]
      go_wp2
      refine bodyPost_ret (results_tmp2 rfl _ _ _) rfl ?_
      rw [HR.out]
      exact ⟨rfl, HB2.out⟩
    · have hm2 : acc.length < 15 := by
        have h1 := HU.out
        have h2 := HN.out
        by_cases e : acc.length = 15
        · rw [e] at h1
          omega
        · omega
      have hin : 0 ≤ ((u : Nat) : Int) % 16 ∧ ((u : Nat) : Int) % 16 < ((SM.size : Nat) : Int) := by omega
      have HA2 := Go.Lib.hid (HA.out.set (SM[u % 16]'(by omega)) (by omega))
      have HB2 := Go.Lib.hid (HB.out.setCell (p := ⟨w.heap.size, 64 - acc.length, none⟩) (Nat.le_refl _) (.int .u8 (SM[u % 16]'(by omega)).toNat))
      go_wp2_with (first | rw [hi1] | rw [hq] | fail)
      go_roundw
      case rel =>
        refine ⟨u / 16, _ :: acc, by simp, by rw [List.length_cons]; congr 2; omega, by rw [List.length_cons]; omega, by omega, Go.Lib.hid ?_, Go.Lib.hid ?_, HA2, HB2⟩
        · have h1 := HU.out
          rw [List.length_cons, Nat.pow_succ]
          have h3 : u / 16 * (16 ^ acc.length * 16) ≤ u * 16 ^ acc.length := by
            rw [Nat.mul_comm (16 ^ acc.length) 16, ← Nat.mul_assoc]
            exact Nat.mul_le_mul_right _ (Nat.div_mul_le_self u 16)
          omega
        · have h1 := HX.out
          rw [show 15 - acc.length = (15 - (acc.length + 1)) + 1 from by omega, hexL_more hlt] at h1
          rw [List.length_cons, HG.out _ (Nat.mod_lt _ (by omega)), ← h1, List.append_assoc]
          rfl
      case measure => simp [intOf]; omega
set_option maxHeartbeats 1000000 in
set_option maxRecDepth 100000 in
theorem format_in (n : Nat) (w : World) (hn : n < 18446744073709551616) (h : w.cell? ⟨3, 15, none⟩ = some (.int .u8 4)) :
    Calls Tryz.prog 53 #[.int .u64 ((n : Nat) : Int), .int .i64 16] w fun e w' => e = .returned (.string ⟨(hexL 15 n).toArray⟩) ∧ Below w.heap.size w w' := by
  have HN := Go.Lib.hid hn; clear hn
  go_enter Tryz.func53, Tryz.ntmps53
  go_wp2_with fail
  refine (bits16 n _ HN.out h).mono ?_
  rintro e w1 ⟨rfl, hb⟩
  have HB := Go.Lib.hid hb; clear hb
  go_wp2
  go_ret
  exact ⟨rfl, HB.out⟩
set_option maxHeartbeats 1000000 in
set_option maxRecDepth 100000 in
theorem format16 (n : Nat) (w : World) (hn : n < 18446744073709551616) (h : w.cell? ⟨3, 15, none⟩ = some (.int .u8 4)) :
    Calls Tryz.prog 36 #[.int .u64 ((n : Nat) : Int), .int .i64 16] w fun e w' => e = .returned (.string ⟨(hexL 15 n).toArray⟩) ∧ Below w.heap.size w w' := by
  have HN := Go.Lib.hid hn; clear hn
  go_enter Tryz.func36, Tryz.ntmps36
  go_wp2_with fail
  refine (format_in n _ HN.out h).mono ?_
  rintro e w1 ⟨rfl, hb⟩
  have HB := Go.Lib.hid hb; clear hb
  go_wp2
  go_ret
  exact ⟨rfl, HB.out⟩
end Go.Proofs.YtkbedfjhchhikaaGreatDoor.S32


/- The sum of bytes, plain: the table's steps are the bits' steps. -/
set_option linter.unusedVariables false
set_option linter.unusedSimpArgs false
namespace Go.Proofs.YtkbedfjhchhikaaGreatDoor.Q32
open Go Go.RowKit Go.Proofs.YtkbedfjhchhikaaGreatDoor.S32
abbrev B := BitVec 32
def poly : B := 3988292384#32
def stp (x : B) : B := if x.getLsbD 0 then (x >>> 1) ^^^ poly else x >>> 1
def stps : Nat → B → B
  | 0, x => x
  | n + 1, x => stps n (stp x)
theorem xor_swap (a b c d : B) : (a ^^^ b) ^^^ (c ^^^ d) = (a ^^^ c) ^^^ (b ^^^ d) := by
  apply BitVec.eq_of_getLsbD_eq; intro i hi
  simp only [BitVec.getLsbD_xor]
  cases a.getLsbD i <;> cases b.getLsbD i <;> cases c.getLsbD i <;> cases d.getLsbD i <;> rfl
theorem step_xor (x y : B) : stp (x ^^^ y) = stp x ^^^ stp y := by
  unfold stp
  rw [BitVec.getLsbD_xor, BitVec.ushiftRight_xor_distrib]
  cases x.getLsbD 0 <;> cases y.getLsbD 0 <;> simp
  · rw [BitVec.xor_assoc]
  · rw [BitVec.xor_assoc, BitVec.xor_comm (y >>> 1), ← BitVec.xor_assoc]
  · rw [xor_swap, BitVec.xor_self, BitVec.xor_zero]
theorem steps_xor : ∀ (n : Nat) (x y : B), stps n (x ^^^ y) = stps n x ^^^ stps n y
  | 0, _, _ => rfl
  | n + 1, x, y => by simp only [stps]; rw [step_xor, steps_xor n]
/-! ### a byte at a time -/
theorem step_low (y : B) (h : y.getLsbD 31 = false) : stp (y <<< 1) = y := by
  unfold stp
  have h0 : (y <<< 1).getLsbD 0 = false := by simp
  rw [h0]
  simp only [Bool.false_eq_true, if_false]
  apply BitVec.eq_of_getLsbD_eq; intro i hi
  rw [BitVec.getLsbD_ushiftRight, BitVec.getLsbD_shiftLeft]
  by_cases e : i = 31
  · subst e; simp; simpa [BitVec.getLsbD_eq_getElem] using h
  · have : 1 + i < 32 := by omega
    simp [this]
theorem steps_low : ∀ (n : Nat) (y : B), n ≤ 32 → (∀ i, 32 - n ≤ i → y.getLsbD i = false) → stps n (y <<< n) = y
  | 0, y, _, _ => by simp [stps]
  | n + 1, y, hn, h => by
    have e : y <<< (n + 1) = (y <<< n) <<< 1 := by rw [← BitVec.shiftLeft_add]
    simp only [stps]
    rw [e, step_low]
    · exact steps_low n y (by omega) (fun i hi => h i (by omega))
    · rw [BitVec.getLsbD_shiftLeft, h (31 - n) (by omega)]; simp
theorem parts (x : B) : x = (x &&& 255#32) ^^^ ((x >>> 8) <<< 8) := by
  apply BitVec.eq_of_getLsbD_eq; intro i hi
  rw [BitVec.getLsbD_xor, BitVec.getLsbD_and, BitVec.getLsbD_shiftLeft, BitVec.getLsbD_ushiftRight]
  have h255 : (255#32).getLsbD i = decide (i < 8) := by
    have : ∀ i : Fin 32, (255#32).getLsbD i.val = decide (i.val < 8) := by decide
    exact this ⟨i, hi⟩
  rw [h255]
  by_cases e : i < 8
  · simp [e, hi]
  · have : 8 + (i - 8) = i := by omega
    simp [e, hi, this]
/-- The table's way comes to eight steps. -/
theorem table_step (x c : B) : (x >>> 8) ^^^ stps 8 ((x &&& 255#32) ^^^ c) = stps 8 (x ^^^ c) := by
  have e : stps 8 ((x >>> 8) <<< 8) = x >>> 8 := steps_low 8 _ (by omega) (fun i hi => by
    rw [BitVec.getLsbD_ushiftRight]; exact BitVec.getLsbD_of_ge _ _ (by omega))
  have : x ^^^ c = ((x >>> 8) <<< 8) ^^^ ((x &&& 255#32) ^^^ c) := by
    rw [← BitVec.xor_assoc, BitVec.xor_comm ((x >>> 8) <<< 8), ← parts]
  rw [this, steps_xor 8 ((x >>> 8) <<< 8), e]

/-- All bytes, one behind the other. -/
def run (l : List B) (x : B) : B := l.foldl (fun x c => stps 8 (x ^^^ c)) x
/-- A row of 32 bits, as a number. -/
def T (x : B) : Int := (x.toNat : Int)
theorem T_bd (x : B) : 0 ≤ T x ∧ T x < 4294967296 := by unfold T; have := x.isLt; omega
theorem T_of {a : Int} (h0 : 0 ≤ a) (h1 : a < 4294967296) : a = T (BitVec.ofNat 32 a.toNat) := by
  unfold T
  rw [BitVec.toNat_ofNat, Nat.mod_eq_of_lt (by omega)]; omega
theorem bits_xor_nat (k : IntKind) (hk : ∀ n : Int, 0 ≤ n → n < 2 ^ k.bits → k.wrap n = n) (a b : Nat) (ha : a < 2 ^ k.bits) (hb : b < 2 ^ k.bits) : Go.bits .xor k a b = ((a ^^^ b : Nat) : Int) := by
  simp only [Go.bits, BitVec.ofInt_natCast, BitVec.toNat_xor, BitVec.toNat_ofNat, Nat.mod_eq_of_lt ha, Nat.mod_eq_of_lt hb]
  exact hk _ (Int.natCast_nonneg _) (by exact_mod_cast Nat.xor_lt_two_pow ha hb)
theorem wraps_u32 (n : Int) (h₀ : 0 ≤ n) (h₁ : n < 2 ^ 32) : IntKind.u32.wrap n = n := by rw [IntKind.wrap_u32]; omega
theorem wraps_u64 (n : Int) (h₀ : 0 ≤ n) (h₁ : n < 2 ^ 64) : IntKind.u64.wrap n = n := by rw [IntKind.wrap_u64]; omega
theorem wraps_u8' (n : Int) (h₀ : 0 ≤ n) (h₁ : n < 2 ^ 8) : IntKind.u8.wrap n = n := by rw [IntKind.wrap_u8]; omega
theorem xor32 (x y : B) : Go.bits .xor .u32 (T x) (T y) = T (x ^^^ y) := by
  unfold T; rw [BitVec.toNat_xor]; exact bits_xor_nat .u32 wraps_u32 _ _ x.isLt y.isLt
theorem xor64 (x y : B) : Go.bits .xor .u64 (T x) (T y) = T (x ^^^ y) := by
  unfold T; rw [BitVec.toNat_xor]
  exact bits_xor_nat .u64 wraps_u64 _ _ (Nat.lt_of_lt_of_le x.isLt (by decide)) (Nat.lt_of_lt_of_le y.isLt (by decide))
theorem and1_u32 (x : Int) (h0 : 0 ≤ x) (h1 : x < 4294967296) : Go.bits .and .u32 x 1 = x % 2 := by
  have := bits_mask .u32 32 (by decide) wraps_u32 1 (by decide) x h0 (by omega)
  simpa using this
theorem low (x : B) : T x % (2 : Int) = 1 ↔ x.getLsbD 0 = true := by
  unfold T
  rw [BitVec.getLsbD, Nat.testBit_zero, decide_eq_true_eq]; omega
theorem div_pow (x : B) (n : Nat) : T x / (2 : Int) ^ n = T (x >>> n) := by
  unfold T
  rw [BitVec.toNat_ushiftRight, Nat.shiftRight_eq_div_pow]; norm_cast
theorem div2 (x : B) : T x / (2 : Int) = T (x >>> 1) := div_pow x 1
theorem div256 (x : B) : T x / (256 : Int) = T (x >>> 8) := div_pow x 8
theorem mod256 (x : B) : T x % (256 : Int) = T (x &&& 255#32) := by
  unfold T
  rw [BitVec.toNat_and]
  have : (255#32).toNat = 2 ^ 8 - 1 := by decide
  rw [this, Nat.and_two_pow_sub_one_eq_mod]
  show _ = ((x.toNat % 256 : Nat) : Int)
  omega
theorem T_poly : (3988292384 : Int) = T poly := by decide +kernel

theorem step_T (x : B) : crc_step (T x) = T (stp x) := by
  unfold crc_step stp
  have hb := T_bd x
  rw [and1_u32 _ hb.1 hb.2, div2]
  by_cases h : x.getLsbD 0 = true
  · rw [if_pos (by rw [beq_iff_eq]; exact (low x).2 h), if_pos h, T_poly, xor32]
  · rw [if_neg (by rw [beq_iff_eq]; exact fun e => h ((low x).1 e)), if_neg h]
theorem steps_T : ∀ (n : Nat) (x : B), crc_steps n (T x) = T (stps n x)
  | 0, _ => rfl
  | n + 1, x => by simp only [crc_steps, stps]; rw [step_T, steps_T n]
theorem entry_T (i : Nat) (h : i < 4294967296) : crc_entry i = T (stps 8 (BitVec.ofNat 32 i)) := by
  unfold crc_entry
  have : (i : Int) = T (BitVec.ofNat 32 i) := by have := T_of (a := (i : Int)) (by omega) (by omega); simpa using this
  rw [this, steps_T]
/-- A byte, as a row of bits. -/
def byte (c : Int) : B := BitVec.ofNat 32 c.toNat
theorem T_byte {c : Int} (h0 : 0 ≤ c) (h1 : c ≤ 255) : T (byte c) = c := (T_of h0 (by omega)).symm
theorem next_T (x : B) (c : Int) (h0 : 0 ≤ c) (h1 : c ≤ 255) : crc_next (T x) c = T (stps 8 (x ^^^ byte c)) := by
  unfold crc_next
  have e8 : Go.bits .xor .u8 (T x % 256) c = T ((x &&& 255#32) ^^^ byte c) := by
    have h2 : (T x % 256) = (((x &&& 255#32).toNat : Nat) : Int) := mod256 x
    have h3 : c = ((byte c).toNat : Int) := (T_byte h0 h1).symm
    have h4 : (x &&& 255#32).toNat < 2 ^ 8 := by have := mod256 x; unfold T at this; omega
    have h5 : (byte c).toNat < 2 ^ 8 := by omega
    rw [h2]
    conv => lhs; rw [h3]
    unfold T; rw [BitVec.toNat_xor]
    exact bits_xor_nat .u8 wraps_u8' _ _ h4 h5
  have hlt : ((T ((x &&& 255#32) ^^^ byte c)).toNat) < 4294967296 := by have := T_bd ((x &&& 255#32) ^^^ byte c); omega
  rw [e8, entry_T _ hlt, div256, xor32]
  have : BitVec.ofNat 32 (T ((x &&& 255#32) ^^^ byte c)).toNat = (x &&& 255#32) ^^^ byte c := by
    unfold T; simp
  rw [this, table_step]
theorem not_T (x : B) : crc_not (T x) = T (~~~x) := by
  unfold crc_not
  have : IntKind.u32.max = T (BitVec.allOnes 32) := by decide
  rw [this, xor32, BitVec.allOnes_xor]
theorem not_sub (x : B) : 4294967295 - T x = T (~~~x) := by
  unfold T; rw [BitVec.toNat_not]; have := x.isLt; omega

theorem foldl_T : ∀ (l : List Int) (x : B), (∀ c ∈ l, 0 ≤ c ∧ c ≤ 255) → l.foldl crc_next (T x) = T (run (l.map byte) x)
  | [], _, _ => rfl
  | c :: l, x, h => by
    have hc := h c (by simp)
    simp only [List.foldl_cons, List.map_cons, run]
    rw [next_T x c hc.1 hc.2]
    exact foldl_T l _ (fun d hd => h d (by simp [hd]))
theorem more_T (s : B) (l : List Int) (h : ∀ c ∈ l, 0 ≤ c ∧ c ≤ 255) : crc_More.f (T s) l = some (T (~~~(run (l.map byte) (~~~s)))) := by
  unfold crc_More.f
  rw [not_T, foldl_T l _ h, not_T]
end Go.Proofs.YtkbedfjhchhikaaGreatDoor.Q32


/- Given functions in pieces: each with what it answers, and that it does. -/
set_option linter.unusedVariables false
set_option linter.unusedSectionVars false
set_option linter.unusedSimpArgs false
namespace Go.Proofs.YtkbedfjhchhikaaGreatDoor.Eng.U
open Go Go.Proofs Go.Proofs.YtkbedfjhchhikaaGreatDoor.Eng Go.RowKit

structure Piece where
  f : FuncId
  ans : List AV → Option AV
def extOf (ps : List Piece) : Ext := { fs := coreFs, isBase := fun f => ps.any fun p => p.f == f, base := fun f args => (ps.find? fun p => p.f == f).bind fun p => p.ans args }
def Piece.Right (p : Piece) : Prop := Enters Tryz.prog p.f ∧ ∀ args res, p.ans args = some res → Ok Tryz.prog glob p.f args res
theorem core_of {ps : List Piece} (h : coreFs.all (fun f => !ps.any fun p => p.f == f) = true) : Core (extOf ps) where
  isB f hf := by
    have := List.all_eq_true.1 h f (List.contains_iff_mem.1 hf)
    simpa [extOf] using this
  has f hf := hf
theorem good_of {ps : List Piece} (h : ∀ p ∈ ps, p.Right) (hn : coreFs.all (namedOk Tryz.prog) = true) (k : Nat) : (bs (extOf ps) k).Good where
  mixed := by kernel_rfl
  names := hn
  base f args res hb hr := by
    change ((ps.find? fun p => p.f == f).bind fun p => p.ans args) = some res at hr
    obtain ⟨p, hp, ha⟩ := Option.bind_eq_some_iff.1 hr
    have hm := List.mem_of_find?_eq_some hp
    have hf : (p.f == f) = true := List.find?_some (p := fun q : Piece => q.f == f) hp
    have hf : p.f = f := by simpa using hf
    obtain ⟨h1, h2⟩ := h p hm
    rw [hf] at h1 h2
    exact ⟨h1, h2 args res ha⟩
theorem names_ok : coreFs.all (namedOk Tryz.prog) = true := by kernel_rfl
theorem kp_piece {ps : List Piece} {p : Piece} {k n : Nat} {args : List AV} (hp : ps.find? (fun q => q.f == p.f) = some p) : kp (extOf ps) k n p.f args = p.ans args := by
  rw [kp_base (by
    show (ps.any fun q => q.f == p.f) = true
    have := List.find?_some (p := fun q : Piece => q.f == p.f) hp
    exact List.any_eq_true.2 ⟨p, List.mem_of_find?_eq_some hp, this⟩)]
  show ((ps.find? fun q => q.f == p.f).bind fun q => q.ans args) = _
  rw [hp]
  rfl
theorem VL_1 {S : Stab} {x : AV} {vals : List Value} (h : VL S [x] vals) : ∃ v, vals = [v] ∧ V S x v := by
  obtain ⟨h1, h2⟩ := h
  match vals, h1 with
  | [v], _ => exact ⟨v, rfl, h2 0 _ _ rfl rfl⟩
theorem VL_2 {S : Stab} {x y : AV} {vals : List Value} (h : VL S [x, y] vals) : ∃ v u, vals = [v, u] ∧ V S x v ∧ V S y u := by
  obtain ⟨h1, h2⟩ := h
  match vals, h1 with
  | [v, u], _ => exact ⟨v, u, rfl, h2 0 _ _ rfl rfl, h2 1 _ _ rfl rfl⟩
theorem VL_3 {S : Stab} {x y z : AV} {vals : List Value} (h : VL S [x, y, z] vals) : ∃ v u t, vals = [v, u, t] ∧ V S x v ∧ V S y u ∧ V S z t := by
  obtain ⟨h1, h2⟩ := h
  match vals, h1 with
  | [v, u, t], _ => exact ⟨v, u, t, rfl, h2 0 _ _ rfl rfl, h2 1 _ _ rfl rfl, h2 2 _ _ rfl rfl⟩
theorem V_str {S : Stab} {s : ByteArray} {v : Value} (h : V S (.str s) v) : v = .string s := by cases h; rfl
theorem V_int {S : Stab} {k : IntKind} {n : Int} {v : Value} (h : V S (.int k n) v) : v = .int k n := by cases h; rfl
theorem agree_below {S : Stab} {w w' : World} (h : Agree S w) (hb : Below w.heap.size w w') : Agree S w' := fun x v hx =>
  (World.cell?_of_block (hb.block _ (World.block_lt_of_cell? w x (h x v hx)))).trans (h x v hx)
/-- A result that is pure, and nothing that lay has turned. -/
theorem ok_pure {f : FuncId} {args : List AV} {res : AV} (hres : res.isTup = false ∧ res.isFresh = false) (h : ∀ (S : Stab) (w : World) (vals : List Value), Agree S w → GlobOk glob S w → VL S args vals → Calls Tryz.prog f vals.toArray w fun e w' => ∃ v, e = .returned v ∧ (∀ S', V S' res v) ∧ Below w.heap.size w w') (hr : (args.all fun c => !c.isRes) = true := by rfl) : Ok Tryz.prog glob f args res := by
  refine Ok.of_plain (fun c hc => by simpa using List.all_eq_true.1 hr c hc) fun S w vals hag hG hV => ?_
  refine (h S w vals hag hG hV).mono ?_
  rintro e w' ⟨v, rfl, hv, hb⟩
  refine ⟨v, S, rfl, fun _ _ h => h, agree_below hag hb, fun _ _ h => .inl h, hb, ?_⟩
  have := hv S
  cases res <;> first | (cases hres.1; done) | (cases hres.2; done) | exact this
end Go.Proofs.YtkbedfjhchhikaaGreatDoor.Eng.U


/- What functions answer, as the engine evaluates their code. Printed by gen2.py. -/
set_option linter.unusedVariables false
namespace Go.Proofs.YtkbedfjhchhikaaGreatDoor.Eng.U
open Go Go.Proofs Go.Proofs.YtkbedfjhchhikaaGreatDoor.Eng
/- oakum/oakumref04.Text -/
theorem ref04_Text_eq {E : Ext} [Core E] (k n : Nat) (a0 : Int) : kp E k (n + 1) ref04_Text [(.int .i64 a0)] =
  (bif (decide (a0 ≥ (0 : Int))) then (callS (kp E k n ref04_Digits [(.int .i64 a0)]) fun vs2 => (some (.str vs2))) else (bif (decide (a0 > (-10 : Int))) then (callS (kp E k n ref04_Digits [(.int .i64 (IntKind.wrap .i64 (0 - a0)))]) fun vs4 => (bif (decide (1 + (ByteArray.size vs4) ≤ 9223372036854775807)) then (some (.str ((str [45]) ++ vs4))) else none)) else (callS (kp E k n ref04_Digits [(.int .i64 (IntKind.wrap .i64 (0 - (IntKind.wrap .i64 (Int.tdiv a0 (10 : Int))))))]) fun vs6 => (bif (decide (1 + (ByteArray.size vs6) ≤ 9223372036854775807)) then (callS (kp E k n ref04_Digits [(.int .i64 (IntKind.wrap .i64 (0 - (Int.tmod a0 (10 : Int)))))]) fun vs8 => (bif (decide ((ByteArray.size ((str [45]) ++ vs6)) + (ByteArray.size vs8) ≤ 9223372036854775807)) then (some (.str (((str [45]) ++ vs6) ++ vs8))) else none)) else none)))) := (kp_at (by kernel_rfl)).trans (by kernel_rfl)
/- oakum/oakumref04.Digits -/
theorem ref04_Digits_eq {E : Ext} [Core E] (k n : Nat) (a0 : Int) : kp E k (n + 1) ref04_Digits [(.int .i64 a0)] =
  (bif (decide (a0 < (10 : Int))) then ((toBytes [(.int .u8 (IntKind.wrap .u8 (IntKind.wrap .i64 ((48 : Int) + a0))))]).bind fun vl1 => (some (.str (str vl1)))) else (callS (kp E k n ref04_Digits [(.int .i64 (IntKind.wrap .i64 (Int.tdiv a0 (10 : Int))))]) fun vs3 => ((toBytes [(.int .u8 (IntKind.wrap .u8 (IntKind.wrap .i64 ((48 : Int) + (Int.tmod a0 (10 : Int))))))]).bind fun vl4 => (bif (decide ((ByteArray.size vs3) + (ByteArray.size (str vl4)) ≤ 9223372036854775807)) then (some (.str (vs3 ++ (str vl4)))) else none)))) := (kp_at (by kernel_rfl)).trans (by kernel_rfl)
/- oakum/dec.Right -/
theorem dec_Right_eq {E : Ext} [Core E] (k n : Nat) (a0_0 : Int) (a0_1 : Int) : kp E k (n + 1) dec_Right [(.agg [(.int .i64 a0_0), (.int .i64 a0_1)])] =
  (bif (decide (a0_1 ≥ (0 : Int))) then (some (.bool (decide (a0_1 < (1000000000 : Int))))) else (some (.bool false))) := (kp_at (by kernel_rfl)).trans (by kernel_rfl)
/- oakum/oakumref04.Right -/
theorem ref04_Right_eq {E : Ext} [Core E] (k n : Nat) (a0_0 : Int) (a0_1 : Int) : kp E k (n + 1) ref04_Right [(.agg [(.int .i64 a0_0), (.int .i64 a0_1)])] =
  (bif (decide (a0_1 ≥ (0 : Int))) then (some (.bool (decide (a0_1 ≤ (999999999 : Int))))) else (some (.bool false))) := (kp_at (by kernel_rfl)).trans (by kernel_rfl)
/- oakum/oakumref04.Number -/
theorem ref04_Number_eq {E : Ext} [Core E] (k n : Nat) (a0 : ByteArray) : kp E k (n + 1) ref04_Number [(.str a0)] =
  (callT (kp E k n ref04_Below [(.str a0)]) fun vt2 => (tupI .i64 vt2 fun vn3 vt4 => (tupB vt4 fun vq5 vt6 => (atNil vt6 (bif (!vq5) then (some (.tup [(.int .i64 (0 : Int)), (.bool false)])) else (bif (decide (vn3 < (-9223372036854775807 : Int))) then (some (.tup [(.int .i64 (0 : Int)), (.bool false)])) else (some (.tup [(.int .i64 (IntKind.wrap .i64 (0 - vn3))), (.bool true)])))))))) := (kp_at (by kernel_rfl)).trans (by kernel_rfl)
/- oakum/oakumref04.Time -/
noncomputable def ref04_Time_bd : Code := Tryz.f81.body.getD .skip
noncomputable def ref04_Time_L0 (kap : FuncId → List AV → Option AV) (k : Nat) (k0 : Nat) (s0 : ByteArray) (s4 : Bool) (s5 : Int) (s6 : Int) (b2_0 : Int) (b2_1 : Int) : Option AV :=
  loop (fun fr K => code ((bs E0 k).cfg kap ref04_Time) (sel ref04_Time_bd [1, 1, 1, 1, 0, 1, 0, 0]) fr K) (canon ((bs E0 k).cfg kap ref04_Time) (firstReg (sel ref04_Time_bd [1, 1, 1, 1, 0, 1, 0, 0]))) k0 (mkFr 116 [(0, (.str s0)), (2, (.loc 2 0)), (4, (.bool s4)), (5, (.int .i64 s5)), (6, (.int .i64 s6))] [(2, (.box [(.int .i64 b2_0), (.int .i64 b2_1)]))]) (plug ((bs E0 k).cfg kap ref04_Time) (retK ((bs E0 k).cfg kap ref04_Time) [] Tryz.f81 [] some) [.blk 0, .seqR (sel ref04_Time_bd [1, 1, 1, 1, 1])])
noncomputable def ref04_Time_L1 (kap : FuncId → List AV → Option AV) (k : Nat) (k1 : Nat) (s4 : Bool) (s7 : Int) (s8 : Bool) (s9 : Int) (s10 : ByteArray) (s11 : Int) (b2_0 : Int) (b2_1 : Int) : Option AV :=
  loop (fun fr K => code ((bs E0 k).cfg kap ref04_Time) (sel ref04_Time_bd [1, 1, 1, 1, 1, 1, 1, 0, 1, 0, 1, 1, 1, 0, 0]) fr K) (canon ((bs E0 k).cfg kap ref04_Time) (firstReg (sel ref04_Time_bd [1, 1, 1, 1, 1, 1, 1, 0, 1, 0, 1, 1, 1, 0, 0]))) k1 (mkFr 116 [(2, (.loc 2 0)), (4, (.bool s4)), (7, (.int .i64 s7)), (8, (.bool s8)), (9, (.int .i64 s9)), (10, (.str s10)), (11, (.int .i64 s11))] [(2, (.box [(.int .i64 b2_0), (.int .i64 b2_1)]))]) (plug ((bs E0 k).cfg kap ref04_Time) (retK ((bs E0 k).cfg kap ref04_Time) [] Tryz.f81 [] some) [.blk 2, .seqR (sel ref04_Time_bd [1, 1, 1, 1, 1, 1, 1, 1])])
theorem ref04_Time_L0_s (kap : FuncId → List AV → Option AV) (k : Nat) (k0 : Nat) (s0 : ByteArray) (s4 : Bool) (s5 : Int) (s6 : Int) (b2_0 : Int) (b2_1 : Int) : ref04_Time_L0 kap k (k0 + 1) s0 s4 s5 s6 b2_0 b2_1 =
  (bif (decide (s6 ≥ (0 : Int))) then (bif ((decide ((0 : Int) ≤ s6)) && (decide (s6 < (((ByteArray.size s0) : Nat) : Int)))) then (bif (decide ((byteAt s0 (Int.toNat s6)) = (46 : Int))) then (ref04_Time_L0 kap k k0 s0 s4 s6 (IntKind.wrap .i64 (s6 - (1 : Int))) b2_0 b2_1) else (ref04_Time_L0 kap k k0 s0 s4 s5 (IntKind.wrap .i64 (s6 - (1 : Int))) b2_0 b2_1)) else none) else (bif ((decide ((0 : Int) ≤ s5)) && (decide (s5 ≤ (((ByteArray.size s0) : Nat) : Int)))) then (callT (kap ref04_Below [(.str (ByteArray.extract s0 0 (Int.toNat s5)))]) fun vt2 => (tupI .i64 vt2 fun vn3 vt4 => (tupB vt4 fun vq5 vt6 => (atNil vt6 (bif (decide (s5 < (((ByteArray.size s0) : Nat) : Int))) then (bif ((decide ((0 : Int) ≤ (IntKind.wrap .i64 (s5 + (1 : Int))))) && (decide ((IntKind.wrap .i64 (s5 + (1 : Int))) ≤ (((ByteArray.size s0) : Nat) : Int)))) then (callB (kap ref04_only [(.str (ByteArray.extract s0 (Int.toNat (IntKind.wrap .i64 (s5 + (1 : Int)))) (ByteArray.size s0)))]) fun vq8 => (bif (!vq8) then (some (.tup [(.agg [(.int .i64 (0 : Int)), (.int .i64 (0 : Int))]), (.bool false)])) else (bif (decide ((((ByteArray.size (ByteArray.extract s0 (Int.toNat (IntKind.wrap .i64 (s5 + (1 : Int)))) (ByteArray.size s0))) : Nat) : Int) > (9 : Int))) then (some (.tup [(.agg [(.int .i64 (0 : Int)), (.int .i64 (0 : Int))]), (.bool false)])) else (ref04_Time_L1 kap k k s4 vn3 vq5 (0 : Int) (ByteArray.extract s0 (Int.toNat (IntKind.wrap .i64 (s5 + (1 : Int)))) (ByteArray.size s0)) (0 : Int) b2_0 b2_1)))) else none) else (bif (!vq5) then (some (.tup [(.agg [(.int .i64 (0 : Int)), (.int .i64 (0 : Int))]), (.bool false)])) else (bif (!s4) then (bif (decide (vn3 = (-9223372036854775808 : Int))) then (some (.tup [(.agg [(.int .i64 (0 : Int)), (.int .i64 (0 : Int))]), (.bool false)])) else (bif s4 then (bif (decide (vn3 = (-9223372036854775808 : Int))) then (bif (!s4) then (some (.tup [(.agg [(.int .i64 (IntKind.wrap .i64 (0 - vn3))), (.int .i64 (0 : Int))]), (.bool true)])) else (some (.tup [(.agg [(.int .i64 vn3), (.int .i64 (0 : Int))]), (.bool true)]))) else (bif (!s4) then (some (.tup [(.agg [(.int .i64 (IntKind.wrap .i64 (0 - vn3))), (.int .i64 (0 : Int))]), (.bool true)])) else (some (.tup [(.agg [(.int .i64 vn3), (.int .i64 (0 : Int))]), (.bool true)])))) else (bif (!s4) then (some (.tup [(.agg [(.int .i64 (IntKind.wrap .i64 (0 - vn3))), (.int .i64 (0 : Int))]), (.bool true)])) else (some (.tup [(.agg [(.int .i64 vn3), (.int .i64 (0 : Int))]), (.bool true)]))))) else (bif s4 then (bif (decide (vn3 = (-9223372036854775808 : Int))) then (bif (!s4) then (some (.tup [(.agg [(.int .i64 (IntKind.wrap .i64 (0 - vn3))), (.int .i64 (0 : Int))]), (.bool true)])) else (some (.tup [(.agg [(.int .i64 vn3), (.int .i64 (0 : Int))]), (.bool true)]))) else (bif (!s4) then (some (.tup [(.agg [(.int .i64 (IntKind.wrap .i64 (0 - vn3))), (.int .i64 (0 : Int))]), (.bool true)])) else (some (.tup [(.agg [(.int .i64 vn3), (.int .i64 (0 : Int))]), (.bool true)])))) else (bif (!s4) then (some (.tup [(.agg [(.int .i64 (IntKind.wrap .i64 (0 - vn3))), (.int .i64 (0 : Int))]), (.bool true)])) else (some (.tup [(.agg [(.int .i64 vn3), (.int .i64 (0 : Int))]), (.bool true)]))))))))))) else none)) := by kernel_rfl
theorem ref04_Time_L1_s (kap : FuncId → List AV → Option AV) (k : Nat) (k1 : Nat) (s4 : Bool) (s7 : Int) (s8 : Bool) (s9 : Int) (s10 : ByteArray) (s11 : Int) (b2_0 : Int) (b2_1 : Int) : ref04_Time_L1 kap k (k1 + 1) s4 s7 s8 s9 s10 s11 b2_0 b2_1 =
  (bif (decide (s11 < (9 : Int))) then (bif (decide (s11 < (((ByteArray.size s10) : Nat) : Int))) then (bif ((decide ((0 : Int) ≤ s11)) && (decide (s11 < (((ByteArray.size s10) : Nat) : Int)))) then (ref04_Time_L1 kap k k1 s4 s7 s8 (IntKind.wrap .i64 ((IntKind.wrap .i64 ((IntKind.wrap .i64 ((10 : Int) * s9)) + (IntKind.wrap .i64 (byteAt s10 (Int.toNat s11))))) - (48 : Int))) s10 (IntKind.wrap .i64 (s11 + (1 : Int))) b2_0 b2_1) else none) else (ref04_Time_L1 kap k k1 s4 s7 s8 (IntKind.wrap .i64 ((10 : Int) * s9)) s10 (IntKind.wrap .i64 (s11 + (1 : Int))) b2_0 b2_1)) else (bif (!s8) then (some (.tup [(.agg [(.int .i64 (0 : Int)), (.int .i64 (0 : Int))]), (.bool false)])) else (bif (!s4) then (bif (decide (s7 = (-9223372036854775808 : Int))) then (some (.tup [(.agg [(.int .i64 (0 : Int)), (.int .i64 (0 : Int))]), (.bool false)])) else (bif s4 then (bif (decide (s7 = (-9223372036854775808 : Int))) then (bif (decide (s9 > (0 : Int))) then (some (.tup [(.agg [(.int .i64 (0 : Int)), (.int .i64 (0 : Int))]), (.bool false)])) else (bif (!s4) then (some (.tup [(.agg [(.int .i64 (IntKind.wrap .i64 (0 - s7))), (.int .i64 s9)]), (.bool true)])) else (bif (decide (s9 = (0 : Int))) then (some (.tup [(.agg [(.int .i64 s7), (.int .i64 (0 : Int))]), (.bool true)])) else (some (.tup [(.agg [(.int .i64 (IntKind.wrap .i64 (s7 - (1 : Int)))), (.int .i64 (IntKind.wrap .i64 ((1000000000 : Int) - s9)))]), (.bool true)]))))) else (bif (!s4) then (some (.tup [(.agg [(.int .i64 (IntKind.wrap .i64 (0 - s7))), (.int .i64 s9)]), (.bool true)])) else (bif (decide (s9 = (0 : Int))) then (some (.tup [(.agg [(.int .i64 s7), (.int .i64 (0 : Int))]), (.bool true)])) else (some (.tup [(.agg [(.int .i64 (IntKind.wrap .i64 (s7 - (1 : Int)))), (.int .i64 (IntKind.wrap .i64 ((1000000000 : Int) - s9)))]), (.bool true)]))))) else (bif (!s4) then (some (.tup [(.agg [(.int .i64 (IntKind.wrap .i64 (0 - s7))), (.int .i64 s9)]), (.bool true)])) else (bif (decide (s9 = (0 : Int))) then (some (.tup [(.agg [(.int .i64 s7), (.int .i64 (0 : Int))]), (.bool true)])) else (some (.tup [(.agg [(.int .i64 (IntKind.wrap .i64 (s7 - (1 : Int)))), (.int .i64 (IntKind.wrap .i64 ((1000000000 : Int) - s9)))]), (.bool true)])))))) else (bif s4 then (bif (decide (s7 = (-9223372036854775808 : Int))) then (bif (decide (s9 > (0 : Int))) then (some (.tup [(.agg [(.int .i64 (0 : Int)), (.int .i64 (0 : Int))]), (.bool false)])) else (bif (!s4) then (some (.tup [(.agg [(.int .i64 (IntKind.wrap .i64 (0 - s7))), (.int .i64 s9)]), (.bool true)])) else (bif (decide (s9 = (0 : Int))) then (some (.tup [(.agg [(.int .i64 s7), (.int .i64 (0 : Int))]), (.bool true)])) else (some (.tup [(.agg [(.int .i64 (IntKind.wrap .i64 (s7 - (1 : Int)))), (.int .i64 (IntKind.wrap .i64 ((1000000000 : Int) - s9)))]), (.bool true)]))))) else (bif (!s4) then (some (.tup [(.agg [(.int .i64 (IntKind.wrap .i64 (0 - s7))), (.int .i64 s9)]), (.bool true)])) else (bif (decide (s9 = (0 : Int))) then (some (.tup [(.agg [(.int .i64 s7), (.int .i64 (0 : Int))]), (.bool true)])) else (some (.tup [(.agg [(.int .i64 (IntKind.wrap .i64 (s7 - (1 : Int)))), (.int .i64 (IntKind.wrap .i64 ((1000000000 : Int) - s9)))]), (.bool true)]))))) else (bif (!s4) then (some (.tup [(.agg [(.int .i64 (IntKind.wrap .i64 (0 - s7))), (.int .i64 s9)]), (.bool true)])) else (bif (decide (s9 = (0 : Int))) then (some (.tup [(.agg [(.int .i64 s7), (.int .i64 (0 : Int))]), (.bool true)])) else (some (.tup [(.agg [(.int .i64 (IntKind.wrap .i64 (s7 - (1 : Int)))), (.int .i64 (IntKind.wrap .i64 ((1000000000 : Int) - s9)))]), (.bool true)])))))))) := by kernel_rfl
theorem ref04_Time_eq {E : Ext} [Core E] (k n : Nat) (a0 : ByteArray) : kp E k (n + 1) ref04_Time [(.str a0)] =
  (bif (decide ((((ByteArray.size a0) : Nat) : Int) > (0 : Int))) then (bif (decide ((0 : Int) < (((ByteArray.size a0) : Nat) : Int))) then (bif (decide ((byteAt a0 0) = (45 : Int))) then (bif (decide ((1 : Int) ≤ (((ByteArray.size a0) : Nat) : Int))) then (ref04_Time_L0 (kp E k n) k k (ByteArray.extract a0 1 (ByteArray.size a0)) (decide ((byteAt a0 0) = (45 : Int))) (((ByteArray.size (ByteArray.extract a0 1 (ByteArray.size a0))) : Nat) : Int) (IntKind.wrap .i64 ((((ByteArray.size (ByteArray.extract a0 1 (ByteArray.size a0))) : Nat) : Int) - (1 : Int))) (0 : Int) (0 : Int)) else none) else (ref04_Time_L0 (kp E k n) k k a0 (decide ((byteAt a0 0) = (45 : Int))) (((ByteArray.size a0) : Nat) : Int) (IntKind.wrap .i64 ((((ByteArray.size a0) : Nat) : Int) - (1 : Int))) (0 : Int) (0 : Int))) else none) else (ref04_Time_L0 (kp E k n) k k a0 false (((ByteArray.size a0) : Nat) : Int) (IntKind.wrap .i64 ((((ByteArray.size a0) : Nat) : Int) - (1 : Int))) (0 : Int) (0 : Int))) := (kp_at (by kernel_rfl)).trans (by kernel_rfl)
/- oakum/oakumref04.Below -/
noncomputable def ref04_Below_bd : Code := Tryz.f94.body.getD .skip
noncomputable def ref04_Below_L0 (kap : FuncId → List AV → Option AV) (k : Nat) (k0 : Nat) (s0 : ByteArray) (s4 : Int) (s5 : Int) : Option AV :=
  loop (fun fr K => code ((bs E0 k).cfg kap ref04_Below) (sel ref04_Below_bd [1, 1, 1, 0, 1, 0, 0]) fr K) (canon ((bs E0 k).cfg kap ref04_Below) (firstReg (sel ref04_Below_bd [1, 1, 1, 0, 1, 0, 0]))) k0 (mkFr 46 [(0, (.str s0)), (4, (.int .i64 s4)), (5, (.int .i64 s5))] []) (plug ((bs E0 k).cfg kap ref04_Below) (retK ((bs E0 k).cfg kap ref04_Below) [] Tryz.f94 [] some) [.blk 0, .seqR (sel ref04_Below_bd [1, 1, 1, 1])])
theorem ref04_Below_L0_s (kap : FuncId → List AV → Option AV) (k : Nat) (k0 : Nat) (s0 : ByteArray) (s4 : Int) (s5 : Int) : ref04_Below_L0 kap k (k0 + 1) s0 s4 s5 =
  (bif (decide (s5 < (((ByteArray.size s0) : Nat) : Int))) then (bif ((decide ((0 : Int) ≤ s5)) && (decide (s5 < (((ByteArray.size s0) : Nat) : Int)))) then (bif (decide (s4 < (-922337203685477580 : Int))) then (some (.tup [(.int .i64 (0 : Int)), (.bool false)])) else (bif (decide (s4 = (-922337203685477580 : Int))) then (bif (decide ((IntKind.wrap .i64 ((IntKind.wrap .i64 (byteAt s0 (Int.toNat s5))) - (48 : Int))) > (8 : Int))) then (some (.tup [(.int .i64 (0 : Int)), (.bool false)])) else (ref04_Below_L0 kap k k0 s0 (IntKind.wrap .i64 ((IntKind.wrap .i64 ((10 : Int) * s4)) - (IntKind.wrap .i64 ((IntKind.wrap .i64 (byteAt s0 (Int.toNat s5))) - (48 : Int))))) (IntKind.wrap .i64 (s5 + (1 : Int))))) else (ref04_Below_L0 kap k k0 s0 (IntKind.wrap .i64 ((IntKind.wrap .i64 ((10 : Int) * s4)) - (IntKind.wrap .i64 ((IntKind.wrap .i64 (byteAt s0 (Int.toNat s5))) - (48 : Int))))) (IntKind.wrap .i64 (s5 + (1 : Int)))))) else none) else (some (.tup [(.int .i64 s4), (.bool true)]))) := by kernel_rfl
theorem ref04_Below_eq {E : Ext} [Core E] (k n : Nat) (a0 : ByteArray) : kp E k (n + 1) ref04_Below [(.str a0)] =
  (callB (kp E k n ref04_only [(.str a0)]) fun vq2 => (bif (!vq2) then (some (.tup [(.int .i64 (0 : Int)), (.bool false)])) else (bif (decide ((0 : Int) < (((ByteArray.size a0) : Nat) : Int))) then (bif (decide ((byteAt a0 0) = (48 : Int))) then (bif (decide ((((ByteArray.size a0) : Nat) : Int) > (1 : Int))) then (some (.tup [(.int .i64 (0 : Int)), (.bool false)])) else (ref04_Below_L0 (kp E k n) k k a0 (0 : Int) (0 : Int))) else (ref04_Below_L0 (kp E k n) k k a0 (0 : Int) (0 : Int))) else none))) := (kp_at (by kernel_rfl)).trans (by kernel_rfl)
/- oakum/oakumref04.only -/
noncomputable def ref04_only_bd : Code := Tryz.f95.body.getD .skip
noncomputable def ref04_only_L0 (kap : FuncId → List AV → Option AV) (k : Nat) (k0 : Nat) (s0 : ByteArray) (s3 : Int) : Option AV :=
  loop (fun fr K => code ((bs E0 k).cfg kap ref04_only) (sel ref04_only_bd [1, 0, 1, 0, 0]) fr K) (canon ((bs E0 k).cfg kap ref04_only) (firstReg (sel ref04_only_bd [1, 0, 1, 0, 0]))) k0 (mkFr 23 [(0, (.str s0)), (3, (.int .i64 s3))] []) (plug ((bs E0 k).cfg kap ref04_only) (retK ((bs E0 k).cfg kap ref04_only) [] Tryz.f95 [] some) [.blk 0, .seqR (sel ref04_only_bd [1, 1])])
theorem ref04_only_L0_s (kap : FuncId → List AV → Option AV) (k : Nat) (k0 : Nat) (s0 : ByteArray) (s3 : Int) : ref04_only_L0 kap k (k0 + 1) s0 s3 =
  (bif (decide (s3 < (((ByteArray.size s0) : Nat) : Int))) then (bif ((decide ((0 : Int) ≤ s3)) && (decide (s3 < (((ByteArray.size s0) : Nat) : Int)))) then (bif (decide ((byteAt s0 (Int.toNat s3)) < (48 : Int))) then (some (.bool false)) else (bif ((decide ((0 : Int) ≤ s3)) && (decide (s3 < (((ByteArray.size s0) : Nat) : Int)))) then (bif (decide ((byteAt s0 (Int.toNat s3)) > (57 : Int))) then (some (.bool false)) else (ref04_only_L0 kap k k0 s0 (IntKind.wrap .i64 (s3 + (1 : Int))))) else none)) else none) else (some (.bool (decide ((((ByteArray.size s0) : Nat) : Int) > (0 : Int)))))) := by kernel_rfl
theorem ref04_only_eq {E : Ext} [Core E] (k n : Nat) (a0 : ByteArray) : kp E k (n + 1) ref04_only [(.str a0)] =
  (ref04_only_L0 (kp E k n) k k a0 (0 : Int)) := (kp_at (by kernel_rfl)).trans (by kernel_rfl)
/- oakum/dec.Number -/
theorem dec_Number_eq {E : Ext} [Core E] (k n : Nat) (a0 : ByteArray) : kp E k (n + 1) dec_Number [(.str a0)] =
  (callT (kp E k n dec_natural [(.str a0)]) fun vt2 => (tupI .u64 vt2 fun vn3 vt4 => (tupB vt4 fun vq5 vt6 => (atNil vt6 (bif (!vq5) then (some (.tup [(.int .i64 (0 : Int)), (.int .u8 (15 : Int))])) else (bif (decide ((Int.fdiv vn3 (2 ^ (min (Int.toNat (63 : Int)) (IntKind.bits .u64)))) > (0 : Int))) then (some (.tup [(.int .i64 (0 : Int)), (.int .u8 (15 : Int))])) else (some (.tup [(.int .i64 (IntKind.wrap .i64 vn3)), (.int .u8 (0 : Int))])))))))) := (kp_at (by kernel_rfl)).trans (by kernel_rfl)
/- oakum/dec.Time -/
theorem dec_Time_eq {E : Ext} [Core E] (k n : Nat) (a0 : ByteArray) : kp E k (n + 1) dec_Time [(.str a0)] =
  (callT (kp E k n strings_CutPrefix [(.str a0), (.str (str [45]))]) fun vt2 => (tupS vt2 fun vs3 vt4 => (tupB vt4 fun vq5 vt6 => (atNil vt6 (callT (kp E k n strings_Cut [(.str vs3), (.str (str [46]))]) fun vt8 => (tupS vt8 fun vs9 vt10 => (tupS vt10 fun vs11 vt12 => (tupB vt12 fun vq13 vt14 => (atNil vt14 (callT (kp E k n dec_natural [(.str vs9)]) fun vt16 => (tupI .u64 vt16 fun vn17 vt18 => (tupB vt18 fun vq19 vt20 => (atNil vt20 (bif (!vq19) then (some (.tup [(.agg [(.int .i64 (0 : Int)), (.int .i64 (0 : Int))]), (.int .u8 (15 : Int))])) else (bif vq13 then (callB (kp E k n dec_digits [(.str vs11)]) fun vq22 => (bif (!vq22) then (some (.tup [(.agg [(.int .i64 (0 : Int)), (.int .i64 (0 : Int))]), (.int .u8 (15 : Int))])) else (bif (decide ((((ByteArray.size vs11) : Nat) : Int) > (9 : Int))) then (some (.tup [(.agg [(.int .i64 (0 : Int)), (.int .i64 (0 : Int))]), (.int .u8 (15 : Int))])) else (bif vq13 then (callS (kp E k n strings_Repeat [(.str (str [48])), (.int .i64 (IntKind.wrap .i64 ((9 : Int) - (((ByteArray.size vs11) : Nat) : Int))))]) fun vs24 => (bif (decide ((ByteArray.size vs11) + (ByteArray.size vs24) ≤ 9223372036854775807)) then (callT (kp E k n strconv_ParseInt [(.str (vs11 ++ vs24)), (.int .i64 (10 : Int)), (.int .i64 (64 : Int))]) fun vt26 => (tupI .i64 vt26 fun vn27 vt28 => (tupV vt28 fun vr29 vt30 => (atNil vt30 (bif (!vq5) then (bif (decide ((Int.fdiv vn17 (2 ^ (min (Int.toNat (63 : Int)) (IntKind.bits .u64)))) > (0 : Int))) then (some (.tup [(.agg [(.int .i64 (0 : Int)), (.int .i64 (0 : Int))]), (.int .u8 (15 : Int))])) else (bif (!vq5) then (some (.tup [(.agg [(.int .i64 (IntKind.wrap .i64 vn17)), (.int .i64 vn27)]), (.int .u8 (0 : Int))])) else (bif (decide (vn27 = (0 : Int))) then (some (.tup [(.agg [(.int .i64 (IntKind.wrap .i64 (IntKind.wrap .u64 (0 - vn17)))), (.int .i64 vn27)]), (.int .u8 (0 : Int))])) else (bif (decide ((Int.fdiv vn17 (2 ^ (min (Int.toNat (63 : Int)) (IntKind.bits .u64)))) > (0 : Int))) then (some (.tup [(.agg [(.int .i64 (0 : Int)), (.int .i64 (0 : Int))]), (.int .u8 (15 : Int))])) else (some (.tup [(.agg [(.int .i64 (IntKind.wrap .i64 ((IntKind.wrap .i64 (0 - (IntKind.wrap .i64 vn17))) - (1 : Int)))), (.int .i64 (IntKind.wrap .i64 ((1000000000 : Int) - vn27)))]), (.int .u8 (0 : Int))])))))) else (bif (!vq5) then (some (.tup [(.agg [(.int .i64 (IntKind.wrap .i64 vn17)), (.int .i64 vn27)]), (.int .u8 (0 : Int))])) else (bif (decide (vn27 = (0 : Int))) then (some (.tup [(.agg [(.int .i64 (IntKind.wrap .i64 (IntKind.wrap .u64 (0 - vn17)))), (.int .i64 vn27)]), (.int .u8 (0 : Int))])) else (bif (decide ((Int.fdiv vn17 (2 ^ (min (Int.toNat (63 : Int)) (IntKind.bits .u64)))) > (0 : Int))) then (some (.tup [(.agg [(.int .i64 (0 : Int)), (.int .i64 (0 : Int))]), (.int .u8 (15 : Int))])) else (some (.tup [(.agg [(.int .i64 (IntKind.wrap .i64 ((IntKind.wrap .i64 (0 - (IntKind.wrap .i64 vn17))) - (1 : Int)))), (.int .i64 (IntKind.wrap .i64 ((1000000000 : Int) - vn27)))]), (.int .u8 (0 : Int))])))))))))) else none)) else (bif (!vq5) then (bif (decide ((Int.fdiv vn17 (2 ^ (min (Int.toNat (63 : Int)) (IntKind.bits .u64)))) > (0 : Int))) then (some (.tup [(.agg [(.int .i64 (0 : Int)), (.int .i64 (0 : Int))]), (.int .u8 (15 : Int))])) else (bif (!vq5) then (some (.tup [(.agg [(.int .i64 (IntKind.wrap .i64 vn17)), (.int .i64 (0 : Int))]), (.int .u8 (0 : Int))])) else (some (.tup [(.agg [(.int .i64 (IntKind.wrap .i64 (IntKind.wrap .u64 (0 - vn17)))), (.int .i64 (0 : Int))]), (.int .u8 (0 : Int))])))) else (bif (!vq5) then (some (.tup [(.agg [(.int .i64 (IntKind.wrap .i64 vn17)), (.int .i64 (0 : Int))]), (.int .u8 (0 : Int))])) else (some (.tup [(.agg [(.int .i64 (IntKind.wrap .i64 (IntKind.wrap .u64 (0 - vn17)))), (.int .i64 (0 : Int))]), (.int .u8 (0 : Int))])))))))) else (bif vq13 then (callS (kp E k n strings_Repeat [(.str (str [48])), (.int .i64 (IntKind.wrap .i64 ((9 : Int) - (((ByteArray.size vs11) : Nat) : Int))))]) fun vs32 => (bif (decide ((ByteArray.size vs11) + (ByteArray.size vs32) ≤ 9223372036854775807)) then (callT (kp E k n strconv_ParseInt [(.str (vs11 ++ vs32)), (.int .i64 (10 : Int)), (.int .i64 (64 : Int))]) fun vt34 => (tupI .i64 vt34 fun vn35 vt36 => (tupV vt36 fun vr37 vt38 => (atNil vt38 (bif (!vq5) then (bif (decide ((Int.fdiv vn17 (2 ^ (min (Int.toNat (63 : Int)) (IntKind.bits .u64)))) > (0 : Int))) then (some (.tup [(.agg [(.int .i64 (0 : Int)), (.int .i64 (0 : Int))]), (.int .u8 (15 : Int))])) else (bif (!vq5) then (some (.tup [(.agg [(.int .i64 (IntKind.wrap .i64 vn17)), (.int .i64 vn35)]), (.int .u8 (0 : Int))])) else (bif (decide (vn35 = (0 : Int))) then (some (.tup [(.agg [(.int .i64 (IntKind.wrap .i64 (IntKind.wrap .u64 (0 - vn17)))), (.int .i64 vn35)]), (.int .u8 (0 : Int))])) else (bif (decide ((Int.fdiv vn17 (2 ^ (min (Int.toNat (63 : Int)) (IntKind.bits .u64)))) > (0 : Int))) then (some (.tup [(.agg [(.int .i64 (0 : Int)), (.int .i64 (0 : Int))]), (.int .u8 (15 : Int))])) else (some (.tup [(.agg [(.int .i64 (IntKind.wrap .i64 ((IntKind.wrap .i64 (0 - (IntKind.wrap .i64 vn17))) - (1 : Int)))), (.int .i64 (IntKind.wrap .i64 ((1000000000 : Int) - vn35)))]), (.int .u8 (0 : Int))])))))) else (bif (!vq5) then (some (.tup [(.agg [(.int .i64 (IntKind.wrap .i64 vn17)), (.int .i64 vn35)]), (.int .u8 (0 : Int))])) else (bif (decide (vn35 = (0 : Int))) then (some (.tup [(.agg [(.int .i64 (IntKind.wrap .i64 (IntKind.wrap .u64 (0 - vn17)))), (.int .i64 vn35)]), (.int .u8 (0 : Int))])) else (bif (decide ((Int.fdiv vn17 (2 ^ (min (Int.toNat (63 : Int)) (IntKind.bits .u64)))) > (0 : Int))) then (some (.tup [(.agg [(.int .i64 (0 : Int)), (.int .i64 (0 : Int))]), (.int .u8 (15 : Int))])) else (some (.tup [(.agg [(.int .i64 (IntKind.wrap .i64 ((IntKind.wrap .i64 (0 - (IntKind.wrap .i64 vn17))) - (1 : Int)))), (.int .i64 (IntKind.wrap .i64 ((1000000000 : Int) - vn35)))]), (.int .u8 (0 : Int))])))))))))) else none)) else (bif (!vq5) then (bif (decide ((Int.fdiv vn17 (2 ^ (min (Int.toNat (63 : Int)) (IntKind.bits .u64)))) > (0 : Int))) then (some (.tup [(.agg [(.int .i64 (0 : Int)), (.int .i64 (0 : Int))]), (.int .u8 (15 : Int))])) else (bif (!vq5) then (some (.tup [(.agg [(.int .i64 (IntKind.wrap .i64 vn17)), (.int .i64 (0 : Int))]), (.int .u8 (0 : Int))])) else (some (.tup [(.agg [(.int .i64 (IntKind.wrap .i64 (IntKind.wrap .u64 (0 - vn17)))), (.int .i64 (0 : Int))]), (.int .u8 (0 : Int))])))) else (bif (!vq5) then (some (.tup [(.agg [(.int .i64 (IntKind.wrap .i64 vn17)), (.int .i64 (0 : Int))]), (.int .u8 (0 : Int))])) else (some (.tup [(.agg [(.int .i64 (IntKind.wrap .i64 (IntKind.wrap .u64 (0 - vn17)))), (.int .i64 (0 : Int))]), (.int .u8 (0 : Int))])))))))))))))))))))) := (kp_at (by kernel_rfl)).trans (by kernel_rfl)
/- oakum/dec.natural -/
theorem dec_natural_eq {E : Ext} [Core E] (k n : Nat) (a0 : ByteArray) : kp E k (n + 1) dec_natural [(.str a0)] =
  (callB (kp E k n dec_digits [(.str a0)]) fun vq2 => (bif (!vq2) then (some (.tup [(.int .u64 (0 : Int)), (.bool false)])) else (bif (decide ((0 : Int) < (((ByteArray.size a0) : Nat) : Int))) then (bif (decide ((byteAt a0 0) = (48 : Int))) then (bif (decide ((((ByteArray.size a0) : Nat) : Int) > (1 : Int))) then (some (.tup [(.int .u64 (0 : Int)), (.bool false)])) else (callT (kp E k n strconv_ParseUint [(.str a0), (.int .i64 (10 : Int)), (.int .i64 (64 : Int))]) fun vt4 => (tupI .u64 vt4 fun vn5 vt6 => (tupV vt6 fun vr7 vt8 => (atNil vt8 (nilB vr7 fun q9 => (bif q9 then (some (.tup [(.int .u64 vn5), (.bool (decide (vn5 ≤ (9223372036854775808 : Int))))])) else (some (.tup [(.int .u64 vn5), (.bool false)]))))))))) else (callT (kp E k n strconv_ParseUint [(.str a0), (.int .i64 (10 : Int)), (.int .i64 (64 : Int))]) fun vt11 => (tupI .u64 vt11 fun vn12 vt13 => (tupV vt13 fun vr14 vt15 => (atNil vt15 (nilB vr14 fun q16 => (bif q16 then (some (.tup [(.int .u64 vn12), (.bool (decide (vn12 ≤ (9223372036854775808 : Int))))])) else (some (.tup [(.int .u64 vn12), (.bool false)]))))))))) else none))) := (kp_at (by kernel_rfl)).trans (by kernel_rfl)
/- strings.Cut -/
theorem strings_Cut_eq {E : Ext} [Core E] (k n : Nat) (a0 : ByteArray) (a1 : ByteArray) : kp E k (n + 1) strings_Cut [(.str a0), (.str a1)] =
  (callT (kp E k n stringslite_Cut [(.str a0), (.str a1)]) fun vt2 => (tupS vt2 fun vs3 vt4 => (tupS vt4 fun vs5 vt6 => (tupB vt6 fun vq7 vt8 => (atNil vt8 (some (.tup [(.str vs3), (.str vs5), (.bool vq7)]))))))) := (kp_at (by kernel_rfl)).trans (by kernel_rfl)
/- oakum/dec.digits -/
noncomputable def dec_digits_bd : Code := Tryz.f113.body.getD .skip
noncomputable def dec_digits_L0 (kap : FuncId → List AV → Option AV) (k : Nat) (k0 : Nat) (s0 : ByteArray) (s5 : Int) (s6 : Int) : Option AV :=
  loop (fun fr K => code ((bs E0 k).cfg kap dec_digits) (sel dec_digits_bd [1, 0, 1, 0, 0]) fr K) (canon ((bs E0 k).cfg kap dec_digits) (firstReg (sel dec_digits_bd [1, 0, 1, 0, 0]))) k0 (mkFr 22 [(0, (.str s0)), (5, (.int .i64 s5)), (6, (.int .i64 s6))] []) (plug ((bs E0 k).cfg kap dec_digits) (retK ((bs E0 k).cfg kap dec_digits) [] Tryz.f113 [] some) [.blk 0, .seqR (sel dec_digits_bd [1, 1])])
theorem dec_digits_L0_s (kap : FuncId → List AV → Option AV) (k : Nat) (k0 : Nat) (s0 : ByteArray) (s5 : Int) (s6 : Int) : dec_digits_L0 kap k (k0 + 1) s0 s5 s6 =
  (bif (decide (s6 < s5)) then (bif ((decide ((0 : Int) ≤ s6)) && (decide (s6 < (((ByteArray.size s0) : Nat) : Int)))) then (bif (decide ((byteAt s0 (Int.toNat s6)) < (48 : Int))) then (some (.bool false)) else (bif ((decide ((0 : Int) ≤ s6)) && (decide (s6 < (((ByteArray.size s0) : Nat) : Int)))) then (bif (decide ((byteAt s0 (Int.toNat s6)) > (57 : Int))) then (some (.bool false)) else (dec_digits_L0 kap k k0 s0 s5 (IntKind.wrap .i64 (s6 + (1 : Int))))) else none)) else none) else (some (.bool (!(decide (s0 = (str []))))))) := by kernel_rfl
theorem dec_digits_eq {E : Ext} [Core E] (k n : Nat) (a0 : ByteArray) : kp E k (n + 1) dec_digits [(.str a0)] =
  (dec_digits_L0 (kp E k n) k k a0 (((ByteArray.size a0) : Nat) : Int) (0 : Int)) := (kp_at (by kernel_rfl)).trans (by kernel_rfl)
/- internal/stringslite.CutPrefix -/
/- internal/stringslite.Cut -/
theorem stringslite_Cut_eq {E : Ext} [Core E] (k n : Nat) (a0 : ByteArray) (a1 : ByteArray) : kp E k (n + 1) stringslite_Cut [(.str a0), (.str a1)] =
  (callI .i64 (kp E k n stringslite_Index [(.str a0), (.str a1)]) fun vn2 => (bif (decide (vn2 ≥ (0 : Int))) then (bif ((decide ((0 : Int) ≤ vn2)) && (decide (vn2 ≤ (((ByteArray.size a0) : Nat) : Int)))) then (bif ((decide ((0 : Int) ≤ (IntKind.wrap .i64 (vn2 + (((ByteArray.size a1) : Nat) : Int))))) && (decide ((IntKind.wrap .i64 (vn2 + (((ByteArray.size a1) : Nat) : Int))) ≤ (((ByteArray.size a0) : Nat) : Int)))) then (some (.tup [(.str (ByteArray.extract a0 0 (Int.toNat vn2))), (.str (ByteArray.extract a0 (Int.toNat (IntKind.wrap .i64 (vn2 + (((ByteArray.size a1) : Nat) : Int)))) (ByteArray.size a0))), (.bool true)])) else none) else none) else (some (.tup [(.str a0), (.str (str [])), (.bool false)])))) := (kp_at (by kernel_rfl)).trans (by kernel_rfl)
end Go.Proofs.YtkbedfjhchhikaaGreatDoor.Eng.U


/- Numbers as texts, in plain Lean. -/
set_option linter.unusedVariables false
set_option linter.unusedSimpArgs false
namespace Go.Proofs.YtkbedfjhchhikaaGreatDoor.P04
open Go

def isDig (c : UInt8) : Bool := decide (48 ≤ c.toNat) && decide (c.toNat ≤ 57)
def digs (l : List UInt8) : Bool := l.all isDig && !l.isEmpty
def valA (acc : Nat) (l : List UInt8) : Nat := l.foldl (fun a c => a * 10 + (c.toNat - 48)) acc
def lead (l : List UInt8) : Bool := decide (l.headD 0 = 48) && decide (1 < l.length)
def natOk (l : List UInt8) : Bool := digs l && !lead l && decide (valA 0 l ≤ 9223372036854775808)
theorem valA_ge : ∀ (l : List UInt8) (acc : Nat), acc ≤ valA acc l
  | [], acc => Nat.le_refl _
  | c :: l, acc => by
    have := valA_ge l (acc * 10 + (c.toNat - 48))
    simp only [valA, List.foldl_cons] at this ⊢
    omega
theorem valA_cons (c : UInt8) (l : List UInt8) (acc : Nat) : valA acc (c :: l) = valA (acc * 10 + (c.toNat - 48)) l := by
  unfold valA
  rw [List.foldl_cons]
theorem dig_iff {c : UInt8} : isDig c = true ↔ 48 ≤ c.toNat ∧ c.toNat ≤ 57 := by simp [isDig]
theorem parse_eq {M : Nat} (hM : M = 18446744073709551615) (l : List UInt8) : ∀ (acc : Nat), l.all isDig = true → acc ≤ M → Lib.parseUintM M acc l = if valA acc l ≤ M then .ok (valA acc l) else .range := by
  induction l with
  | nil =>
    intro acc _ h
    have e : valA acc [] = acc := rfl
    rw [e, if_pos h]
    rfl
  | cons c l ih =>
    intro acc hd h
    rw [List.all_cons, Bool.and_eq_true] at hd
    have hc := dig_iff.1 hd.1
    have hg := valA_ge l (acc * 10 + (c.toNat - 48))
    have e : Lib.parseUintM M acc (c :: l) = if 48 ≤ c.toNat ∧ c.toNat ≤ 57 then (if 1844674407370955162 ≤ acc then .range else if M < acc * 10 + (c.toNat - 48) then .range else Lib.parseUintM M (acc * 10 + (c.toNat - 48)) l) else Lib.parseUintM M 0 [47] := rfl
    rw [e, if_pos hc, valA_cons]
    by_cases h1 : 1844674407370955162 ≤ acc
    · rw [if_pos h1, if_neg (by omega)]
    · rw [if_neg h1]
      by_cases h2 : M < acc * 10 + (c.toNat - 48)
      · rw [if_pos h2, if_neg (by omega)]
      · rw [if_neg h2, ih _ hd.2 (by omega)]
theorem parseB_eq {l : List UInt8} (hd : digs l = true) : Lib.parseUintB 64 l = if valA 0 l ≤ 18446744073709551615 then .ok (valA 0 l) else .range := by
  simp only [digs, Bool.and_eq_true, Bool.not_eq_true', List.isEmpty_eq_false_iff] at hd
  rw [Lib.parseUintB, if_neg hd.2]
  exact parse_eq (by decide) l 0 hd.1 (by omega)
/-- Where the first point stands; the length, where there is none. -/
def dot (l : List UInt8) : Nat := l.findIdx (· == 46)
theorem index_dot : ∀ l : List UInt8, Lib.indexByte l 46 = if dot l < l.length then (dot l : Int) else -1
  | [] => rfl
  | c :: l => by
    have ih := index_dot l
    unfold Lib.indexByte dot
    rw [List.findIdx_cons]
    by_cases hc : (c == 46) = true
    · simp [hc]
    · rw [if_neg hc, Bool.eq_false_iff.2 hc, cond_false, ih]
      unfold dot
      have : List.findIdx (· == 46) l ≤ l.length := List.findIdx_le_length
      simp only [List.length_cons]
      by_cases h : List.findIdx (· == 46) l < l.length
      · rw [if_pos h, if_pos (show List.findIdx (· == 46) l + 1 < l.length + 1 by omega)]
        rw [if_neg (by simp)]
        omega
      · rw [if_neg h, if_neg (show ¬ List.findIdx (· == 46) l + 1 < l.length + 1 by omega)]
        rfl
/-- The time that a text is, behind its sign. -/
def timeB (minus : Bool) (t : List UInt8) : Option (Int × Int) :=
  let a := t.take (dot t)
  let b := t.drop (dot t + 1)
  let nano := if dot t < t.length then valA 0 (b ++ List.replicate (9 - b.length) 48) else 0
  let v := valA 0 a
  if natOk a = false then none
  else if dot t < t.length ∧ ¬ (digs b = true ∧ b.length ≤ 9) then none
  else if minus = false then (if 9223372036854775807 < v then none else some ((v : Int), (nano : Int)))
  else if nano = 0 then some (-(v : Int), 0)
  else if 9223372036854775807 < v then none
  else some (-(v : Int) - 1, 1000000000 - (nano : Int))
def timeL (s : List UInt8) : Option (Int × Int) := timeB (decide (s.head? = some 45)) (if s.head? = some 45 then s.drop 1 else s)
theorem valA_lt : ∀ (l : List UInt8) (acc m : Nat), l.all isDig = true → acc < 10 ^ m → valA acc l < 10 ^ (m + l.length)
  | [], acc, m, _, h => h
  | c :: l, acc, m, hd, h => by
    rw [List.all_cons, Bool.and_eq_true] at hd
    have hc := dig_iff.1 hd.1
    have := valA_lt l (acc * 10 + (c.toNat - 48)) (m + 1) hd.2 (by rw [Nat.pow_succ]; omega)
    rw [valA_cons, List.length_cons, show m + (l.length + 1) = m + 1 + l.length from by omega]
    exact this
theorem valA_app (a b : List UInt8) (acc : Nat) : valA acc (a ++ b) = valA (valA acc a) b := by simp [valA, List.foldl_append]
/-! Printing. -/
theorem decDigits_rec {u : Nat} (h : ¬ u < 10) : Lib.decDigits u = Lib.decDigits (u / 10) ++ [UInt8.ofNat (48 + u % 10)] := by rw [Lib.decDigits, dif_neg h]
end Go.Proofs.YtkbedfjhchhikaaGreatDoor.P04


/- The functions of the Dec laws in plain words. -/
set_option linter.unusedVariables false
set_option linter.unusedSectionVars false
set_option linter.unusedSimpArgs false
namespace Go.Proofs.YtkbedfjhchhikaaGreatDoor.Eng.U
open Go Go.Proofs Go.Proofs.YtkbedfjhchhikaaGreatDoor.Eng Go.Proofs.YtkbedfjhchhikaaGreatDoor.P04
variable {E : Ext} [Core E] {k n : Nat}

def endI : Lib.NumEnd Int → Int → AV
  | .ok v, _ => .tup [.int .i64 v, .nili]
  | .range, d => .tup [.int .i64 d, .ifc]
  | _, _ => .tup [.int .i64 0, .ifc]
def endU : Lib.NumEnd Nat → AV
  | .ok v => .tup [.int .u64 v, .nili]
  | .range => .tup [.int .u64 18446744073709551615, .ifc]
  | _ => .tup [.int .u64 0, .ifc]
class HasNum (E : Ext) : Prop where
  itoa : ∀ (k n : Nat) (v : Int), -9223372036854775808 ≤ v → v ≤ 9223372036854775807 → kp E k n strconv_Itoa [.int .i64 v] = some (.str (str (Lib.itoa v)))
  cutP : ∀ (k n : Nat) (s p : List UInt8), kp E k n strings_CutPrefix [.str (str s), .str (str p)] = some (.tup [.str (str (Lib.trimPrefix s p)), .bool (Lib.hasPrefix s p)])
  index : ∀ (k n : Nat) (s : List UInt8) (x : UInt8), kp E k n stringslite_Index [.str (str s), .str (str [x])] = some (.int .i64 (Lib.indexByte s x))
  indexB : ∀ (k n : Nat) (s : List UInt8) (c : Int), kp E k n strings_IndexByte [.str (str s), .int .u8 c] = some (.int .i64 (Lib.indexByte s c.toNat.toUInt8))
  rep : ∀ (k n : Nat) (s : List UInt8) (c : Nat), c ≤ 9223372036854775807 → s.length * c ≤ 140737488355328 → kp E k n strings_Repeat [.str (str s), .int .i64 c] = some (.str (str (Lib.repeatL s c)))
  pint : ∀ (k n : Nat) (s : List UInt8), s.length ≤ 281474976710656 → kp E k n strconv_ParseInt [.str (str s), .int .i64 10, .int .i64 64] = some (endI (Lib.parseIntB 64 s) (Lib.intSat 64 s))
  puint : ∀ (k n : Nat) (s : List UInt8), s.length ≤ 281474976710656 → kp E k n strconv_ParseUint [.str (str s), .int .i64 10, .int .i64 64] = some (endU (Lib.parseUintB 64 s))

theorem digits_loop (kap : FuncId → List AV → Option AV) : ∀ (suf pre : List UInt8) (k0 : Nat), suf.length < k0 → (pre ++ suf).length < 1000000000000000 →
    dec_digits_L0 kap k k0 (str (pre ++ suf)) (((pre ++ suf).length : Nat) : Int) ((pre.length : Nat) : Int) = some (.bool (suf.all isDig && !(pre ++ suf).isEmpty))
  | [], pre, k0 + 1, h, hb => by
    rw [dec_digits_L0_s, nlt, decide_eq_false (by simp), cond_false, str_dec]
    cases pre <;> simp
  | c :: suf, pre, k0 + 1, h, hb => by
    rw [dec_digits_L0_s]
    rw [mid_len] at hb
    have hg : (pre ++ c :: suf).getD pre.length 0 = c := mid_byte _ _ _
    rw [str_size, mid_len, dec0, nlt, decide_eq_true (by omega), Bool.true_and, cond_true, cond_true, cond_true, Int.toNat_natCast, str_byte, hg, List.all_cons]
    by_cases h1 : 48 ≤ c.toNat
    · rw [bif_f (by omega)]
      by_cases h2 : c.toNat ≤ 57
      · rw [bif_f (by omega), wrap1 (by omega)]
        have := digits_loop kap suf (pre ++ [c]) k0 (by simpa using h) (by simp; omega)
        rw [List.append_assoc, List.singleton_append, mid_len, List.length_append, List.length_singleton] at this
        rw [this, dig_iff.2 ⟨h1, h2⟩, Bool.true_and]
      · rw [bif_t (by omega), show isDig c = false from by simp [isDig]; omega]
        rfl
    · rw [bif_t (by omega), show isDig c = false from by simp [isDig]; omega]
      rfl
theorem digits_k (l : List UInt8) (hb : l.length < 1000000000000000) (hk : l.length < k) : kp E k (n + 1) dec_digits [.str (str l)] = some (.bool (digs l)) := by
  rw [dec_digits_eq, str_size]
  exact digits_loop _ l [] k hk hb
theorem only_loop (kap : FuncId → List AV → Option AV) : ∀ (suf pre : List UInt8) (k0 : Nat), suf.length < k0 → (pre ++ suf).length < 1000000000000000 →
    ref04_only_L0 kap k k0 (str (pre ++ suf)) ((pre.length : Nat) : Int) = some (.bool (suf.all isDig && !(pre ++ suf).isEmpty))
  | [], pre, k0 + 1, h, hb => by
    rw [ref04_only_L0_s, str_size, nlt, decide_eq_false (by simp), cond_false]
    cases pre with
    | nil => rfl
    | cons c l => rw [decide_eq_true (by simp)]; simp
  | c :: suf, pre, k0 + 1, h, hb => by
    rw [ref04_only_L0_s]
    rw [mid_len] at hb
    have hg : (pre ++ c :: suf).getD pre.length 0 = c := mid_byte _ _ _
    rw [str_size, mid_len, dec0, nlt, decide_eq_true (by omega), Bool.true_and, cond_true, cond_true, cond_true, Int.toNat_natCast, str_byte, hg, List.all_cons]
    by_cases h1 : 48 ≤ c.toNat
    · rw [bif_f (by omega)]
      by_cases h2 : c.toNat ≤ 57
      · rw [bif_f (by omega), wrap1 (by omega)]
        have := only_loop kap suf (pre ++ [c]) k0 (by simpa using h) (by simp; omega)
        rw [List.append_assoc, List.singleton_append, List.length_append, List.length_singleton] at this
        rw [this, dig_iff.2 ⟨h1, h2⟩, Bool.true_and]
      · rw [bif_t (by omega), show isDig c = false from by simp [isDig]; omega]
        rfl
    · rw [bif_t (by omega), show isDig c = false from by simp [isDig]; omega]
      rfl
theorem only_k (l : List UInt8) (hb : l.length < 1000000000000000) (hk : l.length < k) : kp E k (n + 1) ref04_only [.str (str l)] = some (.bool (digs l)) := by
  rw [ref04_only_eq]
  exact only_loop _ l [] k hk hb
theorem below_loop (kap : FuncId → List AV → Option AV) : ∀ (suf pre : List UInt8) (k0 acc : Nat), suf.length < k0 → (pre ++ suf).length < 1000000000000000 → suf.all isDig = true → acc ≤ 9223372036854775808 →
    ref04_Below_L0 kap k k0 (str (pre ++ suf)) (-(acc : Int)) ((pre.length : Nat) : Int) = some (if valA acc suf ≤ 9223372036854775808 then .tup [.int .i64 (-(valA acc suf : Int)), .bool true] else .tup [.int .i64 0, .bool false])
  | [], pre, k0 + 1, acc, h, hb, hd, ha => by
    rw [ref04_Below_L0_s, str_size, nlt, decide_eq_false (by simp), cond_false]
    have e : valA acc [] = acc := rfl
    rw [e, if_pos ha]
  | c :: suf, pre, k0 + 1, acc, h, hb, hd, ha => by
    rw [ref04_Below_L0_s]
    rw [mid_len] at hb
    rw [List.all_cons, Bool.and_eq_true] at hd
    have hc := dig_iff.1 hd.1
    have hg : (pre ++ c :: suf).getD pre.length 0 = c := mid_byte _ _ _
    rw [str_size, mid_len, dec0, nlt, decide_eq_true (by omega), Bool.true_and, cond_true, cond_true, Int.toNat_natCast, str_byte, hg, i64w (x := ((c.toNat : Nat) : Int)) (by omega), i64w (x := ((c.toNat : Nat) : Int) - 48) (by omega), valA_cons]
    have hge := valA_ge suf (acc * 10 + (c.toNat - 48))
    have next : acc * 10 + (c.toNat - 48) ≤ 9223372036854775808 → ref04_Below_L0 kap k k0 (str (pre ++ c :: suf)) (IntKind.wrap .i64 ((IntKind.wrap .i64 ((10 : Int) * -(acc : Int))) - (((c.toNat : Nat) : Int) - 48))) (IntKind.wrap .i64 (((pre.length : Nat) : Int) + 1)) = some (if valA (acc * 10 + (c.toNat - 48)) suf ≤ 9223372036854775808 then .tup [.int .i64 (-(valA (acc * 10 + (c.toNat - 48)) suf : Int)), .bool true] else .tup [.int .i64 0, .bool false]) := by
      intro hle
      have := below_loop kap suf (pre ++ [c]) k0 (acc * 10 + (c.toNat - 48)) (by simpa using h) (by simp; omega) hd.2 hle
      rw [List.append_assoc, List.singleton_append, List.length_append, List.length_singleton] at this
      rw [← this, wrap1 (by omega), i64w (x := 10 * -(acc : Int)) (by omega), i64w (by omega)]
      congr 1
      omega
    by_cases h1 : 922337203685477580 < acc
    · rw [bif_t (by omega), if_neg (by omega)]
    · rw [bif_f (by omega)]
      by_cases h2 : acc = 922337203685477580
      · rw [bif_t (by omega)]
        by_cases h3 : 8 < c.toNat - 48
        · rw [bif_t (by omega), if_neg (by omega)]
        · rw [bif_f (by omega)]
          exact next (by omega)
      · rw [bif_f (by omega)]
        exact next (by omega)
theorem head_lead (l : List UInt8) (hl : l ≠ []) : decide (l.getD 0 0 = 48) = decide (l.headD 0 = 48) := by cases l <;> simp at hl ⊢
theorem digs_ne {l : List UInt8} (h : digs l = true) : l ≠ [] := by
  intro e
  subst e
  simp [digs] at h
theorem digs_all {l : List UInt8} (h : digs l = true) : l.all isDig = true := by
  unfold digs at h
  rw [Bool.and_eq_true] at h
  exact h.1
theorem byte48 (c : UInt8) : decide (((c.toNat : Nat) : Int) = (48 : Int)) = decide (c = 48) := byte_is c 48 (by omega)
theorem below_k (l : List UInt8) (hb : l.length < 1000000000000000) (hk : l.length < k) : kp E k (n + 2) ref04_Below [.str (str l)] = some (.tup [.int .i64 (if natOk l then -(valA 0 l : Int) else 0), .bool (natOk l)]) := by
  rw [ref04_Below_eq, only_k l hb hk, callB_ok]
  unfold natOk
  cases hd : digs l with
  | false => rfl
  | true =>
    have hne := digs_ne hd
    have hpos : 0 < l.length := List.length_pos_iff.2 hne
    have hloop := below_loop (k := k) (kp E k (n + 1)) l [] k 0 hk hb (digs_all hd) (by omega)
    rw [List.nil_append] at hloop
    have e0 : (-((0 : Nat) : Int)) = 0 := rfl
    have e1 : ((([] : List UInt8).length : Nat) : Int) = 0 := rfl
    rw [e0, e1] at hloop
    rw [Bool.not_true, cond_false, str_size, bif_t (by omega), str_byte, byte48, head_lead l hne, hloop]
    unfold lead
    by_cases h1 : l.headD 0 = 48
    · rw [decide_eq_true h1, cond_true]
      by_cases h2 : 1 < l.length
      · rw [bif_t (by omega), decide_eq_true h2]
        rfl
      · rw [bif_f (by omega), decide_eq_false h2]
        simp only [Bool.and_false, Bool.not_false, Bool.and_true, Bool.true_and]
        by_cases h3 : valA 0 l ≤ 9223372036854775808
        · rw [if_pos h3, decide_eq_true h3]; rfl
        · rw [if_neg h3, decide_eq_false h3]; rfl
    · rw [decide_eq_false h1, cond_false]
      simp only [Bool.false_and, Bool.not_false, Bool.and_true, Bool.true_and]
      by_cases h3 : valA 0 l ≤ 9223372036854775808
      · rw [if_pos h3, decide_eq_true h3]; rfl
      · rw [if_neg h3, decide_eq_false h3]; rfl
theorem natural_k [HasNum E] (l : List UInt8) (hb : l.length < 100000000000000) (hk : l.length < k) : ∃ m : Int, kp E k (n + 2) dec_natural [.str (str l)] = some (.tup [.int .u64 m, .bool (natOk l)]) ∧ (natOk l = true → m = (valA 0 l : Int)) := by
  rw [dec_natural_eq, digits_k l (by omega) hk, callB_ok]
  unfold natOk
  cases hd : digs l with
  | false => exact ⟨0, rfl, fun h => by cases h⟩
  | true =>
    have hne := digs_ne hd
    have hpos : 0 < l.length := List.length_pos_iff.2 hne
    rw [Bool.not_true, cond_false, str_size, bif_t (by omega), str_byte, byte48, head_lead l hne, HasNum.puint k (n + 1) l (by omega), parseB_eq hd]
    have go : ∃ m : Int, (callT (β := AV) (some (endU (if valA 0 l ≤ 18446744073709551615 then Lib.NumEnd.ok (valA 0 l) else .range))) fun vt11 => (tupI .u64 vt11 fun vn12 vt13 => (tupV vt13 fun vr14 vt15 => (atNil vt15 (nilB vr14 fun q16 => (bif q16 then (some (.tup [(.int .u64 vn12), (.bool (decide (vn12 ≤ (9223372036854775808 : Int))))])) else (some (.tup [(.int .u64 vn12), (.bool false)])))))))) = some (.tup [.int .u64 m, .bool (decide (valA 0 l ≤ 9223372036854775808))]) ∧ (valA 0 l ≤ 9223372036854775808 → m = (valA 0 l : Int)) := by
      by_cases h3 : valA 0 l ≤ 18446744073709551615
      · rw [if_pos h3]
        refine ⟨(valA 0 l : Int), ?_, fun _ => rfl⟩
        have : decide (((valA 0 l : Nat) : Int) ≤ 9223372036854775808) = decide (valA 0 l ≤ 9223372036854775808) := by rw [decide_eq_decide]; omega
        rw [← this]
        rfl
      · rw [if_neg h3]
        refine ⟨18446744073709551615, ?_, fun h => by omega⟩
        rw [decide_eq_false (by omega)]
        rfl
    obtain ⟨m, g1, g2⟩ := go
    unfold lead
    by_cases h1 : l.headD 0 = 48
    · rw [decide_eq_true h1, cond_true]
      by_cases h2 : 1 < l.length
      · rw [bif_t (by omega), decide_eq_true h2]
        exact ⟨0, rfl, fun h => by simp at h⟩
      · rw [bif_f (by omega), decide_eq_false h2, g1]
        exact ⟨m, by simp, fun h => g2 (by simpa using h)⟩
    · rw [decide_eq_false h1, cond_false, g1]
      exact ⟨m, by simp, fun h => g2 (by simpa using h)⟩
theorem ofInt_u8 (d : Nat) (h : d < 10) : (IntKind.wrap .u8 (IntKind.wrap .i64 ((48 : Int) + (d : Int)))) = ((48 + d : Nat) : Int) := by
  rw [i64w (by omega)]
  match d, h with
  | 0, _ | 1, _ | 2, _ | 3, _ | 4, _ | 5, _ | 6, _ | 7, _ | 8, _ | 9, _ => rfl
theorem digits_ref (m : Nat) : ∀ (u : Nat), u < 10 ^ (m + 1) → u ≤ 9223372036854775807 → kp E k (n + m + 1) ref04_Digits [.int .i64 (u : Int)] = some (.str (str (Lib.decDigits u))) := by
  induction m with
  | zero =>
    intro u hu _
    rw [ref04_Digits_eq, bif_t (by omega), ofInt_u8 u (by omega), Lib.decDigits_one (by omega)]
    rfl
  | succ m ih =>
    intro u hu hm
    by_cases h : u < 10
    · rw [ref04_Digits_eq, bif_t (by omega), ofInt_u8 u (by omega), Lib.decDigits_one h]
      rfl
    · have hu' : u < 10 ^ (m + 1) * 10 := by rw [← Nat.pow_succ]; exact hu
      have e1 : Int.tdiv (u : Int) 10 = ((u / 10 : Nat) : Int) := rfl
      have e2 : Int.tmod (u : Int) 10 = ((u % 10 : Nat) : Int) := rfl
      rw [show n + (m + 1) + 1 = (n + m + 1) + 1 from rfl, ref04_Digits_eq, bif_f (by omega), e1, e2, i64w (x := ((u / 10 : Nat) : Int)) (by omega), ih (u / 10) (by omega) (by omega), callS_ok, ofInt_u8 _ (by omega)]
      have hlen : (Lib.decDigits (u / 10)).length ≤ 21 := by
        have := Lib.itoa_length_le ((u / 10 : Nat) : Int) (by omega) (by omega)
        rwa [Lib.itoa_nonneg] at this
      show (bif decide ((str (Lib.decDigits (u / 10))).size + (str [UInt8.ofNat (48 + u % 10)]).size ≤ 9223372036854775807) then _ else _) = _
      rw [str_size, str_size, bif_t (by simp; omega), decDigits_rec h]
      rw [str_app, Int.toNat_natCast]
end Go.Proofs.YtkbedfjhchhikaaGreatDoor.Eng.U


/- The functions of the Dec laws in plain words, part 2: printing. -/
set_option linter.unusedVariables false
set_option linter.unusedSectionVars false
set_option linter.unusedSimpArgs false
namespace Go.Proofs.YtkbedfjhchhikaaGreatDoor.Eng.U
open Go Go.Proofs Go.Proofs.YtkbedfjhchhikaaGreatDoor.Eng Go.Proofs.YtkbedfjhchhikaaGreatDoor.P04
variable {E : Ext} [Core E] [HasNum E] {k n : Nat}

theorem dig_len (u : Nat) (h : u ≤ 9223372036854775808) : (Lib.decDigits u).length ≤ 21 := by
  rw [Lib.decDigits_length]
  cases u with
  | zero => rw [Lib.nDigits_small (by omega)]; omega
  | succ u =>
    by_cases h2 : u + 1 < 9223372036854775808
    · have := Lib.itoa_length_le ((u + 1 : Nat) : Int) (by omega) (by omega)
      rwa [Lib.itoa_nonneg, Lib.decDigits_length] at this
    · rw [Lib.nDigits_unique 18 (u + 1) (by omega) (by omega)]; omega
theorem digits20 (u : Nat) (hu : u ≤ 9223372036854775807) : kp E k (n + 19) ref04_Digits [.int .i64 (u : Int)] = some (.str (str (Lib.decDigits u))) :=
  digits_ref (n := n) 18 u (by omega) hu
theorem refText_k (v : Int) (h0 : -9223372036854775808 ≤ v) (h1 : v ≤ 9223372036854775807) : kp E k (n + 20) ref04_Text [.int .i64 v] = some (.str (str (Lib.itoa v))) := by
  rw [ref04_Text_eq]
  by_cases hv : 0 ≤ v
  · obtain ⟨u, rfl⟩ := Int.eq_ofNat_of_zero_le hv
    rw [bif_t (by omega), digits20 u (by omega), callS_ok, Lib.itoa_nonneg]
  · obtain ⟨u, rfl⟩ : ∃ u : Nat, v = -(u : Int) := ⟨v.natAbs, by omega⟩
    have e1 : Int.tdiv (-(u : Int)) 10 = -((u / 10 : Nat) : Int) := by rw [Int.neg_tdiv]; rfl
    have e2 : Int.tmod (-(u : Int)) 10 = -((u % 10 : Nat) : Int) := by rw [Int.neg_tmod]; rfl
    rw [bif_f (by omega), Lib.itoa_neg u (by omega)]
    by_cases hs : u < 10
    · have := dig_len u (by omega)
      rw [bif_t (by omega), i64w (by omega), show (0 : Int) - -(u : Int) = (u : Int) from by omega, digits20 u (by omega), callS_ok, str_size, bif_t (by omega), str_app]
      rfl
    · have g1 := dig_len (u / 10) (by omega)
      have g2 := dig_len (u % 10) (by omega)
      rw [bif_f (by omega), e1, e2, i64w (x := -((u / 10 : Nat) : Int)) (by omega), i64w (x := 0 - -((u / 10 : Nat) : Int)) (by omega), show (0 : Int) - -((u / 10 : Nat) : Int) = ((u / 10 : Nat) : Int) from by omega, digits20 (u / 10) (by omega), callS_ok, str_size, bif_t (by omega), i64w (by omega), show (0 : Int) - -((u % 10 : Nat) : Int) = ((u % 10 : Nat) : Int) from by omega, digits20 (u % 10) (by omega), callS_ok, str_app, str_size, str_size, bif_t (by simp; omega), str_app, decDigits_rec hs, Lib.decDigits_one (i := u % 10) (by omega)]
      rfl
def rightT (t : Int) : Bool := decide (0 ≤ t) && decide (t < 1000000000)
theorem right_k (s t : Int) : kp E k (n + 1) dec_Right [.agg [.int .i64 s, .int .i64 t]] = some (.bool (rightT t)) := by
  rw [dec_Right_eq]
  unfold rightT
  by_cases h : 0 ≤ t
  · rw [bif_t (by omega), decide_eq_true h, Bool.true_and]
  · rw [bif_f (by omega), decide_eq_false h, Bool.false_and]
theorem refRight_k (s t : Int) : kp E k (n + 1) ref04_Right [.agg [.int .i64 s, .int .i64 t]] = some (.bool (rightT t)) := by
  rw [ref04_Right_eq]
  unfold rightT
  by_cases h : 0 ≤ t
  · rw [bif_t (by omega), decide_eq_true h, Bool.true_and]
    congr 2
    rw [decide_eq_decide]
    omega
  · rw [bif_f (by omega), decide_eq_false h, Bool.false_and]
theorem ext_one (c : UInt8) (l : List UInt8) : ByteArray.extract (str (c :: l)) 1 (l.length + 1) = str l := by
  rw [str_ext]
  simp
end Go.Proofs.YtkbedfjhchhikaaGreatDoor.Eng.U


/- The functions of the Dec laws in plain words, part 3: reading. -/
set_option linter.unusedVariables false
set_option linter.unusedSectionVars false
set_option linter.unusedSimpArgs false
namespace Go.Proofs.YtkbedfjhchhikaaGreatDoor.Eng.U
open Go Go.Proofs Go.Proofs.YtkbedfjhchhikaaGreatDoor.Eng Go.Proofs.YtkbedfjhchhikaaGreatDoor.P04
variable {E : Ext} [Core E] [HasNum E] {k n : Nat}

theorem dot_le (t : List UInt8) : dot t ≤ t.length := List.findIdx_le_length
theorem cut_k (t : List UInt8) (ht : t.length < 1000000000000) : kp E k (n + 2) strings_Cut [.str (str t), .str (str [46])] = some (.tup [.str (str (t.take (dot t))), .str (str (t.drop (dot t + 1))), .bool (decide (dot t < t.length))]) := by
  have hd := dot_le t
  rw [strings_Cut_eq, stringslite_Cut_eq, HasNum.index k n t 46, callI_ok, index_dot]
  by_cases h : dot t < t.length
  · rw [if_pos h, decide_eq_true h, bif_t (by omega), str_size, str_size, List.length_singleton, wrapP (by omega) (by omega), bif_a, bif_t (by omega), bif_t (by omega), bif_a, bif_t (by omega), bif_t (by omega), Int.toNat_natCast, Int.toNat_natCast, str_ext, str_ext, List.take_length, List.drop_zero]
    rfl
  · rw [if_neg h, decide_eq_false h, bif_f (by omega), List.take_of_length_le (by omega), List.drop_of_length_le (by omega)]
    rfl
theorem trim_minus (s : List UInt8) : Lib.trimPrefix s [45] = (if s.head? = some 45 then s.drop 1 else s) ∧ Lib.hasPrefix s [45] = decide (s.head? = some 45) := by
  have h : Lib.hasPrefix s [45] = decide (s.head? = some 45) := by
    unfold Lib.hasPrefix
    cases s with
    | nil => rfl
    | cons c s =>
      simp only [List.isPrefixOf, List.head?_cons, Option.some.injEq, Bool.and_true]
      rw [Bool.eq_iff_iff, beq_iff_eq, decide_eq_true_eq]
      exact eq_comm
  refine ⟨?_, h⟩
  unfold Lib.trimPrefix
  rw [h]
  by_cases hs : s.head? = some 45
  · rw [if_pos hs, if_pos (decide_eq_true hs)]; rfl
  · rw [if_neg hs, if_neg (by simpa using hs)]
theorem repeat48 : ∀ c, Lib.repeatL [48] c = List.replicate c (48 : UInt8)
  | 0 => rfl
  | c + 1 => by rw [Lib.repeatL, repeat48 c]; rfl
theorem zeros_dig (c : Nat) : (List.replicate c (48 : UInt8)).all isDig = true := by
  rw [List.all_eq_true]
  intro x hx
  rw [List.eq_of_mem_replicate hx]
  rfl
theorem parseI_eq {l : List UInt8} (hd : digs l = true) (h9 : l.length ≤ 9) : Lib.parseIntB 64 l = .ok (valA 0 l : Int) ∧ valA 0 l < 1000000000 := by
  have hall := digs_all hd
  have hv : valA 0 l < 10 ^ (0 + l.length) := valA_lt l 0 0 hall (by omega)
  have hp : 10 ^ (0 + l.length) ≤ 10 ^ 9 := Nat.pow_le_pow_right (by omega) (by omega)
  have hlt : valA 0 l < 1000000000 := by omega
  refine ⟨?_, hlt⟩
  have hB := parseB_eq hd
  rw [if_pos (by omega)] at hB
  cases l with
  | nil => simp [digs] at hd
  | cons c r =>
    rw [List.all_cons, Bool.and_eq_true] at hall
    have hc := dig_iff.1 hall.1
    unfold Lib.parseIntB
    dsimp only
    rw [if_neg (show ¬ (c.toNat = 43 ∨ c.toNat = 45) by omega), hB]
    dsimp only
    have h1 : ¬ (2 : Nat) ^ (64 - 1) ≤ valA 0 (c :: r) := by
      have : (2 : Nat) ^ (64 - 1) = 9223372036854775808 := rfl
      omega
    rw [if_neg (fun h => h1 h.2), if_neg (fun h => by omega), if_neg (by omega)]
theorem nano_digs {b : List UInt8} (hd : digs b = true) (h9 : b.length ≤ 9) : digs (b ++ List.replicate (9 - b.length) 48) = true ∧ (b ++ List.replicate (9 - b.length) (48 : UInt8)).length = 9 := by
  constructor
  · unfold digs
    rw [List.all_append, digs_all hd, zeros_dig, Bool.true_and, Bool.true_and]
    have := digs_ne hd
    cases b with
    | nil => exact absurd rfl this
    | cons c b => rfl
  · rw [List.length_append, List.length_replicate]; omega
theorem half {v : Nat} : decide (Int.fdiv (v : Int) (2 ^ (min (Int.toNat (63 : Int)) (IntKind.bits .u64))) > (0 : Int)) = decide (9223372036854775807 < v) := by
  have e : ((2 : Int) ^ (min (Int.toNat (63 : Int)) (IntKind.bits .u64))) = 9223372036854775808 := rfl
  rw [e, decide_eq_decide, Int.fdiv_eq_ediv_of_nonneg _ (by omega)]
  omega
theorem negW {v : Nat} (h : v ≤ 9223372036854775808) : IntKind.wrap .i64 (IntKind.wrap .u64 (0 - (v : Int))) = -(v : Int) := by
  rw [IntKind.wrap_u64, IntKind.wrap_i64]
  omega
def timeAV : Option (Int × Int) → AV
  | some (a, b) => .tup [.agg [.int .i64 a, .int .i64 b], .int .u8 0]
  | none => .tup [.agg [.int .i64 0, .int .i64 0], .int .u8 15]
theorem number_k (l : List UInt8) (hb : l.length < 1000000000000) (hk : l.length < k) : kp E k (n + 3) dec_Number [.str (str l)] = some (bif natOk l && decide (valA 0 l ≤ 9223372036854775807) then .tup [.int .i64 (valA 0 l : Int), .int .u8 0] else .tup [.int .i64 0, .int .u8 15]) := by
  obtain ⟨m, h1, h2⟩ := natural_k (E := E) (k := k) (n := n) l (by omega) hk
  rw [dec_Number_eq, h1]
  simp (disch := first | omega | (simp only [List.length_append, List.length_cons, List.length_nil, List.length_take, List.length_drop]; done) | (simp only [List.length_append, List.length_cons, List.length_nil, List.length_take, List.length_drop]; omega) | fail) only [bif_t, bif_f, bif_n, bif_a, callB_ok, callI_ok, callS_ok, callL_ok, callF_ok, callT_ok, tupB_ok, tupI_ok, tupS_ok, tupL_ok, tupF_ok, atNil_ok, wrap1, wrapM, wrapP, Int.toNat_natCast, svs_len, ivs_len, bvs_len, str_size, svs_mid, ivs_mid, str_dec, str_ext, str_byte, mid_byte, mid_cut, List.length_nil, List.length_singleton, svs_snoc, ivs_snoc, svs_take, svs_drop, str_app, List.take_length, List.drop_zero, List.nil_append, cond_true, cond_false, Option.bind_some, Bool.not_true, Bool.not_false, Bool.true_and, Bool.and_true]
  cases ho : natOk l with
  | false => rfl
  | true =>
    rw [h2 ho]
    simp only [Bool.not_true, cond_false, Bool.true_and, half]
    by_cases hv : 9223372036854775807 < valA 0 l
    · rw [bif_t hv, decide_eq_false (by omega)]; rfl
    · rw [bif_f hv, decide_eq_true (by omega), i64w (by omega)]; rfl
theorem refNumber_k (l : List UInt8) (hb : l.length < 1000000000000) (hk : l.length < k) : kp E k (n + 3) ref04_Number [.str (str l)] = some (bif natOk l && decide (valA 0 l ≤ 9223372036854775807) then .tup [.int .i64 (valA 0 l : Int), .bool true] else .tup [.int .i64 0, .bool false]) := by
  rw [ref04_Number_eq, below_k l (by omega) hk]
  simp (disch := first | omega | (simp only [List.length_append, List.length_cons, List.length_nil, List.length_take, List.length_drop]; done) | (simp only [List.length_append, List.length_cons, List.length_nil, List.length_take, List.length_drop]; omega) | fail) only [bif_t, bif_f, bif_n, bif_a, callB_ok, callI_ok, callS_ok, callL_ok, callF_ok, callT_ok, tupB_ok, tupI_ok, tupS_ok, tupL_ok, tupF_ok, atNil_ok, wrap1, wrapM, wrapP, Int.toNat_natCast, svs_len, ivs_len, bvs_len, str_size, svs_mid, ivs_mid, str_dec, str_ext, str_byte, mid_byte, mid_cut, List.length_nil, List.length_singleton, svs_snoc, ivs_snoc, svs_take, svs_drop, str_app, List.take_length, List.drop_zero, List.nil_append, cond_true, cond_false, Option.bind_some, Bool.not_true, Bool.not_false, Bool.true_and, Bool.and_true]
  cases ho : natOk l with
  | false => rfl
  | true =>
    have hv : valA 0 l ≤ 9223372036854775808 := by
      unfold natOk at ho
      rw [Bool.and_eq_true, decide_eq_true_eq] at ho
      exact ho.2
    simp only [if_true, Bool.not_true, cond_false, Bool.true_and]
    by_cases hv : 9223372036854775807 < valA 0 l
    · rw [bif_t (by omega), decide_eq_false (by omega)]; rfl
    · rw [bif_f (by omega), decide_eq_true (by omega), i64w (by omega), show (0 : Int) - -(valA 0 l : Int) = (valA 0 l : Int) from by omega]; rfl
theorem natOk_le {l : List UInt8} (ho : natOk l = true) : valA 0 l ≤ 9223372036854775808 := by
  unfold natOk at ho
  rw [Bool.and_eq_true, decide_eq_true_eq] at ho
  exact ho.2
theorem time_k (s : List UInt8) (hs : s.length < 100000000000) (hk : s.length < k) : kp E k (n + 3) dec_Time [.str (str s)] = some (timeAV (timeL s)) := by
  obtain ⟨t1, t2⟩ := trim_minus s
  rw [dec_Time_eq, HasNum.cutP, t1, t2]
  unfold timeL
  have hle : (if s.head? = some 45 then s.drop 1 else s).length ≤ s.length := by split <;> simp
  generalize (if s.head? = some 45 then s.drop 1 else s) = t at hle
  generalize decide (s.head? = some 45) = minus
  simp (disch := first | omega | (simp only [List.length_append, List.length_cons, List.length_nil, List.length_take, List.length_drop]; done) | (simp only [List.length_append, List.length_cons, List.length_nil, List.length_take, List.length_drop]; omega) | fail) only [bif_t, bif_f, bif_n, bif_a, callB_ok, callI_ok, callS_ok, callL_ok, callF_ok, callT_ok, tupB_ok, tupI_ok, tupS_ok, tupL_ok, tupF_ok, atNil_ok, wrap1, wrapM, wrapP, Int.toNat_natCast, svs_len, ivs_len, bvs_len, str_size, svs_mid, ivs_mid, str_dec, str_ext, str_byte, mid_byte, mid_cut, List.length_nil, List.length_singleton, svs_snoc, ivs_snoc, svs_take, svs_drop, str_app, List.take_length, List.drop_zero, List.nil_append, cond_true, cond_false, Option.bind_some, Bool.not_true, Bool.not_false, Bool.true_and, Bool.and_true]
  rw [cut_k t (by omega)]
  simp (disch := first | omega | (simp only [List.length_append, List.length_cons, List.length_nil, List.length_take, List.length_drop]; done) | (simp only [List.length_append, List.length_cons, List.length_nil, List.length_take, List.length_drop]; omega) | fail) only [bif_t, bif_f, bif_n, bif_a, callB_ok, callI_ok, callS_ok, callL_ok, callF_ok, callT_ok, tupB_ok, tupI_ok, tupS_ok, tupL_ok, tupF_ok, atNil_ok, wrap1, wrapM, wrapP, Int.toNat_natCast, svs_len, ivs_len, bvs_len, str_size, svs_mid, ivs_mid, str_dec, str_ext, str_byte, mid_byte, mid_cut, List.length_nil, List.length_singleton, svs_snoc, ivs_snoc, svs_take, svs_drop, str_app, List.take_length, List.drop_zero, List.nil_append, cond_true, cond_false, Option.bind_some, Bool.not_true, Bool.not_false, Bool.true_and, Bool.and_true]
  obtain ⟨m, h1, h2⟩ := natural_k (E := E) (k := k) (n := n) (t.take (dot t)) (by rw [List.length_take]; omega) (by rw [List.length_take]; omega)
  rw [h1]
  simp (disch := first | omega | (simp only [List.length_append, List.length_cons, List.length_nil, List.length_take, List.length_drop]; done) | (simp only [List.length_append, List.length_cons, List.length_nil, List.length_take, List.length_drop]; omega) | fail) only [bif_t, bif_f, bif_n, bif_a, callB_ok, callI_ok, callS_ok, callL_ok, callF_ok, callT_ok, tupB_ok, tupI_ok, tupS_ok, tupL_ok, tupF_ok, atNil_ok, wrap1, wrapM, wrapP, Int.toNat_natCast, svs_len, ivs_len, bvs_len, str_size, svs_mid, ivs_mid, str_dec, str_ext, str_byte, mid_byte, mid_cut, List.length_nil, List.length_singleton, svs_snoc, ivs_snoc, svs_take, svs_drop, str_app, List.take_length, List.drop_zero, List.nil_append, cond_true, cond_false, Option.bind_some, Bool.not_true, Bool.not_false, Bool.true_and, Bool.and_true]
  unfold timeB
  dsimp only
  cases ho : natOk (t.take (dot t)) with
  | false => rfl
  | true =>
    obtain rfl := h2 ho
    have hv := natOk_le ho
    generalize valA 0 (t.take (dot t)) = v at hv
    rw [if_neg (by simp)]
    simp only [half, cond_true, cond_false, Bool.not_true, Bool.not_false]
    by_cases hp : dot t < t.length
    · have hbl : (t.drop (dot t + 1)).length ≤ t.length := by rw [List.length_drop]; omega
      rw [decide_eq_true hp]
      generalize hbe : t.drop (dot t + 1) = b at hbl
      rw [if_pos hp]
      simp only [cond_true, cond_false, Bool.not_true, Bool.not_false]
      rw [digits_k b (by omega) (by omega)]
      simp (disch := first | omega | (simp only [List.length_append, List.length_cons, List.length_nil, List.length_take, List.length_drop]; done) | (simp only [List.length_append, List.length_cons, List.length_nil, List.length_take, List.length_drop]; omega) | fail) only [bif_t, bif_f, bif_n, bif_a, callB_ok, callI_ok, callS_ok, callL_ok, callF_ok, callT_ok, tupB_ok, tupI_ok, tupS_ok, tupL_ok, tupF_ok, atNil_ok, wrap1, wrapM, wrapP, Int.toNat_natCast, svs_len, ivs_len, bvs_len, str_size, svs_mid, ivs_mid, str_dec, str_ext, str_byte, mid_byte, mid_cut, List.length_nil, List.length_singleton, svs_snoc, ivs_snoc, svs_take, svs_drop, str_app, List.take_length, List.drop_zero, List.nil_append, cond_true, cond_false, Option.bind_some, Bool.not_true, Bool.not_false, Bool.true_and, Bool.and_true]
      cases hd : digs b with
      | false => rw [if_pos ⟨hp, fun h => by simp at h⟩]; rfl
      | true =>
        simp only [cond_true, cond_false, Bool.not_true, Bool.not_false]
        by_cases h9 : b.length ≤ 9
        · obtain ⟨q1, q2⟩ := nano_digs hd h9
          obtain ⟨q3, q4⟩ := parseI_eq q1 (by omega)
          rw [if_neg (fun h => h.2 ⟨trivial, h9⟩), bif_f (by omega), i64w (x := 9 - ((b.length : Nat) : Int)) (by omega), show (9 : Int) - ((b.length : Nat) : Int) = ((9 - b.length : Nat) : Int) from by omega, HasNum.rep k (n + 2) _ _ (by omega) (by rw [List.length_singleton]; omega), repeat48]
          simp (disch := first | omega | (simp only [List.length_append, List.length_cons, List.length_nil, List.length_take, List.length_drop]; done) | (simp only [List.length_append, List.length_cons, List.length_nil, List.length_take, List.length_drop]; omega) | fail) only [bif_t, bif_f, bif_n, bif_a, callB_ok, callI_ok, callS_ok, callL_ok, callF_ok, callT_ok, tupB_ok, tupI_ok, tupS_ok, tupL_ok, tupF_ok, atNil_ok, wrap1, wrapM, wrapP, Int.toNat_natCast, svs_len, ivs_len, bvs_len, str_size, svs_mid, ivs_mid, str_dec, str_ext, str_byte, mid_byte, mid_cut, List.length_nil, List.length_singleton, svs_snoc, ivs_snoc, svs_take, svs_drop, str_app, List.take_length, List.drop_zero, List.nil_append, cond_true, cond_false, Option.bind_some, Bool.not_true, Bool.not_false, Bool.true_and, Bool.and_true]
          rw [List.length_replicate, bif_t (by omega), HasNum.pint k (n + 2) _ (by omega), q3]
          generalize valA 0 (b ++ List.replicate (9 - b.length) 48) = w at q4
          unfold endI
          simp (disch := first | omega | (simp only [List.length_append, List.length_cons, List.length_nil, List.length_take, List.length_drop]; done) | (simp only [List.length_append, List.length_cons, List.length_nil, List.length_take, List.length_drop]; omega) | fail) only [bif_t, bif_f, bif_n, bif_a, callB_ok, callI_ok, callS_ok, callL_ok, callF_ok, callT_ok, tupB_ok, tupI_ok, tupS_ok, tupL_ok, tupF_ok, atNil_ok, wrap1, wrapM, wrapP, Int.toNat_natCast, svs_len, ivs_len, bvs_len, str_size, svs_mid, ivs_mid, str_dec, str_ext, str_byte, mid_byte, mid_cut, List.length_nil, List.length_singleton, svs_snoc, ivs_snoc, svs_take, svs_drop, str_app, List.take_length, List.drop_zero, List.nil_append, cond_true, cond_false, Option.bind_some, Bool.not_true, Bool.not_false, Bool.true_and, Bool.and_true]
          have e0 : ∀ K : AV → List AV → Option AV, tupV [AV.nili] K = K .nili [] := fun K => rfl
          rw [e0]
          simp (disch := first | omega | (simp only [List.length_append, List.length_cons, List.length_nil, List.length_take, List.length_drop]; done) | (simp only [List.length_append, List.length_cons, List.length_nil, List.length_take, List.length_drop]; omega) | fail) only [bif_t, bif_f, bif_n, bif_a, callB_ok, callI_ok, callS_ok, callL_ok, callF_ok, callT_ok, tupB_ok, tupI_ok, tupS_ok, tupL_ok, tupF_ok, atNil_ok, wrap1, wrapM, wrapP, Int.toNat_natCast, svs_len, ivs_len, bvs_len, str_size, svs_mid, ivs_mid, str_dec, str_ext, str_byte, mid_byte, mid_cut, List.length_nil, List.length_singleton, svs_snoc, ivs_snoc, svs_take, svs_drop, str_app, List.take_length, List.drop_zero, List.nil_append, cond_true, cond_false, Option.bind_some, Bool.not_true, Bool.not_false, Bool.true_and, Bool.and_true]
          cases minus with
          | false =>
            simp only [cond_true, cond_false, Bool.not_true, Bool.not_false, if_true]
            by_cases h3 : 9223372036854775807 < v
            · rw [bif_t h3, if_pos h3]; rfl
            · rw [bif_f h3, if_neg h3, i64w (by omega)]; rfl
          | true =>
            simp only [cond_true, cond_false, Bool.not_true, Bool.not_false, if_neg (show ¬ true = false by decide)]
            by_cases h4 : w = 0
            · subst h4
              rw [bif_t (by omega), if_pos rfl, negW (by omega)]; rfl
            · rw [bif_f (by omega), if_neg h4]
              by_cases h3 : 9223372036854775807 < v
              · rw [bif_t h3, if_pos h3]; rfl
              · rw [bif_f h3, if_neg h3, i64w (x := (v : Int)) (by omega), i64w (x := 0 - (v : Int)) (by omega), i64w (x := 0 - (v : Int) - 1) (by omega), i64w (by omega), show (0 : Int) - (v : Int) - 1 = -(v : Int) - 1 from by omega]; rfl
        · rw [if_pos ⟨hp, fun h => h9 h.2⟩, bif_t (by omega)]
          rfl
    · rw [decide_eq_false hp, if_neg (fun h => hp h.1), if_neg hp]
      simp only [cond_true, cond_false, Bool.not_true, Bool.not_false]
      cases minus with
      | false =>
        simp only [cond_true, cond_false, Bool.not_true, Bool.not_false, if_true]
        by_cases h3 : 9223372036854775807 < v
        · rw [bif_t h3, if_pos h3]; rfl
        · rw [bif_f h3, if_neg h3, i64w (by omega)]; rfl
      | true =>
        simp only [cond_true, cond_false, Bool.not_true, Bool.not_false, if_neg (show ¬ true = false by decide), if_true]
        rw [negW (by omega)]; rfl
end Go.Proofs.YtkbedfjhchhikaaGreatDoor.Eng.U


/- The program's own data: pairs, times, heads, items: as structures, as abstract values, as a row hands them in. Printed by apigen.py. -/
set_option linter.unusedVariables false
namespace Go.Proofs.YtkbedfjhchhikaaGreatDoor.Eng.U
open Go Go.Proofs Go.Proofs.YtkbedfjhchhikaaGreatDoor.Eng
abbrev Tx := List UInt8
structure Pair where
  key : Tx
  val : Tx
  deriving DecidableEq, Inhabited
structure Time where
  sec : Int
  nano : Int
  deriving DecidableEq, Inhabited
structure Head where
  kind : Int
  name : Tx
  link : Tx
  mode : Int
  uid : Int
  gid : Int
  size : Int
  sec : Int
  nano : Int
  user : Tx
  group : Tx
  major : Int
  minor : Int
  extra : List Pair
  deriving DecidableEq, Inhabited
structure Item where
  head : Head
  data : Tx
  deriving DecidableEq, Inhabited
def bys (l : Tx) : List AV := l.map byteAV
def encPair (p : Pair) : List AV := [.str (str p.key), .str (str p.val)]
def elPair (p : Pair) : AV := .agg (encPair p)
def prs (l : List Pair) : List AV := l.map elPair
def encTime (t : Time) : List AV := [.int .i64 t.sec, .int .i64 t.nano]
def elTime (t : Time) : AV := .agg (encTime t)
def encHead (h : Head) : List AV := [.int .i64 h.kind, .str (str h.name), .str (str h.link), .int .i64 h.mode, .int .i64 h.uid, .int .i64 h.gid, .int .i64 h.size, .int .i64 h.sec, .int .i64 h.nano, .str (str h.user), .str (str h.group), .int .i64 h.major, .int .i64 h.minor, .list 2 (prs h.extra)]
def elHead (h : Head) : AV := .agg (encHead h)
def encItem (x : Item) : List AV := [.int .i64 x.head.kind, .str (str x.head.name), .str (str x.head.link), .int .i64 x.head.mode, .int .i64 x.head.uid, .int .i64 x.head.gid, .int .i64 x.head.size, .int .i64 x.head.sec, .int .i64 x.head.nano, .str (str x.head.user), .str (str x.head.group), .int .i64 x.head.major, .int .i64 x.head.minor, .list 2 (prs x.head.extra), .list 1 (bys x.data)]
def elItem (x : Item) : AV := .agg (encItem x)
def its (l : List Item) : List AV := l.map elItem
theorem bys_len (l : Tx) : (bys l).length = l.length := by simp [bys]
theorem prs_len (l : List Pair) : (prs l).length = l.length := by simp [prs]
theorem its_len (l : List Item) : (its l).length = l.length := by simp [its]
theorem cells_pair (p : Pair) : AV.cells (elPair p) = encPair p := (rfl)
theorem cells_time (p : Time) : AV.cells (elTime p) = encTime p := (rfl)
theorem cells_head (p : Head) : AV.cells (elHead p) = encHead p := (rfl)
theorem cells_item (p : Item) : AV.cells (elItem p) = encItem p := (rfl)
theorem fold_pair (p : Pair) : AV.agg [.str (str p.key), .str (str p.val)] = elPair p := (rfl)
theorem fold_time (t : Time) : AV.agg [.int .i64 t.sec, .int .i64 t.nano] = elTime t := (rfl)
theorem fold_head (h : Head) : AV.agg [.int .i64 h.kind, .str (str h.name), .str (str h.link), .int .i64 h.mode, .int .i64 h.uid, .int .i64 h.gid, .int .i64 h.size, .int .i64 h.sec, .int .i64 h.nano, .str (str h.user), .str (str h.group), .int .i64 h.major, .int .i64 h.minor, .list 2 (prs h.extra)] = elHead h := (rfl)
theorem fold_ihead (x : Item) : AV.agg [.int .i64 x.head.kind, .str (str x.head.name), .str (str x.head.link), .int .i64 x.head.mode, .int .i64 x.head.uid, .int .i64 x.head.gid, .int .i64 x.head.size, .int .i64 x.head.sec, .int .i64 x.head.nano, .str (str x.head.user), .str (str x.head.group), .int .i64 x.head.major, .int .i64 x.head.minor, .list 2 (prs x.head.extra)] = elHead x.head := (rfl)
theorem fold_item (x : Item) : AV.agg [.int .i64 x.head.kind, .str (str x.head.name), .str (str x.head.link), .int .i64 x.head.mode, .int .i64 x.head.uid, .int .i64 x.head.gid, .int .i64 x.head.size, .int .i64 x.head.sec, .int .i64 x.head.nano, .str (str x.head.user), .str (str x.head.group), .int .i64 x.head.major, .int .i64 x.head.minor, .list 2 (prs x.head.extra), .list 1 (bys x.data)] = elItem x := (rfl)
section
variable {β : Type}
theorem prs_at (l : List Pair) (i : Nat) (h : i < l.length) (F : AV → Option β) : ((prs l)[i]?).bind F = F (elPair l[i]) := by unfold prs; rw [List.getElem?_map, List.getElem?_eq_getElem h]; rfl
theorem its_at (l : List Item) (i : Nat) (h : i < l.length) (F : AV → Option β) : ((its l)[i]?).bind F = F (elItem l[i]) := by unfold its; rw [List.getElem?_map, List.getElem?_eq_getElem h]; rfl
theorem bys_at (l : Tx) (i : Nat) (h : i < l.length) (F : AV → Option β) : ((bys l)[i]?).bind F = F (byteAV l[i]) := by unfold bys; rw [List.getElem?_map, List.getElem?_eq_getElem h]; rfl
theorem prs_mid (a b : List Pair) (x : Pair) (F : AV → Option β) : ((prs (a ++ x :: b))[a.length]?).bind F = F (elPair x) := by rw [prs_at _ _ (by simp)]; simp
theorem its_mid (a b : List Item) (x : Item) (F : AV → Option β) : ((its (a ++ x :: b))[a.length]?).bind F = F (elItem x) := by rw [its_at _ _ (by simp)]; simp
theorem bys_mid (a b : Tx) (x : UInt8) (F : AV → Option β) : ((bys (a ++ x :: b))[a.length]?).bind F = F (byteAV x) := by rw [bys_at _ _ (by simp)]; simp
theorem byte_c (c : UInt8) (K : Int → Option β) : cellI .u8 (AV.cells (byteAV c)) 0 K = K ((c.toNat : Nat) : Int) := cellI_0 _ _ _
theorem callG_pair (p : Pair) (K : List AV → Option β) : callG 2 (some (elPair p)) K = K (encPair p) := (rfl)
theorem callG_time (p : Time) (K : List AV → Option β) : callG 2 (some (elTime p)) K = K (encTime p) := (rfl)
theorem callG_head (p : Head) (K : List AV → Option β) : callG 14 (some (elHead p)) K = K (encHead p) := (rfl)
theorem callG_item (p : Item) (K : List AV → Option β) : callG 15 (some (elItem p)) K = K (encItem p) := (rfl)
theorem tupG_pair (p : Pair) (t : List AV) (K : List AV → List AV → Option β) : tupG 2 (elPair p :: t) K = K (encPair p) t := (rfl)
theorem tupG_time (p : Time) (t : List AV) (K : List AV → List AV → Option β) : tupG 2 (elTime p :: t) K = K (encTime p) t := (rfl)
theorem tupG_head (p : Head) (t : List AV) (K : List AV → List AV → Option β) : tupG 14 (elHead p :: t) K = K (encHead p) t := (rfl)
theorem tupG_item (p : Item) (t : List AV) (K : List AV → List AV → Option β) : tupG 15 (elItem p :: t) K = K (encItem p) t := (rfl)
theorem h_0 (x : Head) (K : Int → Option β) : cellI .i64 (encHead x) 0 K = K x.kind := by first | exact (rfl) | (show cellI .i64 (encHead x) 0 K = _; simp [encHead, cellI, cellL, cellAt, atInt, atList])
theorem i_0 (x : Item) (K : Int → Option β) : cellI .i64 (encItem x) 0 K = K x.head.kind := by first | exact (rfl) | (show cellI .i64 (encItem x) 0 K = _; simp [encItem, cellI, cellL, cellAt, atInt, atList])
theorem h_1 (x : Head) (K : ByteArray → Option β) : cellS (encHead x) 1 K = K (str x.name) := by first | exact (rfl) | (show cellS (encHead x) 1 K = _; simp [encHead, cellI, cellL, cellAt, atInt, atList])
theorem i_1 (x : Item) (K : ByteArray → Option β) : cellS (encItem x) 1 K = K (str x.head.name) := by first | exact (rfl) | (show cellS (encItem x) 1 K = _; simp [encItem, cellI, cellL, cellAt, atInt, atList])
theorem h_2 (x : Head) (K : ByteArray → Option β) : cellS (encHead x) 2 K = K (str x.link) := by first | exact (rfl) | (show cellS (encHead x) 2 K = _; simp [encHead, cellI, cellL, cellAt, atInt, atList])
theorem i_2 (x : Item) (K : ByteArray → Option β) : cellS (encItem x) 2 K = K (str x.head.link) := by first | exact (rfl) | (show cellS (encItem x) 2 K = _; simp [encItem, cellI, cellL, cellAt, atInt, atList])
theorem h_3 (x : Head) (K : Int → Option β) : cellI .i64 (encHead x) 3 K = K x.mode := by first | exact (rfl) | (show cellI .i64 (encHead x) 3 K = _; simp [encHead, cellI, cellL, cellAt, atInt, atList])
theorem i_3 (x : Item) (K : Int → Option β) : cellI .i64 (encItem x) 3 K = K x.head.mode := by first | exact (rfl) | (show cellI .i64 (encItem x) 3 K = _; simp [encItem, cellI, cellL, cellAt, atInt, atList])
theorem h_4 (x : Head) (K : Int → Option β) : cellI .i64 (encHead x) 4 K = K x.uid := by first | exact (rfl) | (show cellI .i64 (encHead x) 4 K = _; simp [encHead, cellI, cellL, cellAt, atInt, atList])
theorem i_4 (x : Item) (K : Int → Option β) : cellI .i64 (encItem x) 4 K = K x.head.uid := by first | exact (rfl) | (show cellI .i64 (encItem x) 4 K = _; simp [encItem, cellI, cellL, cellAt, atInt, atList])
theorem h_5 (x : Head) (K : Int → Option β) : cellI .i64 (encHead x) 5 K = K x.gid := by first | exact (rfl) | (show cellI .i64 (encHead x) 5 K = _; simp [encHead, cellI, cellL, cellAt, atInt, atList])
theorem i_5 (x : Item) (K : Int → Option β) : cellI .i64 (encItem x) 5 K = K x.head.gid := by first | exact (rfl) | (show cellI .i64 (encItem x) 5 K = _; simp [encItem, cellI, cellL, cellAt, atInt, atList])
theorem h_6 (x : Head) (K : Int → Option β) : cellI .i64 (encHead x) 6 K = K x.size := by first | exact (rfl) | (show cellI .i64 (encHead x) 6 K = _; simp [encHead, cellI, cellL, cellAt, atInt, atList])
theorem i_6 (x : Item) (K : Int → Option β) : cellI .i64 (encItem x) 6 K = K x.head.size := by first | exact (rfl) | (show cellI .i64 (encItem x) 6 K = _; simp [encItem, cellI, cellL, cellAt, atInt, atList])
theorem h_7 (x : Head) (K : Int → Option β) : cellI .i64 (encHead x) 7 K = K x.sec := by first | exact (rfl) | (show cellI .i64 (encHead x) 7 K = _; simp [encHead, cellI, cellL, cellAt, atInt, atList])
theorem i_7 (x : Item) (K : Int → Option β) : cellI .i64 (encItem x) 7 K = K x.head.sec := by first | exact (rfl) | (show cellI .i64 (encItem x) 7 K = _; simp [encItem, cellI, cellL, cellAt, atInt, atList])
theorem h_8 (x : Head) (K : Int → Option β) : cellI .i64 (encHead x) 8 K = K x.nano := by first | exact (rfl) | (show cellI .i64 (encHead x) 8 K = _; simp [encHead, cellI, cellL, cellAt, atInt, atList])
theorem i_8 (x : Item) (K : Int → Option β) : cellI .i64 (encItem x) 8 K = K x.head.nano := by first | exact (rfl) | (show cellI .i64 (encItem x) 8 K = _; simp [encItem, cellI, cellL, cellAt, atInt, atList])
theorem h_9 (x : Head) (K : ByteArray → Option β) : cellS (encHead x) 9 K = K (str x.user) := by first | exact (rfl) | (show cellS (encHead x) 9 K = _; simp [encHead, cellI, cellL, cellAt, atInt, atList])
theorem i_9 (x : Item) (K : ByteArray → Option β) : cellS (encItem x) 9 K = K (str x.head.user) := by first | exact (rfl) | (show cellS (encItem x) 9 K = _; simp [encItem, cellI, cellL, cellAt, atInt, atList])
theorem h_10 (x : Head) (K : ByteArray → Option β) : cellS (encHead x) 10 K = K (str x.group) := by first | exact (rfl) | (show cellS (encHead x) 10 K = _; simp [encHead, cellI, cellL, cellAt, atInt, atList])
theorem i_10 (x : Item) (K : ByteArray → Option β) : cellS (encItem x) 10 K = K (str x.head.group) := by first | exact (rfl) | (show cellS (encItem x) 10 K = _; simp [encItem, cellI, cellL, cellAt, atInt, atList])
theorem h_11 (x : Head) (K : Int → Option β) : cellI .i64 (encHead x) 11 K = K x.major := by first | exact (rfl) | (show cellI .i64 (encHead x) 11 K = _; simp [encHead, cellI, cellL, cellAt, atInt, atList])
theorem i_11 (x : Item) (K : Int → Option β) : cellI .i64 (encItem x) 11 K = K x.head.major := by first | exact (rfl) | (show cellI .i64 (encItem x) 11 K = _; simp [encItem, cellI, cellL, cellAt, atInt, atList])
theorem h_12 (x : Head) (K : Int → Option β) : cellI .i64 (encHead x) 12 K = K x.minor := by first | exact (rfl) | (show cellI .i64 (encHead x) 12 K = _; simp [encHead, cellI, cellL, cellAt, atInt, atList])
theorem i_12 (x : Item) (K : Int → Option β) : cellI .i64 (encItem x) 12 K = K x.head.minor := by first | exact (rfl) | (show cellI .i64 (encItem x) 12 K = _; simp [encItem, cellI, cellL, cellAt, atInt, atList])
theorem h_13 (x : Head) (K : List AV → Option β) : cellL 2 (encHead x) 13 K = K (prs x.extra) := by first | exact (rfl) | (show cellL 2 (encHead x) 13 K = _; simp [encHead, cellI, cellL, cellAt, atInt, atList])
theorem i_13 (x : Item) (K : List AV → Option β) : cellL 2 (encItem x) 13 K = K (prs x.head.extra) := by first | exact (rfl) | (show cellL 2 (encItem x) 13 K = _; simp [encItem, cellI, cellL, cellAt, atInt, atList])
theorem i_14 (x : Item) (K : List AV → Option β) : cellL 1 (encItem x) 14 K = K (bys x.data) := by first | exact (rfl) | (show cellL 1 (encItem x) 14 K = _; simp [encItem, cellI, cellL, cellAt, atInt, atList])
theorem p_0 (x : Pair) (K : ByteArray → Option β) : cellS (encPair x) 0 K = K (str x.key) := by first | exact (rfl) | (show cellS (encPair x) 0 K = _; simp [encPair, cellI, cellL, cellAt, atInt, atList])
theorem p_1 (x : Pair) (K : ByteArray → Option β) : cellS (encPair x) 1 K = K (str x.val) := by first | exact (rfl) | (show cellS (encPair x) 1 K = _; simp [encPair, cellI, cellL, cellAt, atInt, atList])
theorem t_0 (x : Time) (K : Int → Option β) : cellI .i64 (encTime x) 0 K = K x.sec := by first | exact (rfl) | (show cellI .i64 (encTime x) 0 K = _; simp [encTime, cellI, cellL, cellAt, atInt, atList])
theorem t_1 (x : Time) (K : Int → Option β) : cellI .i64 (encTime x) 1 K = K x.nano := by first | exact (rfl) | (show cellI .i64 (encTime x) 1 K = _; simp [encTime, cellI, cellL, cellAt, atInt, atList])
end
end Go.Proofs.YtkbedfjhchhikaaGreatDoor.Eng.U


/- The Dec laws answer true. -/
set_option linter.unusedVariables false
set_option linter.unusedSectionVars false
set_option linter.unusedSimpArgs false
namespace Go.Proofs.YtkbedfjhchhikaaGreatDoor.Eng.U
open Go Go.Proofs Go.Proofs.YtkbedfjhchhikaaGreatDoor.Eng Go.Proofs.YtkbedfjhchhikaaGreatDoor.P04
variable {E : Ext} [Core E] [HasNum E] {k n : Nat}

end Go.Proofs.YtkbedfjhchhikaaGreatDoor.Eng.U


/- The program's own data as a row hands them in: what is read is some item, with bounds. -/
set_option linter.unusedVariables false
set_option linter.unusedSimpArgs false
namespace Go.Proofs.YtkbedfjhchhikaaGreatDoor.Eng.U
open Go Go.Proofs Go.Proofs.YtkbedfjhchhikaaGreatDoor.Eng Go.Proofs.YtkbedfjhchhikaaGreatDoor.Eng.Rdv

def InR (n : Int) : Prop := -9223372036854775808 ≤ n ∧ n ≤ 9223372036854775807
structure G_apiPair (p : Pair) : Prop where
  key : p.key.length ≤ 140737488351232
  val : p.val.length ≤ 140737488351232
structure G_apiTime (t : Time) : Prop where
  sec : InR t.sec
  nano : InR t.nano
structure G_apiHead (h : Head) : Prop where
  kind : InR h.kind
  name : h.name.length ≤ 140737488351232
  link : h.link.length ≤ 140737488351232
  mode : InR h.mode
  uid : InR h.uid
  gid : InR h.gid
  size : InR h.size
  sec : InR h.sec
  nano : InR h.nano
  user : h.user.length ≤ 140737488351232
  group : h.group.length ≤ 140737488351232
  major : InR h.major
  minor : InR h.minor
  extra : h.extra.length * 32 ≤ 140737488351232
  pairs : ∀ p ∈ h.extra, G_apiPair p
structure G_apiItem (x : Item) : Prop where
  head : G_apiHead x.head
  data : x.data.length ≤ 140737488351232
def G_LapiItem (l : List Item) : Prop := l.length * 184 ≤ 140737488351232 ∧ ∀ x ∈ l, G_apiItem x
def G_LapiPair (l : List Pair) : Prop := l.length * 32 ≤ 140737488351232 ∧ ∀ x ∈ l, G_apiPair x
theorem rdi {t : TypeId} (hu : Tryz.prog.underlying t = some (.int .i64)) (hc : Tryz.prog.cellsOf t = 1) : Rd Tryz.prog t (fun n : Int => [.int .i64 n]) InR := int hu hc
theorem rds {t : TypeId} (hu : Tryz.prog.underlying t = some .string) (hc : Tryz.prog.cellsOf t = 1) : Rd Tryz.prog t (fun s : Tx => [.str (str s)]) (fun s => s.length ≤ 140737488351232) := string hu hc
theorem rd_pair : Rd Tryz.prog 44 encPair G_apiPair :=
  weaken (struct (P := Tryz.prog) (t := 44) Tryz.underlying44 rfl (by kernel_rfl) (by kernel_rfl)
    (iso encPair (fun p : Pair => (p.key, p.val)) (fun y => ⟨y.1, y.2⟩) (fun _ => rfl) (fun _ => rfl)
      (cons (rds (by kernel_rfl) (by kernel_rfl)) (one (rds (by kernel_rfl) (by kernel_rfl)))))) (fun _ h => ⟨h.1, h.2⟩)
theorem rd_time : Rd Tryz.prog 32 encTime G_apiTime :=
  weaken (struct (P := Tryz.prog) (t := 32) Tryz.underlying32 rfl (by kernel_rfl) (by kernel_rfl)
    (iso encTime (fun p : Time => (p.sec, p.nano)) (fun y => ⟨y.1, y.2⟩) (fun _ => rfl) (fun _ => rfl)
      (cons (rdi (by kernel_rfl) (by kernel_rfl)) (one (rdi (by kernel_rfl) (by kernel_rfl)))))) (fun _ h => ⟨h.1, h.2⟩)
theorem rd_pairs : Rd Tryz.prog 33 (fun l : List Pair => [.list 2 (prs l)]) G_LapiPair :=
  weaken (sliceAt (B := 32) elPair (fun _ => rfl) Tryz.underlying33 (by kernel_rfl) (by kernel_rfl) (by kernel_rfl) rd_pair) (fun _ h => h)
theorem rd_head : Rd Tryz.prog 35 encHead G_apiHead :=
  weaken (struct (P := Tryz.prog) (t := 35) Tryz.underlying35 rfl (by kernel_rfl) (by kernel_rfl)
    (iso encHead (fun h : Head => (h.kind, h.name, h.link, h.mode, h.uid, h.gid, h.size, (⟨h.sec, h.nano⟩ : Time), h.user, h.group, h.major, h.minor, h.extra))
      (fun y => ⟨y.1, y.2.1, y.2.2.1, y.2.2.2.1, y.2.2.2.2.1, y.2.2.2.2.2.1, y.2.2.2.2.2.2.1, y.2.2.2.2.2.2.2.1.sec, y.2.2.2.2.2.2.2.1.nano, y.2.2.2.2.2.2.2.2.1, y.2.2.2.2.2.2.2.2.2.1, y.2.2.2.2.2.2.2.2.2.2.1, y.2.2.2.2.2.2.2.2.2.2.2.1, y.2.2.2.2.2.2.2.2.2.2.2.2⟩) (fun _ => rfl) (fun _ => rfl)
      (cons (rdi (by kernel_rfl) (by kernel_rfl)) (cons (rds (by kernel_rfl) (by kernel_rfl)) (cons (rds (by kernel_rfl) (by kernel_rfl))
        (cons (rdi (by kernel_rfl) (by kernel_rfl)) (cons (rdi (by kernel_rfl) (by kernel_rfl)) (cons (rdi (by kernel_rfl) (by kernel_rfl)) (cons (rdi (by kernel_rfl) (by kernel_rfl))
          (cons rd_time (cons (rds (by kernel_rfl) (by kernel_rfl)) (cons (rds (by kernel_rfl) (by kernel_rfl))
            (cons (rdi (by kernel_rfl) (by kernel_rfl)) (cons (rdi (by kernel_rfl) (by kernel_rfl)) (one rd_pairs))))))))))))))) (fun h g =>
      ⟨g.1, g.2.1, g.2.2.1, g.2.2.2.1, g.2.2.2.2.1, g.2.2.2.2.2.1, g.2.2.2.2.2.2.1, g.2.2.2.2.2.2.2.1.sec, g.2.2.2.2.2.2.2.1.nano, g.2.2.2.2.2.2.2.2.1, g.2.2.2.2.2.2.2.2.2.1, g.2.2.2.2.2.2.2.2.2.2.1, g.2.2.2.2.2.2.2.2.2.2.2.1, g.2.2.2.2.2.2.2.2.2.2.2.2.1, g.2.2.2.2.2.2.2.2.2.2.2.2.2⟩)
theorem rd_bytes : Rd Tryz.prog 36 (fun l : Tx => [.list 1 (bys l)]) (fun l => l.length ≤ 140737488351232) := by
  have h := sliceAt (sz := 1) (P := Tryz.prog) (t := 36) (e := 5) (B := 1) (en := fun n : Int => [.int .u8 n]) (fun n : Int => .int .u8 n) (fun _ => rfl) Tryz.underlying36 (by kernel_rfl) (by kernel_rfl) (by kernel_rfl) (int (k := .u8) Tryz.underlying5 (by kernel_rfl))
  refine ⟨fun _ => (by kernel_rfl), fun a b => ?_⟩
  obtain ⟨r, h1, h2, h3⟩ := h.out a b
  have e : r.map (fun n : Int => AV.int .u8 n) = bys (r.map fun n => UInt8.ofNat n.toNat) := by
    unfold bys
    rw [List.map_map]
    apply List.map_congr_left
    intro n hn
    have := h3 n hn
    simp [IntKind.min, IntKind.max, IntKind.signed, IntKind.bits] at this
    show AV.int .u8 n = byteAV (UInt8.ofNat n.toNat)
    have h8 : (UInt8.ofNat n.toNat).toNat = n.toNat := by rw [UInt8.toNat_ofNat']; omega
    simp only [byteAV, h8, Int.toNat_of_nonneg this.1]
  refine ⟨r.map fun n => UInt8.ofNat n.toNat, ?_, by simp; omega⟩
  rw [e] at h1
  exact h1
theorem rd_item : Rd Tryz.prog 38 encItem G_apiItem :=
  weaken (struct (P := Tryz.prog) (t := 38) Tryz.underlying38 rfl (by kernel_rfl) (by kernel_rfl)
    (iso encItem (fun x : Item => (x.head, x.data)) (fun y => ⟨y.1, y.2⟩) (fun _ => rfl) (fun _ => rfl) (cons rd_head (one rd_bytes)))) (fun _ h => ⟨h.1, h.2⟩)
theorem rd_items : Rd Tryz.prog 22 (fun l : List Item => [.list 15 (its l)]) G_LapiItem :=
  weaken (sliceAt (B := 184) elItem (fun _ => rfl) Tryz.underlying22 (by kernel_rfl) (by kernel_rfl) (by kernel_rfl) rd_item) (fun _ h => h)
end Go.Proofs.YtkbedfjhchhikaaGreatDoor.Eng.U


/- The library's functions that the Dec laws call, in pieces: numbers to text and back, texts cut. -/
set_option linter.unusedVariables false
set_option linter.unusedSectionVars false
set_option linter.unusedSimpArgs false
namespace Go.Proofs.YtkbedfjhchhikaaGreatDoor.Eng.U
open Go Go.Proofs Go.Proofs.YtkbedfjhchhikaaGreatDoor.Eng Go.RowKit

theorem str_self (s : ByteArray) : str s.data.toList = s := by cases s; simp [str]
theorem ok_tup {f : FuncId} {args rs : List AV} (hr : rs.all (fun r => !r.isFresh && r.leaf) = true) (h : ∀ (S : Stab) (w : World) (vals : List Value), Agree S w → GlobOk glob S w → VL S args vals → Calls Tryz.prog f vals.toArray w fun e w' => ∃ vs : List Value, e = .returned (.tuple vs.toArray) ∧ rs.length = vs.length ∧ (∀ (S' : Stab) (j : Nat) (c : AV) (u : Value), rs[j]? = some c → vs[j]? = some u → V S' c u) ∧ Below w.heap.size w w') (hr2 : (args.all fun c => !c.isRes) = true := by rfl) : Ok Tryz.prog glob f args (.tup rs) := by
  refine Ok.of_plain (fun c hc => by simpa using List.all_eq_true.1 hr2 c hc) fun S w vals hag hG hV => ?_
  have key : ∀ (j : Nat) (c : AV), rs[j]? = some c → c.isFresh = false ∧ c.leaf = true := by
    intro j c hc
    have := List.all_eq_true.1 hr c (List.mem_of_getElem? hc)
    simpa using this
  refine (h S w vals hag hG hV).mono ?_
  rintro e w' ⟨vs, rfl, hl, hv, hb⟩
  refine ⟨_, S, rfl, fun _ _ h => h, agree_below hag hb, fun _ _ h => .inl h, hb, vs, rfl, hl, fun j c u hc hu => ?_, fun i j c d u v g hc hd hf => ?_⟩
  · have h1 := hv S j c u hc hu
    obtain ⟨h2, h3⟩ := key j c hc
    cases c <;> first | (cases h2; done) | (cases h3; done) | exact h1
  · rw [(key i c hc).1] at hf; cases hf
theorem V2 {S : Stab} {a b : AV} {u v : Value} (ha : V S a u) (hb : V S b v) : ∀ (j : Nat) (c : AV) (x : Value), [a, b][j]? = some c → [u, v][j]? = some x → V S c x := by
  intro j c x hc hx
  match j with
  | 0 => cases hc; cases hx; exact ha
  | 1 => cases hc; cases hx; exact hb
  | j + 2 => simp at hc
theorem eptr_inv {S : Stab} {cs : List AV} {off : Nat} {p : Value} (h : V S (.eptr cs off) p) : ∃ (a : Addr) (f : Nat → Value), p = .pointer (some (a.add off)) ∧ (∀ (j : Nat) (c : AV), cs[j]? = some c → S (a.add j) = some (f j)) ∧ (∀ (j : Nat) (c : AV), cs[j]? = some c → V S c (f j)) := by
  cases h with
  | eptr cs off a f g2 g3 g4 => exact ⟨a, f, rfl, g3, g4⟩
theorem glob_cell {S : Stab} {w : World} {g : Nat} {cs : List AV} (hag : Agree S w) (hG : GlobOk glob S w) (hg : glob g = some cs) (j : Nat) (c : AV) (hj : cs[j]? = some c) : ∃ u, w.cell? ⟨g, j, none⟩ = some u ∧ V S c u := by
  obtain ⟨h1, arr, t, f, h2, h3⟩ := hG g _ hg
  obtain ⟨a, fv, he, g3, g4⟩ := eptr_inv h1
  have ha : a.add j = ⟨g, j, none⟩ := by
    have he' : (⟨g, 0, none⟩ : Addr) = a.add 0 := by injection he with e; injection e
    obtain ⟨b, o, s⟩ := a
    cases s with
    | none => rw [add_lit', Nat.add_zero] at he'; cases he'; rw [add_lit', Nat.zero_add]
    | some s => simp [Addr.add] at he'
  have := hag _ _ (g3 j c hj)
  rw [ha] at this
  exact ⟨_, this, g4 j c hj⟩
theorem tab_of {S : Stab} {w : World} {g : Nat} {name : String} {k : IntKind} {zs : List Int} (hag : Agree S w) (hG : GlobOk glob S w) (hg : glob g = some (zs.map fun z => .int k z)) (hn : Tryz.prog.globalNamed name = some g) : Lib.TabIs Tryz.prog w name k zs := by
  obtain ⟨h1, arr, t, f, h2, h3⟩ := hG g _ hg
  unfold Lib.TabIs World.var?
  rw [hn]
  simp only [Option.bind_some, h2, Option.some.injEq]
  rw [List.length_map] at h3
  refine Array.ext' ?_
  refine List.ext_getElem? fun j => ?_
  by_cases hj : j < zs.length
  · obtain ⟨u, hu, hv⟩ := glob_cell hag hG hg j (.int k zs[j]) (by rw [List.getElem?_map, List.getElem?_eq_getElem hj]; rfl)
    rw [V_int hv] at hu
    have e : w.cell? ⟨g, j, none⟩ = arr[j]? := by simp [World.cell?, h2]
    rw [e] at hu
    rw [List.toList_toArray, List.getElem?_map, List.getElem?_eq_getElem hj]
    simpa using hu
  · rw [List.toList_toArray, List.getElem?_eq_none (by simp; omega), List.getElem?_eq_none (by simp; omega)]
theorem iface_of {S : Stab} {w : World} {g : Nat} (hag : Agree S w) (hG : GlobOk glob S w) (hg : glob g = some [.ifc]) : ∃ t v, w.cell? ⟨g, 0, none⟩ = some (.iface t v) := by
  obtain ⟨u, hu, hv⟩ := glob_cell hag hG hg 0 .ifc rfl
  cases hv
  exact ⟨_, _, hu⟩
theorem below_grow (w : World) (n : Nat) (os : Array Obj) : Below w.heap.size w (Sort.grow (w.drewN n) os) :=
  ⟨rfl, rfl, rfl, by simp [Sort.grow, World.drewN], fun k hk => by
    show (w.heap ++ os)[k]? = _
    rw [Array.getElem?_append_left hk]⟩

def pItoa : Piece := { f := strconv_Itoa, ans := fun args => match args with
  | [.int .i64 n] => bif decide (-9223372036854775808 ≤ n) && decide (n ≤ 9223372036854775807) then some (.str (str (Lib.itoa n))) else none
  | _ => none }
def pCutP : Piece := { f := strings_CutPrefix, ans := fun args => match args with
  | [.str s, .str p] => some (.tup [.str (str (Lib.trimPrefix s.data.toList p.data.toList)), .bool (Lib.hasPrefix s.data.toList p.data.toList)])
  | _ => none }
def one (c : ByteArray) : Option UInt8 := match c.data.toList with | [x] => some x | _ => none
theorem one_some {c : ByteArray} {x : UInt8} (h : one c = some x) : c = ⟨#[x]⟩ := by
  unfold one at h
  split at h
  · rename_i y e
    cases h
    obtain ⟨⟨l⟩⟩ := c
    simp at e
    rw [e]
  · cases h
def pIndex : Piece := { f := stringslite_Index, ans := fun args => match args with
  | [.str s, .str c] => (one c).bind fun x => some (.int .i64 (Lib.indexByte s.data.toList x))
  | _ => none }
def pIndexByte : Piece := { f := strings_IndexByte, ans := fun args => match args with
  | [.str s, .int .u8 c] => some (.int .i64 (Lib.indexByte s.data.toList c.toNat.toUInt8))
  | _ => none }
def pRepeat : Piece := { f := strings_Repeat, ans := fun args => match args with
  | [.str s, .int .i64 c] => bif decide (0 ≤ c) && decide (c ≤ 9223372036854775807) && decide (s.size * c.toNat ≤ 140737488355328) then some (.str (str (Lib.repeatL s.data.toList c.toNat))) else none
  | _ => none }
def pPInt : Piece := { f := strconv_ParseInt, ans := fun args => match args with
  | [.str s, .int .i64 b, .int .i64 z] => bif decide (b = 10) && decide (z = 64) && decide (s.size ≤ 281474976710656) then some (endI (Lib.parseIntB 64 s.data.toList) (Lib.intSat 64 s.data.toList)) else none
  | _ => none }
def pPUint : Piece := { f := strconv_ParseUint, ans := fun args => match args with
  | [.str s, .int .i64 b, .int .i64 z] => bif decide (b = 10) && decide (z = 64) && decide (s.size ≤ 281474976710656) then some (endU (Lib.parseUintB 64 s.data.toList)) else none
  | _ => none }
theorem itoa_right : pItoa.Right := by
  refine ⟨⟨Tryz.f21, Tryz.func21, by kernel_rfl, by kernel_rfl⟩, fun args res h => ?_⟩
  unfold pItoa at h
  dsimp only at h
  split at h
  · rename_i n
    obtain ⟨hc, h'⟩ := some_of_bif h
    clear h
    simp only [Bool.and_eq_true, decide_eq_true_eq] at hc
    obtain ⟨h1, h2⟩ := hc
    obtain rfl := Option.some.inj h'
    refine ok_pure ⟨rfl, rfl⟩ fun S w vals hag hG hV => ?_
    obtain ⟨v, rfl, hv⟩ := VL_1 hV
    obtain rfl := V_int hv
    refine (Tryz.strconv_Itoa n h1 h2 w (tab_of hag hG (g := 0) (zs := Lib.pow10Tab) rfl (by kernel_rfl))).mono ?_
    rintro e w' ⟨rfl, k, os, rfl⟩
    exact ⟨_, rfl, fun S' => V.str _, below_grow _ _ _⟩
  · cases h
theorem cutP_right : pCutP.Right := by
  refine ⟨⟨Tryz.f111, Tryz.func111, by kernel_rfl, by kernel_rfl⟩, fun args res h => ?_⟩
  unfold pCutP at h
  dsimp only at h
  split at h
  · rename_i s p
    obtain rfl := Option.some.inj h
    refine ok_tup rfl fun S w vals hag hG hV => ?_
    obtain ⟨v, u, rfl, hv, hu⟩ := VL_2 hV
    obtain rfl := V_str hv
    obtain rfl := V_str hu
    refine (Tryz.strings_CutPrefix s p w).mono ?_
    rintro e w' ⟨rfl, rfl⟩
    exact ⟨[_, _], rfl, rfl, fun S' => V2 (V.str _) (V.bool _), Below.refl _ _⟩
  · cases h
theorem index_right : pIndex.Right := by
  refine ⟨⟨Tryz.f126, Tryz.func126, by kernel_rfl, by kernel_rfl⟩, fun args res h => ?_⟩
  unfold pIndex at h
  dsimp only at h
  split at h
  · rename_i s c
    obtain ⟨x, hx, h⟩ := Option.bind_eq_some_iff.1 h
    obtain rfl := one_some hx
    obtain rfl := Option.some.inj h
    refine ok_pure ⟨rfl, rfl⟩ fun S w vals hag hG hV => ?_
    obtain ⟨v, u, rfl, hv, hu⟩ := VL_2 hV
    obtain rfl := V_str hv
    obtain rfl := V_str hu
    refine (Tryz.stringslite_Index_one s x w).mono ?_
    rintro e w' ⟨rfl, rfl⟩
    exact ⟨_, rfl, fun S' => V.int _ _, Below.refl _ _⟩
  · cases h
theorem indexByte_right : pIndexByte.Right := by
  refine ⟨⟨Tryz.f66, Tryz.func66, by kernel_rfl, by kernel_rfl⟩, fun args res h => ?_⟩
  unfold pIndexByte at h
  dsimp only at h
  split at h
  · rename_i s c
    obtain rfl := Option.some.inj h
    refine ok_pure ⟨rfl, rfl⟩ fun S w vals hag hG hV => ?_
    obtain ⟨v, u, rfl, hv, hu⟩ := VL_2 hV
    obtain rfl := V_str hv
    obtain rfl := V_int hu
    refine (Tryz.strings_IndexByte s c w).mono ?_
    rintro e w' ⟨rfl, rfl⟩
    exact ⟨_, rfl, fun S' => V.int _ _, Below.refl _ _⟩
  · cases h
theorem repeat_right : pRepeat.Right := by
  refine ⟨⟨Tryz.f37, Tryz.func37, by kernel_rfl, by kernel_rfl⟩, fun args res h => ?_⟩
  unfold pRepeat at h
  dsimp only at h
  split at h
  · rename_i s c
    obtain ⟨hc, h'⟩ := some_of_bif h
    clear h
    simp only [Bool.and_eq_true, decide_eq_true_eq] at hc
    obtain ⟨⟨h1, h2⟩, h3⟩ := hc
    obtain rfl := Option.some.inj h'
    refine ok_pure ⟨rfl, rfl⟩ fun S w vals hag hG hV => ?_
    obtain ⟨v, u, rfl, hv, hu⟩ := VL_2 hV
    obtain rfl := V_str hv
    obtain rfl := V_int hu
    obtain ⟨n, rfl⟩ := Int.eq_ofNat_of_zero_le h1
    rw [Int.toNat_natCast] at h3 ⊢
    refine (Tryz.strings_Repeat s n w (by omega) h3).mono ?_
    rintro e w' ⟨rfl, hb⟩
    exact ⟨_, rfl, fun S' => V.str _, hb⟩
  · cases h
theorem pInt_right : pPInt.Right := by
  refine ⟨⟨Tryz.f114, Tryz.func114, by kernel_rfl, by kernel_rfl⟩, fun args res h => ?_⟩
  unfold pPInt at h
  dsimp only at h
  split at h
  · rename_i s b z
    obtain ⟨hc, h'⟩ := some_of_bif h
    clear h
    simp only [Bool.and_eq_true, decide_eq_true_eq] at hc
    obtain ⟨⟨rfl, rfl⟩, h3⟩ := hc
    obtain rfl := Option.some.inj h'
    cases he : Lib.parseIntB 64 s.data.toList with
    | ok v =>
      refine ok_tup rfl fun S w vals hag hG hV => ?_
      obtain ⟨v1, v2, v3, rfl, g1, g2, g3⟩ := VL_3 hV
      obtain rfl := V_str g1
      obtain rfl := V_int g2
      obtain rfl := V_int g3
      refine (Tryz.strconv_ParseInt_10_at64_ok s (by omega) v he w).mono ?_
      rintro e w' ⟨rfl, hw⟩
      refine ⟨[_, _], rfl, rfl, fun S' => V2 (V.int _ _) V.nili, ?_⟩
      rcases hw with rfl | ⟨t, rfl⟩
      · exact Below.refl _ _
      · exact Lib.bytesWorld_below _ _ _
    | range =>
      refine ok_tup rfl fun S w vals hag hG hV => ?_
      obtain ⟨v1, v2, v3, rfl, g1, g2, g3⟩ := VL_3 hV
      obtain rfl := V_str g1
      obtain rfl := V_int g2
      obtain rfl := V_int g3
      obtain ⟨t, v, hi⟩ := iface_of (g := 7) hag hG rfl
      refine (Tryz.strconv_ParseInt_10_at64_range s h3 he _ w hi (.inr ⟨_, _, rfl⟩)).mono ?_
      rintro e w' ⟨N, rfl, _, _, hb⟩
      exact ⟨[_, _], rfl, rfl, fun S' => V2 (V.int _ _) (V.ifc _ _), hb⟩
    | _ =>
      refine ok_tup rfl fun S w vals hag hG hV => ?_
      obtain ⟨v1, v2, v3, rfl, g1, g2, g3⟩ := VL_3 hV
      obtain rfl := V_str g1
      obtain rfl := V_int g2
      obtain rfl := V_int g3
      obtain ⟨t, v, hi⟩ := iface_of (g := 6) hag hG rfl
      refine (Tryz.strconv_ParseInt_10_at64_syntax s h3 he _ w hi (.inr ⟨_, _, rfl⟩)).mono ?_
      rintro e w' ⟨N, rfl, _, _, hb⟩
      exact ⟨[_, _], rfl, rfl, fun S' => V2 (V.int _ _) (V.ifc _ _), hb⟩
  · cases h
theorem pUint_right : pPUint.Right := by
  refine ⟨⟨Tryz.f119, Tryz.func119, by kernel_rfl, by kernel_rfl⟩, fun args res h => ?_⟩
  unfold pPUint at h
  dsimp only at h
  split at h
  · rename_i s b z
    obtain ⟨hc, h'⟩ := some_of_bif h
    clear h
    simp only [Bool.and_eq_true, decide_eq_true_eq] at hc
    obtain ⟨⟨rfl, rfl⟩, h3⟩ := hc
    obtain rfl := Option.some.inj h'
    cases he : Lib.parseUintB 64 s.data.toList with
    | ok v =>
      refine ok_tup rfl fun S w vals hag hG hV => ?_
      obtain ⟨v1, v2, v3, rfl, g1, g2, g3⟩ := VL_3 hV
      obtain rfl := V_str g1
      obtain rfl := V_int g2
      obtain rfl := V_int g3
      refine (Tryz.strconv_ParseUint_10_at64_ok s (by omega) v he w).mono ?_
      rintro e w' ⟨rfl, hw⟩
      refine ⟨[_, _], rfl, rfl, fun S' => V2 (V.int _ _) V.nili, ?_⟩
      rcases hw with rfl | rfl
      · exact Below.refl _ _
      · exact Lib.bytesWorld_below _ _ _
    | range =>
      refine ok_tup rfl fun S w vals hag hG hV => ?_
      obtain ⟨v1, v2, v3, rfl, g1, g2, g3⟩ := VL_3 hV
      obtain rfl := V_str g1
      obtain rfl := V_int g2
      obtain rfl := V_int g3
      obtain ⟨t, v, hi⟩ := iface_of (g := 7) hag hG rfl
      refine (Tryz.strconv_ParseUint_10_at64_range s h3 he _ w hi (.inr ⟨_, _, rfl⟩)).mono ?_
      rintro e w' ⟨N, rfl, _, _, hb⟩
      exact ⟨[_, _], rfl, rfl, fun S' => V2 (V.int _ _) (V.ifc _ _), hb⟩
    | _ =>
      refine ok_tup rfl fun S w vals hag hG hV => ?_
      obtain ⟨v1, v2, v3, rfl, g1, g2, g3⟩ := VL_3 hV
      obtain rfl := V_str g1
      obtain rfl := V_int g2
      obtain rfl := V_int g3
      obtain ⟨t, v, hi⟩ := iface_of (g := 6) hag hG rfl
      refine (Tryz.strconv_ParseUint_10_at64_syntax s h3 he _ w hi (.inr ⟨_, _, rfl⟩)).mono ?_
      rintro e w' ⟨N, rfl, _, _, hb⟩
      exact ⟨[_, _], rfl, rfl, fun S' => V2 (V.int _ _) (V.ifc _ _), hb⟩
  · cases h
def ps04 : List Piece := [pItoa, pCutP, pIndex, pIndexByte, pRepeat, pPInt, pPUint]
def ext04 : Ext := extOf ps04
instance core04 : Core ext04 := core_of (by kernel_rfl)
theorem num_of {ps : List Piece} (h2 : ps.find? (fun q => q.f == pItoa.f) = some pItoa) (h3 : ps.find? (fun q => q.f == pCutP.f) = some pCutP) (h5 : ps.find? (fun q => q.f == pIndex.f) = some pIndex) (h6 : ps.find? (fun q => q.f == pIndexByte.f) = some pIndexByte) (h7 : ps.find? (fun q => q.f == pRepeat.f) = some pRepeat) (h8 : ps.find? (fun q => q.f == pPInt.f) = some pPInt) (h9 : ps.find? (fun q => q.f == pPUint.f) = some pPUint) : HasNum (extOf ps) where
  itoa k n v g0 g1 := (kp_piece (k := k) (n := n) h2).trans (by
    show (bif decide (-9223372036854775808 ≤ v) && decide (v ≤ 9223372036854775807) then _ else none) = _
    rw [decide_eq_true g0, decide_eq_true g1]
    rfl)
  cutP k n s p := (kp_piece (k := k) (n := n) h3).trans rfl
  index k n s x := (kp_piece (k := k) (n := n) h5).trans rfl
  indexB k n s c := (kp_piece (k := k) (n := n) h6).trans rfl
  rep k n s c g0 g1 := (kp_piece (k := k) (n := n) h7).trans (by
    show (bif decide ((0 : Int) ≤ (c : Int)) && decide ((c : Int) ≤ 9223372036854775807) && decide ((str s).size * (Int.toNat (c : Int)) ≤ 140737488355328) then some (AV.str (str (Lib.repeatL s (Int.toNat (c : Int))))) else none) = _
    rw [str_size, Int.toNat_natCast, decide_eq_true (show (0 : Int) ≤ (c : Int) by omega), decide_eq_true (show (c : Int) ≤ 9223372036854775807 by omega), decide_eq_true g1]
    rfl)
  pint k n s g0 := (kp_piece (k := k) (n := n) h8).trans (by
    show (bif decide ((10 : Int) = 10) && decide ((64 : Int) = 64) && decide ((str s).size ≤ 281474976710656) then _ else none) = _
    rw [str_size, decide_eq_true g0]
    rfl)
  puint k n s g0 := (kp_piece (k := k) (n := n) h9).trans (by
    show (bif decide ((10 : Int) = 10) && decide ((64 : Int) = 64) && decide ((str s).size ≤ 281474976710656) then _ else none) = _
    rw [str_size, decide_eq_true g0]
    rfl)
instance num04 : HasNum ext04 := num_of rfl rfl rfl rfl rfl rfl rfl
end Go.Proofs.YtkbedfjhchhikaaGreatDoor.Eng.U

