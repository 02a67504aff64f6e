/- Several texts of this proof in one file: Core, Shelf, RowT, Ext, R04, Q04, U04, U04b, U04c, Api, V04, ApiR, B04, S32, S32b, Q32, B32, S32c, B32c, R09, U09, U09b, RS, U09c, U09e, R7, Z05a, Z05b, Z05c, U09f, U04d, U07, U07b, Q04b, U07c, U07d, Q02, Q20, RT, U21, B21. -/
import Derived.Test.YtchflhbpdnfopaaDoorMECrcChecks2
import Derived.Test.YtchflhbpdnfopaaDoorProg
import Derived.Lib.DecodeN
import Derived.Lib.ItoaNum
import Derived.Shelf.Small.Utf8
import Derived.Shelf.Small.Strs
import Derived.Shelf.Utf8.RuneCount
import Derived.Shelf.Strconv.Itoa0
import Derived.Shelf.Strconv.Itoa1
import Derived.Shelf.LaysM
import Derived.Shelf.Strconv.Itoa2
import Derived.Shelf.Strconv.Itoa3
import Derived.Shelf.Strconv.Clone
import Derived.Shelf.Strconv.SyntaxError
import Derived.Shelf.LaysC
import Derived.Shelf.Strconv.ToError
import Derived.Shelf.Strconv.Lower
import Derived.Shelf.Strconv.ParseUint10
import Derived.Shelf.Strconv.ParseUint10Empty
import Derived.Shelf.Strconv.ParseUint10Any
import Derived.Shelf.Strconv.RangeError
import Derived.Shelf.Strconv.ToErrorRange
import Derived.Shelf.Strconv.ParseUintEmpty
import Derived.Shelf.Strconv.ParseUint10b64
import Derived.Shelf.Strconv.ParseUint10b32
import Derived.Shelf.Strconv.ParseUint10b16
import Derived.Shelf.Strconv.ParseUint10b8
import Derived.Shelf.Strconv.ParseUint10At
import Derived.Ground.MpProg
import Derived.Shelf.Pu.ParseUintPublic10
import Derived.Shelf.Pu.ErrVarParseUint
import Derived.Shelf.Strings.Search1
import Derived.Shelf.Strings.Search2
import Derived.Shelf.Strings.Search3
import Derived.Shelf.Strings.Count
import Derived.Shelf.Strings.Shaped
import Derived.Shelf.Strings.Prefix
import Derived.Shelf.Strings.Split
import Derived.Shelf.Strings.SplitShaped
import Derived.Shelf.Unicode.Decode
import Derived.Shelf.Strings.Runes
import Derived.Shelf.Strings.RuneCount
import Derived.Shelf.Strings.IndexAny
import Derived.Shelf.Strings.AsciiSet
import Derived.Shelf.Strings.IndexAnyAll
import Derived.Shelf.Strings.Explode
import Derived.Shelf.Unicode.DecodeSlow
import Derived.Shelf.Unicode.DecodeAny
import Derived.Test.YtchflhbpdnfopaaDoorCards
import Derived.Test.YtchflhbpdnfopaaDoorTie
import Derived.Lib.LaidIn
import Derived.Lib.LaidU8
import Derived.PinnedBridge
import Derived.Deep.DeepHandedRow
import Derived.ChangeSlices
import Derived.WalkKit
import Derived.ProofKit
import Derived.OpenShut
import Derived.ShutString
import Derived.ChangeOld
import Derived.ChangeSame
import Derived.Below
import Derived.Lib.ParseIntB
import Derived.Lib.Bytealg
import Derived.Lib.TrimByte
import Derived.Lib.Strings
import Derived.Lib.Repeat
import Derived.Lib.ItoaMem
import Derived.Lib.ItoaLen
import Derived.WalkSmall
import Derived.Lib.SmallJoins
import Derived.KernelRfl
import Derived.Tactics
import Derived.Laws.Rows
import Derived.Laws.Tables
import Derived.Laws.CopyOwn
import Derived.Laws.BitsLemmas
import Derived.Lib.Hide
import Derived.Laws.Slices
import Derived.Lib.ItoaWalk
import Derived.Laws.IdiomStrings
import Derived.Laws.BytesString
import Derived.BigCall
import Derived.BigGuard
import Derived.Lib.ConvBytes
import Derived.Lib.AtoiErrMem
import Derived.IntWalk
import Derived.Lib.RuneCountTail
import Derived.Lib.IndexAny
/- The functions of a seat, by their names; what each loop keeps; a base open at its given functions. Printed by gen2.py. -/
set_option linter.unusedVariables false
namespace Go.Proofs.YtchflhbpdnfopaaDoor.Eng.U
open Go Go.Proofs Go.Proofs.YtchflhbpdnfopaaDoor.Eng
def law32_CrcChecks : FuncId := 3
def law32_alive : FuncId := 4
def law17_Many : FuncId := 5
def crc_Check : FuncId := 6
def ref32_Check : FuncId := 7
def crc_Sum : FuncId := 8
def crc_parse : FuncId := 9
def ref20_Words : FuncId := 10
def ref21_Hex : FuncId := 11
def ref04_Number : FuncId := 12
def ref02_Unquote : FuncId := 13
def ref32_File : FuncId := 14
def ref32_More : FuncId := 15
def crc_More : FuncId := 16
def strings_Split : FuncId := 17
def strings_ContainsAny : FuncId := 18
def strings_HasPrefix : FuncId := 19
def strconv_ParseUint : FuncId := 20
def dec_Number : FuncId := 21
def text_Unquote : FuncId := 22
def ref21_digit : FuncId := 23
def ref04_Below : FuncId := 24
def ref02_open : FuncId := 25
def ref02_code : FuncId := 26
def crc_table : FuncId := 27
def strings_genSplit : FuncId := 28
def strings_IndexAny : FuncId := 29
def stringslite_HasPrefix : FuncId := 30
def dec_natural : FuncId := 33
def text_open : FuncId := 34
def text_digit : FuncId := 35
def ref04_only : FuncId := 36
def strings_explode : FuncId := 37
def strings_Count : FuncId := 38
def strings_Index : FuncId := 39
def strings_IndexRune : FuncId := 40
def strings_shouldUseASCIISet : FuncId := 41
def dec_digits : FuncId := 50
def unicode_utf8_DecodeRuneInString : FuncId := 52
def stringslite_Index : FuncId := 54
def strings_IndexByte : FuncId := 55
def unicode_utf8_ValidRune : FuncId := 56
def strconv_Itoa : FuncId := 61
def dirs : FuncId → Nat → Option Dir
  | 3, 5 => some { slots := [(0, .keep), (1, .keep), (5, .keep), (6, .keep)], boxes := [] }
  | 3, 13 => some { slots := [(0, .keep), (1, .keep), (7, .keep), (8, .keep), (9, .keep)], boxes := [] }
  | 5, 3 => some { slots := [(0, .keep), (3, .keep), (4, .keep)], boxes := [] }
  | 5, 8 => some { slots := [(0, .keep), (3, .keep), (4, .keep), (5, .keep), (6, .keep)], boxes := [5] }
  | 6, 3 => some { slots := [(0, .keep), (5, .keep), (16, .keep), (17, .keep), (18, .keep)], boxes := [15] }
  | 6, 10 => some { slots := [(5, .keep), (8, .own 31 false), (33, .keep), (34, .keep), (35, .keep)], boxes := [15] }
  | 10, 4 => some { slots := [(0, .keep), (3, .own 9 false), (4, .keep), (5, .keep)], boxes := [] }
  | 11, 7 => some { slots := [(0, .keep), (4, .own 5 false), (5, .keep)], boxes := [] }
  | 13, 3 => some { slots := [(0, .keep), (4, .own 5 false), (5, .keep)], boxes := [] }
  | 13, 9 => some { slots := [(0, .keep), (4, .own 5 false), (5, .keep), (6, .keep), (7, .keep)], boxes := [] }
  | 14, 2 => some { slots := [(0, .keep), (1, .keep), (6, .keep)], boxes := [] }
  | 15, 3 => some { slots := [(1, .keep), (5, .keep), (6, .keep)], boxes := [] }
  | 15, 7 => some { slots := [(1, .keep), (5, .keep), (6, .keep), (7, .keep)], boxes := [] }
  | 22, 2 => some { slots := [(0, .keep), (4, .own 5 false)], boxes := [] }
  | 24, 5 => some { slots := [(0, .keep), (4, .keep), (5, .keep)], boxes := [] }
  | 28, 11 => some { slots := [(0, .keep), (1, .keep), (2, .keep), (3, .keep), (9, .own 9 false), (10, .keep)], boxes := [] }
  | 29, 12 => some { slots := [(0, .keep), (6, .keep), (8, .keep)], boxes := [6] }
  | 29, 18 => some { slots := [(1, .keep), (45, .keep)], boxes := [45] }
  | 36, 2 => some { slots := [(0, .keep), (3, .keep)], boxes := [] }
  | 37, 6 => some { slots := [(0, .keep), (1, .keep), (6, .own 9 false), (7, .keep)], boxes := [] }
  | 40, 5 => some { slots := [(0, .keep), (7, .keep), (8, .keep), (9, .keep)], boxes := [] }
  | 40, 12 => some { slots := [(0, .keep), (7, .keep), (8, .keep), (9, .keep), (12, .keep)], boxes := [] }
  | 40, 25 => some { slots := [(0, .keep), (7, .keep), (8, .keep), (9, .keep), (14, .keep), (15, .keep)], boxes := [] }
  | 40, 29 => some { slots := [(0, .keep), (7, .keep), (8, .keep), (9, .keep), (14, .keep), (15, .keep), (16, .keep)], boxes := [] }
  | 40, 38 => some { slots := [(175, .keep)], boxes := [175] }
  | 45, 10 => some { slots := [(0, .keep), (3, .keep), (4, .keep), (5, .keep)], boxes := [] }
  | 50, 2 => some { slots := [(0, .keep), (5, .keep), (6, .keep)], boxes := [] }
  | 51, 2 => some { slots := [(2, .keep), (4, .keep)], boxes := [4] }
  | 64, 5 => some { slots := [(0, .keep), (1, .keep), (5, .keep), (6, .keep), (7, .keep), (8, .keep), (9, .keep)], boxes := [] }
  | 64, 11 => some { slots := [(0, .keep), (1, .keep), (5, .keep), (6, .keep), (7, .keep), (8, .keep), (10, .keep)], boxes := [] }
  | 67, 3 => some { slots := [(0, .keep), (4, .keep), (5, .keep)], boxes := [] }
  | 67, 8 => some { slots := [(4, .keep), (6, .keep), (7, .keep), (8, .keep)], boxes := [] }
  | _, _ => none
def fl : FuncId → List Bool
  | _ => []
def ln : FuncId → List Nat
  | _ => []
def hd : FuncId → List Nat
  | _ => []
def glob (g : Nat) : Option (List AV) :=
  if g = 3 then some ((List.range 256).map fun c => .int .u8 (Lib.firstT c : Int)) else if g = 4 then some ((List.range 32).map fun i => .int .u8 ((if i % 2 = 0 then Lib.accLo (i / 2) else Lib.accHi (i / 2) : Nat) : Int)) else if g = 5 then some (Lib.pow10Tab.map fun z => .int .u64 z) else if g = 0 then some [.ifc] else if g = 1 then some [.ifc] else if g = 7 then some (([0, 1, 56, 2, 57, 49, 28, 3, 61, 58, 42, 50, 38, 29, 17, 4, 62, 47, 59, 36, 45, 43, 51, 22, 53, 39, 33, 30, 24, 18, 12, 5, 63, 55, 48, 27, 60, 41, 37, 16, 46, 35, 44, 21, 52, 32, 23, 11, 54, 26, 40, 15, 34, 20, 31, 10, 25, 14, 19, 9, 13, 8, 7, 6] : List Int).map fun z => .int .u8 z) else none
def coreFs : List FuncId := [3, 4, 5, 6, 7, 8, 9, 10, 11, 12, 13, 14, 15, 17, 18, 19, 21, 22, 23, 24, 25, 26, 28, 30, 33, 34, 35, 36, 37, 39, 40, 41, 44, 45, 50, 51, 56, 57, 63, 64, 65, 67, 69, 73, 74, 75, 76, 77]
noncomputable def bs (E : Ext) (k : Nat) : Base := { P := Tryd.prog, fs := E.fs, isBase := E.isBase, base := E.base, fl := fl, ln := ln, hd := hd, glob := glob, dirs := dirs, k := k }
/-- An extension that has no given functions: for what doesn't look at them. -/
def E0 : Ext := { fs := [], isBase := fun _ => false, base := fun _ _ => none }
class Core (E : Ext) : Prop where
  isB : ∀ f, coreFs.contains f = true → E.isBase f = false
  has : ∀ f, coreFs.contains f = true → E.fs.contains f = true
/-- What a function answers, calls nested n deep, k rounds of each loop. -/
noncomputable def kp (E : Ext) (k n : Nat) : FuncId → List AV → Option AV := (bs E k).kap n
theorem kp_at {E : Ext} [h : Core E] {k n : Nat} {f : FuncId} {args : List AV} (hf : coreFs.contains f = true) : kp E k (n + 1) f args = (bs E k).at (kp E k n) f args := Base.kap_at (h.isB f hf) (h.has f hf) args
theorem kp_base {E : Ext} {k n : Nat} {f : FuncId} {args : List AV} (hf : E.isBase f = true) : kp E k n f args = E.base f args := Base.kap_base (B := bs E k) hf args
end Go.Proofs.YtchflhbpdnfopaaDoor.Eng.U


/-
  DERIVED: THE SHELF's CONTRACTS AT THIS DUMP, IN PLAIN WORDS (tools/lay-plain.mjs out of 'TrydShelf.lean', which tools/lay-shelf.mjs wrote): THE SAME DECLARATIONS UNDER THE SAME NAMES: 'import', 'namespace', 'open', 'def', 'theorem' AND NOTHING ELSE: no command of the shelf's: FOR A HAND-IN. Each laying: the table of numbers ('.._ren') and one theorem, a field a fact of the dump's own or the kernel's comparison; each contract: ONE APPLICATION.
-/
namespace Go.Proofs
open Go.Shelf
def Tryd.lays137_ren : Go.Shelf.Ren := ⟨fun | 137 => 55 | 217 => 63 | 266 => 66 | n => n, fun | 9 => 9 | 5 => 5 | 3 => 3 | n => n, fun | n => n⟩
theorem Tryd.lays137 : Go.Proofs.Lays.n137 Tryd.prog Tryd.lays137_ren := {
  mixed := by kernel_rfl
  f137 := Tryd.func55.trans (congrArg some (by kernel_rfl))
  f217 := Tryd.func63.trans (congrArg some (by kernel_rfl))
  f266 := Tryd.func66.trans (congrArg some (by kernel_rfl))
  t3 := Tryd.underlying3
  a3 := Tryd.isAgg3
  z3 := Tryd.sizeOf3
  v3 := Tryd.zeroValue3
  t5 := Tryd.underlying5
  a5 := Tryd.isAgg5
  z5 := Tryd.sizeOf5
  v5 := Tryd.zeroValue5
  t9 := Tryd.underlying9
  a9 := Tryd.isAgg9
  z9 := Tryd.sizeOf9
  v9 := Tryd.zeroValue9 }
open Go.RowKit in
/-- strings.IndexByte: "IndexByte returns the index of the first instance of c in s, or -1 if c is not present in s.": IT RETURNS 'Lib.indexByte s c'; the world is as it was. (LAID: no walk: one application.) -/
theorem Tryd.strings_IndexByte (s : ByteArray) (c : Int) (w : World) :
    Calls Tryd.prog 55 #[.string s, .int .u8 c] w fun e w' => e = .returned (.int .i64 (Lib.indexByte s.data.toList c.toNat.toUInt8)) ∧ w' = w := Any.strings_IndexByte Tryd.lays137 s c w
def Tryd.laysM171_ren : Go.Shelf.Ren := ⟨fun | 171 => 61 | 243 => 65 | 246 => 68 | 283 => 69 | 284 => 70 | 285 => 71 | 286 => 72 | 129 => 74 | 317 => 73 | 318 => 75 | 319 => 76 | 320 => 77 | 337 => 78 | 338 => 79 | n => n, fun | 3 => 3 | 9 => 9 | 2 => 2 | 4 => 4 | 171 => 117 | 0 => 0 | 53 => 61 | 37 => 35 | 5 => 5 | 173 => 120 | 212 => 123 | 51 => 33 | 20 => 20 | 213 => 124 | 46 => 75 | 232 => 127 | 233 => 128 | n => n, fun | 17 => 5 | 18 => 6 | 19 => 7 | n => n⟩
theorem Tryd.laysM171 : Go.Proofs.LaysM.n171 Tryd.prog Tryd.laysM171_ren := {
  mixed := by kernel_rfl
  f129 := Tryd.func74.trans (congrArg some (by kernel_rfl))
  f171 := Tryd.func61.trans (congrArg some (by kernel_rfl))
  f243 := Tryd.func65.trans (congrArg some (by kernel_rfl))
  f246 := Tryd.func68.trans (congrArg some (by kernel_rfl))
  f283 := Tryd.func69.trans (congrArg some (by kernel_rfl))
  f284 := Tryd.func70.trans (congrArg some (by kernel_rfl))
  f285 := Tryd.func71.trans (congrArg some (by kernel_rfl))
  f286 := Tryd.func72.trans (congrArg some (by kernel_rfl))
  f317 := Tryd.func73.trans (congrArg some (by kernel_rfl))
  f318 := Tryd.func75.trans (congrArg some (by kernel_rfl))
  f319 := Tryd.func76.trans (congrArg some (by kernel_rfl))
  f320 := Tryd.func77.trans (congrArg some (by kernel_rfl))
  f337 := Tryd.func78.trans (congrArg some (by kernel_rfl))
  f338 := Tryd.func79.trans (congrArg some (by kernel_rfl))
  t0 := Tryd.underlying0
  a0 := Tryd.isAgg0
  z0 := Tryd.sizeOf0
  v0 := Tryd.zeroValue0
  t2 := Tryd.underlying2
  a2 := Tryd.isAgg2
  z2 := Tryd.sizeOf2
  v2 := Tryd.zeroValue2
  t3 := Tryd.underlying3
  a3 := Tryd.isAgg3
  z3 := Tryd.sizeOf3
  v3 := Tryd.zeroValue3
  t4 := Tryd.underlying4
  a4 := Tryd.isAgg4
  z4 := Tryd.sizeOf4
  v4 := Tryd.zeroValue4
  t5 := Tryd.underlying5
  a5 := Tryd.isAgg5
  z5 := Tryd.sizeOf5
  v5 := Tryd.zeroValue5
  t9 := Tryd.underlying9
  a9 := Tryd.isAgg9
  z9 := Tryd.sizeOf9
  v9 := Tryd.zeroValue9
  t20 := Tryd.underlying20
  a20 := Tryd.isAgg20
  z20 := Tryd.sizeOf20
  v20 := Tryd.zeroValue20
  t37 := Tryd.underlying35
  a37 := Tryd.isAgg35
  z37 := Tryd.sizeOf35
  v37 := Tryd.zeroValue35
  t46 := Tryd.underlying75
  a46 := Tryd.isAgg75
  z46 := Tryd.sizeOf75
  v46 := Tryd.zeroValue75
  t51 := Tryd.underlying33
  a51 := Tryd.isAgg33
  z51 := Tryd.sizeOf33
  v51 := Tryd.zeroValue33
  t53 := Tryd.underlying61
  a53 := Tryd.isAgg61
  z53 := Tryd.sizeOf61
  v53 := Tryd.zeroValue61
  t171 := Tryd.underlying117
  a171 := Tryd.isAgg117
  z171 := Tryd.sizeOf117
  v171 := Tryd.zeroValue117
  t173 := Tryd.underlying120
  a173 := Tryd.isAgg120
  z173 := Tryd.sizeOf120
  v173 := Tryd.zeroValue120
  t212 := Tryd.underlying123
  a212 := Tryd.isAgg123
  z212 := Tryd.sizeOf123
  v212 := Tryd.zeroValue123
  t213 := Tryd.underlying124
  a213 := Tryd.isAgg124
  z213 := Tryd.sizeOf124
  t232 := Tryd.underlying127
  a232 := Tryd.isAgg127
  z232 := Tryd.sizeOf127
  v232 := Tryd.zeroValue127
  t233 := Tryd.underlying128
  a233 := Tryd.isAgg128
  z233 := Tryd.sizeOf128
  v233 := Tryd.zeroValue128
  g17 := by kernel_rfl
  g18 := by kernel_rfl
  g19 := by kernel_rfl
  i0 := by kernel_rfl
  i2 := by kernel_rfl
  i3 := by kernel_rfl
  i4 := by kernel_rfl
  i5 := by kernel_rfl
  i9 := by kernel_rfl
  i20 := by kernel_rfl
  i37 := by kernel_rfl
  i46 := by kernel_rfl
  i51 := by kernel_rfl
  i53 := by kernel_rfl
  i171 := by kernel_rfl
  i173 := by kernel_rfl
  i212 := by kernel_rfl
  i232 := by kernel_rfl
  i233 := by kernel_rfl
  m17 := by kernel_rfl
  m18 := by kernel_rfl
  m19 := by kernel_rfl }
open Go.RowKit Go.Sort Go.Lib in
/-- strconv.Itoa: "Itoa is equivalent to FormatInt(int64(i), 10).": i's DECIMAL NUMERAL ('Lib.itoa': a '-' where i is negative, then the digits), FOR EVERY int. The world behind the call: the world before it, new blocks behind the heap (the library's 'var a [24]byte'), draws. (LAID: no walk: one application.) -/
theorem Tryd.strconv_Itoa (n : Int) (h0 : -9223372036854775808 ≤ n) (h1 : n ≤ 9223372036854775807) (w : World) (htab : Lib.TabIs Tryd.prog w "internal/strconv.uint64pow10" .u64 Lib.pow10Tab) :
    Calls Tryd.prog 61 #[.int .i64 n] w fun e w' => e = .returned (.string ⟨(Lib.itoa n).toArray⟩) ∧ ∃ k os, w' = grow (w.drewN k) os := Any.strconv_Itoa Tryd.laysM171 n h0 h1 w htab
def Tryd.laysC245_ren : Go.Shelf.Ren := ⟨fun | 245 => 32 | 279 => 46 | 280 => 47 | 281 => 48 | 282 => 49 | 316 => 59 | 171 => 61 | 205 => 60 | 243 => 65 | 246 => 68 | 283 => 69 | 284 => 70 | 285 => 71 | 286 => 72 | 129 => 74 | 317 => 73 | 318 => 75 | 319 => 76 | 320 => 77 | 337 => 78 | 338 => 79 | n => n, fun | 9 => 9 | 3 => 3 | 75 => 63 | 167 => 89 | 4 => 4 | 168 => 91 | 210 => 103 | 37 => 35 | 0 => 0 | 127 => 106 | 145 => 109 | 143 => 107 | 2 => 2 | 171 => 117 | 53 => 61 | 5 => 5 | 173 => 120 | 212 => 123 | 51 => 33 | 20 => 20 | 213 => 124 | 46 => 75 | 232 => 127 | 233 => 128 | 80 => 129 | n => n, fun | 15 => 0 | 16 => 1 | 17 => 5 | 18 => 6 | 19 => 7 | n => n⟩
theorem Tryd.laysC245 : Go.Proofs.LaysC.n245 Tryd.prog Tryd.laysC245_ren := {
  mixed := by kernel_rfl
  f129 := Tryd.func74.trans (congrArg some (by kernel_rfl))
  f171 := Tryd.func61.trans (congrArg some (by kernel_rfl))
  f205 := Tryd.func60.trans (congrArg some (by kernel_rfl))
  f243 := Tryd.func65.trans (congrArg some (by kernel_rfl))
  f245 := Tryd.func32.trans (congrArg some (by kernel_rfl))
  f246 := Tryd.func68.trans (congrArg some (by kernel_rfl))
  f279 := Tryd.func46.trans (congrArg some (by kernel_rfl))
  f280 := Tryd.func47.trans (congrArg some (by kernel_rfl))
  f281 := Tryd.func48.trans (congrArg some (by kernel_rfl))
  f282 := Tryd.func49.trans (congrArg some (by kernel_rfl))
  f283 := Tryd.func69.trans (congrArg some (by kernel_rfl))
  f284 := Tryd.func70.trans (congrArg some (by kernel_rfl))
  f285 := Tryd.func71.trans (congrArg some (by kernel_rfl))
  f286 := Tryd.func72.trans (congrArg some (by kernel_rfl))
  f316 := Tryd.func59.trans (congrArg some (by kernel_rfl))
  f317 := Tryd.func73.trans (congrArg some (by kernel_rfl))
  f318 := Tryd.func75.trans (congrArg some (by kernel_rfl))
  f319 := Tryd.func76.trans (congrArg some (by kernel_rfl))
  f320 := Tryd.func77.trans (congrArg some (by kernel_rfl))
  f337 := Tryd.func78.trans (congrArg some (by kernel_rfl))
  f338 := Tryd.func79.trans (congrArg some (by kernel_rfl))
  t0 := Tryd.underlying0
  a0 := Tryd.isAgg0
  z0 := Tryd.sizeOf0
  v0 := Tryd.zeroValue0
  t2 := Tryd.underlying2
  a2 := Tryd.isAgg2
  z2 := Tryd.sizeOf2
  v2 := Tryd.zeroValue2
  t3 := Tryd.underlying3
  a3 := Tryd.isAgg3
  z3 := Tryd.sizeOf3
  v3 := Tryd.zeroValue3
  t4 := Tryd.underlying4
  a4 := Tryd.isAgg4
  z4 := Tryd.sizeOf4
  v4 := Tryd.zeroValue4
  t5 := Tryd.underlying5
  a5 := Tryd.isAgg5
  z5 := Tryd.sizeOf5
  v5 := Tryd.zeroValue5
  t9 := Tryd.underlying9
  a9 := Tryd.isAgg9
  z9 := Tryd.sizeOf9
  v9 := Tryd.zeroValue9
  t20 := Tryd.underlying20
  a20 := Tryd.isAgg20
  z20 := Tryd.sizeOf20
  v20 := Tryd.zeroValue20
  t37 := Tryd.underlying35
  a37 := Tryd.isAgg35
  z37 := Tryd.sizeOf35
  v37 := Tryd.zeroValue35
  t46 := Tryd.underlying75
  a46 := Tryd.isAgg75
  z46 := Tryd.sizeOf75
  v46 := Tryd.zeroValue75
  t51 := Tryd.underlying33
  a51 := Tryd.isAgg33
  z51 := Tryd.sizeOf33
  v51 := Tryd.zeroValue33
  t53 := Tryd.underlying61
  a53 := Tryd.isAgg61
  z53 := Tryd.sizeOf61
  v53 := Tryd.zeroValue61
  t75 := Tryd.underlying63
  a75 := Tryd.isAgg63
  z75 := Tryd.sizeOf63
  v75 := Tryd.zeroValue63
  t127 := Tryd.underlying106
  a127 := Tryd.isAgg106
  z127 := Tryd.sizeOf106
  v127 := Tryd.zeroValue106
  t143 := Tryd.underlying107
  a143 := Tryd.isAgg107
  z143 := Tryd.sizeOf107
  v143 := Tryd.zeroValue107
  t145 := Tryd.underlying109
  a145 := Tryd.isAgg109
  z145 := Tryd.sizeOf109
  v145 := Tryd.zeroValue109
  t167 := Tryd.underlying89
  a167 := Tryd.isAgg89
  z167 := Tryd.sizeOf89
  v167 := Tryd.zeroValue89
  t168 := Tryd.underlying91
  a168 := Tryd.isAgg91
  z168 := Tryd.sizeOf91
  v168 := Tryd.zeroValue91
  t171 := Tryd.underlying117
  a171 := Tryd.isAgg117
  z171 := Tryd.sizeOf117
  v171 := Tryd.zeroValue117
  t173 := Tryd.underlying120
  a173 := Tryd.isAgg120
  z173 := Tryd.sizeOf120
  v173 := Tryd.zeroValue120
  t210 := Tryd.underlying103
  a210 := Tryd.isAgg103
  z210 := Tryd.sizeOf103
  v210 := Tryd.zeroValue103
  t212 := Tryd.underlying123
  a212 := Tryd.isAgg123
  z212 := Tryd.sizeOf123
  v212 := Tryd.zeroValue123
  t213 := Tryd.underlying124
  a213 := Tryd.isAgg124
  z213 := Tryd.sizeOf124
  t232 := Tryd.underlying127
  a232 := Tryd.isAgg127
  z232 := Tryd.sizeOf127
  v232 := Tryd.zeroValue127
  t233 := Tryd.underlying128
  a233 := Tryd.isAgg128
  z233 := Tryd.sizeOf128
  v233 := Tryd.zeroValue128
  g15 := by kernel_rfl
  g16 := by kernel_rfl
  g17 := by kernel_rfl
  g18 := by kernel_rfl
  g19 := by kernel_rfl
  t80 := Tryd.underlying129
  a80 := Tryd.isAgg129
  z80 := Tryd.sizeOf129
  v80 := Tryd.zeroValue129
  i0 := by kernel_rfl
  i2 := by kernel_rfl
  i3 := by kernel_rfl
  i4 := by kernel_rfl
  i5 := by kernel_rfl
  i9 := by kernel_rfl
  i20 := by kernel_rfl
  i37 := by kernel_rfl
  i46 := by kernel_rfl
  i51 := by kernel_rfl
  i53 := by kernel_rfl
  i75 := by kernel_rfl
  i80 := by kernel_rfl
  i127 := by kernel_rfl
  i143 := by kernel_rfl
  i145 := by kernel_rfl
  i167 := by kernel_rfl
  i168 := by kernel_rfl
  i171 := by kernel_rfl
  i173 := by kernel_rfl
  i210 := by kernel_rfl
  i212 := by kernel_rfl
  i232 := by kernel_rfl
  i233 := by kernel_rfl
  m15 := by kernel_rfl
  m16 := by kernel_rfl
  m17 := by kernel_rfl
  m18 := by kernel_rfl
  m19 := by kernel_rfl
  c0 := by kernel_rfl
  c2 := by kernel_rfl
  c3 := by kernel_rfl
  c4 := by kernel_rfl
  c5 := by kernel_rfl
  c9 := by kernel_rfl
  c20 := by kernel_rfl
  c37 := by kernel_rfl
  c46 := by kernel_rfl
  c51 := by kernel_rfl
  c53 := by kernel_rfl
  c75 := by kernel_rfl
  c80 := by kernel_rfl
  c127 := by kernel_rfl
  c143 := by kernel_rfl
  c145 := by kernel_rfl
  c167 := by kernel_rfl
  c168 := by kernel_rfl
  c171 := by kernel_rfl
  c173 := by kernel_rfl
  c210 := by kernel_rfl
  c212 := by kernel_rfl
  c213 := by kernel_rfl
  c232 := by kernel_rfl
  c233 := by kernel_rfl }
open Go.RowKit in
/-- strconv.toError, at the inner package's ErrSyntax: 'syntaxError(fn, s)' as an error: A *NumError IN A NEW BLOCK. (LAID: no walk: one application.) -/
theorem Tryd.strconv_toError_syntax (fn s : ByteArray) (base bits : Int) (ev : Value) (w : World) (hlim : s.size ≤ 281474976710656) (hv : w.cell? ⟨0, 0, none⟩ = some ev) (hev : ev = .nilIface ∨ ∃ te pe, ev = .iface te pe) :
    Calls Tryd.prog 32 #[.string fn, .string s, .int .i64 base, .int .i64 bits, .iface 89 (.int .i64 2)] w fun e w' => ∃ N, e = .returned (.iface 91 (.pointer (some ⟨N, 0, none⟩))) ∧ w.heap.size ≤ N ∧ w'.heap[N]? = some (.cells #[.string fn, .string s, ev] 103 (0, 0)) ∧ Below w.heap.size w w' := Any.strconv_toError_syntax Tryd.laysC245 fn s base bits ev w hlim hv hev
def Tryd.laysPu14_ren : Go.Shelf.Ren := ⟨fun | 14 => 20 | 16 => 31 | 17 => 32 | 19 => 44 | 20 => 45 | 21 => 46 | 22 => 47 | 23 => 48 | 24 => 49 | 25 => 59 | 27 => 61 | 26 => 60 | 28 => 65 | 29 => 68 | 30 => 69 | 31 => 70 | 32 => 71 | 33 => 72 | 35 => 74 | 34 => 73 | 36 => 75 | 37 => 76 | 38 => 77 | 39 => 78 | 40 => 79 | n => n, fun | 9 => 9 | 3 => 3 | 22 => 61 | 24 => 63 | 25 => 64 | 4 => 4 | 34 => 89 | 5 => 5 | 36 => 75 | 37 => 35 | 0 => 0 | 39 => 91 | 21 => 21 | 44 => 103 | 47 => 106 | 50 => 109 | 48 => 107 | 2 => 2 | 52 => 117 | 55 => 120 | 59 => 123 | 60 => 33 | 20 => 20 | 61 => 124 | 65 => 127 | 66 => 128 | 67 => 129 | n => n, fun | 0 => 0 | 1 => 1 | 2 => 5 | 3 => 6 | 4 => 7 | n => n⟩
theorem Tryd.laysPu14 : Go.Proofs.LaysPu.n14 Tryd.prog Tryd.laysPu14_ren := {
  mixed := by kernel_rfl
  f14 := Tryd.func20.trans (congrArg some (by kernel_rfl))
  f16 := Tryd.func31.trans (congrArg some (by kernel_rfl))
  f17 := Tryd.func32.trans (congrArg some (by kernel_rfl))
  f19 := Tryd.func44.trans (congrArg some (by kernel_rfl))
  f20 := Tryd.func45.trans (congrArg some (by kernel_rfl))
  f21 := Tryd.func46.trans (congrArg some (by kernel_rfl))
  f22 := Tryd.func47.trans (congrArg some (by kernel_rfl))
  f23 := Tryd.func48.trans (congrArg some (by kernel_rfl))
  f24 := Tryd.func49.trans (congrArg some (by kernel_rfl))
  f25 := Tryd.func59.trans (congrArg some (by kernel_rfl))
  f26 := Tryd.func60.trans (congrArg some (by kernel_rfl))
  f27 := Tryd.func61.trans (congrArg some (by kernel_rfl))
  f28 := Tryd.func65.trans (congrArg some (by kernel_rfl))
  f29 := Tryd.func68.trans (congrArg some (by kernel_rfl))
  f30 := Tryd.func69.trans (congrArg some (by kernel_rfl))
  f31 := Tryd.func70.trans (congrArg some (by kernel_rfl))
  f32 := Tryd.func71.trans (congrArg some (by kernel_rfl))
  f33 := Tryd.func72.trans (congrArg some (by kernel_rfl))
  f34 := Tryd.func73.trans (congrArg some (by kernel_rfl))
  f35 := Tryd.func74.trans (congrArg some (by kernel_rfl))
  f36 := Tryd.func75.trans (congrArg some (by kernel_rfl))
  f37 := Tryd.func76.trans (congrArg some (by kernel_rfl))
  f38 := Tryd.func77.trans (congrArg some (by kernel_rfl))
  f39 := Tryd.func78.trans (congrArg some (by kernel_rfl))
  f40 := Tryd.func79.trans (congrArg some (by kernel_rfl))
  t0 := Tryd.underlying0
  a0 := Tryd.isAgg0
  z0 := Tryd.sizeOf0
  v0 := Tryd.zeroValue0
  i0 := by kernel_rfl
  t2 := Tryd.underlying2
  a2 := Tryd.isAgg2
  z2 := Tryd.sizeOf2
  v2 := Tryd.zeroValue2
  i2 := by kernel_rfl
  t3 := Tryd.underlying3
  a3 := Tryd.isAgg3
  z3 := Tryd.sizeOf3
  v3 := Tryd.zeroValue3
  i3 := by kernel_rfl
  t4 := Tryd.underlying4
  a4 := Tryd.isAgg4
  z4 := Tryd.sizeOf4
  v4 := Tryd.zeroValue4
  i4 := by kernel_rfl
  t5 := Tryd.underlying5
  a5 := Tryd.isAgg5
  z5 := Tryd.sizeOf5
  v5 := Tryd.zeroValue5
  i5 := by kernel_rfl
  t9 := Tryd.underlying9
  a9 := Tryd.isAgg9
  z9 := Tryd.sizeOf9
  v9 := Tryd.zeroValue9
  i9 := by kernel_rfl
  t20 := Tryd.underlying20
  a20 := Tryd.isAgg20
  z20 := Tryd.sizeOf20
  v20 := Tryd.zeroValue20
  i20 := by kernel_rfl
  t21 := Tryd.underlying21
  a21 := Tryd.isAgg21
  z21 := Tryd.sizeOf21
  v21 := Tryd.zeroValue21
  i21 := by kernel_rfl
  t22 := Tryd.underlying61
  a22 := Tryd.isAgg61
  z22 := Tryd.sizeOf61
  v22 := Tryd.zeroValue61
  i22 := by kernel_rfl
  t24 := Tryd.underlying63
  a24 := Tryd.isAgg63
  z24 := Tryd.sizeOf63
  v24 := Tryd.zeroValue63
  i24 := by kernel_rfl
  t25 := Tryd.underlying64
  a25 := Tryd.isAgg64
  z25 := Tryd.sizeOf64
  v25 := Tryd.zeroValue64
  i25 := by kernel_rfl
  t34 := Tryd.underlying89
  a34 := Tryd.isAgg89
  z34 := Tryd.sizeOf89
  v34 := Tryd.zeroValue89
  i34 := by kernel_rfl
  c34 := by kernel_rfl
  t36 := Tryd.underlying75
  a36 := Tryd.isAgg75
  z36 := Tryd.sizeOf75
  v36 := Tryd.zeroValue75
  i36 := by kernel_rfl
  t37 := Tryd.underlying35
  a37 := Tryd.isAgg35
  z37 := Tryd.sizeOf35
  v37 := Tryd.zeroValue35
  i37 := by kernel_rfl
  t39 := Tryd.underlying91
  a39 := Tryd.isAgg91
  z39 := Tryd.sizeOf91
  v39 := Tryd.zeroValue91
  i39 := by kernel_rfl
  t44 := Tryd.underlying103
  a44 := Tryd.isAgg103
  z44 := Tryd.sizeOf103
  v44 := Tryd.zeroValue103
  i44 := by kernel_rfl
  t47 := Tryd.underlying106
  a47 := Tryd.isAgg106
  z47 := Tryd.sizeOf106
  v47 := Tryd.zeroValue106
  i47 := by kernel_rfl
  t48 := Tryd.underlying107
  a48 := Tryd.isAgg107
  z48 := Tryd.sizeOf107
  v48 := Tryd.zeroValue107
  i48 := by kernel_rfl
  t50 := Tryd.underlying109
  a50 := Tryd.isAgg109
  z50 := Tryd.sizeOf109
  v50 := Tryd.zeroValue109
  i50 := by kernel_rfl
  t52 := Tryd.underlying117
  a52 := Tryd.isAgg117
  z52 := Tryd.sizeOf117
  v52 := Tryd.zeroValue117
  i52 := by kernel_rfl
  t55 := Tryd.underlying120
  a55 := Tryd.isAgg120
  z55 := Tryd.sizeOf120
  v55 := Tryd.zeroValue120
  i55 := by kernel_rfl
  t59 := Tryd.underlying123
  a59 := Tryd.isAgg123
  z59 := Tryd.sizeOf123
  v59 := Tryd.zeroValue123
  i59 := by kernel_rfl
  t60 := Tryd.underlying33
  a60 := Tryd.isAgg33
  z60 := Tryd.sizeOf33
  v60 := Tryd.zeroValue33
  i60 := by kernel_rfl
  t61 := Tryd.underlying124
  a61 := Tryd.isAgg124
  z61 := Tryd.sizeOf124
  t65 := Tryd.underlying127
  a65 := Tryd.isAgg127
  z65 := Tryd.sizeOf127
  v65 := Tryd.zeroValue127
  i65 := by kernel_rfl
  t66 := Tryd.underlying128
  a66 := Tryd.isAgg128
  z66 := Tryd.sizeOf128
  v66 := Tryd.zeroValue128
  i66 := by kernel_rfl
  t67 := Tryd.underlying129
  a67 := Tryd.isAgg129
  z67 := Tryd.sizeOf129
  v67 := Tryd.zeroValue129
  i67 := by kernel_rfl
  g0 := by kernel_rfl
  m0 := by kernel_rfl
  g1 := by kernel_rfl
  m1 := by kernel_rfl
  g2 := by kernel_rfl
  m2 := by kernel_rfl
  g3 := by kernel_rfl
  m3 := by kernel_rfl
  g4 := by kernel_rfl
  m4 := by kernel_rfl }
open Go.RowKit in
/-- strconv.ParseUint(s, 10, 64), AT EVERY STRING THAT SPELLS A uint64 ('Lib.parseUintB 64 s.data.toList = .ok u'): u, AND NO ERROR. (LAID: no walk: one application.) -/
theorem Tryd.strconv_ParseUint_10_at64_ok (s : ByteArray) (hmax : s.size ≤ 9223372036854775806) (u : Nat) (h : Lib.parseUintB 64 s.data.toList = .ok u) (w : World) :
    Calls Tryd.prog 20 #[.string s, .int .i64 10, .int .i64 64] w fun e w' => e = .returned (.tuple #[.int .u64 u, .nilIface]) ∧ (w' = w ∨ w' = Lib.bytesWorld w 5 s) := Any.strconv_ParseUint_10_at64_ok Tryd.laysPu14 s hmax u h w
open Go.RowKit in
/-- strconv.ParseUint(s, 10, 64), AT EVERY STRING THAT IS NO ROW OF DECIMAL DIGITS (a sign is a fault): 0, AND AN ERROR THAT IS NOT nil: a *NumError in a new block N: {Func: "ParseUint", Num: s's bytes, Err: what the variable ErrSyntax holds}. Of what was there nothing has turned. (LAID: no walk: one application.) -/
theorem Tryd.strconv_ParseUint_10_at64_syntax (s : ByteArray) (hlim : s.size ≤ 281474976710656) (h : Lib.parseUintB 64 s.data.toList = Lib.parseUintB 64 []) (ev : Value) (w : World) (hv : w.cell? ⟨0, 0, none⟩ = some ev) (hev : ev = .nilIface ∨ ∃ te pe, ev = .iface te pe) :
    Calls Tryd.prog 20 #[.string s, .int .i64 10, .int .i64 64] w fun e w' => ∃ N, e = .returned (.tuple #[.int .u64 0, .iface 91 (.pointer (some ⟨N, 0, none⟩))]) ∧ w.heap.size ≤ N ∧ w'.heap[N]? = some (.cells #[.string ⟨#[80, 97, 114, 115, 101, 85, 105, 110, 116]⟩, .string s, ev] 103 (0, 0)) ∧ Below w.heap.size w w' := Any.strconv_ParseUint_10_at64_syntax Tryd.laysPu14 s hlim h ev w hv hev
open Go.RowKit in
/-- strconv.ParseUint(s, 10, 64), AT EVERY NUMERAL THAT NO uint64 HOLDS: THE GREATEST uint64, AND AN ERROR THAT IS NOT nil: a *NumError in a new block N: {Func: "ParseUint", Num: s's bytes, Err: what the variable ErrRange holds}. Of what was there nothing has turned. (LAID: no walk: one application.) -/
theorem Tryd.strconv_ParseUint_10_at64_range (s : ByteArray) (hlim : s.size ≤ 281474976710656) (h : Lib.parseUintB 64 s.data.toList = .range) (ev : Value) (w : World) (hv : w.cell? ⟨1, 0, none⟩ = some ev) (hev : ev = .nilIface ∨ ∃ te pe, ev = .iface te pe) :
    Calls Tryd.prog 20 #[.string s, .int .i64 10, .int .i64 64] w fun e w' => ∃ N, e = .returned (.tuple #[.int .u64 18446744073709551615, .iface 91 (.pointer (some ⟨N, 0, none⟩))]) ∧ w.heap.size ≤ N ∧ w'.heap[N]? = some (.cells #[.string ⟨#[80, 97, 114, 115, 101, 85, 105, 110, 116]⟩, .string s, ev] 103 (0, 0)) ∧ Below w.heap.size w w' := Any.strconv_ParseUint_10_at64_range Tryd.laysPu14 s hlim h ev w hv hev
def Tryd.lays219_ren : Go.Shelf.Ren := ⟨fun | 219 => 54 | 217 => 63 | 225 => 58 | 224 => 57 | 267 => 64 | 266 => 66 | 314 => 67 | n => n, fun | 9 => 9 | 3 => 3 | 4 => 4 | 5 => 5 | 46 => 75 | 146 => 114 | 51 => 33 | n => n, fun | 1 => 2 | n => n⟩
theorem Tryd.lays219 : Go.Proofs.Lays.n219 Tryd.prog Tryd.lays219_ren := {
  mixed := by kernel_rfl
  f217 := Tryd.func63.trans (congrArg some (by kernel_rfl))
  f219 := Tryd.func54.trans (congrArg some (by kernel_rfl))
  f224 := Tryd.func57.trans (congrArg some (by kernel_rfl))
  f225 := Tryd.func58.trans (congrArg some (by kernel_rfl))
  f266 := Tryd.func66.trans (congrArg some (by kernel_rfl))
  f267 := Tryd.func64.trans (congrArg some (by kernel_rfl))
  f314 := Tryd.func67.trans (congrArg some (by kernel_rfl))
  t3 := Tryd.underlying3
  a3 := Tryd.isAgg3
  z3 := Tryd.sizeOf3
  v3 := Tryd.zeroValue3
  t4 := Tryd.underlying4
  a4 := Tryd.isAgg4
  z4 := Tryd.sizeOf4
  v4 := Tryd.zeroValue4
  t5 := Tryd.underlying5
  a5 := Tryd.isAgg5
  z5 := Tryd.sizeOf5
  v5 := Tryd.zeroValue5
  t9 := Tryd.underlying9
  a9 := Tryd.isAgg9
  z9 := Tryd.sizeOf9
  v9 := Tryd.zeroValue9
  t46 := Tryd.underlying75
  a46 := Tryd.isAgg75
  z46 := Tryd.sizeOf75
  v46 := Tryd.zeroValue75
  t51 := Tryd.underlying33
  a51 := Tryd.isAgg33
  z51 := Tryd.sizeOf33
  v51 := Tryd.zeroValue33
  t146 := Tryd.underlying114
  a146 := Tryd.isAgg114
  z146 := Tryd.sizeOf114
  v146 := Tryd.zeroValue114
  g1 := by kernel_rfl }
open Go.RowKit Go.Lib in
/-- internal/stringslite.Index (what strings.Index calls) AT A substr OF ONE BYTE c: IT RETURNS 'Lib.indexByte s c'; the world is as it was. (LAID: no walk: one application.) -/
theorem Tryd.stringslite_Index_one (s : ByteArray) (c : UInt8) (w : World) :
    Calls Tryd.prog 54 #[.string s, .string ⟨#[c]⟩] w fun e w' => e = .returned (.int .i64 (Lib.indexByte s.data.toList c)) ∧ w' = w := Any.stringslite_Index_one Tryd.lays219 s c w
open Go.RowKit Go.Lib in
/-- internal/stringslite.Index (what strings.Index calls) AT A substr OF WHATEVER LENGTH: IT RETURNS 'Lib.index s substr'; the world is as it was. 'm': what internal/bytealg.MaxLen holds: whatever. (LAID: no walk: one application.) -/
theorem Tryd.stringslite_Index (s sub : ByteArray) (m : Int) (w : World) (hs : s.size < 4294967281) (hm : w.cell? ⟨2, 0, none⟩ = some (.int .i64 m)) :
    Calls Tryd.prog 54 #[.string s, .string sub] w fun e w' => e = .returned (.int .i64 (Lib.index s.data.toList sub.data.toList)) ∧ w' = w := Any.stringslite_Index Tryd.lays219 s sub m w hs hm
def Tryd.lays143_ren : Go.Shelf.Ren := ⟨fun | 143 => 39 | 219 => 54 | 217 => 63 | 225 => 58 | 224 => 57 | 267 => 64 | 266 => 66 | 314 => 67 | n => n, fun | 9 => 9 | 3 => 3 | 4 => 4 | 5 => 5 | 46 => 75 | 146 => 114 | 51 => 33 | n => n, fun | 1 => 2 | n => n⟩
theorem Tryd.lays143 : Go.Proofs.Lays.n143 Tryd.prog Tryd.lays143_ren := {
  mixed := by kernel_rfl
  f143 := Tryd.func39.trans (congrArg some (by kernel_rfl))
  f217 := Tryd.func63.trans (congrArg some (by kernel_rfl))
  f219 := Tryd.func54.trans (congrArg some (by kernel_rfl))
  f224 := Tryd.func57.trans (congrArg some (by kernel_rfl))
  f225 := Tryd.func58.trans (congrArg some (by kernel_rfl))
  f266 := Tryd.func66.trans (congrArg some (by kernel_rfl))
  f267 := Tryd.func64.trans (congrArg some (by kernel_rfl))
  f314 := Tryd.func67.trans (congrArg some (by kernel_rfl))
  t3 := Tryd.underlying3
  a3 := Tryd.isAgg3
  z3 := Tryd.sizeOf3
  v3 := Tryd.zeroValue3
  t4 := Tryd.underlying4
  a4 := Tryd.isAgg4
  z4 := Tryd.sizeOf4
  v4 := Tryd.zeroValue4
  t5 := Tryd.underlying5
  a5 := Tryd.isAgg5
  z5 := Tryd.sizeOf5
  v5 := Tryd.zeroValue5
  t9 := Tryd.underlying9
  a9 := Tryd.isAgg9
  z9 := Tryd.sizeOf9
  v9 := Tryd.zeroValue9
  t46 := Tryd.underlying75
  a46 := Tryd.isAgg75
  z46 := Tryd.sizeOf75
  v46 := Tryd.zeroValue75
  t51 := Tryd.underlying33
  a51 := Tryd.isAgg33
  z51 := Tryd.sizeOf33
  v51 := Tryd.zeroValue33
  t146 := Tryd.underlying114
  a146 := Tryd.isAgg114
  z146 := Tryd.sizeOf114
  v146 := Tryd.zeroValue114
  g1 := by kernel_rfl }
open Go.RowKit Go.Lib in
/-- strings.Index: "Index returns the index of the first instance of substr in s, or -1 if substr is not present in s.": IT RETURNS 'Lib.index s substr'; the world is as it was. (LAID: no walk: one application.) -/
theorem Tryd.strings_Index (s sub : ByteArray) (m : Int) (w : World) (hs : s.size < 4294967281) (hm : w.cell? ⟨2, 0, none⟩ = some (.int .i64 m)) :
    Calls Tryd.prog 39 #[.string s, .string sub] w fun e w' => e = .returned (.int .i64 (Lib.index s.data.toList sub.data.toList)) ∧ w' = w := Any.strings_Index Tryd.lays143 s sub m w hs hm
def Tryd.lays138_ren : Go.Shelf.Ren := ⟨fun | 138 => 38 | 195 => 51 | 218 => 53 | 143 => 39 | 219 => 54 | 217 => 63 | 225 => 58 | 224 => 57 | 267 => 64 | 266 => 66 | 314 => 67 | n => n, fun | 9 => 9 | 3 => 3 | 4 => 4 | 5 => 5 | 0 => 0 | 46 => 75 | 146 => 114 | 51 => 33 | n => n, fun | 1 => 2 | n => n⟩
theorem Tryd.lays138 : Go.Proofs.Lays.n138 Tryd.prog Tryd.lays138_ren := {
  mixed := by kernel_rfl
  f138 := Tryd.func38.trans (congrArg some (by kernel_rfl))
  f143 := Tryd.func39.trans (congrArg some (by kernel_rfl))
  f195 := Tryd.func51.trans (congrArg some (by kernel_rfl))
  f217 := Tryd.func63.trans (congrArg some (by kernel_rfl))
  f218 := Tryd.func53.trans (congrArg some (by kernel_rfl))
  f219 := Tryd.func54.trans (congrArg some (by kernel_rfl))
  f224 := Tryd.func57.trans (congrArg some (by kernel_rfl))
  f225 := Tryd.func58.trans (congrArg some (by kernel_rfl))
  f266 := Tryd.func66.trans (congrArg some (by kernel_rfl))
  f267 := Tryd.func64.trans (congrArg some (by kernel_rfl))
  f314 := Tryd.func67.trans (congrArg some (by kernel_rfl))
  t0 := Tryd.underlying0
  a0 := Tryd.isAgg0
  z0 := Tryd.sizeOf0
  v0 := Tryd.zeroValue0
  t3 := Tryd.underlying3
  a3 := Tryd.isAgg3
  z3 := Tryd.sizeOf3
  v3 := Tryd.zeroValue3
  t4 := Tryd.underlying4
  a4 := Tryd.isAgg4
  z4 := Tryd.sizeOf4
  v4 := Tryd.zeroValue4
  t5 := Tryd.underlying5
  a5 := Tryd.isAgg5
  z5 := Tryd.sizeOf5
  v5 := Tryd.zeroValue5
  t9 := Tryd.underlying9
  a9 := Tryd.isAgg9
  z9 := Tryd.sizeOf9
  v9 := Tryd.zeroValue9
  t46 := Tryd.underlying75
  a46 := Tryd.isAgg75
  z46 := Tryd.sizeOf75
  v46 := Tryd.zeroValue75
  t51 := Tryd.underlying33
  a51 := Tryd.isAgg33
  z51 := Tryd.sizeOf33
  v51 := Tryd.zeroValue33
  t146 := Tryd.underlying114
  a146 := Tryd.isAgg114
  z146 := Tryd.sizeOf114
  v146 := Tryd.zeroValue114
  g1 := by kernel_rfl }
open Go.RowKit Go.Lib in
/-- strings.Count AT A substr OF ONE BYTE ('hp'): "Count counts the number of non-overlapping instances of substr in s.": IT RETURNS 'Lib.countByte s (that byte)'; the world is as it was. ✋ NO CONTRACT HERE YET at an empty substr (utf8.RuneCountInString) or at a longer one (a loop over strings.Index). (LAID: no walk: one application.) -/
theorem Tryd.strings_Count_one (s : ByteArray) (c : UInt8) (w : World) :
    Calls Tryd.prog 38 #[.string s, .string ⟨#[c]⟩] w fun e w' => e = .returned (.int .i64 (Lib.countByte s.data.toList c)) ∧ w' = w := Any.strings_Count_one Tryd.lays138 s c w
open Go.RowKit Go.Lib in
/-- strings.Count AT A substr OF TWO BYTES OR MORE: "Count counts the number of non-overlapping instances of substr in s.": IT RETURNS 'Lib.count s substr'; the world is as it was. (LAID: no walk: one application.) -/
theorem Tryd.strings_Count (s sub : ByteArray) (m : Int) (w : World) (hs : s.size < 4294967281) (hm : w.cell? ⟨2, 0, none⟩ = some (.int .i64 m)) (h2 : 2 ≤ sub.size) :
    Calls Tryd.prog 38 #[.string s, .string sub] w fun e w' => e = .returned (.int .i64 (Lib.countB s sub)) ∧ w' = w := Any.strings_Count Tryd.lays138 s sub m w hs hm h2
def Tryd.lays206_ren : Go.Shelf.Ren := ⟨fun | 206 => 30 | n => n, fun | 9 => 9 | 4 => 4 | 3 => 3 | n => n, fun | n => n⟩
theorem Tryd.lays206 : Go.Proofs.Lays.n206 Tryd.prog Tryd.lays206_ren := {
  mixed := by kernel_rfl
  f206 := Tryd.func30.trans (congrArg some (by kernel_rfl))
  t3 := Tryd.underlying3
  a3 := Tryd.isAgg3
  z3 := Tryd.sizeOf3
  v3 := Tryd.zeroValue3
  t4 := Tryd.underlying4
  a4 := Tryd.isAgg4
  z4 := Tryd.sizeOf4
  v4 := Tryd.zeroValue4
  t9 := Tryd.underlying9
  a9 := Tryd.isAgg9
  z9 := Tryd.sizeOf9
  v9 := Tryd.zeroValue9 }
open Go.RowKit Go.Lib in
/-- internal/stringslite.HasPrefix (what strings.HasPrefix calls). (LAID: no walk: one application.) -/
theorem Tryd.stringslite_HasPrefix (s p : ByteArray) (w : World) :
    Calls Tryd.prog 30 #[.string s, .string p] w fun e w' => e = .returned (.bool (Lib.hasPrefix s.data.toList p.data.toList)) ∧ w' = w := Any.stringslite_HasPrefix Tryd.lays206 s p w
def Tryd.lays99_ren : Go.Shelf.Ren := ⟨fun | 99 => 19 | 206 => 30 | n => n, fun | 9 => 9 | 4 => 4 | 3 => 3 | n => n, fun | n => n⟩
theorem Tryd.lays99 : Go.Proofs.Lays.n99 Tryd.prog Tryd.lays99_ren := {
  mixed := by kernel_rfl
  f99 := Tryd.func19.trans (congrArg some (by kernel_rfl))
  f206 := Tryd.func30.trans (congrArg some (by kernel_rfl))
  t3 := Tryd.underlying3
  a3 := Tryd.isAgg3
  z3 := Tryd.sizeOf3
  v3 := Tryd.zeroValue3
  t4 := Tryd.underlying4
  a4 := Tryd.isAgg4
  z4 := Tryd.sizeOf4
  v4 := Tryd.zeroValue4
  t9 := Tryd.underlying9
  a9 := Tryd.isAgg9
  z9 := Tryd.sizeOf9
  v9 := Tryd.zeroValue9 }
open Go.RowKit Go.Lib in
/-- strings.HasPrefix: "HasPrefix reports whether the string s begins with prefix.": IT RETURNS 'Lib.hasPrefix s prefix'; the world is as it was. (LAID: no walk: one application.) -/
theorem Tryd.strings_HasPrefix (s p : ByteArray) (w : World) :
    Calls Tryd.prog 19 #[.string s, .string p] w fun e w' => e = .returned (.bool (Lib.hasPrefix s.data.toList p.data.toList)) ∧ w' = w := Any.strings_HasPrefix Tryd.lays99 s p w
def Tryd.lays221_ren : Go.Shelf.Ren := ⟨fun | 221 => 28 | 268 => 37 | 138 => 38 | 143 => 39 | 195 => 51 | 197 => 52 | 218 => 53 | 219 => 54 | 260 => 62 | 217 => 63 | 225 => 58 | 224 => 57 | 267 => 64 | 266 => 66 | 314 => 67 | n => n, fun | 9 => 9 | 3 => 3 | 31 => 22 | 4 => 4 | 0 => 0 | 105 => 95 | 21 => 21 | 5 => 5 | 46 => 75 | 119 => 110 | 139 => 113 | 138 => 112 | 146 => 114 | 51 => 33 | n => n, fun | 1 => 2 | 3 => 3 | 4 => 4 | n => n⟩
theorem Tryd.lays221 : Go.Proofs.Lays.n221 Tryd.prog Tryd.lays221_ren := {
  mixed := by kernel_rfl
  f138 := Tryd.func38.trans (congrArg some (by kernel_rfl))
  f143 := Tryd.func39.trans (congrArg some (by kernel_rfl))
  f195 := Tryd.func51.trans (congrArg some (by kernel_rfl))
  f197 := Tryd.func52.trans (congrArg some (by kernel_rfl))
  f217 := Tryd.func63.trans (congrArg some (by kernel_rfl))
  f218 := Tryd.func53.trans (congrArg some (by kernel_rfl))
  f219 := Tryd.func54.trans (congrArg some (by kernel_rfl))
  f221 := Tryd.func28.trans (congrArg some (by kernel_rfl))
  f224 := Tryd.func57.trans (congrArg some (by kernel_rfl))
  f225 := Tryd.func58.trans (congrArg some (by kernel_rfl))
  f260 := Tryd.func62.trans (congrArg some (by kernel_rfl))
  f266 := Tryd.func66.trans (congrArg some (by kernel_rfl))
  f267 := Tryd.func64.trans (congrArg some (by kernel_rfl))
  f268 := Tryd.func37.trans (congrArg some (by kernel_rfl))
  f314 := Tryd.func67.trans (congrArg some (by kernel_rfl))
  t0 := Tryd.underlying0
  a0 := Tryd.isAgg0
  z0 := Tryd.sizeOf0
  v0 := Tryd.zeroValue0
  t3 := Tryd.underlying3
  a3 := Tryd.isAgg3
  z3 := Tryd.sizeOf3
  v3 := Tryd.zeroValue3
  t4 := Tryd.underlying4
  a4 := Tryd.isAgg4
  z4 := Tryd.sizeOf4
  v4 := Tryd.zeroValue4
  t5 := Tryd.underlying5
  a5 := Tryd.isAgg5
  z5 := Tryd.sizeOf5
  v5 := Tryd.zeroValue5
  t9 := Tryd.underlying9
  a9 := Tryd.isAgg9
  z9 := Tryd.sizeOf9
  v9 := Tryd.zeroValue9
  t21 := Tryd.underlying21
  a21 := Tryd.isAgg21
  z21 := Tryd.sizeOf21
  v21 := Tryd.zeroValue21
  t31 := Tryd.underlying22
  a31 := Tryd.isAgg22
  z31 := Tryd.sizeOf22
  v31 := Tryd.zeroValue22
  t46 := Tryd.underlying75
  a46 := Tryd.isAgg75
  z46 := Tryd.sizeOf75
  v46 := Tryd.zeroValue75
  t51 := Tryd.underlying33
  a51 := Tryd.isAgg33
  z51 := Tryd.sizeOf33
  v51 := Tryd.zeroValue33
  t105 := Tryd.underlying95
  a105 := Tryd.isAgg95
  z105 := Tryd.sizeOf95
  v105 := Tryd.zeroValue95
  t119 := Tryd.underlying110
  a119 := Tryd.isAgg110
  z119 := Tryd.sizeOf110
  t138 := Tryd.underlying112
  a138 := Tryd.isAgg112
  z138 := Tryd.sizeOf112
  v138 := Tryd.zeroValue112
  t139 := Tryd.underlying113
  a139 := Tryd.isAgg113
  z139 := Tryd.sizeOf113
  v139 := Tryd.zeroValue113
  t146 := Tryd.underlying114
  a146 := Tryd.isAgg114
  z146 := Tryd.sizeOf114
  v146 := Tryd.zeroValue114
  g1 := by kernel_rfl
  g3 := by kernel_rfl
  g4 := by kernel_rfl }
open Go.RowKit Go.Lib in
theorem Tryd.strings_genSplit (s sep : ByteArray) (sv : Nat) (n : Int) (N : Nat) (m : Int) (w : World) (hs : s.size < 4294967281) (hm : w.cell? ⟨2, 0, none⟩ = some (.int .i64 m)) (h1 : 1 ≤ sep.size) (hsv : sv ≤ sep.size) (hn0 : n ≠ 0) (hn63 : n ≤ 9223372036854775807) (hN : (N : Int) = min (if n < 0 then (Lib.countB s sep : Int) + 1 else n) ((s.size : Int) + 1)) :
    Calls Tryd.prog 28 #[.string s, .string sep, .int .i64 sv, .int .i64 n] w fun e w' =>
      e = .returned (.slice (some ⟨w.heap.size, 0, none⟩) (Lib.splitB sep sv (N - 1) s).length N) ∧ w' = w.alloc (.cells (Lib.cellsOf (Lib.splitB sep sv (N - 1) s) N) 9) := Any.strings_genSplit Tryd.lays221 (by kernel_rfl) s sep sv n N m w hs hm h1 hsv hn0 hn63 hN
def Tryd.lays146_ren : Go.Shelf.Ren := ⟨fun | 146 => 17 | 221 => 28 | 268 => 37 | 138 => 38 | 143 => 39 | 195 => 51 | 197 => 52 | 218 => 53 | 219 => 54 | 260 => 62 | 217 => 63 | 225 => 58 | 224 => 57 | 267 => 64 | 266 => 66 | 314 => 67 | n => n, fun | 9 => 9 | 31 => 22 | 3 => 3 | 4 => 4 | 0 => 0 | 105 => 95 | 21 => 21 | 5 => 5 | 46 => 75 | 119 => 110 | 139 => 113 | 138 => 112 | 146 => 114 | 51 => 33 | n => n, fun | 1 => 2 | 3 => 3 | 4 => 4 | n => n⟩
theorem Tryd.lays146 : Go.Proofs.Lays.n146 Tryd.prog Tryd.lays146_ren := {
  mixed := by kernel_rfl
  f138 := Tryd.func38.trans (congrArg some (by kernel_rfl))
  f143 := Tryd.func39.trans (congrArg some (by kernel_rfl))
  f146 := Tryd.func17.trans (congrArg some (by kernel_rfl))
  f195 := Tryd.func51.trans (congrArg some (by kernel_rfl))
  f197 := Tryd.func52.trans (congrArg some (by kernel_rfl))
  f217 := Tryd.func63.trans (congrArg some (by kernel_rfl))
  f218 := Tryd.func53.trans (congrArg some (by kernel_rfl))
  f219 := Tryd.func54.trans (congrArg some (by kernel_rfl))
  f221 := Tryd.func28.trans (congrArg some (by kernel_rfl))
  f224 := Tryd.func57.trans (congrArg some (by kernel_rfl))
  f225 := Tryd.func58.trans (congrArg some (by kernel_rfl))
  f260 := Tryd.func62.trans (congrArg some (by kernel_rfl))
  f266 := Tryd.func66.trans (congrArg some (by kernel_rfl))
  f267 := Tryd.func64.trans (congrArg some (by kernel_rfl))
  f268 := Tryd.func37.trans (congrArg some (by kernel_rfl))
  f314 := Tryd.func67.trans (congrArg some (by kernel_rfl))
  t0 := Tryd.underlying0
  a0 := Tryd.isAgg0
  z0 := Tryd.sizeOf0
  v0 := Tryd.zeroValue0
  t3 := Tryd.underlying3
  a3 := Tryd.isAgg3
  z3 := Tryd.sizeOf3
  v3 := Tryd.zeroValue3
  t4 := Tryd.underlying4
  a4 := Tryd.isAgg4
  z4 := Tryd.sizeOf4
  v4 := Tryd.zeroValue4
  t5 := Tryd.underlying5
  a5 := Tryd.isAgg5
  z5 := Tryd.sizeOf5
  v5 := Tryd.zeroValue5
  t9 := Tryd.underlying9
  a9 := Tryd.isAgg9
  z9 := Tryd.sizeOf9
  v9 := Tryd.zeroValue9
  t21 := Tryd.underlying21
  a21 := Tryd.isAgg21
  z21 := Tryd.sizeOf21
  v21 := Tryd.zeroValue21
  t31 := Tryd.underlying22
  a31 := Tryd.isAgg22
  z31 := Tryd.sizeOf22
  v31 := Tryd.zeroValue22
  t46 := Tryd.underlying75
  a46 := Tryd.isAgg75
  z46 := Tryd.sizeOf75
  v46 := Tryd.zeroValue75
  t51 := Tryd.underlying33
  a51 := Tryd.isAgg33
  z51 := Tryd.sizeOf33
  v51 := Tryd.zeroValue33
  t105 := Tryd.underlying95
  a105 := Tryd.isAgg95
  z105 := Tryd.sizeOf95
  v105 := Tryd.zeroValue95
  t119 := Tryd.underlying110
  a119 := Tryd.isAgg110
  z119 := Tryd.sizeOf110
  t138 := Tryd.underlying112
  a138 := Tryd.isAgg112
  z138 := Tryd.sizeOf112
  v138 := Tryd.zeroValue112
  t139 := Tryd.underlying113
  a139 := Tryd.isAgg113
  z139 := Tryd.sizeOf113
  v139 := Tryd.zeroValue113
  t146 := Tryd.underlying114
  a146 := Tryd.isAgg114
  z146 := Tryd.sizeOf114
  v146 := Tryd.zeroValue114
  g1 := by kernel_rfl
  g3 := by kernel_rfl
  g4 := by kernel_rfl }
open Go.RowKit Go.Lib in
/-- strings.Split. (LAID: no walk: one application.) -/
theorem Tryd.strings_Split (s sep : ByteArray) (m : Int) (w : World) (hs : s.size < 4294967281) (hm : w.cell? ⟨2, 0, none⟩ = some (.int .i64 m)) (h1 : 1 ≤ sep.size) :
    Calls Tryd.prog 17 #[.string s, .string sep] w fun e w' =>
      e = .returned (.slice (some ⟨w.heap.size, 0, none⟩) (Lib.countB s sep + 1) (Lib.countB s sep + 1)) ∧ w' = w.alloc (.cells ((Lib.splitB sep 0 (Lib.countB s sep) s).map Value.string).toArray 9) := Any.strings_Split Tryd.lays146 (by kernel_rfl) s sep m w hs hm h1
def Tryd.lays226_ren : Go.Shelf.Ren := ⟨fun | 226 => 41 | n => n, fun | 3 => 3 | 4 => 4 | n => n, fun | n => n⟩
theorem Tryd.lays226 : Go.Proofs.Lays.n226 Tryd.prog Tryd.lays226_ren := {
  mixed := by kernel_rfl
  f226 := Tryd.func41.trans (congrArg some (by kernel_rfl))
  t3 := Tryd.underlying3
  a3 := Tryd.isAgg3
  z3 := Tryd.sizeOf3
  v3 := Tryd.zeroValue3
  t4 := Tryd.underlying4
  a4 := Tryd.isAgg4
  z4 := Tryd.sizeOf4
  v4 := Tryd.zeroValue4 }
open Go.RowKit Go.Lib in
theorem Tryd.strings_shouldUseASCIISet (n : Int) (w : World) :
    Calls Tryd.prog 41 #[.int .i64 n] w fun e w' => e = .returned (.bool (decide (8 < n))) ∧ w' = w := Any.strings_shouldUseASCIISet Tryd.lays226 n w
def Tryd.lays153_ren : Go.Shelf.Ren := ⟨fun | 153 => 29 | 152 => 40 | 226 => 41 | 227 => 42 | 228 => 43 | 137 => 55 | 119 => 56 | 224 => 57 | 225 => 58 | 217 => 63 | 266 => 66 | n => n, fun | 9 => 9 | 3 => 3 | 4 => 4 | 5 => 5 | 21 => 21 | 117 => 87 | 116 => 86 | 0 => 0 | 46 => 75 | 124 => 100 | n => n, fun | n => n⟩
theorem Tryd.lays153 : Go.Proofs.Lays.n153 Tryd.prog Tryd.lays153_ren := {
  mixed := by kernel_rfl
  f119 := Tryd.func56.trans (congrArg some (by kernel_rfl))
  f137 := Tryd.func55.trans (congrArg some (by kernel_rfl))
  f152 := Tryd.func40.trans (congrArg some (by kernel_rfl))
  f153 := Tryd.func29.trans (congrArg some (by kernel_rfl))
  f217 := Tryd.func63.trans (congrArg some (by kernel_rfl))
  f224 := Tryd.func57.trans (congrArg some (by kernel_rfl))
  f225 := Tryd.func58.trans (congrArg some (by kernel_rfl))
  f226 := Tryd.func41.trans (congrArg some (by kernel_rfl))
  f227 := Tryd.func42.trans (congrArg some (by kernel_rfl))
  f228 := Tryd.func43.trans (congrArg some (by kernel_rfl))
  f266 := Tryd.func66.trans (congrArg some (by kernel_rfl))
  t0 := Tryd.underlying0
  a0 := Tryd.isAgg0
  z0 := Tryd.sizeOf0
  v0 := Tryd.zeroValue0
  t3 := Tryd.underlying3
  a3 := Tryd.isAgg3
  z3 := Tryd.sizeOf3
  v3 := Tryd.zeroValue3
  t4 := Tryd.underlying4
  a4 := Tryd.isAgg4
  z4 := Tryd.sizeOf4
  v4 := Tryd.zeroValue4
  t5 := Tryd.underlying5
  a5 := Tryd.isAgg5
  z5 := Tryd.sizeOf5
  v5 := Tryd.zeroValue5
  t9 := Tryd.underlying9
  a9 := Tryd.isAgg9
  z9 := Tryd.sizeOf9
  v9 := Tryd.zeroValue9
  t21 := Tryd.underlying21
  a21 := Tryd.isAgg21
  z21 := Tryd.sizeOf21
  v21 := Tryd.zeroValue21
  t46 := Tryd.underlying75
  a46 := Tryd.isAgg75
  z46 := Tryd.sizeOf75
  v46 := Tryd.zeroValue75
  t116 := Tryd.underlying86
  a116 := Tryd.isAgg86
  z116 := Tryd.sizeOf86
  t117 := Tryd.underlying87
  a117 := Tryd.isAgg87
  z117 := Tryd.sizeOf87
  v117 := Tryd.zeroValue87
  t124 := Tryd.underlying100
  a124 := Tryd.isAgg100
  z124 := Tryd.sizeOf100
  v124 := Tryd.zeroValue100 }
open Go.RowKit Go.Lib in
/-- strings.IndexAny ON ASCII BYTES: the four roads under one statement. (LAID: no walk: one application.) -/
theorem Tryd.strings_IndexAny (hv116 : ∀ w, (zeroValue 86).run Tryd.prog w = .ok (.agg (Array.replicate 256 (.bool false))) w) (s chars : ByteArray) (w : World) (hs : s.size < 4294967281) (hcs : chars.size < 4294967281) (has : ∀ (j : Nat) b, s.data.toList[j]? = some b → b.toNat < 128) (hac : ∀ (j : Nat) b, chars.data.toList[j]? = some b → b.toNat < 128) :
    Calls Tryd.prog 29 #[.string s, .string chars] w fun e w' => e = .returned (.int .i64 (Lib.indexAny s.data.toList chars.data.toList)) ∧ Below w.heap.size w w' := Any.strings_IndexAny Tryd.lays153 hv116 (by kernel_rfl) s chars w hs hcs has hac
def Tryd.lays150_ren : Go.Shelf.Ren := ⟨fun | 150 => 18 | 153 => 29 | 152 => 40 | 226 => 41 | 227 => 42 | 228 => 43 | 137 => 55 | 119 => 56 | 224 => 57 | 225 => 58 | 217 => 63 | 266 => 66 | n => n, fun | 9 => 9 | 4 => 4 | 3 => 3 | 5 => 5 | 21 => 21 | 117 => 87 | 116 => 86 | 0 => 0 | 46 => 75 | 124 => 100 | n => n, fun | n => n⟩
theorem Tryd.lays150 : Go.Proofs.Lays.n150 Tryd.prog Tryd.lays150_ren := {
  mixed := by kernel_rfl
  f119 := Tryd.func56.trans (congrArg some (by kernel_rfl))
  f137 := Tryd.func55.trans (congrArg some (by kernel_rfl))
  f150 := Tryd.func18.trans (congrArg some (by kernel_rfl))
  f152 := Tryd.func40.trans (congrArg some (by kernel_rfl))
  f153 := Tryd.func29.trans (congrArg some (by kernel_rfl))
  f217 := Tryd.func63.trans (congrArg some (by kernel_rfl))
  f224 := Tryd.func57.trans (congrArg some (by kernel_rfl))
  f225 := Tryd.func58.trans (congrArg some (by kernel_rfl))
  f226 := Tryd.func41.trans (congrArg some (by kernel_rfl))
  f227 := Tryd.func42.trans (congrArg some (by kernel_rfl))
  f228 := Tryd.func43.trans (congrArg some (by kernel_rfl))
  f266 := Tryd.func66.trans (congrArg some (by kernel_rfl))
  t0 := Tryd.underlying0
  a0 := Tryd.isAgg0
  z0 := Tryd.sizeOf0
  v0 := Tryd.zeroValue0
  t3 := Tryd.underlying3
  a3 := Tryd.isAgg3
  z3 := Tryd.sizeOf3
  v3 := Tryd.zeroValue3
  t4 := Tryd.underlying4
  a4 := Tryd.isAgg4
  z4 := Tryd.sizeOf4
  v4 := Tryd.zeroValue4
  t5 := Tryd.underlying5
  a5 := Tryd.isAgg5
  z5 := Tryd.sizeOf5
  v5 := Tryd.zeroValue5
  t9 := Tryd.underlying9
  a9 := Tryd.isAgg9
  z9 := Tryd.sizeOf9
  v9 := Tryd.zeroValue9
  t21 := Tryd.underlying21
  a21 := Tryd.isAgg21
  z21 := Tryd.sizeOf21
  v21 := Tryd.zeroValue21
  t46 := Tryd.underlying75
  a46 := Tryd.isAgg75
  z46 := Tryd.sizeOf75
  v46 := Tryd.zeroValue75
  t116 := Tryd.underlying86
  a116 := Tryd.isAgg86
  z116 := Tryd.sizeOf86
  t117 := Tryd.underlying87
  a117 := Tryd.isAgg87
  z117 := Tryd.sizeOf87
  v117 := Tryd.zeroValue87
  t124 := Tryd.underlying100
  a124 := Tryd.isAgg100
  z124 := Tryd.sizeOf100
  v124 := Tryd.zeroValue100 }
open Go.RowKit Go.Lib in
/-- strings.ContainsAny ON ASCII BYTES. (LAID: no walk: one application.) -/
theorem Tryd.strings_ContainsAny (hv116 : ∀ w, (zeroValue 86).run Tryd.prog w = .ok (.agg (Array.replicate 256 (.bool false))) w) (s chars : ByteArray) (w : World) (hs : s.size < 4294967281) (hcs : chars.size < 4294967281) (has : ∀ (j : Nat) b, s.data.toList[j]? = some b → b.toNat < 128) (hac : ∀ (j : Nat) b, chars.data.toList[j]? = some b → b.toNat < 128) :
    Calls Tryd.prog 18 #[.string s, .string chars] w fun e w' => e = .returned (.bool (Lib.containsAny s.data.toList chars.data.toList)) ∧ Below w.heap.size w w' := Any.strings_ContainsAny Tryd.lays150 hv116 (by kernel_rfl) s chars w hs hcs has hac
def Tryd.lays260_ren : Go.Shelf.Ren := ⟨fun | 260 => 62 | n => n, fun | 9 => 9 | 21 => 21 | 3 => 3 | 4 => 4 | 5 => 5 | 119 => 110 | 0 => 0 | 46 => 75 | 139 => 113 | 138 => 112 | n => n, fun | 3 => 3 | 4 => 4 | n => n⟩
theorem Tryd.lays260 : Go.Proofs.Lays.n260 Tryd.prog Tryd.lays260_ren := {
  mixed := by kernel_rfl
  f260 := Tryd.func62.trans (congrArg some (by kernel_rfl))
  t0 := Tryd.underlying0
  a0 := Tryd.isAgg0
  z0 := Tryd.sizeOf0
  v0 := Tryd.zeroValue0
  t3 := Tryd.underlying3
  a3 := Tryd.isAgg3
  z3 := Tryd.sizeOf3
  v3 := Tryd.zeroValue3
  t4 := Tryd.underlying4
  a4 := Tryd.isAgg4
  z4 := Tryd.sizeOf4
  v4 := Tryd.zeroValue4
  t5 := Tryd.underlying5
  a5 := Tryd.isAgg5
  z5 := Tryd.sizeOf5
  v5 := Tryd.zeroValue5
  t9 := Tryd.underlying9
  a9 := Tryd.isAgg9
  z9 := Tryd.sizeOf9
  v9 := Tryd.zeroValue9
  t21 := Tryd.underlying21
  a21 := Tryd.isAgg21
  z21 := Tryd.sizeOf21
  v21 := Tryd.zeroValue21
  t46 := Tryd.underlying75
  a46 := Tryd.isAgg75
  z46 := Tryd.sizeOf75
  v46 := Tryd.zeroValue75
  t119 := Tryd.underlying110
  a119 := Tryd.isAgg110
  z119 := Tryd.sizeOf110
  t138 := Tryd.underlying112
  a138 := Tryd.isAgg112
  z138 := Tryd.sizeOf112
  v138 := Tryd.zeroValue112
  t139 := Tryd.underlying113
  a139 := Tryd.isAgg113
  z139 := Tryd.sizeOf113
  v139 := Tryd.zeroValue113
  g3 := by kernel_rfl
  g4 := by kernel_rfl }
end Go.Proofs


/- What the rows of a seat with laid tables and sentinels share: the tables, the witness. -/
set_option linter.unusedVariables false
set_option linter.unusedSimpArgs false
namespace Go.Proofs.YtchflhbpdnfopaaDoor.row
open Go Go.ChangeShapes Go.WideShapes Go.ChangeAt Go.RowKit Go.Proofs Go.Shelf Go.Proofs.YtchflhbpdnfopaaDoor.Eng Go.Proofs.YtchflhbpdnfopaaDoor.Eng.Rdv

theorem own : ownKnob Tryd.prog.godebug = none := by kernel_rfl
theorem laidOut : laidOutB Tryd.prog = true := by kernel_rfl
section
variable {H : Type} {enc : TypeId × Value → H} {P : Program} {w : World} {base : Nat} {sp : Nat → Bool} {held : Bool}
theorem arr_len {fuel : Nat} {t e : TypeId} {n : Nat} {cs : List Value} {d : DataW H} {p : List MemPlace} (ht : P.underlying t = some (.array n e)) (h : DataW.trod enc P w base sp held fuel t cs = some (d, p)) : cs.length = P.cellsOf t := by
  cases fuel with
  | zero => simp [DataW.trod] at h
  | succ fuel =>
    simp only [DataW.trod, ht] at h
    split at h
    · assumption
    · cases h
theorem iface_only {fuel : Nat} {t : TypeId} {ms : Array (String × TypeId)} {cs : List Value} {nm : String} {d : DataW H} {p : List MemPlace} (ht : P.underlying t = some (.interface ms)) (h : DataW.trod enc P w base sp held fuel t cs = some (.iface nm d, p)) : ∃ u v, cs = [.iface u v] := by
  cases fuel with
  | zero => simp [DataW.trod] at h
  | succ fuel =>
    simp only [DataW.trod, ht] at h
    split at h <;> first | exact ⟨_, _, rfl⟩ | (cases h; done) | simp_all
end
theorem add0 (g j : Nat) : (⟨g, 0, none⟩ : Addr).add j = ⟨g, j, none⟩ := by rw [add_lit', Nat.zero_add]
/-- A variable of so many leaves, cell by cell. -/
theorem glob_one {W : World} {g : Nat} {arr : Array Value} {name : String} (hn : Tryd.prog.globalNamed name = some g) (hv : W.var? Tryd.prog name = some arr) (cs : List AV) (f : Nat → Value) (hl : arr.size = cs.length) (hleaf : ∀ (j : Nat) (c : AV), cs[j]? = some c → c.leaf = true ∧ arr[j]? = some (f j) ∧ V (stab W) c (f j)) :
    V (stab W) (.eptr cs 0) (.pointer (some ⟨g, 0, none⟩)) ∧ ∃ arr t f, W.heap[g]? = some (.cells arr t f) ∧ arr.size = cs.length := by
  refine ⟨?_, ?_⟩
  · have := V.eptr (S := stab W) cs 0 ⟨g, 0, none⟩ f (fun j c h => (hleaf j c h).1) (fun j c h => by
      rw [add0]
      show W.cell? ⟨g, j, none⟩ = _
      rw [World.var?_cell hn hv j]
      exact (hleaf j c h).2.1) (fun j c h => (hleaf j c h).2.2)
    rwa [add0] at this
  · unfold World.var? at hv
    rw [hn, Option.bind_some] at hv
    split at hv
    · rename_i cs' t f' he
      obtain rfl := Option.some.inj hv
      exact ⟨_, _, _, he, hl⟩
    · cases hv
theorem ints_one {W : World} {g : Nat} {name : String} {k : IntKind} {zs : List Int} (hn : Tryd.prog.globalNamed name = some g) (hv : W.var? Tryd.prog name = some (zs.map fun z => Value.int k z).toArray) :
    V (stab W) (.eptr (zs.map fun z => .int k z) 0) (.pointer (some ⟨g, 0, none⟩)) ∧ ∃ arr t f, W.heap[g]? = some (.cells arr t f) ∧ arr.size = (zs.map fun z => AV.int k z).length := by
  refine glob_one hn hv _ (fun j => .int k (zs.getD j 0)) (by simp) fun j c hc => ?_
  rw [List.getElem?_map] at hc
  obtain ⟨z, hz, rfl⟩ := Option.map_eq_some_iff.1 hc
  refine ⟨rfl, ?_, ?_⟩
  · simp [List.getD_eq_getElem?_getD, hz]
  · rw [List.getD_eq_getElem?_getD, hz]; exact V.int _ _
theorem iface_one {W : World} {g : Nat} {name : String} {nm : String} {d : DataW Unit} {t : TypeId} {ms : Array (String × TypeId)} (hn : Tryd.prog.globalNamed name = some g) (hy : (Tryd.prog.globals[g]?).map (·.type) = some t) (hi : Tryd.prog.underlying t = some (.interface ms)) (h : Lib.VarReads Tryd.prog W name (.iface nm d)) :
    V (stab W) (.eptr [.ifc] 0) (.pointer (some ⟨g, 0, none⟩)) ∧ ∃ arr t f, W.heap[g]? = some (.cells arr t f) ∧ arr.size = [AV.ifc].length := by
  obtain ⟨g', t', cs, fuel, p, hg, hty, hvar, hd⟩ := h
  obtain rfl := Option.some.inj (hn.symm.trans hg)
  obtain rfl := Option.some.inj (hy.symm.trans hty)
  obtain ⟨u, v, e⟩ := iface_only hi hd
  obtain ⟨cs⟩ := cs
  obtain rfl : cs = [.iface u v] := e
  refine glob_one hn hvar _ (fun _ => .iface u v) rfl fun j c hc => ?_
  match j with
  | 0 => cases hc; exact ⟨rfl, rfl, V.ifc _ _⟩
  | j + 1 => simp at hc
theorem tab_var {W : World} {g : Nat} {name : String} {k : IntKind} {zs : List Int} {t e : TypeId} {n : Nat} (hn : Tryd.prog.globalNamed name = some g) (hy : (Tryd.prog.globals[g]?).map (·.type) = some t) (ht : Tryd.prog.underlying t = some (.array n e)) (he : Tryd.prog.underlying e = some (.int k)) (hce : Tryd.prog.cellsOf e = 1) (hct : Tryd.prog.cellsOf t = n) (h : Lib.VarReads Tryd.prog W name (Lib.tabData k zs)) : W.var? Tryd.prog name = some (zs.map fun z => Value.int k z).toArray := by
  obtain ⟨g', t', cs, fuel, p, hg, hty, hvar, hd⟩ := h
  obtain rfl := Option.some.inj (hn.symm.trans hg)
  obtain rfl := Option.some.inj (hy.symm.trans hty)
  rw [hvar, ← Lib.cells_of_tab ht he hce hct hd]
/-- What the row's laid variables give. -/
theorem tables {W : World} {l : List (String × DataW Unit)} (hl : l = [("math/bits.deBruijn32tab", Rows.laid_math_bits_deBruijn32tab), ("math/bits.deBruijn64tab", Rows.laid_math_bits_deBruijn64tab), ("internal/strconv.uint64pow10", Rows.laid_internal_strconv_uint64pow10), ("unicode/utf8.acceptRanges", Rows.laid_unicode_utf8_acceptRanges), ("strconv.ErrRange", Rows.laid_strconv_ErrRange), ("strconv.ErrSyntax", Rows.laid_strconv_ErrSyntax), ("unicode/utf8.first", Rows.laid_unicode_utf8_first)]) (h : laidMetH Tryd.prog l W) : GlobOk U.glob (stab W) W := by
  subst hl
  have h' : laidMet Tryd.prog [("math/bits.deBruijn32tab", Rows.laid_math_bits_deBruijn32tab), ("math/bits.deBruijn64tab", Lib.tabData .u8 [0, 1, 56, 2, 57, 49, 28, 3, 61, 58, 42, 50, 38, 29, 17, 4, 62, 47, 59, 36, 45, 43, 51, 22, 53, 39, 33, 30, 24, 18, 12, 5, 63, 55, 48, 27, 60, 41, 37, 16, 46, 35, 44, 21, 52, 32, 23, 11, 54, 26, 40, 15, 34, 20, 31, 10, 25, 14, 19, 9, 13, 8, 7, 6]), ("internal/strconv.uint64pow10", Lib.tabData .u64 Lib.pow10Tab), ("unicode/utf8.acceptRanges", Lib.acceptData), ("strconv.ErrRange", Rows.laid_strconv_ErrRange), ("strconv.ErrSyntax", Rows.laid_strconv_ErrSyntax), ("unicode/utf8.first", Lib.firstData)] W := by
    have e1 : (Rows.laid_unicode_utf8_acceptRanges : DataW Unit) = Lib.acceptData := by kernel_rfl
    have e2 : Rows.laid_unicode_utf8_first = Lib.firstData := by kernel_rfl
    have e3 : (Rows.laid_internal_strconv_uint64pow10 : DataW Unit) = Lib.tabData .u64 Lib.pow10Tab := by kernel_rfl
    have e4 : (Rows.laid_math_bits_deBruijn64tab : DataW Unit) = Lib.tabData .u8 [0, 1, 56, 2, 57, 49, 28, 3, 61, 58, 42, 50, 38, 29, 17, 4, 62, 47, 59, 36, 45, 43, 51, 22, 53, 39, 33, 30, 24, 18, 12, 5, 63, 55, 48, 27, 60, 41, 37, 16, 46, 35, 44, 21, 52, 32, 23, 11, 54, 26, 40, 15, 34, 20, 31, 10, 25, 14, 19, 9, 13, 8, 7, 6] := by kernel_rfl
    rw [← e1, ← e2, ← e3, ← e4]
    exact h
  have r2 : Lib.VarReads Tryd.prog W "math/bits.deBruijn64tab" (Lib.tabData .u8 [0, 1, 56, 2, 57, 49, 28, 3, 61, 58, 42, 50, 38, 29, 17, 4, 62, 47, 59, 36, 45, 43, 51, 22, 53, 39, 33, 30, 24, 18, 12, 5, 63, 55, 48, 27, 60, 41, 37, 16, 46, 35, 44, 21, 52, 32, 23, 11, 54, 26, 40, 15, 34, 20, 31, 10, 25, 14, 19, 9, 13, 8, 7, 6]) := Lib.laidMet.reads h' (.tail _ (.head _))
  have r1 : Lib.VarReads Tryd.prog W "internal/strconv.uint64pow10" (Lib.tabData .u64 Lib.pow10Tab) := Lib.laidMet.reads h' (.tail _ (.tail _ (.head _)))
  have r3 : Lib.VarReads Tryd.prog W "strconv.ErrSyntax" Rows.laid_strconv_ErrSyntax := Lib.laidMet.reads h' (.tail _ (.tail _ (.tail _ (.tail _ (.tail _ (.head _))))))
  have r4 : Lib.VarReads Tryd.prog W "strconv.ErrRange" Rows.laid_strconv_ErrRange := Lib.laidMet.reads h' (.tail _ (.tail _ (.tail _ (.tail _ (.head _)))))
  have r7 : Lib.VarReads Tryd.prog W "unicode/utf8.first" Lib.firstData := Lib.laidMet.reads h' (.tail _ (.tail _ (.tail _ (.tail _ (.tail _ (.tail _ (.head _)))))))
  have r8 : Lib.VarReads Tryd.prog W "unicode/utf8.acceptRanges" Lib.acceptData := Lib.laidMet.reads h' (.tail _ (.tail _ (.tail _ (.head _))))
  have hU : Lib.Utf8Tabs 3 4 W := Go.Proofs.utf8Tabs_of_reads (P := Tryd.prog) (ρ := Tryd.lays260_ren) { Tryd.lays260 with } ⟨by kernel_rfl, by kernel_rfl, by kernel_rfl, by kernel_rfl, by kernel_rfl, by kernel_rfl, by kernel_rfl⟩ r7 r8
  intro g cs hg
  unfold U.glob at hg
  split at hg
  · rename_i h0
    subst h0
    obtain rfl := Option.some.inj hg
    have := ints_one (g := 3) (name := "unicode/utf8.first") (by kernel_rfl) (tab_var (g := 3) (t := 110) (e := 5) (n := 256) (by kernel_rfl) (by kernel_rfl) Tryd.underlying110 Tryd.underlying5 (by kernel_rfl) (by kernel_rfl) r7)
    rw [Lib.firstTab, List.map_map] at this
    exact this
  · split at hg
    · rename_i h0 h1
      subst h1
      obtain rfl := Option.some.inj hg
      obtain ⟨g', t', cs, fuel, p, hgn, hty, hvar, hd⟩ := r8
      obtain rfl := Option.some.inj ((show Tryd.prog.globalNamed "unicode/utf8.acceptRanges" = some 4 by kernel_rfl).symm.trans hgn)
      obtain rfl := Option.some.inj ((show (Tryd.prog.globals[4]?).map (·.type) = some 113 by kernel_rfl).symm.trans hty)
      have hlen := arr_len Tryd.underlying113 hd
      have hsz : Tryd.prog.cellsOf 113 = 32 := by kernel_rfl
      rw [hsz, Array.length_toList] at hlen
      refine glob_one hgn hvar _ (fun i => .int .u8 (((if i % 2 = 0 then Lib.accLo (i / 2) else Lib.accHi (i / 2) : Nat) : Int))) (by simp [hlen]) fun j c hc => ?_
      rw [List.getElem?_map] at hc
      obtain ⟨x, hx, rfl⟩ := Option.map_eq_some_iff.1 hc
      obtain ⟨hj, rfl⟩ := List.getElem?_eq_some_iff.1 hx
      rw [List.length_range] at hj
      rw [List.getElem_range]
      refine ⟨rfl, ?_, V.int _ _⟩
      rw [← World.var?_cell hgn hvar j]
      obtain ⟨h2, h3⟩ := hU.2 (j / 2) (by omega)
      by_cases hm : j % 2 = 0
      · rw [if_pos hm]
        rwa [show 2 * (j / 2) = j from by omega] at h2
      · rw [if_neg hm]
        rwa [show 2 * (j / 2) + 1 = j from by omega] at h3
    · split at hg
      · rename_i h0 h1 h2
        subst h2
        obtain rfl := Option.some.inj hg
        exact ints_one (g := 5) (name := "internal/strconv.uint64pow10") (by kernel_rfl) (tab_var (g := 5) (t := 123) (e := 61) (n := 20) (by kernel_rfl) (by kernel_rfl) Tryd.underlying123 Tryd.underlying61 (by kernel_rfl) (by kernel_rfl) r1)
      · split at hg
        · rename_i h0 h1 h2 h3
          subst h3
          obtain rfl := Option.some.inj hg
          exact iface_one (name := "strconv.ErrSyntax") (by kernel_rfl) (t := 63) (by kernel_rfl) Tryd.underlying63 r3
        · split at hg
          · rename_i h0 h1 h2 h3 h4
            subst h4
            obtain rfl := Option.some.inj hg
            exact iface_one (name := "strconv.ErrRange") (by kernel_rfl) (t := 63) (by kernel_rfl) Tryd.underlying63 r4
          · split at hg
            · rename_i h0 h1 h2 h3 h4 h5
              subst h5
              obtain rfl := Option.some.inj hg
              exact ints_one (g := 7) (name := "math/bits.deBruijn64tab") (by kernel_rfl) (tab_var (g := 7) (t := 128) (e := 5) (n := 64) (by kernel_rfl) (by kernel_rfl) Tryd.underlying128 Tryd.underlying5 (by kernel_rfl) (by kernel_rfl) r2)
            · cases hg
/-- The cells that a datum of numbers is. -/
def litV : DataW Unit → Value
  | .lit (.int k n) => .int k n
  | _ => .nilIface
def rowV : DataW Unit → Array Value
  | .agg l => (l.map litV).toArray
  | _ => #[]
/-- So many blocks has the settled world. -/
noncomputable def low : Nat := (World.holding Tryd.prog default ⟨#[], #[], []⟩).heap.size
/-- The witness: the settled memory with the two errors' texts behind it, the variables holding what their initialisers lay. -/
noncomputable def laidWorld (os : Os) : World :=
  let w0 := World.holding Tryd.prog os ⟨#[.cells #[.string ⟨#[118, 97, 108, 117, 101, 32, 111, 117, 116, 32, 111, 102, 32, 114, 97, 110, 103, 101]⟩] 109, .cells #[.string ⟨#[105, 110, 118, 97, 108, 105, 100, 32, 115, 121, 110, 116, 97, 120]⟩] 109], #[], []⟩
  let put (h : Array Obj) (g : Nat) (cs : Array Value) : Array Obj := h.modify g fun
    | .cells _ t frozen => .cells cs t frozen
    | o => o
  let h1 := put w0.heap 3 (Lib.firstTab.map fun z => Value.int .u8 z).toArray
  let h2 := put h1 4 ((List.range 16).flatMap fun i => [Value.int .u8 (Lib.accLo i), Value.int .u8 (Lib.accHi i)]).toArray
  let h3 := put h2 6 (rowV Rows.laid_math_bits_deBruijn32tab)
  let h4 := put h3 7 (rowV Rows.laid_math_bits_deBruijn64tab)
  let h5 := put h4 5 (rowV Rows.laid_internal_strconv_uint64pow10)
  let h6 := put h5 1 #[.iface 107 (.pointer (some ⟨low, 0, none⟩))]
  let h7 := put h6 0 #[.iface 107 (.pointer (some ⟨low + 1, 0, none⟩))]
  { w0 with heap := h7 }
noncomputable abbrev laidBlocks : List Nat := [6, 7, 5, 4, 1, 0, 3, low, low + 1]
theorem cells_slice (a : Option Addr) (l c : Nat) : (Value.slice a l c).cells.toList = [Value.slice a l c] := rfl
end Go.Proofs.YtchflhbpdnfopaaDoor.row


/- Given functions in pieces: each with what it answers, and that it does. -/
set_option linter.unusedVariables false
set_option linter.unusedSectionVars false
set_option linter.unusedSimpArgs false
namespace Go.Proofs.YtchflhbpdnfopaaDoor.Eng.U
open Go Go.Proofs Go.Proofs.YtchflhbpdnfopaaDoor.Eng Go.RowKit

structure Piece where
  f : FuncId
  ans : List AV → Option AV
def extOf (ps : List Piece) : Ext := { fs := coreFs, isBase := fun f => ps.any fun p => p.f == f, base := fun f args => (ps.find? fun p => p.f == f).bind fun p => p.ans args }
def Piece.Right (p : Piece) : Prop := Enters Tryd.prog p.f ∧ ∀ args res, p.ans args = some res → Ok Tryd.prog glob p.f args res
theorem core_of {ps : List Piece} (h : coreFs.all (fun f => !ps.any fun p => p.f == f) = true) : Core (extOf ps) where
  isB f hf := by
    have := List.all_eq_true.1 h f (List.contains_iff_mem.1 hf)
    simpa [extOf] using this
  has f hf := hf
theorem good_of {ps : List Piece} (h : ∀ p ∈ ps, p.Right) (hn : coreFs.all (namedOk Tryd.prog) = true) (k : Nat) : (bs (extOf ps) k).Good where
  mixed := by kernel_rfl
  names := hn
  base f args res hb hr := by
    change ((ps.find? fun p => p.f == f).bind fun p => p.ans args) = some res at hr
    obtain ⟨p, hp, ha⟩ := Option.bind_eq_some_iff.1 hr
    have hm := List.mem_of_find?_eq_some hp
    have hf : (p.f == f) = true := List.find?_some (p := fun q : Piece => q.f == f) hp
    have hf : p.f = f := by simpa using hf
    obtain ⟨h1, h2⟩ := h p hm
    rw [hf] at h1 h2
    exact ⟨h1, h2 args res ha⟩
theorem names_ok : coreFs.all (namedOk Tryd.prog) = true := by kernel_rfl
theorem kp_piece {ps : List Piece} {p : Piece} {k n : Nat} {args : List AV} (hp : ps.find? (fun q => q.f == p.f) = some p) : kp (extOf ps) k n p.f args = p.ans args := by
  rw [kp_base (by
    show (ps.any fun q => q.f == p.f) = true
    have := List.find?_some (p := fun q : Piece => q.f == p.f) hp
    exact List.any_eq_true.2 ⟨p, List.mem_of_find?_eq_some hp, this⟩)]
  show ((ps.find? fun q => q.f == p.f).bind fun q => q.ans args) = _
  rw [hp]
  rfl
theorem VL_1 {S : Stab} {x : AV} {vals : List Value} (h : VL S [x] vals) : ∃ v, vals = [v] ∧ V S x v := by
  obtain ⟨h1, h2⟩ := h
  match vals, h1 with
  | [v], _ => exact ⟨v, rfl, h2 0 _ _ rfl rfl⟩
theorem VL_2 {S : Stab} {x y : AV} {vals : List Value} (h : VL S [x, y] vals) : ∃ v u, vals = [v, u] ∧ V S x v ∧ V S y u := by
  obtain ⟨h1, h2⟩ := h
  match vals, h1 with
  | [v, u], _ => exact ⟨v, u, rfl, h2 0 _ _ rfl rfl, h2 1 _ _ rfl rfl⟩
theorem VL_3 {S : Stab} {x y z : AV} {vals : List Value} (h : VL S [x, y, z] vals) : ∃ v u t, vals = [v, u, t] ∧ V S x v ∧ V S y u ∧ V S z t := by
  obtain ⟨h1, h2⟩ := h
  match vals, h1 with
  | [v, u, t], _ => exact ⟨v, u, t, rfl, h2 0 _ _ rfl rfl, h2 1 _ _ rfl rfl, h2 2 _ _ rfl rfl⟩
theorem V_str {S : Stab} {s : ByteArray} {v : Value} (h : V S (.str s) v) : v = .string s := by cases h; rfl
theorem V_int {S : Stab} {k : IntKind} {n : Int} {v : Value} (h : V S (.int k n) v) : v = .int k n := by cases h; rfl
theorem agree_below {S : Stab} {w w' : World} (h : Agree S w) (hb : Below w.heap.size w w') : Agree S w' := fun x v hx =>
  (World.cell?_of_block (hb.block _ (World.block_lt_of_cell? w x (h x v hx)))).trans (h x v hx)
/-- A result that is pure, and nothing that lay has turned. -/
theorem ok_pure {f : FuncId} {args : List AV} {res : AV} (hres : res.isTup = false ∧ res.isFresh = false) (h : ∀ (S : Stab) (w : World) (vals : List Value), Agree S w → GlobOk glob S w → VL S args vals → Calls Tryd.prog f vals.toArray w fun e w' => ∃ v, e = .returned v ∧ (∀ S', V S' res v) ∧ Below w.heap.size w w') (hr : (args.all fun c => !c.isRes) = true := by rfl) : Ok Tryd.prog glob f args res := by
  refine Ok.of_plain (fun c hc => by simpa using List.all_eq_true.1 hr c hc) fun S w vals hag hG hV => ?_
  refine (h S w vals hag hG hV).mono ?_
  rintro e w' ⟨v, rfl, hv, hb⟩
  refine ⟨v, S, rfl, fun _ _ h => h, agree_below hag hb, fun _ _ h => .inl h, hb, ?_⟩
  have := hv S
  cases res <;> first | (cases hres.1; done) | (cases hres.2; done) | exact this
end Go.Proofs.YtchflhbpdnfopaaDoor.Eng.U


/- What functions answer, as the engine evaluates their code. Printed by gen2.py. -/
set_option linter.unusedVariables false
namespace Go.Proofs.YtchflhbpdnfopaaDoor.Eng.U
open Go Go.Proofs Go.Proofs.YtchflhbpdnfopaaDoor.Eng
/- oakum/oakumref04.Number -/
theorem ref04_Number_eq {E : Ext} [Core E] (k n : Nat) (a0 : ByteArray) : kp E k (n + 1) ref04_Number [(.str a0)] =
  (callT (kp E k n ref04_Below [(.str a0)]) fun vt2 => (tupI .i64 vt2 fun vn3 vt4 => (tupB vt4 fun vq5 vt6 => (atNil vt6 (bif (!vq5) then (some (.tup [(.int .i64 (0 : Int)), (.bool false)])) else (bif (decide (vn3 < (-9223372036854775807 : Int))) then (some (.tup [(.int .i64 (0 : Int)), (.bool false)])) else (some (.tup [(.int .i64 (IntKind.wrap .i64 (0 - vn3))), (.bool true)])))))))) := (kp_at (by kernel_rfl)).trans (by kernel_rfl)
/- oakum/dec.Number -/
theorem dec_Number_eq {E : Ext} [Core E] (k n : Nat) (a0 : ByteArray) : kp E k (n + 1) dec_Number [(.str a0)] =
  (callT (kp E k n dec_natural [(.str a0)]) fun vt2 => (tupI .u64 vt2 fun vn3 vt4 => (tupB vt4 fun vq5 vt6 => (atNil vt6 (bif (!vq5) then (some (.tup [(.int .i64 (0 : Int)), (.int .u8 (15 : Int))])) else (bif (decide ((Int.fdiv vn3 (2 ^ (min (Int.toNat (63 : Int)) (IntKind.bits .u64)))) > (0 : Int))) then (some (.tup [(.int .i64 (0 : Int)), (.int .u8 (15 : Int))])) else (some (.tup [(.int .i64 (IntKind.wrap .i64 vn3)), (.int .u8 (0 : Int))])))))))) := (kp_at (by kernel_rfl)).trans (by kernel_rfl)
/- oakum/oakumref04.Below -/
noncomputable def ref04_Below_bd : Code := Tryd.f24.body.getD .skip
noncomputable def ref04_Below_L0 (kap : FuncId → List AV → Option AV) (k : Nat) (k0 : Nat) (s0 : ByteArray) (s4 : Int) (s5 : Int) : Option AV :=
  loop (fun fr K => code ((bs E0 k).cfg kap ref04_Below) (sel ref04_Below_bd [1, 1, 1, 0, 1, 0, 0]) fr K) (canon ((bs E0 k).cfg kap ref04_Below) (firstReg (sel ref04_Below_bd [1, 1, 1, 0, 1, 0, 0]))) k0 (mkFr 46 [(0, (.str s0)), (4, (.int .i64 s4)), (5, (.int .i64 s5))] []) (plug ((bs E0 k).cfg kap ref04_Below) (retK ((bs E0 k).cfg kap ref04_Below) [] Tryd.f24 [] some) [.blk 0, .seqR (sel ref04_Below_bd [1, 1, 1, 1])])
theorem ref04_Below_L0_s (kap : FuncId → List AV → Option AV) (k : Nat) (k0 : Nat) (s0 : ByteArray) (s4 : Int) (s5 : Int) : ref04_Below_L0 kap k (k0 + 1) s0 s4 s5 =
  (bif (decide (s5 < (((ByteArray.size s0) : Nat) : Int))) then (bif ((decide ((0 : Int) ≤ s5)) && (decide (s5 < (((ByteArray.size s0) : Nat) : Int)))) then (bif (decide (s4 < (-922337203685477580 : Int))) then (some (.tup [(.int .i64 (0 : Int)), (.bool false)])) else (bif (decide (s4 = (-922337203685477580 : Int))) then (bif (decide ((IntKind.wrap .i64 ((IntKind.wrap .i64 (byteAt s0 (Int.toNat s5))) - (48 : Int))) > (8 : Int))) then (some (.tup [(.int .i64 (0 : Int)), (.bool false)])) else (ref04_Below_L0 kap k k0 s0 (IntKind.wrap .i64 ((IntKind.wrap .i64 ((10 : Int) * s4)) - (IntKind.wrap .i64 ((IntKind.wrap .i64 (byteAt s0 (Int.toNat s5))) - (48 : Int))))) (IntKind.wrap .i64 (s5 + (1 : Int))))) else (ref04_Below_L0 kap k k0 s0 (IntKind.wrap .i64 ((IntKind.wrap .i64 ((10 : Int) * s4)) - (IntKind.wrap .i64 ((IntKind.wrap .i64 (byteAt s0 (Int.toNat s5))) - (48 : Int))))) (IntKind.wrap .i64 (s5 + (1 : Int)))))) else none) else (some (.tup [(.int .i64 s4), (.bool true)]))) := by kernel_rfl
theorem ref04_Below_eq {E : Ext} [Core E] (k n : Nat) (a0 : ByteArray) : kp E k (n + 1) ref04_Below [(.str a0)] =
  (callB (kp E k n ref04_only [(.str a0)]) fun vq2 => (bif (!vq2) then (some (.tup [(.int .i64 (0 : Int)), (.bool false)])) else (bif (decide ((0 : Int) < (((ByteArray.size a0) : Nat) : Int))) then (bif (decide ((byteAt a0 0) = (48 : Int))) then (bif (decide ((((ByteArray.size a0) : Nat) : Int) > (1 : Int))) then (some (.tup [(.int .i64 (0 : Int)), (.bool false)])) else (ref04_Below_L0 (kp E k n) k k a0 (0 : Int) (0 : Int))) else (ref04_Below_L0 (kp E k n) k k a0 (0 : Int) (0 : Int))) else none))) := (kp_at (by kernel_rfl)).trans (by kernel_rfl)
/- oakum/dec.natural -/
theorem dec_natural_eq {E : Ext} [Core E] (k n : Nat) (a0 : ByteArray) : kp E k (n + 1) dec_natural [(.str a0)] =
  (callB (kp E k n dec_digits [(.str a0)]) fun vq2 => (bif (!vq2) then (some (.tup [(.int .u64 (0 : Int)), (.bool false)])) else (bif (decide ((0 : Int) < (((ByteArray.size a0) : Nat) : Int))) then (bif (decide ((byteAt a0 0) = (48 : Int))) then (bif (decide ((((ByteArray.size a0) : Nat) : Int) > (1 : Int))) then (some (.tup [(.int .u64 (0 : Int)), (.bool false)])) else (callT (kp E k n strconv_ParseUint [(.str a0), (.int .i64 (10 : Int)), (.int .i64 (64 : Int))]) fun vt4 => (tupI .u64 vt4 fun vn5 vt6 => (tupV vt6 fun vr7 vt8 => (atNil vt8 (nilB vr7 fun q9 => (bif q9 then (some (.tup [(.int .u64 vn5), (.bool (decide (vn5 ≤ (9223372036854775808 : Int))))])) else (some (.tup [(.int .u64 vn5), (.bool false)]))))))))) else (callT (kp E k n strconv_ParseUint [(.str a0), (.int .i64 (10 : Int)), (.int .i64 (64 : Int))]) fun vt11 => (tupI .u64 vt11 fun vn12 vt13 => (tupV vt13 fun vr14 vt15 => (atNil vt15 (nilB vr14 fun q16 => (bif q16 then (some (.tup [(.int .u64 vn12), (.bool (decide (vn12 ≤ (9223372036854775808 : Int))))])) else (some (.tup [(.int .u64 vn12), (.bool false)]))))))))) else none))) := (kp_at (by kernel_rfl)).trans (by kernel_rfl)
/- oakum/oakumref04.only -/
noncomputable def ref04_only_bd : Code := Tryd.f36.body.getD .skip
noncomputable def ref04_only_L0 (kap : FuncId → List AV → Option AV) (k : Nat) (k0 : Nat) (s0 : ByteArray) (s3 : Int) : Option AV :=
  loop (fun fr K => code ((bs E0 k).cfg kap ref04_only) (sel ref04_only_bd [1, 0, 1, 0, 0]) fr K) (canon ((bs E0 k).cfg kap ref04_only) (firstReg (sel ref04_only_bd [1, 0, 1, 0, 0]))) k0 (mkFr 23 [(0, (.str s0)), (3, (.int .i64 s3))] []) (plug ((bs E0 k).cfg kap ref04_only) (retK ((bs E0 k).cfg kap ref04_only) [] Tryd.f36 [] some) [.blk 0, .seqR (sel ref04_only_bd [1, 1])])
theorem ref04_only_L0_s (kap : FuncId → List AV → Option AV) (k : Nat) (k0 : Nat) (s0 : ByteArray) (s3 : Int) : ref04_only_L0 kap k (k0 + 1) s0 s3 =
  (bif (decide (s3 < (((ByteArray.size s0) : Nat) : Int))) then (bif ((decide ((0 : Int) ≤ s3)) && (decide (s3 < (((ByteArray.size s0) : Nat) : Int)))) then (bif (decide ((byteAt s0 (Int.toNat s3)) < (48 : Int))) then (some (.bool false)) else (bif ((decide ((0 : Int) ≤ s3)) && (decide (s3 < (((ByteArray.size s0) : Nat) : Int)))) then (bif (decide ((byteAt s0 (Int.toNat s3)) > (57 : Int))) then (some (.bool false)) else (ref04_only_L0 kap k k0 s0 (IntKind.wrap .i64 (s3 + (1 : Int))))) else none)) else none) else (some (.bool (decide ((((ByteArray.size s0) : Nat) : Int) > (0 : Int)))))) := by kernel_rfl
theorem ref04_only_eq {E : Ext} [Core E] (k n : Nat) (a0 : ByteArray) : kp E k (n + 1) ref04_only [(.str a0)] =
  (ref04_only_L0 (kp E k n) k k a0 (0 : Int)) := (kp_at (by kernel_rfl)).trans (by kernel_rfl)
/- oakum/dec.digits -/
noncomputable def dec_digits_bd : Code := Tryd.f50.body.getD .skip
noncomputable def dec_digits_L0 (kap : FuncId → List AV → Option AV) (k : Nat) (k0 : Nat) (s0 : ByteArray) (s5 : Int) (s6 : Int) : Option AV :=
  loop (fun fr K => code ((bs E0 k).cfg kap dec_digits) (sel dec_digits_bd [1, 0, 1, 0, 0]) fr K) (canon ((bs E0 k).cfg kap dec_digits) (firstReg (sel dec_digits_bd [1, 0, 1, 0, 0]))) k0 (mkFr 22 [(0, (.str s0)), (5, (.int .i64 s5)), (6, (.int .i64 s6))] []) (plug ((bs E0 k).cfg kap dec_digits) (retK ((bs E0 k).cfg kap dec_digits) [] Tryd.f50 [] some) [.blk 0, .seqR (sel dec_digits_bd [1, 1])])
theorem dec_digits_L0_s (kap : FuncId → List AV → Option AV) (k : Nat) (k0 : Nat) (s0 : ByteArray) (s5 : Int) (s6 : Int) : dec_digits_L0 kap k (k0 + 1) s0 s5 s6 =
  (bif (decide (s6 < s5)) then (bif ((decide ((0 : Int) ≤ s6)) && (decide (s6 < (((ByteArray.size s0) : Nat) : Int)))) then (bif (decide ((byteAt s0 (Int.toNat s6)) < (48 : Int))) then (some (.bool false)) else (bif ((decide ((0 : Int) ≤ s6)) && (decide (s6 < (((ByteArray.size s0) : Nat) : Int)))) then (bif (decide ((byteAt s0 (Int.toNat s6)) > (57 : Int))) then (some (.bool false)) else (dec_digits_L0 kap k k0 s0 s5 (IntKind.wrap .i64 (s6 + (1 : Int))))) else none)) else none) else (some (.bool (!(decide (s0 = (str []))))))) := by kernel_rfl
theorem dec_digits_eq {E : Ext} [Core E] (k n : Nat) (a0 : ByteArray) : kp E k (n + 1) dec_digits [(.str a0)] =
  (dec_digits_L0 (kp E k n) k k a0 (((ByteArray.size a0) : Nat) : Int) (0 : Int)) := (kp_at (by kernel_rfl)).trans (by kernel_rfl)
end Go.Proofs.YtchflhbpdnfopaaDoor.Eng.U


/- Numbers as texts, in plain Lean. -/
set_option linter.unusedVariables false
set_option linter.unusedSimpArgs false
namespace Go.Proofs.YtchflhbpdnfopaaDoor.P04
open Go

def isDig (c : UInt8) : Bool := decide (48 ≤ c.toNat) && decide (c.toNat ≤ 57)
def digs (l : List UInt8) : Bool := l.all isDig && !l.isEmpty
def valA (acc : Nat) (l : List UInt8) : Nat := l.foldl (fun a c => a * 10 + (c.toNat - 48)) acc
def lead (l : List UInt8) : Bool := decide (l.headD 0 = 48) && decide (1 < l.length)
def natOk (l : List UInt8) : Bool := digs l && !lead l && decide (valA 0 l ≤ 9223372036854775808)
theorem valA_ge : ∀ (l : List UInt8) (acc : Nat), acc ≤ valA acc l
  | [], acc => Nat.le_refl _
  | c :: l, acc => by
    have := valA_ge l (acc * 10 + (c.toNat - 48))
    simp only [valA, List.foldl_cons] at this ⊢
    omega
theorem valA_cons (c : UInt8) (l : List UInt8) (acc : Nat) : valA acc (c :: l) = valA (acc * 10 + (c.toNat - 48)) l := by
  unfold valA
  rw [List.foldl_cons]
theorem dig_iff {c : UInt8} : isDig c = true ↔ 48 ≤ c.toNat ∧ c.toNat ≤ 57 := by simp [isDig]
theorem parse_eq {M : Nat} (hM : M = 18446744073709551615) (l : List UInt8) : ∀ (acc : Nat), l.all isDig = true → acc ≤ M → Lib.parseUintM M acc l = if valA acc l ≤ M then .ok (valA acc l) else .range := by
  induction l with
  | nil =>
    intro acc _ h
    have e : valA acc [] = acc := rfl
    rw [e, if_pos h]
    rfl
  | cons c l ih =>
    intro acc hd h
    rw [List.all_cons, Bool.and_eq_true] at hd
    have hc := dig_iff.1 hd.1
    have hg := valA_ge l (acc * 10 + (c.toNat - 48))
    have e : Lib.parseUintM M acc (c :: l) = if 48 ≤ c.toNat ∧ c.toNat ≤ 57 then (if 1844674407370955162 ≤ acc then .range else if M < acc * 10 + (c.toNat - 48) then .range else Lib.parseUintM M (acc * 10 + (c.toNat - 48)) l) else Lib.parseUintM M 0 [47] := rfl
    rw [e, if_pos hc, valA_cons]
    by_cases h1 : 1844674407370955162 ≤ acc
    · rw [if_pos h1, if_neg (by omega)]
    · rw [if_neg h1]
      by_cases h2 : M < acc * 10 + (c.toNat - 48)
      · rw [if_pos h2, if_neg (by omega)]
      · rw [if_neg h2, ih _ hd.2 (by omega)]
theorem parseB_eq {l : List UInt8} (hd : digs l = true) : Lib.parseUintB 64 l = if valA 0 l ≤ 18446744073709551615 then .ok (valA 0 l) else .range := by
  simp only [digs, Bool.and_eq_true, Bool.not_eq_true', List.isEmpty_eq_false_iff] at hd
  rw [Lib.parseUintB, if_neg hd.2]
  exact parse_eq (by decide) l 0 hd.1 (by omega)
/-- Where the first point stands; the length, where there is none. -/
def dot (l : List UInt8) : Nat := l.findIdx (· == 46)
/-- The time that a text is, behind its sign. -/
def timeB (minus : Bool) (t : List UInt8) : Option (Int × Int) :=
  let a := t.take (dot t)
  let b := t.drop (dot t + 1)
  let nano := if dot t < t.length then valA 0 (b ++ List.replicate (9 - b.length) 48) else 0
  let v := valA 0 a
  if natOk a = false then none
  else if dot t < t.length ∧ ¬ (digs b = true ∧ b.length ≤ 9) then none
  else if minus = false then (if 9223372036854775807 < v then none else some ((v : Int), (nano : Int)))
  else if nano = 0 then some (-(v : Int), 0)
  else if 9223372036854775807 < v then none
  else some (-(v : Int) - 1, 1000000000 - (nano : Int))
def timeL (s : List UInt8) : Option (Int × Int) := timeB (decide (s.head? = some 45)) (if s.head? = some 45 then s.drop 1 else s)
/-! Printing. -/
end Go.Proofs.YtchflhbpdnfopaaDoor.P04


/- The functions of the Dec laws in plain words. -/
set_option linter.unusedVariables false
set_option linter.unusedSectionVars false
set_option linter.unusedSimpArgs false
namespace Go.Proofs.YtchflhbpdnfopaaDoor.Eng.U
open Go Go.Proofs Go.Proofs.YtchflhbpdnfopaaDoor.Eng Go.Proofs.YtchflhbpdnfopaaDoor.P04
variable {E : Ext} [Core E] {k n : Nat}

def endU : Lib.NumEnd Nat → AV
  | .ok v => .tup [.int .u64 v, .nili]
  | .range => .tup [.int .u64 18446744073709551615, .ifc]
  | _ => .tup [.int .u64 0, .ifc]
class HasNum (E : Ext) : Prop where
  itoa : ∀ (k n : Nat) (v : Int), -9223372036854775808 ≤ v → v ≤ 9223372036854775807 → kp E k n strconv_Itoa [.int .i64 v] = some (.str (str (Lib.itoa v)))
  index : ∀ (k n : Nat) (s : List UInt8) (x : UInt8), kp E k n stringslite_Index [.str (str s), .str (str [x])] = some (.int .i64 (Lib.indexByte s x))
  indexB : ∀ (k n : Nat) (s : List UInt8) (c : Int), kp E k n strings_IndexByte [.str (str s), .int .u8 c] = some (.int .i64 (Lib.indexByte s c.toNat.toUInt8))
  puint : ∀ (k n : Nat) (s : List UInt8), s.length ≤ 281474976710656 → kp E k n strconv_ParseUint [.str (str s), .int .i64 10, .int .i64 64] = some (endU (Lib.parseUintB 64 s))

theorem digits_loop (kap : FuncId → List AV → Option AV) : ∀ (suf pre : List UInt8) (k0 : Nat), suf.length < k0 → (pre ++ suf).length < 1000000000000000 →
    dec_digits_L0 kap k k0 (str (pre ++ suf)) (((pre ++ suf).length : Nat) : Int) ((pre.length : Nat) : Int) = some (.bool (suf.all isDig && !(pre ++ suf).isEmpty))
  | [], pre, k0 + 1, h, hb => by
    rw [dec_digits_L0_s, nlt, decide_eq_false (by simp), cond_false, str_dec]
    cases pre <;> simp
  | c :: suf, pre, k0 + 1, h, hb => by
    rw [dec_digits_L0_s]
    rw [mid_len] at hb
    have hg : (pre ++ c :: suf).getD pre.length 0 = c := mid_byte _ _ _
    rw [str_size, mid_len, dec0, nlt, decide_eq_true (by omega), Bool.true_and, cond_true, cond_true, cond_true, Int.toNat_natCast, str_byte, hg, List.all_cons]
    by_cases h1 : 48 ≤ c.toNat
    · rw [bif_f (by omega)]
      by_cases h2 : c.toNat ≤ 57
      · rw [bif_f (by omega), wrap1 (by omega)]
        have := digits_loop kap suf (pre ++ [c]) k0 (by simpa using h) (by simp; omega)
        rw [List.append_assoc, List.singleton_append, mid_len, List.length_append, List.length_singleton] at this
        rw [this, dig_iff.2 ⟨h1, h2⟩, Bool.true_and]
      · rw [bif_t (by omega), show isDig c = false from by simp [isDig]; omega]
        rfl
    · rw [bif_t (by omega), show isDig c = false from by simp [isDig]; omega]
      rfl
theorem digits_k (l : List UInt8) (hb : l.length < 1000000000000000) (hk : l.length < k) : kp E k (n + 1) dec_digits [.str (str l)] = some (.bool (digs l)) := by
  rw [dec_digits_eq, str_size]
  exact digits_loop _ l [] k hk hb
theorem only_loop (kap : FuncId → List AV → Option AV) : ∀ (suf pre : List UInt8) (k0 : Nat), suf.length < k0 → (pre ++ suf).length < 1000000000000000 →
    ref04_only_L0 kap k k0 (str (pre ++ suf)) ((pre.length : Nat) : Int) = some (.bool (suf.all isDig && !(pre ++ suf).isEmpty))
  | [], pre, k0 + 1, h, hb => by
    rw [ref04_only_L0_s, str_size, nlt, decide_eq_false (by simp), cond_false]
    cases pre with
    | nil => rfl
    | cons c l => rw [decide_eq_true (by simp)]; simp
  | c :: suf, pre, k0 + 1, h, hb => by
    rw [ref04_only_L0_s]
    rw [mid_len] at hb
    have hg : (pre ++ c :: suf).getD pre.length 0 = c := mid_byte _ _ _
    rw [str_size, mid_len, dec0, nlt, decide_eq_true (by omega), Bool.true_and, cond_true, cond_true, cond_true, Int.toNat_natCast, str_byte, hg, List.all_cons]
    by_cases h1 : 48 ≤ c.toNat
    · rw [bif_f (by omega)]
      by_cases h2 : c.toNat ≤ 57
      · rw [bif_f (by omega), wrap1 (by omega)]
        have := only_loop kap suf (pre ++ [c]) k0 (by simpa using h) (by simp; omega)
        rw [List.append_assoc, List.singleton_append, List.length_append, List.length_singleton] at this
        rw [this, dig_iff.2 ⟨h1, h2⟩, Bool.true_and]
      · rw [bif_t (by omega), show isDig c = false from by simp [isDig]; omega]
        rfl
    · rw [bif_t (by omega), show isDig c = false from by simp [isDig]; omega]
      rfl
theorem only_k (l : List UInt8) (hb : l.length < 1000000000000000) (hk : l.length < k) : kp E k (n + 1) ref04_only [.str (str l)] = some (.bool (digs l)) := by
  rw [ref04_only_eq]
  exact only_loop _ l [] k hk hb
theorem below_loop (kap : FuncId → List AV → Option AV) : ∀ (suf pre : List UInt8) (k0 acc : Nat), suf.length < k0 → (pre ++ suf).length < 1000000000000000 → suf.all isDig = true → acc ≤ 9223372036854775808 →
    ref04_Below_L0 kap k k0 (str (pre ++ suf)) (-(acc : Int)) ((pre.length : Nat) : Int) = some (if valA acc suf ≤ 9223372036854775808 then .tup [.int .i64 (-(valA acc suf : Int)), .bool true] else .tup [.int .i64 0, .bool false])
  | [], pre, k0 + 1, acc, h, hb, hd, ha => by
    rw [ref04_Below_L0_s, str_size, nlt, decide_eq_false (by simp), cond_false]
    have e : valA acc [] = acc := rfl
    rw [e, if_pos ha]
  | c :: suf, pre, k0 + 1, acc, h, hb, hd, ha => by
    rw [ref04_Below_L0_s]
    rw [mid_len] at hb
    rw [List.all_cons, Bool.and_eq_true] at hd
    have hc := dig_iff.1 hd.1
    have hg : (pre ++ c :: suf).getD pre.length 0 = c := mid_byte _ _ _
    rw [str_size, mid_len, dec0, nlt, decide_eq_true (by omega), Bool.true_and, cond_true, cond_true, Int.toNat_natCast, str_byte, hg, i64w (x := ((c.toNat : Nat) : Int)) (by omega), i64w (x := ((c.toNat : Nat) : Int) - 48) (by omega), valA_cons]
    have hge := valA_ge suf (acc * 10 + (c.toNat - 48))
    have next : acc * 10 + (c.toNat - 48) ≤ 9223372036854775808 → ref04_Below_L0 kap k k0 (str (pre ++ c :: suf)) (IntKind.wrap .i64 ((IntKind.wrap .i64 ((10 : Int) * -(acc : Int))) - (((c.toNat : Nat) : Int) - 48))) (IntKind.wrap .i64 (((pre.length : Nat) : Int) + 1)) = some (if valA (acc * 10 + (c.toNat - 48)) suf ≤ 9223372036854775808 then .tup [.int .i64 (-(valA (acc * 10 + (c.toNat - 48)) suf : Int)), .bool true] else .tup [.int .i64 0, .bool false]) := by
      intro hle
      have := below_loop kap suf (pre ++ [c]) k0 (acc * 10 + (c.toNat - 48)) (by simpa using h) (by simp; omega) hd.2 hle
      rw [List.append_assoc, List.singleton_append, List.length_append, List.length_singleton] at this
      rw [← this, wrap1 (by omega), i64w (x := 10 * -(acc : Int)) (by omega), i64w (by omega)]
      congr 1
      omega
    by_cases h1 : 922337203685477580 < acc
    · rw [bif_t (by omega), if_neg (by omega)]
    · rw [bif_f (by omega)]
      by_cases h2 : acc = 922337203685477580
      · rw [bif_t (by omega)]
        by_cases h3 : 8 < c.toNat - 48
        · rw [bif_t (by omega), if_neg (by omega)]
        · rw [bif_f (by omega)]
          exact next (by omega)
      · rw [bif_f (by omega)]
        exact next (by omega)
theorem head_lead (l : List UInt8) (hl : l ≠ []) : decide (l.getD 0 0 = 48) = decide (l.headD 0 = 48) := by cases l <;> simp at hl ⊢
theorem digs_ne {l : List UInt8} (h : digs l = true) : l ≠ [] := by
  intro e
  subst e
  simp [digs] at h
theorem digs_all {l : List UInt8} (h : digs l = true) : l.all isDig = true := by
  unfold digs at h
  rw [Bool.and_eq_true] at h
  exact h.1
theorem byte48 (c : UInt8) : decide (((c.toNat : Nat) : Int) = (48 : Int)) = decide (c = 48) := byte_is c 48 (by omega)
theorem below_k (l : List UInt8) (hb : l.length < 1000000000000000) (hk : l.length < k) : kp E k (n + 2) ref04_Below [.str (str l)] = some (.tup [.int .i64 (if natOk l then -(valA 0 l : Int) else 0), .bool (natOk l)]) := by
  rw [ref04_Below_eq, only_k l hb hk, callB_ok]
  unfold natOk
  cases hd : digs l with
  | false => rfl
  | true =>
    have hne := digs_ne hd
    have hpos : 0 < l.length := List.length_pos_iff.2 hne
    have hloop := below_loop (k := k) (kp E k (n + 1)) l [] k 0 hk hb (digs_all hd) (by omega)
    rw [List.nil_append] at hloop
    have e0 : (-((0 : Nat) : Int)) = 0 := rfl
    have e1 : ((([] : List UInt8).length : Nat) : Int) = 0 := rfl
    rw [e0, e1] at hloop
    rw [Bool.not_true, cond_false, str_size, bif_t (by omega), str_byte, byte48, head_lead l hne, hloop]
    unfold lead
    by_cases h1 : l.headD 0 = 48
    · rw [decide_eq_true h1, cond_true]
      by_cases h2 : 1 < l.length
      · rw [bif_t (by omega), decide_eq_true h2]
        rfl
      · rw [bif_f (by omega), decide_eq_false h2]
        simp only [Bool.and_false, Bool.not_false, Bool.and_true, Bool.true_and]
        by_cases h3 : valA 0 l ≤ 9223372036854775808
        · rw [if_pos h3, decide_eq_true h3]; rfl
        · rw [if_neg h3, decide_eq_false h3]; rfl
    · rw [decide_eq_false h1, cond_false]
      simp only [Bool.false_and, Bool.not_false, Bool.and_true, Bool.true_and]
      by_cases h3 : valA 0 l ≤ 9223372036854775808
      · rw [if_pos h3, decide_eq_true h3]; rfl
      · rw [if_neg h3, decide_eq_false h3]; rfl
theorem natural_k [HasNum E] (l : List UInt8) (hb : l.length < 100000000000000) (hk : l.length < k) : ∃ m : Int, kp E k (n + 2) dec_natural [.str (str l)] = some (.tup [.int .u64 m, .bool (natOk l)]) ∧ (natOk l = true → m = (valA 0 l : Int)) := by
  rw [dec_natural_eq, digits_k l (by omega) hk, callB_ok]
  unfold natOk
  cases hd : digs l with
  | false => exact ⟨0, rfl, fun h => by cases h⟩
  | true =>
    have hne := digs_ne hd
    have hpos : 0 < l.length := List.length_pos_iff.2 hne
    rw [Bool.not_true, cond_false, str_size, bif_t (by omega), str_byte, byte48, head_lead l hne, HasNum.puint k (n + 1) l (by omega), parseB_eq hd]
    have go : ∃ m : Int, (callT (β := AV) (some (endU (if valA 0 l ≤ 18446744073709551615 then Lib.NumEnd.ok (valA 0 l) else .range))) fun vt11 => (tupI .u64 vt11 fun vn12 vt13 => (tupV vt13 fun vr14 vt15 => (atNil vt15 (nilB vr14 fun q16 => (bif q16 then (some (.tup [(.int .u64 vn12), (.bool (decide (vn12 ≤ (9223372036854775808 : Int))))])) else (some (.tup [(.int .u64 vn12), (.bool false)])))))))) = some (.tup [.int .u64 m, .bool (decide (valA 0 l ≤ 9223372036854775808))]) ∧ (valA 0 l ≤ 9223372036854775808 → m = (valA 0 l : Int)) := by
      by_cases h3 : valA 0 l ≤ 18446744073709551615
      · rw [if_pos h3]
        refine ⟨(valA 0 l : Int), ?_, fun _ => rfl⟩
        have : decide (((valA 0 l : Nat) : Int) ≤ 9223372036854775808) = decide (valA 0 l ≤ 9223372036854775808) := by rw [decide_eq_decide]; omega
        rw [← this]
        rfl
      · rw [if_neg h3]
        refine ⟨18446744073709551615, ?_, fun h => by omega⟩
        rw [decide_eq_false (by omega)]
        rfl
    obtain ⟨m, g1, g2⟩ := go
    unfold lead
    by_cases h1 : l.headD 0 = 48
    · rw [decide_eq_true h1, cond_true]
      by_cases h2 : 1 < l.length
      · rw [bif_t (by omega), decide_eq_true h2]
        exact ⟨0, rfl, fun h => by simp at h⟩
      · rw [bif_f (by omega), decide_eq_false h2, g1]
        exact ⟨m, by simp, fun h => g2 (by simpa using h)⟩
    · rw [decide_eq_false h1, cond_false, g1]
      exact ⟨m, by simp, fun h => g2 (by simpa using h)⟩
end Go.Proofs.YtchflhbpdnfopaaDoor.Eng.U


/- The functions of the Dec laws in plain words, part 2: printing. -/
set_option linter.unusedVariables false
set_option linter.unusedSectionVars false
set_option linter.unusedSimpArgs false
namespace Go.Proofs.YtchflhbpdnfopaaDoor.Eng.U
open Go Go.Proofs Go.Proofs.YtchflhbpdnfopaaDoor.Eng Go.Proofs.YtchflhbpdnfopaaDoor.P04
variable {E : Ext} [Core E] [HasNum E] {k n : Nat}

def rightT (t : Int) : Bool := decide (0 ≤ t) && decide (t < 1000000000)
end Go.Proofs.YtchflhbpdnfopaaDoor.Eng.U


/- The functions of the Dec laws in plain words, part 3: reading. -/
set_option linter.unusedVariables false
set_option linter.unusedSectionVars false
set_option linter.unusedSimpArgs false
namespace Go.Proofs.YtchflhbpdnfopaaDoor.Eng.U
open Go Go.Proofs Go.Proofs.YtchflhbpdnfopaaDoor.Eng Go.Proofs.YtchflhbpdnfopaaDoor.P04
variable {E : Ext} [Core E] [HasNum E] {k n : Nat}

theorem half {v : Nat} : decide (Int.fdiv (v : Int) (2 ^ (min (Int.toNat (63 : Int)) (IntKind.bits .u64))) > (0 : Int)) = decide (9223372036854775807 < v) := by
  have e : ((2 : Int) ^ (min (Int.toNat (63 : Int)) (IntKind.bits .u64))) = 9223372036854775808 := rfl
  rw [e, decide_eq_decide, Int.fdiv_eq_ediv_of_nonneg _ (by omega)]
  omega
theorem number_k (l : List UInt8) (hb : l.length < 1000000000000) (hk : l.length < k) : kp E k (n + 3) dec_Number [.str (str l)] = some (bif natOk l && decide (valA 0 l ≤ 9223372036854775807) then .tup [.int .i64 (valA 0 l : Int), .int .u8 0] else .tup [.int .i64 0, .int .u8 15]) := by
  obtain ⟨m, h1, h2⟩ := natural_k (E := E) (k := k) (n := n) l (by omega) hk
  rw [dec_Number_eq, h1]
  simp (disch := first | omega | (simp only [List.length_append, List.length_cons, List.length_nil, List.length_take, List.length_drop]; done) | (simp only [List.length_append, List.length_cons, List.length_nil, List.length_take, List.length_drop]; omega) | fail) only [bif_t, bif_f, bif_n, bif_a, callB_ok, callI_ok, callS_ok, callL_ok, callF_ok, callT_ok, tupB_ok, tupI_ok, tupS_ok, tupL_ok, tupF_ok, atNil_ok, wrap1, wrapM, wrapP, Int.toNat_natCast, svs_len, ivs_len, bvs_len, str_size, svs_mid, ivs_mid, str_dec, str_ext, str_byte, mid_byte, mid_cut, List.length_nil, List.length_singleton, svs_snoc, ivs_snoc, svs_take, svs_drop, str_app, List.take_length, List.drop_zero, List.nil_append, cond_true, cond_false, Option.bind_some, Bool.not_true, Bool.not_false, Bool.true_and, Bool.and_true]
  cases ho : natOk l with
  | false => rfl
  | true =>
    rw [h2 ho]
    simp only [Bool.not_true, cond_false, Bool.true_and, half]
    by_cases hv : 9223372036854775807 < valA 0 l
    · rw [bif_t hv, decide_eq_false (by omega)]; rfl
    · rw [bif_f hv, decide_eq_true (by omega), i64w (by omega)]; rfl
theorem refNumber_k (l : List UInt8) (hb : l.length < 1000000000000) (hk : l.length < k) : kp E k (n + 3) ref04_Number [.str (str l)] = some (bif natOk l && decide (valA 0 l ≤ 9223372036854775807) then .tup [.int .i64 (valA 0 l : Int), .bool true] else .tup [.int .i64 0, .bool false]) := by
  rw [ref04_Number_eq, below_k l (by omega) hk]
  simp (disch := first | omega | (simp only [List.length_append, List.length_cons, List.length_nil, List.length_take, List.length_drop]; done) | (simp only [List.length_append, List.length_cons, List.length_nil, List.length_take, List.length_drop]; omega) | fail) only [bif_t, bif_f, bif_n, bif_a, callB_ok, callI_ok, callS_ok, callL_ok, callF_ok, callT_ok, tupB_ok, tupI_ok, tupS_ok, tupL_ok, tupF_ok, atNil_ok, wrap1, wrapM, wrapP, Int.toNat_natCast, svs_len, ivs_len, bvs_len, str_size, svs_mid, ivs_mid, str_dec, str_ext, str_byte, mid_byte, mid_cut, List.length_nil, List.length_singleton, svs_snoc, ivs_snoc, svs_take, svs_drop, str_app, List.take_length, List.drop_zero, List.nil_append, cond_true, cond_false, Option.bind_some, Bool.not_true, Bool.not_false, Bool.true_and, Bool.and_true]
  cases ho : natOk l with
  | false => rfl
  | true =>
    have hv : valA 0 l ≤ 9223372036854775808 := by
      unfold natOk at ho
      rw [Bool.and_eq_true, decide_eq_true_eq] at ho
      exact ho.2
    simp only [if_true, Bool.not_true, cond_false, Bool.true_and]
    by_cases hv : 9223372036854775807 < valA 0 l
    · rw [bif_t (by omega), decide_eq_false (by omega)]; rfl
    · rw [bif_f (by omega), decide_eq_true (by omega), i64w (by omega), show (0 : Int) - -(valA 0 l : Int) = (valA 0 l : Int) from by omega]; rfl
end Go.Proofs.YtchflhbpdnfopaaDoor.Eng.U


/- The program's own data: pairs, times, heads, items: as structures, as abstract values, as a row hands them in. Printed by apigen.py. -/
set_option linter.unusedVariables false
namespace Go.Proofs.YtchflhbpdnfopaaDoor.Eng.U
open Go Go.Proofs Go.Proofs.YtchflhbpdnfopaaDoor.Eng
abbrev Tx := List UInt8
structure Pair where
  key : Tx
  val : Tx
  deriving DecidableEq, Inhabited
structure Time where
  sec : Int
  nano : Int
  deriving DecidableEq, Inhabited
structure Head where
  kind : Int
  name : Tx
  link : Tx
  mode : Int
  uid : Int
  gid : Int
  size : Int
  sec : Int
  nano : Int
  user : Tx
  group : Tx
  major : Int
  minor : Int
  extra : List Pair
  deriving DecidableEq, Inhabited
structure Item where
  head : Head
  data : Tx
  deriving DecidableEq, Inhabited
def bys (l : Tx) : List AV := l.map byteAV
def encPair (p : Pair) : List AV := [.str (str p.key), .str (str p.val)]
def elPair (p : Pair) : AV := .agg (encPair p)
def prs (l : List Pair) : List AV := l.map elPair
def encTime (t : Time) : List AV := [.int .i64 t.sec, .int .i64 t.nano]
def elTime (t : Time) : AV := .agg (encTime t)
def encHead (h : Head) : List AV := [.int .i64 h.kind, .str (str h.name), .str (str h.link), .int .i64 h.mode, .int .i64 h.uid, .int .i64 h.gid, .int .i64 h.size, .int .i64 h.sec, .int .i64 h.nano, .str (str h.user), .str (str h.group), .int .i64 h.major, .int .i64 h.minor, .list 2 (prs h.extra)]
def elHead (h : Head) : AV := .agg (encHead h)
def encItem (x : Item) : List AV := [.int .i64 x.head.kind, .str (str x.head.name), .str (str x.head.link), .int .i64 x.head.mode, .int .i64 x.head.uid, .int .i64 x.head.gid, .int .i64 x.head.size, .int .i64 x.head.sec, .int .i64 x.head.nano, .str (str x.head.user), .str (str x.head.group), .int .i64 x.head.major, .int .i64 x.head.minor, .list 2 (prs x.head.extra), .list 1 (bys x.data)]
def elItem (x : Item) : AV := .agg (encItem x)
def its (l : List Item) : List AV := l.map elItem
theorem bys_len (l : Tx) : (bys l).length = l.length := by simp [bys]
theorem prs_len (l : List Pair) : (prs l).length = l.length := by simp [prs]
theorem its_len (l : List Item) : (its l).length = l.length := by simp [its]
theorem cells_pair (p : Pair) : AV.cells (elPair p) = encPair p := (rfl)
theorem cells_time (p : Time) : AV.cells (elTime p) = encTime p := (rfl)
theorem cells_head (p : Head) : AV.cells (elHead p) = encHead p := (rfl)
theorem cells_item (p : Item) : AV.cells (elItem p) = encItem p := (rfl)
theorem fold_pair (p : Pair) : AV.agg [.str (str p.key), .str (str p.val)] = elPair p := (rfl)
theorem fold_time (t : Time) : AV.agg [.int .i64 t.sec, .int .i64 t.nano] = elTime t := (rfl)
theorem fold_head (h : Head) : AV.agg [.int .i64 h.kind, .str (str h.name), .str (str h.link), .int .i64 h.mode, .int .i64 h.uid, .int .i64 h.gid, .int .i64 h.size, .int .i64 h.sec, .int .i64 h.nano, .str (str h.user), .str (str h.group), .int .i64 h.major, .int .i64 h.minor, .list 2 (prs h.extra)] = elHead h := (rfl)
theorem fold_ihead (x : Item) : AV.agg [.int .i64 x.head.kind, .str (str x.head.name), .str (str x.head.link), .int .i64 x.head.mode, .int .i64 x.head.uid, .int .i64 x.head.gid, .int .i64 x.head.size, .int .i64 x.head.sec, .int .i64 x.head.nano, .str (str x.head.user), .str (str x.head.group), .int .i64 x.head.major, .int .i64 x.head.minor, .list 2 (prs x.head.extra)] = elHead x.head := (rfl)
theorem fold_item (x : Item) : AV.agg [.int .i64 x.head.kind, .str (str x.head.name), .str (str x.head.link), .int .i64 x.head.mode, .int .i64 x.head.uid, .int .i64 x.head.gid, .int .i64 x.head.size, .int .i64 x.head.sec, .int .i64 x.head.nano, .str (str x.head.user), .str (str x.head.group), .int .i64 x.head.major, .int .i64 x.head.minor, .list 2 (prs x.head.extra), .list 1 (bys x.data)] = elItem x := (rfl)
section
variable {β : Type}
theorem prs_at (l : List Pair) (i : Nat) (h : i < l.length) (F : AV → Option β) : ((prs l)[i]?).bind F = F (elPair l[i]) := by unfold prs; rw [List.getElem?_map, List.getElem?_eq_getElem h]; rfl
theorem its_at (l : List Item) (i : Nat) (h : i < l.length) (F : AV → Option β) : ((its l)[i]?).bind F = F (elItem l[i]) := by unfold its; rw [List.getElem?_map, List.getElem?_eq_getElem h]; rfl
theorem bys_at (l : Tx) (i : Nat) (h : i < l.length) (F : AV → Option β) : ((bys l)[i]?).bind F = F (byteAV l[i]) := by unfold bys; rw [List.getElem?_map, List.getElem?_eq_getElem h]; rfl
theorem prs_mid (a b : List Pair) (x : Pair) (F : AV → Option β) : ((prs (a ++ x :: b))[a.length]?).bind F = F (elPair x) := by rw [prs_at _ _ (by simp)]; simp
theorem its_mid (a b : List Item) (x : Item) (F : AV → Option β) : ((its (a ++ x :: b))[a.length]?).bind F = F (elItem x) := by rw [its_at _ _ (by simp)]; simp
theorem bys_mid (a b : Tx) (x : UInt8) (F : AV → Option β) : ((bys (a ++ x :: b))[a.length]?).bind F = F (byteAV x) := by rw [bys_at _ _ (by simp)]; simp
theorem byte_c (c : UInt8) (K : Int → Option β) : cellI .u8 (AV.cells (byteAV c)) 0 K = K ((c.toNat : Nat) : Int) := cellI_0 _ _ _
theorem callG_pair (p : Pair) (K : List AV → Option β) : callG 2 (some (elPair p)) K = K (encPair p) := (rfl)
theorem callG_time (p : Time) (K : List AV → Option β) : callG 2 (some (elTime p)) K = K (encTime p) := (rfl)
theorem callG_head (p : Head) (K : List AV → Option β) : callG 14 (some (elHead p)) K = K (encHead p) := (rfl)
theorem callG_item (p : Item) (K : List AV → Option β) : callG 15 (some (elItem p)) K = K (encItem p) := (rfl)
theorem tupG_pair (p : Pair) (t : List AV) (K : List AV → List AV → Option β) : tupG 2 (elPair p :: t) K = K (encPair p) t := (rfl)
theorem tupG_time (p : Time) (t : List AV) (K : List AV → List AV → Option β) : tupG 2 (elTime p :: t) K = K (encTime p) t := (rfl)
theorem tupG_head (p : Head) (t : List AV) (K : List AV → List AV → Option β) : tupG 14 (elHead p :: t) K = K (encHead p) t := (rfl)
theorem tupG_item (p : Item) (t : List AV) (K : List AV → List AV → Option β) : tupG 15 (elItem p :: t) K = K (encItem p) t := (rfl)
theorem h_0 (x : Head) (K : Int → Option β) : cellI .i64 (encHead x) 0 K = K x.kind := by first | exact (rfl) | (show cellI .i64 (encHead x) 0 K = _; simp [encHead, cellI, cellL, cellAt, atInt, atList])
theorem i_0 (x : Item) (K : Int → Option β) : cellI .i64 (encItem x) 0 K = K x.head.kind := by first | exact (rfl) | (show cellI .i64 (encItem x) 0 K = _; simp [encItem, cellI, cellL, cellAt, atInt, atList])
theorem h_1 (x : Head) (K : ByteArray → Option β) : cellS (encHead x) 1 K = K (str x.name) := by first | exact (rfl) | (show cellS (encHead x) 1 K = _; simp [encHead, cellI, cellL, cellAt, atInt, atList])
theorem i_1 (x : Item) (K : ByteArray → Option β) : cellS (encItem x) 1 K = K (str x.head.name) := by first | exact (rfl) | (show cellS (encItem x) 1 K = _; simp [encItem, cellI, cellL, cellAt, atInt, atList])
theorem h_2 (x : Head) (K : ByteArray → Option β) : cellS (encHead x) 2 K = K (str x.link) := by first | exact (rfl) | (show cellS (encHead x) 2 K = _; simp [encHead, cellI, cellL, cellAt, atInt, atList])
theorem i_2 (x : Item) (K : ByteArray → Option β) : cellS (encItem x) 2 K = K (str x.head.link) := by first | exact (rfl) | (show cellS (encItem x) 2 K = _; simp [encItem, cellI, cellL, cellAt, atInt, atList])
theorem h_3 (x : Head) (K : Int → Option β) : cellI .i64 (encHead x) 3 K = K x.mode := by first | exact (rfl) | (show cellI .i64 (encHead x) 3 K = _; simp [encHead, cellI, cellL, cellAt, atInt, atList])
theorem i_3 (x : Item) (K : Int → Option β) : cellI .i64 (encItem x) 3 K = K x.head.mode := by first | exact (rfl) | (show cellI .i64 (encItem x) 3 K = _; simp [encItem, cellI, cellL, cellAt, atInt, atList])
theorem h_4 (x : Head) (K : Int → Option β) : cellI .i64 (encHead x) 4 K = K x.uid := by first | exact (rfl) | (show cellI .i64 (encHead x) 4 K = _; simp [encHead, cellI, cellL, cellAt, atInt, atList])
theorem i_4 (x : Item) (K : Int → Option β) : cellI .i64 (encItem x) 4 K = K x.head.uid := by first | exact (rfl) | (show cellI .i64 (encItem x) 4 K = _; simp [encItem, cellI, cellL, cellAt, atInt, atList])
theorem h_5 (x : Head) (K : Int → Option β) : cellI .i64 (encHead x) 5 K = K x.gid := by first | exact (rfl) | (show cellI .i64 (encHead x) 5 K = _; simp [encHead, cellI, cellL, cellAt, atInt, atList])
theorem i_5 (x : Item) (K : Int → Option β) : cellI .i64 (encItem x) 5 K = K x.head.gid := by first | exact (rfl) | (show cellI .i64 (encItem x) 5 K = _; simp [encItem, cellI, cellL, cellAt, atInt, atList])
theorem h_6 (x : Head) (K : Int → Option β) : cellI .i64 (encHead x) 6 K = K x.size := by first | exact (rfl) | (show cellI .i64 (encHead x) 6 K = _; simp [encHead, cellI, cellL, cellAt, atInt, atList])
theorem i_6 (x : Item) (K : Int → Option β) : cellI .i64 (encItem x) 6 K = K x.head.size := by first | exact (rfl) | (show cellI .i64 (encItem x) 6 K = _; simp [encItem, cellI, cellL, cellAt, atInt, atList])
theorem h_7 (x : Head) (K : Int → Option β) : cellI .i64 (encHead x) 7 K = K x.sec := by first | exact (rfl) | (show cellI .i64 (encHead x) 7 K = _; simp [encHead, cellI, cellL, cellAt, atInt, atList])
theorem i_7 (x : Item) (K : Int → Option β) : cellI .i64 (encItem x) 7 K = K x.head.sec := by first | exact (rfl) | (show cellI .i64 (encItem x) 7 K = _; simp [encItem, cellI, cellL, cellAt, atInt, atList])
theorem h_8 (x : Head) (K : Int → Option β) : cellI .i64 (encHead x) 8 K = K x.nano := by first | exact (rfl) | (show cellI .i64 (encHead x) 8 K = _; simp [encHead, cellI, cellL, cellAt, atInt, atList])
theorem i_8 (x : Item) (K : Int → Option β) : cellI .i64 (encItem x) 8 K = K x.head.nano := by first | exact (rfl) | (show cellI .i64 (encItem x) 8 K = _; simp [encItem, cellI, cellL, cellAt, atInt, atList])
theorem h_9 (x : Head) (K : ByteArray → Option β) : cellS (encHead x) 9 K = K (str x.user) := by first | exact (rfl) | (show cellS (encHead x) 9 K = _; simp [encHead, cellI, cellL, cellAt, atInt, atList])
theorem i_9 (x : Item) (K : ByteArray → Option β) : cellS (encItem x) 9 K = K (str x.head.user) := by first | exact (rfl) | (show cellS (encItem x) 9 K = _; simp [encItem, cellI, cellL, cellAt, atInt, atList])
theorem h_10 (x : Head) (K : ByteArray → Option β) : cellS (encHead x) 10 K = K (str x.group) := by first | exact (rfl) | (show cellS (encHead x) 10 K = _; simp [encHead, cellI, cellL, cellAt, atInt, atList])
theorem i_10 (x : Item) (K : ByteArray → Option β) : cellS (encItem x) 10 K = K (str x.head.group) := by first | exact (rfl) | (show cellS (encItem x) 10 K = _; simp [encItem, cellI, cellL, cellAt, atInt, atList])
theorem h_11 (x : Head) (K : Int → Option β) : cellI .i64 (encHead x) 11 K = K x.major := by first | exact (rfl) | (show cellI .i64 (encHead x) 11 K = _; simp [encHead, cellI, cellL, cellAt, atInt, atList])
theorem i_11 (x : Item) (K : Int → Option β) : cellI .i64 (encItem x) 11 K = K x.head.major := by first | exact (rfl) | (show cellI .i64 (encItem x) 11 K = _; simp [encItem, cellI, cellL, cellAt, atInt, atList])
theorem h_12 (x : Head) (K : Int → Option β) : cellI .i64 (encHead x) 12 K = K x.minor := by first | exact (rfl) | (show cellI .i64 (encHead x) 12 K = _; simp [encHead, cellI, cellL, cellAt, atInt, atList])
theorem i_12 (x : Item) (K : Int → Option β) : cellI .i64 (encItem x) 12 K = K x.head.minor := by first | exact (rfl) | (show cellI .i64 (encItem x) 12 K = _; simp [encItem, cellI, cellL, cellAt, atInt, atList])
theorem h_13 (x : Head) (K : List AV → Option β) : cellL 2 (encHead x) 13 K = K (prs x.extra) := by first | exact (rfl) | (show cellL 2 (encHead x) 13 K = _; simp [encHead, cellI, cellL, cellAt, atInt, atList])
theorem i_13 (x : Item) (K : List AV → Option β) : cellL 2 (encItem x) 13 K = K (prs x.head.extra) := by first | exact (rfl) | (show cellL 2 (encItem x) 13 K = _; simp [encItem, cellI, cellL, cellAt, atInt, atList])
theorem i_14 (x : Item) (K : List AV → Option β) : cellL 1 (encItem x) 14 K = K (bys x.data) := by first | exact (rfl) | (show cellL 1 (encItem x) 14 K = _; simp [encItem, cellI, cellL, cellAt, atInt, atList])
theorem p_0 (x : Pair) (K : ByteArray → Option β) : cellS (encPair x) 0 K = K (str x.key) := by first | exact (rfl) | (show cellS (encPair x) 0 K = _; simp [encPair, cellI, cellL, cellAt, atInt, atList])
theorem p_1 (x : Pair) (K : ByteArray → Option β) : cellS (encPair x) 1 K = K (str x.val) := by first | exact (rfl) | (show cellS (encPair x) 1 K = _; simp [encPair, cellI, cellL, cellAt, atInt, atList])
theorem t_0 (x : Time) (K : Int → Option β) : cellI .i64 (encTime x) 0 K = K x.sec := by first | exact (rfl) | (show cellI .i64 (encTime x) 0 K = _; simp [encTime, cellI, cellL, cellAt, atInt, atList])
theorem t_1 (x : Time) (K : Int → Option β) : cellI .i64 (encTime x) 1 K = K x.nano := by first | exact (rfl) | (show cellI .i64 (encTime x) 1 K = _; simp [encTime, cellI, cellL, cellAt, atInt, atList])
end
end Go.Proofs.YtchflhbpdnfopaaDoor.Eng.U


/- The Dec laws answer true. -/
set_option linter.unusedVariables false
set_option linter.unusedSectionVars false
set_option linter.unusedSimpArgs false
namespace Go.Proofs.YtchflhbpdnfopaaDoor.Eng.U
open Go Go.Proofs Go.Proofs.YtchflhbpdnfopaaDoor.Eng Go.Proofs.YtchflhbpdnfopaaDoor.P04
variable {E : Ext} [Core E] [HasNum E] {k n : Nat}

end Go.Proofs.YtchflhbpdnfopaaDoor.Eng.U


/- The program's own data as a row hands them in: what is read is some item, with bounds. -/
set_option linter.unusedVariables false
set_option linter.unusedSimpArgs false
namespace Go.Proofs.YtchflhbpdnfopaaDoor.Eng.U
open Go Go.Proofs Go.Proofs.YtchflhbpdnfopaaDoor.Eng Go.Proofs.YtchflhbpdnfopaaDoor.Eng.Rdv

def InR (n : Int) : Prop := -9223372036854775808 ≤ n ∧ n ≤ 9223372036854775807
structure G_apiPair (p : Pair) : Prop where
  key : p.key.length ≤ 140737488351232
  val : p.val.length ≤ 140737488351232
structure G_apiTime (t : Time) : Prop where
  sec : InR t.sec
  nano : InR t.nano
structure G_apiHead (h : Head) : Prop where
  kind : InR h.kind
  name : h.name.length ≤ 140737488351232
  link : h.link.length ≤ 140737488351232
  mode : InR h.mode
  uid : InR h.uid
  gid : InR h.gid
  size : InR h.size
  sec : InR h.sec
  nano : InR h.nano
  user : h.user.length ≤ 140737488351232
  group : h.group.length ≤ 140737488351232
  major : InR h.major
  minor : InR h.minor
  extra : h.extra.length * 32 ≤ 140737488351232
  pairs : ∀ p ∈ h.extra, G_apiPair p
structure G_apiItem (x : Item) : Prop where
  head : G_apiHead x.head
  data : x.data.length ≤ 140737488351232
def G_LapiItem (l : List Item) : Prop := l.length * 184 ≤ 140737488351232 ∧ ∀ x ∈ l, G_apiItem x
def G_LapiPair (l : List Pair) : Prop := l.length * 32 ≤ 140737488351232 ∧ ∀ x ∈ l, G_apiPair x
def G_Lstring (l : List Tx) : Prop := l.length * 16 ≤ 140737488351232 ∧ ∀ x ∈ l, x.length ≤ 140737488351232
theorem rdi {t : TypeId} (hu : Tryd.prog.underlying t = some (.int .i64)) (hc : Tryd.prog.cellsOf t = 1) : Rd Tryd.prog t (fun n : Int => [.int .i64 n]) InR := int hu hc
theorem rds {t : TypeId} (hu : Tryd.prog.underlying t = some .string) (hc : Tryd.prog.cellsOf t = 1) : Rd Tryd.prog t (fun s : Tx => [.str (str s)]) (fun s => s.length ≤ 140737488351232) := string hu hc
theorem rd_pair : Rd Tryd.prog 44 encPair G_apiPair :=
  weaken (struct (P := Tryd.prog) (t := 44) Tryd.underlying44 rfl (by kernel_rfl) (by kernel_rfl)
    (iso encPair (fun p : Pair => (p.key, p.val)) (fun y => ⟨y.1, y.2⟩) (fun _ => rfl) (fun _ => rfl)
      (cons (rds (by kernel_rfl) (by kernel_rfl)) (one (rds (by kernel_rfl) (by kernel_rfl)))))) (fun _ h => ⟨h.1, h.2⟩)
theorem rd_time : Rd Tryd.prog 37 encTime G_apiTime :=
  weaken (struct (P := Tryd.prog) (t := 37) Tryd.underlying37 rfl (by kernel_rfl) (by kernel_rfl)
    (iso encTime (fun p : Time => (p.sec, p.nano)) (fun y => ⟨y.1, y.2⟩) (fun _ => rfl) (fun _ => rfl)
      (cons (rdi (by kernel_rfl) (by kernel_rfl)) (one (rdi (by kernel_rfl) (by kernel_rfl)))))) (fun _ h => ⟨h.1, h.2⟩)
theorem rd_pairs : Rd Tryd.prog 38 (fun l : List Pair => [.list 2 (prs l)]) G_LapiPair :=
  weaken (sliceAt (B := 32) elPair (fun _ => rfl) Tryd.underlying38 (by kernel_rfl) (by kernel_rfl) (by kernel_rfl) rd_pair) (fun _ h => h)
theorem rd_head : Rd Tryd.prog 40 encHead G_apiHead :=
  weaken (struct (P := Tryd.prog) (t := 40) Tryd.underlying40 rfl (by kernel_rfl) (by kernel_rfl)
    (iso encHead (fun h : Head => (h.kind, h.name, h.link, h.mode, h.uid, h.gid, h.size, (⟨h.sec, h.nano⟩ : Time), h.user, h.group, h.major, h.minor, h.extra))
      (fun y => ⟨y.1, y.2.1, y.2.2.1, y.2.2.2.1, y.2.2.2.2.1, y.2.2.2.2.2.1, y.2.2.2.2.2.2.1, y.2.2.2.2.2.2.2.1.sec, y.2.2.2.2.2.2.2.1.nano, y.2.2.2.2.2.2.2.2.1, y.2.2.2.2.2.2.2.2.2.1, y.2.2.2.2.2.2.2.2.2.2.1, y.2.2.2.2.2.2.2.2.2.2.2.1, y.2.2.2.2.2.2.2.2.2.2.2.2⟩) (fun _ => rfl) (fun _ => rfl)
      (cons (rdi (by kernel_rfl) (by kernel_rfl)) (cons (rds (by kernel_rfl) (by kernel_rfl)) (cons (rds (by kernel_rfl) (by kernel_rfl))
        (cons (rdi (by kernel_rfl) (by kernel_rfl)) (cons (rdi (by kernel_rfl) (by kernel_rfl)) (cons (rdi (by kernel_rfl) (by kernel_rfl)) (cons (rdi (by kernel_rfl) (by kernel_rfl))
          (cons rd_time (cons (rds (by kernel_rfl) (by kernel_rfl)) (cons (rds (by kernel_rfl) (by kernel_rfl))
            (cons (rdi (by kernel_rfl) (by kernel_rfl)) (cons (rdi (by kernel_rfl) (by kernel_rfl)) (one rd_pairs))))))))))))))) (fun h g =>
      ⟨g.1, g.2.1, g.2.2.1, g.2.2.2.1, g.2.2.2.2.1, g.2.2.2.2.2.1, g.2.2.2.2.2.2.1, g.2.2.2.2.2.2.2.1.sec, g.2.2.2.2.2.2.2.1.nano, g.2.2.2.2.2.2.2.2.1, g.2.2.2.2.2.2.2.2.2.1, g.2.2.2.2.2.2.2.2.2.2.1, g.2.2.2.2.2.2.2.2.2.2.2.1, g.2.2.2.2.2.2.2.2.2.2.2.2.1, g.2.2.2.2.2.2.2.2.2.2.2.2.2⟩)
theorem rd_bytes : Rd Tryd.prog 35 (fun l : Tx => [.list 1 (bys l)]) (fun l => l.length ≤ 140737488351232) := by
  have h := sliceAt (sz := 1) (P := Tryd.prog) (t := 35) (e := 5) (B := 1) (en := fun n : Int => [.int .u8 n]) (fun n : Int => .int .u8 n) (fun _ => rfl) Tryd.underlying35 (by kernel_rfl) (by kernel_rfl) (by kernel_rfl) (int (k := .u8) Tryd.underlying5 (by kernel_rfl))
  refine ⟨fun _ => (by kernel_rfl), fun a b => ?_⟩
  obtain ⟨r, h1, h2, h3⟩ := h.out a b
  have e : r.map (fun n : Int => AV.int .u8 n) = bys (r.map fun n => UInt8.ofNat n.toNat) := by
    unfold bys
    rw [List.map_map]
    apply List.map_congr_left
    intro n hn
    have := h3 n hn
    simp [IntKind.min, IntKind.max, IntKind.signed, IntKind.bits] at this
    show AV.int .u8 n = byteAV (UInt8.ofNat n.toNat)
    have h8 : (UInt8.ofNat n.toNat).toNat = n.toNat := by rw [UInt8.toNat_ofNat']; omega
    simp only [byteAV, h8, Int.toNat_of_nonneg this.1]
  refine ⟨r.map fun n => UInt8.ofNat n.toNat, ?_, by simp; omega⟩
  rw [e] at h1
  exact h1
theorem rd_item : Rd Tryd.prog 42 encItem G_apiItem :=
  weaken (struct (P := Tryd.prog) (t := 42) Tryd.underlying42 rfl (by kernel_rfl) (by kernel_rfl)
    (iso encItem (fun x : Item => (x.head, x.data)) (fun y => ⟨y.1, y.2⟩) (fun _ => rfl) (fun _ => rfl) (cons rd_head (one rd_bytes)))) (fun _ h => ⟨h.1, h.2⟩)
theorem rd_items : Rd Tryd.prog 23 (fun l : List Item => [.list 15 (its l)]) G_LapiItem :=
  weaken (sliceAt (B := 184) elItem (fun _ => rfl) Tryd.underlying23 (by kernel_rfl) (by kernel_rfl) (by kernel_rfl) rd_item) (fun _ h => h)
theorem rd_strs : Rd Tryd.prog 22 (fun l : List Tx => [.list 1 (svs l)]) G_Lstring :=
  weaken (sliceAt (B := 16) sv (fun _ => rfl) Tryd.underlying22 (by kernel_rfl) (by kernel_rfl) (by kernel_rfl) (rds (t := 9) (by kernel_rfl) (by kernel_rfl))) (fun _ h => h)
end Go.Proofs.YtchflhbpdnfopaaDoor.Eng.U


/- The library's functions that the Dec laws call, in pieces: numbers to text and back, texts cut. -/
set_option linter.unusedVariables false
set_option linter.unusedSectionVars false
set_option linter.unusedSimpArgs false
namespace Go.Proofs.YtchflhbpdnfopaaDoor.Eng.U
open Go Go.Proofs Go.Proofs.YtchflhbpdnfopaaDoor.Eng Go.RowKit

theorem ok_tup {f : FuncId} {args rs : List AV} (hr : rs.all (fun r => !r.isFresh && r.leaf) = true) (h : ∀ (S : Stab) (w : World) (vals : List Value), Agree S w → GlobOk glob S w → VL S args vals → Calls Tryd.prog f vals.toArray w fun e w' => ∃ vs : List Value, e = .returned (.tuple vs.toArray) ∧ rs.length = vs.length ∧ (∀ (S' : Stab) (j : Nat) (c : AV) (u : Value), rs[j]? = some c → vs[j]? = some u → V S' c u) ∧ Below w.heap.size w w') (hr2 : (args.all fun c => !c.isRes) = true := by rfl) : Ok Tryd.prog glob f args (.tup rs) := by
  refine Ok.of_plain (fun c hc => by simpa using List.all_eq_true.1 hr2 c hc) fun S w vals hag hG hV => ?_
  have key : ∀ (j : Nat) (c : AV), rs[j]? = some c → c.isFresh = false ∧ c.leaf = true := by
    intro j c hc
    have := List.all_eq_true.1 hr c (List.mem_of_getElem? hc)
    simpa using this
  refine (h S w vals hag hG hV).mono ?_
  rintro e w' ⟨vs, rfl, hl, hv, hb⟩
  refine ⟨_, S, rfl, fun _ _ h => h, agree_below hag hb, fun _ _ h => .inl h, hb, vs, rfl, hl, fun j c u hc hu => ?_, fun i j c d u v g hc hd hf => ?_⟩
  · have h1 := hv S j c u hc hu
    obtain ⟨h2, h3⟩ := key j c hc
    cases c <;> first | (cases h2; done) | (cases h3; done) | exact h1
  · rw [(key i c hc).1] at hf; cases hf
theorem V2 {S : Stab} {a b : AV} {u v : Value} (ha : V S a u) (hb : V S b v) : ∀ (j : Nat) (c : AV) (x : Value), [a, b][j]? = some c → [u, v][j]? = some x → V S c x := by
  intro j c x hc hx
  match j with
  | 0 => cases hc; cases hx; exact ha
  | 1 => cases hc; cases hx; exact hb
  | j + 2 => simp at hc
theorem eptr_inv {S : Stab} {cs : List AV} {off : Nat} {p : Value} (h : V S (.eptr cs off) p) : ∃ (a : Addr) (f : Nat → Value), p = .pointer (some (a.add off)) ∧ (∀ (j : Nat) (c : AV), cs[j]? = some c → S (a.add j) = some (f j)) ∧ (∀ (j : Nat) (c : AV), cs[j]? = some c → V S c (f j)) := by
  cases h with
  | eptr cs off a f g2 g3 g4 => exact ⟨a, f, rfl, g3, g4⟩
theorem glob_cell {S : Stab} {w : World} {g : Nat} {cs : List AV} (hag : Agree S w) (hG : GlobOk glob S w) (hg : glob g = some cs) (j : Nat) (c : AV) (hj : cs[j]? = some c) : ∃ u, w.cell? ⟨g, j, none⟩ = some u ∧ V S c u := by
  obtain ⟨h1, arr, t, f, h2, h3⟩ := hG g _ hg
  obtain ⟨a, fv, he, g3, g4⟩ := eptr_inv h1
  have ha : a.add j = ⟨g, j, none⟩ := by
    have he' : (⟨g, 0, none⟩ : Addr) = a.add 0 := by injection he with e; injection e
    obtain ⟨b, o, s⟩ := a
    cases s with
    | none => rw [add_lit', Nat.add_zero] at he'; cases he'; rw [add_lit', Nat.zero_add]
    | some s => simp [Addr.add] at he'
  have := hag _ _ (g3 j c hj)
  rw [ha] at this
  exact ⟨_, this, g4 j c hj⟩
theorem tab_of {S : Stab} {w : World} {g : Nat} {name : String} {k : IntKind} {zs : List Int} (hag : Agree S w) (hG : GlobOk glob S w) (hg : glob g = some (zs.map fun z => .int k z)) (hn : Tryd.prog.globalNamed name = some g) : Lib.TabIs Tryd.prog w name k zs := by
  obtain ⟨h1, arr, t, f, h2, h3⟩ := hG g _ hg
  unfold Lib.TabIs World.var?
  rw [hn]
  simp only [Option.bind_some, h2, Option.some.injEq]
  rw [List.length_map] at h3
  refine Array.ext' ?_
  refine List.ext_getElem? fun j => ?_
  by_cases hj : j < zs.length
  · obtain ⟨u, hu, hv⟩ := glob_cell hag hG hg j (.int k zs[j]) (by rw [List.getElem?_map, List.getElem?_eq_getElem hj]; rfl)
    rw [V_int hv] at hu
    have e : w.cell? ⟨g, j, none⟩ = arr[j]? := by simp [World.cell?, h2]
    rw [e] at hu
    rw [List.toList_toArray, List.getElem?_map, List.getElem?_eq_getElem hj]
    simpa using hu
  · rw [List.toList_toArray, List.getElem?_eq_none (by simp; omega), List.getElem?_eq_none (by simp; omega)]
theorem iface_of {S : Stab} {w : World} {g : Nat} (hag : Agree S w) (hG : GlobOk glob S w) (hg : glob g = some [.ifc]) : ∃ t v, w.cell? ⟨g, 0, none⟩ = some (.iface t v) := by
  obtain ⟨u, hu, hv⟩ := glob_cell hag hG hg 0 .ifc rfl
  cases hv
  exact ⟨_, _, hu⟩
theorem below_grow (w : World) (n : Nat) (os : Array Obj) : Below w.heap.size w (Sort.grow (w.drewN n) os) :=
  ⟨rfl, rfl, rfl, by simp [Sort.grow, World.drewN], fun k hk => by
    show (w.heap ++ os)[k]? = _
    rw [Array.getElem?_append_left hk]⟩

def pItoa : Piece := { f := strconv_Itoa, ans := fun args => match args with
  | [.int .i64 n] => bif decide (-9223372036854775808 ≤ n) && decide (n ≤ 9223372036854775807) then some (.str (str (Lib.itoa n))) else none
  | _ => none }
def one (c : ByteArray) : Option UInt8 := match c.data.toList with | [x] => some x | _ => none
theorem one_some {c : ByteArray} {x : UInt8} (h : one c = some x) : c = ⟨#[x]⟩ := by
  unfold one at h
  split at h
  · rename_i y e
    cases h
    obtain ⟨⟨l⟩⟩ := c
    simp at e
    rw [e]
  · cases h
def pIndex : Piece := { f := stringslite_Index, ans := fun args => match args with
  | [.str s, .str c] => (one c).bind fun x => some (.int .i64 (Lib.indexByte s.data.toList x))
  | _ => none }
def pIndexByte : Piece := { f := strings_IndexByte, ans := fun args => match args with
  | [.str s, .int .u8 c] => some (.int .i64 (Lib.indexByte s.data.toList c.toNat.toUInt8))
  | _ => none }
def pPUint : Piece := { f := strconv_ParseUint, ans := fun args => match args with
  | [.str s, .int .i64 b, .int .i64 z] => bif decide (b = 10) && decide (z = 64) && decide (s.size ≤ 281474976710656) then some (endU (Lib.parseUintB 64 s.data.toList)) else none
  | _ => none }
theorem itoa_right : pItoa.Right := by
  refine ⟨⟨Tryd.f61, Tryd.func61, by kernel_rfl, by kernel_rfl⟩, fun args res h => ?_⟩
  unfold pItoa at h
  dsimp only at h
  split at h
  · rename_i n
    obtain ⟨hc, h'⟩ := some_of_bif h
    clear h
    simp only [Bool.and_eq_true, decide_eq_true_eq] at hc
    obtain ⟨h1, h2⟩ := hc
    obtain rfl := Option.some.inj h'
    refine ok_pure ⟨rfl, rfl⟩ fun S w vals hag hG hV => ?_
    obtain ⟨v, rfl, hv⟩ := VL_1 hV
    obtain rfl := V_int hv
    refine (Tryd.strconv_Itoa n h1 h2 w (tab_of hag hG (g := 5) (zs := Lib.pow10Tab) rfl (by kernel_rfl))).mono ?_
    rintro e w' ⟨rfl, k, os, rfl⟩
    exact ⟨_, rfl, fun S' => V.str _, below_grow _ _ _⟩
  · cases h
theorem index_right : pIndex.Right := by
  refine ⟨⟨Tryd.f54, Tryd.func54, by kernel_rfl, by kernel_rfl⟩, fun args res h => ?_⟩
  unfold pIndex at h
  dsimp only at h
  split at h
  · rename_i s c
    obtain ⟨x, hx, h⟩ := Option.bind_eq_some_iff.1 h
    obtain rfl := one_some hx
    obtain rfl := Option.some.inj h
    refine ok_pure ⟨rfl, rfl⟩ fun S w vals hag hG hV => ?_
    obtain ⟨v, u, rfl, hv, hu⟩ := VL_2 hV
    obtain rfl := V_str hv
    obtain rfl := V_str hu
    refine (Tryd.stringslite_Index_one s x w).mono ?_
    rintro e w' ⟨rfl, rfl⟩
    exact ⟨_, rfl, fun S' => V.int _ _, Below.refl _ _⟩
  · cases h
theorem indexByte_right : pIndexByte.Right := by
  refine ⟨⟨Tryd.f55, Tryd.func55, by kernel_rfl, by kernel_rfl⟩, fun args res h => ?_⟩
  unfold pIndexByte at h
  dsimp only at h
  split at h
  · rename_i s c
    obtain rfl := Option.some.inj h
    refine ok_pure ⟨rfl, rfl⟩ fun S w vals hag hG hV => ?_
    obtain ⟨v, u, rfl, hv, hu⟩ := VL_2 hV
    obtain rfl := V_str hv
    obtain rfl := V_int hu
    refine (Tryd.strings_IndexByte s c w).mono ?_
    rintro e w' ⟨rfl, rfl⟩
    exact ⟨_, rfl, fun S' => V.int _ _, Below.refl _ _⟩
  · cases h
theorem pUint_right : pPUint.Right := by
  refine ⟨⟨Tryd.f20, Tryd.func20, by kernel_rfl, by kernel_rfl⟩, fun args res h => ?_⟩
  unfold pPUint at h
  dsimp only at h
  split at h
  · rename_i s b z
    obtain ⟨hc, h'⟩ := some_of_bif h
    clear h
    simp only [Bool.and_eq_true, decide_eq_true_eq] at hc
    obtain ⟨⟨rfl, rfl⟩, h3⟩ := hc
    obtain rfl := Option.some.inj h'
    cases he : Lib.parseUintB 64 s.data.toList with
    | ok v =>
      refine ok_tup rfl fun S w vals hag hG hV => ?_
      obtain ⟨v1, v2, v3, rfl, g1, g2, g3⟩ := VL_3 hV
      obtain rfl := V_str g1
      obtain rfl := V_int g2
      obtain rfl := V_int g3
      refine (Tryd.strconv_ParseUint_10_at64_ok s (by omega) v he w).mono ?_
      rintro e w' ⟨rfl, hw⟩
      refine ⟨[_, _], rfl, rfl, fun S' => V2 (V.int _ _) V.nili, ?_⟩
      rcases hw with rfl | rfl
      · exact Below.refl _ _
      · exact Lib.bytesWorld_below _ _ _
    | range =>
      refine ok_tup rfl fun S w vals hag hG hV => ?_
      obtain ⟨v1, v2, v3, rfl, g1, g2, g3⟩ := VL_3 hV
      obtain rfl := V_str g1
      obtain rfl := V_int g2
      obtain rfl := V_int g3
      obtain ⟨t, v, hi⟩ := iface_of (g := 1) hag hG rfl
      refine (Tryd.strconv_ParseUint_10_at64_range s h3 he _ w hi (.inr ⟨_, _, rfl⟩)).mono ?_
      rintro e w' ⟨N, rfl, _, _, hb⟩
      exact ⟨[_, _], rfl, rfl, fun S' => V2 (V.int _ _) (V.ifc _ _), hb⟩
    | _ =>
      refine ok_tup rfl fun S w vals hag hG hV => ?_
      obtain ⟨v1, v2, v3, rfl, g1, g2, g3⟩ := VL_3 hV
      obtain rfl := V_str g1
      obtain rfl := V_int g2
      obtain rfl := V_int g3
      obtain ⟨t, v, hi⟩ := iface_of (g := 0) hag hG rfl
      refine (Tryd.strconv_ParseUint_10_at64_syntax s h3 he _ w hi (.inr ⟨_, _, rfl⟩)).mono ?_
      rintro e w' ⟨N, rfl, _, _, hb⟩
      exact ⟨[_, _], rfl, rfl, fun S' => V2 (V.int _ _) (V.ifc _ _), hb⟩
  · cases h
def ps04 : List Piece := [pItoa, pIndex, pIndexByte, pPUint]
def ext04 : Ext := extOf ps04
instance core04 : Core ext04 := core_of (by kernel_rfl)
theorem num_of {ps : List Piece} (h2 : ps.find? (fun q => q.f == pItoa.f) = some pItoa) (h5 : ps.find? (fun q => q.f == pIndex.f) = some pIndex) (h6 : ps.find? (fun q => q.f == pIndexByte.f) = some pIndexByte) (h9 : ps.find? (fun q => q.f == pPUint.f) = some pPUint) : HasNum (extOf ps) where
  itoa k n v g0 g1 := (kp_piece (k := k) (n := n) h2).trans (by
    show (bif decide (-9223372036854775808 ≤ v) && decide (v ≤ 9223372036854775807) then _ else none) = _
    rw [decide_eq_true g0, decide_eq_true g1]
    rfl)
  index k n s x := (kp_piece (k := k) (n := n) h5).trans rfl
  indexB k n s c := (kp_piece (k := k) (n := n) h6).trans rfl
  puint k n s g0 := (kp_piece (k := k) (n := n) h9).trans (by
    show (bif decide ((10 : Int) = 10) && decide ((64 : Int) = 64) && decide ((str s).size ≤ 281474976710656) then _ else none) = _
    rw [str_size, decide_eq_true g0]
    rfl)
instance num04 : HasNum ext04 := num_of rfl rfl rfl rfl
end Go.Proofs.YtchflhbpdnfopaaDoor.Eng.U


/- crc.table and crc.More, walked: the sum of any bytes behind others. -/
set_option linter.unusedVariables false
set_option linter.unusedSimpArgs false
namespace Go.Proofs.YtchflhbpdnfopaaDoor.S32
open Go Go.RowKit Go.Proofs

def crc_step (x : Int) : Int := if (Go.bits .and .u32 x 1 == 1) = true then Go.bits .xor .u32 (x / 2) 3988292384 else x / 2
def crc_steps : Nat → Int → Int
  | 0, x => x
  | n + 1, x => crc_steps n (crc_step x)
def crc_entry (i : Nat) : Int := crc_steps 8 i
theorem bits_u32 (o : BinOp) (x y : Int) : 0 ≤ Go.bits o .u32 x y ∧ Go.bits o .u32 x y ≤ 4294967295 := by
  unfold Go.bits
  split <;> (simp only [IntKind.wrap_u32]; omega)
def CrcTab (W : World) (g : Nat) (n : Nat) : Prop := ∃ cs : Array Value, W.heap[g]? = some (.cells cs 73 (0, 0)) ∧ cs.size = 256 ∧ ∀ j, j < n → cs[j]? = some (.int .u32 (crc_entry j))
theorem CrcTab.lt {W : World} {g n : Nat} (h : CrcTab W g n) : g < W.heap.size := by
  obtain ⟨cs, h, _⟩ := h
  exact (Array.getElem?_eq_some_iff.1 h).1
theorem CrcTab.cell {W : World} {g n : Nat} (h : CrcTab W g n) (i : Nat) (hi : i < 256) : ∃ v, W.cell? ⟨g, i, none⟩ = some v ∧ W.frozen? ⟨g, i, none⟩ = false := by
  obtain ⟨cs, h, hs, _⟩ := h
  exact ⟨cs[i], by rw [cell_of_row W g i cs _ _ h]; exact Array.getElem?_eq_getElem (by omega), frozen_of_row W g i cs _ h⟩
theorem CrcTab.set {W : World} {g n : Nat} (h : CrcTab W g n) {x : Int} (hx : x = crc_entry n) (hn : n < 256) : CrcTab (W.setCell ⟨g, n, none⟩ (.int .u32 x)) g (n + 1) := by
  obtain ⟨cs, h, hs, hc⟩ := h
  refine ⟨cs.setIfInBounds n (.int .u32 x), heap_setCell_same W g n cs _ _ h, by simp [hs], fun j hj => ?_⟩
  subst hx
  rw [Array.getElem?_setIfInBounds]
  by_cases e : n = j
  · subst e; simp [hs, hn]
  · rw [if_neg e]; exact hc j (by omega)
set_option maxHeartbeats 1000000 in
set_option maxRecDepth 100000 in
theorem crc_table.calls (w : World) :
    Calls Tryd.prog 27 #[] w fun e w' => ∃ cs : Array Value, e = .returned (.agg cs) ∧ (cs.size = 256 ∧ ∀ j, j < 256 → cs[j]? = some (.int .u32 (crc_entry j))) ∧ Below w.heap.size w w' := by
  have hu := Tryd.underlying73
  have hi0 : (Tryd.prog.info? 73).map (·.size) = some 256 := by kernel_rfl
  have Hi := Go.Lib.hid hi0; clear hi0
  obtain ⟨z, hz, hzs, hzo⟩ : ∃ z : Array Value, (∀ W, (zeroValue 73).run Tryd.prog W = .ok (.agg z) W) ∧ z.size = 256 ∧ z.all (·.oneCell') = true :=
    ⟨Array.replicate 256 (.int .u32 0), fun W => by kernel_rfl, by simp, by rw [Array.all_eq_true]; intro i hi; simp; rfl⟩
  have Hzs := Go.Lib.hid hzs; clear hzs
  have Hzo := Go.Lib.hid hzo; clear hzo
  have hB0 := Go.Lib.hid (((Below.refl w.heap.size w).alloc (Nat.le_refl _) (.cells z 73)).alloc (by simp) (.cells z 73))
  have hT0 := Go.Lib.hid (show CrcTab ((w.alloc (.cells z 73)).alloc (.cells z 73)) (w.heap.size + 1) 0 from ⟨z, heap_alloc2_new w _ _, Hzs.out, fun j hj => by omega⟩)
  have hR0 := Go.Lib.hid (show ((w.alloc (.cells z 73)).alloc (.cells z 73)).heap[w.heap.size]? = some (.cells z 73 (0, 0)) from heap_alloc2_old w _ _)
  go_enter Tryd.func27, Tryd.ntmps27
  go_wp2
  go_loopw [4] (fun i wr => ∃ n : Nat, n ≤ 256 ∧ i = .int .i64 n ∧ Hid (CrcTab wr (w.heap.size + 1) n) ∧ Hid (wr.heap[w.heap.size]? = some (.cells z 73 (0, 0))) ∧ Hid (Below w.heap.size w wr)) (fun i _ => 256 - (intOf i).toNat)
  case atStart => exact ⟨0, by omega, rfl, hT0, hR0, hB0⟩
  case round =>
    clear hT0 hR0 hB0
    obtain ⟨n, hn, rfl, HT, HR, HB⟩ := hrel
    by_cases hlt : n < 256
    · have hw : IntKind.u32.wrap (n : Int) = n := by rw [IntKind.wrap_u32]; omega
      go_wp2
      obtain ⟨wo, rfl⟩ : ∃ wo : World, wo = wr := ⟨_, rfl⟩
      go_loop [3, 9] (fun x k => ∃ (m : Nat) (y : Int), m ≤ 8 ∧ k = .int .i64 m ∧ x = .int .u32 y ∧ 0 ≤ y ∧ y ≤ 4294967295 ∧ Hid (crc_steps (8 - m) y = crc_entry n)) (fun _ k => 8 - (intOf k).toNat)
      case atStart => exact ⟨0, n, by omega, rfl, rfl, by omega, by omega, rfl⟩
      case round =>
        obtain ⟨m, y, hm, rfl, rfl, hy0, hy1, HY⟩ := hrel
        by_cases hlt2 : m < 8
        · have hs : crc_steps (8 - m) y = crc_steps (8 - (m + 1)) (crc_step y) := by rw [show 8 - m = (8 - (m + 1)) + 1 by omega]; rfl
          have hdiv : 0 ≤ y / 2 ∧ y / 2 ≤ 4294967295 := by omega
          have HS := Go.Lib.hid hs; clear hs
          by_cases ho : (Go.bits .and .u32 y 1 == 1) = true
          · have e : crc_step y = Go.bits .xor .u32 (y / 2) 3988292384 := if_pos ho
            have E := Go.Lib.hid e; clear e
            have hb := bits_u32 .xor (y / 2) 3988292384
            go_wp2
            go_round
            case rel => exact ⟨m + 1, _, by omega, by go_num, rfl, hb.1, hb.2, by rw [← E.out, ← HS.out]; exact HY.out⟩
            case measure => simp [intOf]; omega
          · have e : crc_step y = y / 2 := if_neg ho
            have E := Go.Lib.hid e; clear e
            replace ho : (Go.bits .and .u32 y 1 == 1) = false := by simpa using ho
            go_wp2
            go_round
            case rel => exact ⟨m + 1, _, by omega, by go_num, rfl, hdiv.1, hdiv.2, by rw [← E.out, ← HS.out]; exact HY.out⟩
            case measure => simp [intOf]; omega
        · obtain rfl : m = 8 := by omega
          have hT := HT.out
          obtain ⟨v, hc, hf⟩ := hT.cell n hlt
          have HT2 := Go.Lib.hid (hT.set (x := y) HY.out hlt)
          have HR2 := Go.Lib.hid ((heap_setCell_other wo ⟨w.heap.size + 1, n, none⟩ w.heap.size (.int .u32 y) (by simp)).trans HR.out)
          have HB2 := Go.Lib.hid (HB.out.setCell (p := ⟨w.heap.size + 1, n, none⟩) (by simp) (.int .u32 y))
          clear hT HT HR HB hlt2
          go_wp2
          go_roundw
          case rel => exact ⟨n + 1, by omega, by go_num, HT2, HR2, HB2⟩
          case measure => simp [intOf]; omega
    · obtain rfl : n = 256 := by omega
      have hT := HT.out
      obtain ⟨cs, hg, hs, hc⟩ := hT
      have hr2 := setRow_heap wr w.heap.size z cs 73 (0, 0) HR.out
      have hb2 : Below w.heap.size w (wr.setRow w.heap.size cs) := below_setRow HB.out (Nat.le_refl _) cs
      have hall : cs.all (·.oneCell') = true := by
        rw [Array.all_eq_true]; intro i hi
        have hj := hc i (by omega)
        rw [Array.getElem?_eq_getElem hi] at hj
        rw [Option.some.inj hj]; rfl
      have HG := Go.Lib.hid hg; clear hg
      have HS := Go.Lib.hid hs; clear hs
      have HC := Go.Lib.hid hc; clear hc
      have HA := Go.Lib.hid hall; clear hall
      have HR2 := Go.Lib.hid hr2; clear hr2
      have HB2 := Go.Lib.hid hb2; clear hb2
      go_wp2_with (first | (refine wpList_load_row rfl 73 (.tmp 1) rfl (w.heap.size + 1) rfl 73 cs (0, 0) _ HG.out hu rfl (by rw [HS.out]; exact Hi.out) ?_) | (refine wpList_store_row rfl 73 (.tmp 0) (.tmp 24) rfl w.heap.size cs rfl rfl 73 z HR.out (by rw [HS.out]; exact Hi.out) (by rw [HS.out]; exact Hzs.out) HA.out ?_))
      exact bodyPost_ret (v := .agg cs) (results_cell_row (fn := Tryd.f27) rfl _ _ w.heap.size 73 cs (0, 0) _ rfl HR2.out hu rfl (by rw [HS.out]; exact Hi.out)) rfl ⟨cs, rfl, ⟨HS.out, HC.out⟩, HB2.out⟩

def rd (l : List Int) (m : Nat) : Int := l.getD m 0
/-- What a row of bytes reads as. -/
def ReadsB (w : World) (A : Option Addr) (l : List Int) : Prop := l = [] ∨ ∃ a, A = some a ∧ ∀ j, j < l.length → w.cell? (a.add j) = some (.int .u8 (l.getD j 0))
theorem ReadsB.below {w W : World} {A : Option Addr} {l : List Int} (h : ReadsB w A l) (hb : Below w.heap.size w W) : ReadsB W A l := by
  rcases h with h | ⟨a, rfl, h⟩
  · exact .inl h
  · refine .inr ⟨a, rfl, fun j hj => ?_⟩
    have hc := h j hj
    exact (hb.cell (World.block_lt_of_cell? w _ hc)).trans hc
theorem ReadsB.at {w : World} {A : Option Addr} {l : List Int} (h : ReadsB w A l) (m : Nat) (hm : m < l.length) : ∃ a, A = some a ∧ w.cell? (a.add m) = some (.int .u8 (rd l m)) := by
  rcases h with rfl | ⟨a, rfl, h⟩
  · simp at hm
  · exact ⟨a, rfl, h m hm⟩
def crc_next (x c : Int) : Int := Go.bits .xor .u32 (x / 256) (crc_entry (Go.bits .xor .u8 (x % 256) c).toNat)
def crc_not (x : Int) : Int := Go.bits .xor .u32 IntKind.u32.max x
def crc_More.f (a0 : Int) (l1 : List Int) : Option Int := some (crc_not (l1.foldl crc_next (crc_not a0)))
theorem crc_bitsN (o : BinOp) (x : Int) : 0 ≤ Go.bits o .u32 IntKind.u32.max x ∧ Go.bits o .u32 IntKind.u32.max x ≤ 4294967295 := bits_u32 o _ _
theorem crc_bits8 (o : BinOp) (x y : Int) : 0 ≤ Go.bits o .u8 x y ∧ Go.bits o .u8 x y ≤ 255 := by
  unfold Go.bits
  split <;> (simp only [IntKind.wrap_u8]; omega)
set_option maxHeartbeats 1000000 in
set_option maxRecDepth 100000 in
theorem crc_More.calls (a0 : Int) (A1 : Option Addr) (c1 : Nat) (l1 : List Int) (r : Int) (w : World) (hr1 : ReadsB w A1 l1) (hlm : l1.length ≤ 1000000000) (h : crc_More.f a0 l1 = some r) :
    Calls Tryd.prog 16 #[.int .u32 a0, .slice A1 l1.length c1] w fun e w' => e = .returned (.int .u32 r) ∧ Below w.heap.size w w' := by
  have hu := Tryd.underlying73
  have hi0 : (Tryd.prog.info? 73).map (·.size) = some 256 := by kernel_rfl
  have Hi := Go.Lib.hid hi0; clear hi0
  have HF := Go.Lib.hid h; clear h
  have HR1 := Go.Lib.hid hr1
  clear hr1
  obtain ⟨z, hz, hzs, hzo⟩ : ∃ z : Array Value, (∀ W, (zeroValue 73).run Tryd.prog W = .ok (.agg z) W) ∧ z.size = 256 ∧ z.all (·.oneCell') = true :=
    ⟨Array.replicate 256 (.int .u32 0), fun W => by kernel_rfl, by simp, by rw [Array.all_eq_true]; intro i hi; simp; rfl⟩
  have Hzs := Go.Lib.hid hzs; clear hzs
  have Hzo := Go.Lib.hid hzo; clear hzo
  go_enter Tryd.func16, Tryd.ntmps16
  go_wp2_with fail
  refine (crc_table.calls _).mono ?_
  rintro e w1 ⟨cs, rfl, ⟨hs, hc⟩, hb⟩
  have hall : cs.all (·.oneCell') = true := by
    rw [Array.all_eq_true]; intro i hi
    have hj := hc i (by omega)
    rw [Array.getElem?_eq_getElem hi] at hj
    rw [Option.some.inj hj]; rfl
  have hb2 : Below w.heap.size w ((w1.alloc (.cells z 73)).setRow w1.heap.size cs) := below_setRow (hb.alloc hb.size _) hb.size cs
  have hg2 := setRow_heap (w1.alloc (.cells z 73)) w1.heap.size z cs 73 (0, 0) (heap_alloc_new w1 _)
  have HG0 := Go.Lib.hid (heap_alloc_new w1 (.cells z 73))
  have HS := Go.Lib.hid hs; clear hs
  have HC := Go.Lib.hid hc; clear hc
  have HA := Go.Lib.hid hall; clear hall
  have HB := Go.Lib.hid hb2; clear hb2 hb
  have HG := Go.Lib.hid hg2; clear hg2
  go_wp2_with (refine wpList_store_row rfl 73 (.tmp 5) (.tmp 9) rfl w1.heap.size cs rfl rfl 73 z HG0.out (by rw [HS.out]; exact Hi.out) (by rw [HS.out]; exact Hzs.out) HA.out ?_)
  have HR := Go.Lib.hid (HR1.out.below HB.out)
  have hcl : w1.heap.size < ((w1.alloc (.cells z 73)).setRow w1.heap.size cs).heap.size := by simp
  clear HG0 HR1
  generalize hW : (w1.alloc (.cells z 73)).setRow w1.heap.size cs = W2 at HB HG HR hcl ⊢
  clear hW
  obtain ⟨g, rfl⟩ : ∃ g, g = w1.heap.size := ⟨_, rfl⟩
  go_loop [6, 14] (fun x i => ∃ (m : Nat) (y : Int), m ≤ l1.length ∧ i = .int .i64 m ∧ x = .int .u32 y ∧ 0 ≤ y ∧ y ≤ 4294967295 ∧ Hid (y = (l1.take m).foldl crc_next (crc_not a0))) (fun _ i => l1.length - (intOf i).toNat)
  case atStart => exact ⟨0, _, by omega, rfl, rfl, (crc_bitsN _ _).1, (crc_bitsN _ _).2, rfl⟩
  case round =>
    obtain ⟨m, y, hm, rfl, rfl, hy0, hy1, HY⟩ := hrel
    by_cases hlt : m < l1.length
    · obtain ⟨ad, hA, hcell⟩ := HR.out.at m (by omega)
      cases hA
      have hx := crc_bits8 .xor (y % 256) (rd l1 m)
      have hb := bits_u32 .xor (y / 256) (crc_entry (Go.bits .xor .u8 (y % 256) (rd l1 m)).toNat)
      have hwy : IntKind.u8.wrap y = y % 256 := IntKind.wrap_u8 y
      have hr : (l1.take (m + 1)).foldl crc_next (crc_not a0) = crc_next ((l1.take m).foldl crc_next (crc_not a0)) (rd l1 m) := by
        rw [List.take_succ_eq_append_getElem hlt, List.foldl_append]
        simp [rd, List.getD_eq_getElem?_getD, List.getElem?_eq_getElem hlt]
      have HT := Go.Lib.hid hr; clear hr
      generalize hq : Go.bits .xor .u8 (y % 256) (rd l1 m) = q at hx hb
      obtain ⟨q', rfl⟩ := Int.eq_ofNat_of_zero_le hx.1
      have ht : W2.cell? ⟨w1.heap.size, q', none⟩ = some (.int .u32 (crc_entry q')) := by
        rw [cell_of_row W2 _ q' cs _ _ HG.out]; exact HC.out q' (by omega)
      have HQ := Go.Lib.hid hq
      have HE := Go.Lib.hid (show crc_next y (rd l1 m) = Go.bits .xor .u32 (y / 256) (crc_entry q') from by unfold crc_next; rw [HQ.out]; rfl)
      have hb' : 0 ≤ Go.bits .xor .u32 (y / 256) (crc_entry q') ∧ Go.bits .xor .u32 (y / 256) (crc_entry q') ≤ 4294967295 := hb
      clear hb
      have hdiv : 0 ≤ y / 256 := by omega
      go_wp2
      go_round
      case rel => exact ⟨m + 1, _, by omega, by go_num, rfl, hb'.1, hb'.2, by show _ = _; rw [HT.out, ← HE.out, ← HY.out]⟩
      case measure => simp [intOf]; omega
    · obtain rfl : m = l1.length := by omega
      have hv : r = crc_not y := by
        have h1 := HF.out
        unfold crc_More.f at h1
        rw [List.take_length] at HY
        rw [HY.out]; exact (Option.some.inj h1).symm
      have HV := Go.Lib.hid hv; clear hv
      clear HY
      go_wp2
      go_ret
      exact ⟨by rw [HV.out]; rfl, HB.out⟩
end Go.Proofs.YtchflhbpdnfopaaDoor.S32


/- strconv.FormatUint at base 16, walked: the digits of any number below 2^64. -/
set_option linter.unusedVariables false
set_option linter.unusedSimpArgs false
namespace Go.Proofs.YtchflhbpdnfopaaDoor.S32
open Go Go.RowKit Go.Proofs

/-! The digits. -/
/-- The row of 65 bytes, its last ones told. -/
def Arr (W : World) (g : Nat) (acc : List UInt8) : Prop := ∃ cs : Array Value, W.heap[g]? = some (.cells cs 124 (0, 0)) ∧ cs.size = 65 ∧ ∀ j c, acc[j]? = some c → cs[65 - acc.length + j]? = some (.int .u8 c.toNat)
theorem Arr.cell {W : World} {g : Nat} {acc : List UInt8} (h : Arr W g acc) (i : Nat) (hi : i < 65) : ∃ v, W.cell? ⟨g, i, none⟩ = some v ∧ W.frozen? ⟨g, i, none⟩ = false := by
  obtain ⟨cs, h, hs, _⟩ := h
  exact ⟨cs[i], by rw [cell_of_row W g i cs _ _ h]; exact Array.getElem?_eq_getElem (by omega), frozen_of_row W g i cs _ h⟩
theorem Arr.set {W : World} {g : Nat} {acc : List UInt8} (h : Arr W g acc) (c : UInt8) (hm : acc.length < 65) : Arr (W.setCell ⟨g, 64 - acc.length, none⟩ (.int .u8 c.toNat)) g (c :: acc) := by
  obtain ⟨cs, h, hs, hc⟩ := h
  refine ⟨cs.setIfInBounds (64 - acc.length) (.int .u8 c.toNat), heap_setCell_same W g _ cs _ _ h, by simp [hs], fun j d hj => ?_⟩
  rw [Array.getElem?_setIfInBounds, List.length_cons]
  cases j with
  | zero => rw [if_pos (by omega), if_pos (by omega)]; simp at hj; rw [hj]
  | succ j =>
    rw [List.getElem?_cons_succ] at hj
    have hl : j < acc.length := (List.getElem?_eq_some_iff.1 hj).1
    rw [if_neg (by omega), show 65 - (acc.length + 1) + (j + 1) = 65 - acc.length + j from by omega]
    exact hc j d hj
theorem add0' (g i j : Nat) : (⟨g, i, none⟩ : Addr).add j = ⟨g, i + j, none⟩ := by simp [Addr.add]
theorem Arr.text {W : World} {g : Nat} {acc : List UInt8} (h : Arr W g acc) (cap : Nat) : (convert 35 9 (.slice (some ⟨g, 65 - acc.length, none⟩) acc.length cap)).run Tryd.prog W = .ok (.string ⟨acc.toArray⟩) W := by
  refine run_convert_bytes_back W _ _ 5 _ _ _ Tryd.underlying35 Tryd.underlying5 Tryd.underlying9 fun j hj => ?_
  obtain ⟨cs, h, hs, hc⟩ := h
  rw [add0', cell_of_row W g _ cs _ _ h]
  exact hc j _ (List.getElem?_eq_getElem hj)
end Go.Proofs.YtchflhbpdnfopaaDoor.S32


/- The sum of bytes, plain: the table's steps are the bits' steps. -/
set_option linter.unusedVariables false
set_option linter.unusedSimpArgs false
namespace Go.Proofs.YtchflhbpdnfopaaDoor.Q32
open Go Go.RowKit Go.Proofs.YtchflhbpdnfopaaDoor.S32
abbrev B := BitVec 32
def poly : B := 3988292384#32
def stp (x : B) : B := if x.getLsbD 0 then (x >>> 1) ^^^ poly else x >>> 1
def stps : Nat → B → B
  | 0, x => x
  | n + 1, x => stps n (stp x)
theorem xor_swap (a b c d : B) : (a ^^^ b) ^^^ (c ^^^ d) = (a ^^^ c) ^^^ (b ^^^ d) := by
  apply BitVec.eq_of_getLsbD_eq; intro i hi
  simp only [BitVec.getLsbD_xor]
  cases a.getLsbD i <;> cases b.getLsbD i <;> cases c.getLsbD i <;> cases d.getLsbD i <;> rfl
theorem step_xor (x y : B) : stp (x ^^^ y) = stp x ^^^ stp y := by
  unfold stp
  rw [BitVec.getLsbD_xor, BitVec.ushiftRight_xor_distrib]
  cases x.getLsbD 0 <;> cases y.getLsbD 0 <;> simp
  · rw [BitVec.xor_assoc]
  · rw [BitVec.xor_assoc, BitVec.xor_comm (y >>> 1), ← BitVec.xor_assoc]
  · rw [xor_swap, BitVec.xor_self, BitVec.xor_zero]
theorem steps_xor : ∀ (n : Nat) (x y : B), stps n (x ^^^ y) = stps n x ^^^ stps n y
  | 0, _, _ => rfl
  | n + 1, x, y => by simp only [stps]; rw [step_xor, steps_xor n]
/-! ### a byte at a time -/
theorem step_low (y : B) (h : y.getLsbD 31 = false) : stp (y <<< 1) = y := by
  unfold stp
  have h0 : (y <<< 1).getLsbD 0 = false := by simp
  rw [h0]
  simp only [Bool.false_eq_true, if_false]
  apply BitVec.eq_of_getLsbD_eq; intro i hi
  rw [BitVec.getLsbD_ushiftRight, BitVec.getLsbD_shiftLeft]
  by_cases e : i = 31
  · subst e; simp; simpa [BitVec.getLsbD_eq_getElem] using h
  · have : 1 + i < 32 := by omega
    simp [this]
theorem steps_low : ∀ (n : Nat) (y : B), n ≤ 32 → (∀ i, 32 - n ≤ i → y.getLsbD i = false) → stps n (y <<< n) = y
  | 0, y, _, _ => by simp [stps]
  | n + 1, y, hn, h => by
    have e : y <<< (n + 1) = (y <<< n) <<< 1 := by rw [← BitVec.shiftLeft_add]
    simp only [stps]
    rw [e, step_low]
    · exact steps_low n y (by omega) (fun i hi => h i (by omega))
    · rw [BitVec.getLsbD_shiftLeft, h (31 - n) (by omega)]; simp
theorem parts (x : B) : x = (x &&& 255#32) ^^^ ((x >>> 8) <<< 8) := by
  apply BitVec.eq_of_getLsbD_eq; intro i hi
  rw [BitVec.getLsbD_xor, BitVec.getLsbD_and, BitVec.getLsbD_shiftLeft, BitVec.getLsbD_ushiftRight]
  have h255 : (255#32).getLsbD i = decide (i < 8) := by
    have : ∀ i : Fin 32, (255#32).getLsbD i.val = decide (i.val < 8) := by decide
    exact this ⟨i, hi⟩
  rw [h255]
  by_cases e : i < 8
  · simp [e, hi]
  · have : 8 + (i - 8) = i := by omega
    simp [e, hi, this]
/-- The table's way comes to eight steps. -/
theorem table_step (x c : B) : (x >>> 8) ^^^ stps 8 ((x &&& 255#32) ^^^ c) = stps 8 (x ^^^ c) := by
  have e : stps 8 ((x >>> 8) <<< 8) = x >>> 8 := steps_low 8 _ (by omega) (fun i hi => by
    rw [BitVec.getLsbD_ushiftRight]; exact BitVec.getLsbD_of_ge _ _ (by omega))
  have : x ^^^ c = ((x >>> 8) <<< 8) ^^^ ((x &&& 255#32) ^^^ c) := by
    rw [← BitVec.xor_assoc, BitVec.xor_comm ((x >>> 8) <<< 8), ← parts]
  rw [this, steps_xor 8 ((x >>> 8) <<< 8), e]

/-- All bytes, one behind the other. -/
def run (l : List B) (x : B) : B := l.foldl (fun x c => stps 8 (x ^^^ c)) x
/-- A row of 32 bits, as a number. -/
def T (x : B) : Int := (x.toNat : Int)
theorem T_bd (x : B) : 0 ≤ T x ∧ T x < 4294967296 := by unfold T; have := x.isLt; omega
theorem T_of {a : Int} (h0 : 0 ≤ a) (h1 : a < 4294967296) : a = T (BitVec.ofNat 32 a.toNat) := by
  unfold T
  rw [BitVec.toNat_ofNat, Nat.mod_eq_of_lt (by omega)]; omega
theorem bits_xor_nat (k : IntKind) (hk : ∀ n : Int, 0 ≤ n → n < 2 ^ k.bits → k.wrap n = n) (a b : Nat) (ha : a < 2 ^ k.bits) (hb : b < 2 ^ k.bits) : Go.bits .xor k a b = ((a ^^^ b : Nat) : Int) := by
  simp only [Go.bits, BitVec.ofInt_natCast, BitVec.toNat_xor, BitVec.toNat_ofNat, Nat.mod_eq_of_lt ha, Nat.mod_eq_of_lt hb]
  exact hk _ (Int.natCast_nonneg _) (by exact_mod_cast Nat.xor_lt_two_pow ha hb)
theorem wraps_u32 (n : Int) (h₀ : 0 ≤ n) (h₁ : n < 2 ^ 32) : IntKind.u32.wrap n = n := by rw [IntKind.wrap_u32]; omega
theorem wraps_u64 (n : Int) (h₀ : 0 ≤ n) (h₁ : n < 2 ^ 64) : IntKind.u64.wrap n = n := by rw [IntKind.wrap_u64]; omega
theorem wraps_u8' (n : Int) (h₀ : 0 ≤ n) (h₁ : n < 2 ^ 8) : IntKind.u8.wrap n = n := by rw [IntKind.wrap_u8]; omega
theorem xor32 (x y : B) : Go.bits .xor .u32 (T x) (T y) = T (x ^^^ y) := by
  unfold T; rw [BitVec.toNat_xor]; exact bits_xor_nat .u32 wraps_u32 _ _ x.isLt y.isLt
theorem xor64 (x y : B) : Go.bits .xor .u64 (T x) (T y) = T (x ^^^ y) := by
  unfold T; rw [BitVec.toNat_xor]
  exact bits_xor_nat .u64 wraps_u64 _ _ (Nat.lt_of_lt_of_le x.isLt (by decide)) (Nat.lt_of_lt_of_le y.isLt (by decide))
theorem and1_u32 (x : Int) (h0 : 0 ≤ x) (h1 : x < 4294967296) : Go.bits .and .u32 x 1 = x % 2 := by
  have := bits_mask .u32 32 (by decide) wraps_u32 1 (by decide) x h0 (by omega)
  simpa using this
theorem low (x : B) : T x % (2 : Int) = 1 ↔ x.getLsbD 0 = true := by
  unfold T
  rw [BitVec.getLsbD, Nat.testBit_zero, decide_eq_true_eq]; omega
theorem div_pow (x : B) (n : Nat) : T x / (2 : Int) ^ n = T (x >>> n) := by
  unfold T
  rw [BitVec.toNat_ushiftRight, Nat.shiftRight_eq_div_pow]; norm_cast
theorem div2 (x : B) : T x / (2 : Int) = T (x >>> 1) := div_pow x 1
theorem div256 (x : B) : T x / (256 : Int) = T (x >>> 8) := div_pow x 8
theorem mod256 (x : B) : T x % (256 : Int) = T (x &&& 255#32) := by
  unfold T
  rw [BitVec.toNat_and]
  have : (255#32).toNat = 2 ^ 8 - 1 := by decide
  rw [this, Nat.and_two_pow_sub_one_eq_mod]
  show _ = ((x.toNat % 256 : Nat) : Int)
  omega
theorem T_poly : (3988292384 : Int) = T poly := by decide +kernel

theorem step_T (x : B) : crc_step (T x) = T (stp x) := by
  unfold crc_step stp
  have hb := T_bd x
  rw [and1_u32 _ hb.1 hb.2, div2]
  by_cases h : x.getLsbD 0 = true
  · rw [if_pos (by rw [beq_iff_eq]; exact (low x).2 h), if_pos h, T_poly, xor32]
  · rw [if_neg (by rw [beq_iff_eq]; exact fun e => h ((low x).1 e)), if_neg h]
theorem steps_T : ∀ (n : Nat) (x : B), crc_steps n (T x) = T (stps n x)
  | 0, _ => rfl
  | n + 1, x => by simp only [crc_steps, stps]; rw [step_T, steps_T n]
theorem entry_T (i : Nat) (h : i < 4294967296) : crc_entry i = T (stps 8 (BitVec.ofNat 32 i)) := by
  unfold crc_entry
  have : (i : Int) = T (BitVec.ofNat 32 i) := by have := T_of (a := (i : Int)) (by omega) (by omega); simpa using this
  rw [this, steps_T]
/-- A byte, as a row of bits. -/
def byte (c : Int) : B := BitVec.ofNat 32 c.toNat
theorem T_byte {c : Int} (h0 : 0 ≤ c) (h1 : c ≤ 255) : T (byte c) = c := (T_of h0 (by omega)).symm
theorem next_T (x : B) (c : Int) (h0 : 0 ≤ c) (h1 : c ≤ 255) : crc_next (T x) c = T (stps 8 (x ^^^ byte c)) := by
  unfold crc_next
  have e8 : Go.bits .xor .u8 (T x % 256) c = T ((x &&& 255#32) ^^^ byte c) := by
    have h2 : (T x % 256) = (((x &&& 255#32).toNat : Nat) : Int) := mod256 x
    have h3 : c = ((byte c).toNat : Int) := (T_byte h0 h1).symm
    have h4 : (x &&& 255#32).toNat < 2 ^ 8 := by have := mod256 x; unfold T at this; omega
    have h5 : (byte c).toNat < 2 ^ 8 := by omega
    rw [h2]
    conv => lhs; rw [h3]
    unfold T; rw [BitVec.toNat_xor]
    exact bits_xor_nat .u8 wraps_u8' _ _ h4 h5
  have hlt : ((T ((x &&& 255#32) ^^^ byte c)).toNat) < 4294967296 := by have := T_bd ((x &&& 255#32) ^^^ byte c); omega
  rw [e8, entry_T _ hlt, div256, xor32]
  have : BitVec.ofNat 32 (T ((x &&& 255#32) ^^^ byte c)).toNat = (x &&& 255#32) ^^^ byte c := by
    unfold T; simp
  rw [this, table_step]
theorem not_T (x : B) : crc_not (T x) = T (~~~x) := by
  unfold crc_not
  have : IntKind.u32.max = T (BitVec.allOnes 32) := by decide
  rw [this, xor32, BitVec.allOnes_xor]
theorem not_sub (x : B) : 4294967295 - T x = T (~~~x) := by
  unfold T; rw [BitVec.toNat_not]; have := x.isLt; omega

theorem foldl_T : ∀ (l : List Int) (x : B), (∀ c ∈ l, 0 ≤ c ∧ c ≤ 255) → l.foldl crc_next (T x) = T (run (l.map byte) x)
  | [], _, _ => rfl
  | c :: l, x, h => by
    have hc := h c (by simp)
    simp only [List.foldl_cons, List.map_cons, run]
    rw [next_T x c hc.1 hc.2]
    exact foldl_T l _ (fun d hd => h d (by simp [hd]))
theorem more_T (s : B) (l : List Int) (h : ∀ c ∈ l, 0 ≤ c ∧ c ≤ 255) : crc_More.f (T s) l = some (T (~~~(run (l.map byte) (~~~s)))) := by
  unfold crc_More.f
  rw [not_T, foldl_T l _ h, not_T]
end Go.Proofs.YtchflhbpdnfopaaDoor.Q32


/- The sum of bytes and the text of a number at base 16: the pieces. -/
set_option linter.unusedVariables false
set_option linter.unusedSectionVars false
set_option linter.unusedSimpArgs false
namespace Go.Proofs.YtchflhbpdnfopaaDoor.Eng.U
open Go Go.RowKit Go.Proofs Go.Proofs.YtchflhbpdnfopaaDoor.Eng Go.Proofs.YtchflhbpdnfopaaDoor.Eng.Rdv Go.Proofs.YtchflhbpdnfopaaDoor.S32

/-- Bytes as numbers. -/
def nums (l : Tx) : List Int := l.map fun c => ((c.toNat : Nat) : Int)
def moreI (a : Int) (l : Tx) : Int := crc_not ((nums l).foldl crc_next (crc_not a))
def toB : List AV → Option Tx
  | [] => some []
  | .int .u8 n :: l => bif decide (0 ≤ n) && decide (n ≤ 255) then (toB l).map (UInt8.ofNat n.toNat :: ·) else none
  | _ => none
theorem toB_bys : ∀ l : Tx, toB (bys l) = some l
  | [] => rfl
  | c :: l => by
    have h := c.toNat_lt
    show (bif decide ((0 : Int) ≤ ((c.toNat : Nat) : Int)) && decide (((c.toNat : Nat) : Int) ≤ 255) then (toB (bys l)).map _ else none) = _
    rw [decide_eq_true (Int.natCast_nonneg _), decide_eq_true (by omega), toB_bys l]
    show some (UInt8.ofNat (Int.toNat ((c.toNat : Nat) : Int)) :: l) = _
    rw [Int.toNat_natCast, UInt8.ofNat_toNat]
theorem toB_inv : ∀ {xs : List AV} {l : Tx}, toB xs = some l → xs = bys l
  | [], l, h => by cases h; rfl
  | x :: xs, l, h => by
    unfold toB at h
    split at h
    · rename_i e; cases e
    · rename_i n l' e
      cases e
      obtain ⟨hc, h'⟩ := some_of_bif h
      simp only [Bool.and_eq_true, decide_eq_true_eq] at hc
      obtain ⟨r, hr, rfl⟩ := Option.map_eq_some_iff.1 h'
      rw [toB_inv hr]
      show _ = AV.int .u8 _ :: bys r
      have : ((UInt8.ofNat n.toNat).toNat : Int) = n := by
        rw [UInt8.toNat_ofNat']
        omega
      rw [this]
    · cases h
noncomputable def pMore : Piece := { f := crc_More, ans := fun args => match args with
  | [.int .u32 a, .list s xs] => (toB xs).bind fun l => bif (s == 1) && decide (l.length ≤ 1000000000) then some (.int .u32 (moreI a l)) else none
  | _ => none }
class HasCrc (E : Ext) : Prop where
  more : ∀ (k n : Nat) (a : Int) (l : Tx), l.length ≤ 1000000000 → kp E k n crc_More [.int .u32 a, .list 1 (bys l)] = some (.int .u32 (moreI a l))
theorem more_right : pMore.Right := by
  refine ⟨⟨Tryd.f16, Tryd.func16, by kernel_rfl, by kernel_rfl⟩, fun args res h => ?_⟩
  unfold pMore at h
  dsimp only at h
  split at h
  · rename_i a s xs
    obtain ⟨l, hl, h'⟩ := Option.bind_eq_some_iff.1 h
    clear h
    obtain ⟨hc, h⟩ := some_of_bif h'
    clear h'
    simp only [Bool.and_eq_true, beq_iff_eq, decide_eq_true_eq] at hc
    obtain ⟨rfl, hn⟩ := hc
    obtain rfl := Option.some.inj h
    obtain rfl := toB_inv hl
    refine ok_pure ⟨rfl, rfl⟩ fun S w vals hag hG hV => ?_
    obtain ⟨v, u, rfl, hv, hu⟩ := VL_2 hV
    obtain rfl := V_int hv
    have hr : ∃ A c, u = .slice A l.length c ∧ ReadsB w A (nums l) := by
      have hbl := bys_len l
      generalize hx : bys l = xs at hu
      cases hu with
      | list0 _ a c =>
        obtain rfl : l = [] := List.eq_nil_of_length_eq_zero (by rw [← hbl, hx]; rfl)
        exact ⟨_, _, rfl, .inl rfl⟩
      | listn _ =>
        obtain rfl : l = [] := List.eq_nil_of_length_eq_zero (by rw [← hbl, hx]; rfl)
        exact ⟨_, _, rfl, .inl rfl⟩
      | list _ _ a c f h0 h1 h2 h3 h4 =>
        rw [← hx, hbl]
        refine ⟨_, _, rfl, .inr ⟨a, rfl, fun j hj => ?_⟩⟩
        have hj' : j < l.length := by unfold nums at hj; rwa [List.length_map] at hj
        have hxj : xs[j]? = some (byteAV l[j]) := by rw [← hx]; unfold bys; rw [List.getElem?_map, List.getElem?_eq_getElem hj']; rfl
        have e3 := hag _ _ (h3 j _ 0 _ hxj rfl)
        have e4 := V_int (h4 j _ 0 _ hxj rfl)
        rw [Nat.mul_one, Nat.add_zero] at e3
        rw [e3, e4]
        unfold nums
        rw [List.getD_eq_getElem?_getD, List.getElem?_map, List.getElem?_eq_getElem hj']
        rfl
    obtain ⟨A, c, rfl, hr⟩ := hr
    have hlen : (nums l).length = l.length := by unfold nums; rw [List.length_map]
    have := crc_More.calls a A c (nums l) (moreI a l) w hr (by omega) rfl
    rw [hlen] at this
    refine this.mono ?_
    rintro e w' ⟨rfl, hb⟩
    exact ⟨_, rfl, fun S' => V.int _ _, hb⟩
  · cases h
end Go.Proofs.YtchflhbpdnfopaaDoor.Eng.U


/- internal/strconv.ParseUint at base 16 and 32 bits, eight bytes: walked (after the library's own walk at base 10). -/
set_option linter.unusedVariables false
set_option linter.unusedSimpArgs false
namespace Go.Proofs.YtchflhbpdnfopaaDoor.S32
open Go Go.RowKit Go.Proofs Go.Shelf

def lw (c : UInt8) : Int := Go.bits .or .u8 ((c.toNat : Nat) : Int) 32
def digC (c : UInt8) : Option Nat := if 48 ≤ c.toNat ∧ c.toNat ≤ 57 then some (c.toNat - 48) else if 97 ≤ lw c ∧ lw c ≤ 102 then some ((lw c).toNat - 87) else none
def goX : Nat → List UInt8 → Option Nat
  | acc, [] => some acc
  | acc, c :: l => match digC c with
    | some d => goX (acc * 16 + d) l
    | none => none
def endX : Option Nat → Value
  | some v => .tuple #[.int .u64 ((v : Nat) : Int), .nilIface]
  | none => .tuple #[.int .u64 0, .iface 89 (.int .i64 2)]
set_option maxHeartbeats 1000000 in
set_option maxRecDepth 100000 in
theorem lower_k (c : Int) (v : Int) (hv : Go.bits .or .u8 c 32 = v) (w : World) : Calls Tryd.prog 44 #[.int .u8 c] w fun e w' => e = .returned (.int .u8 v) ∧ w' = w := by
  go_enter Tryd.func44, Tryd.ntmps44
  go_wp2
  go_ret
  exact ⟨rfl, rfl⟩
set_option maxHeartbeats 32000000 in
set_option maxRecDepth 100000 in
theorem parse16_in (t : ByteArray) (h8 : t.size = 8) (w : World) :
    Calls Tryd.prog 31 #[.string t, .int .i64 16, .int .i64 32] w fun e w' => e = .returned (endX (goX 0 t.data.toList)) ∧ w' = Lib.bytesWorld w 5 t := by
  have hemp : t.toList.isEmpty = false := by
    rw [← decide_eq_emptyBytes]
    exact decide_eq_false (fun h => by rw [h] at h8; cases h8)
  have hcv := Lib.run_convert_string_bytes (P := Tryd.prog) w 9 35 5 t (u := .string) Tryd.underlying9 Tryd.underlying35 Tryd.underlying5
  have hB : ∀ j, j < t.size → (Lib.bytesWorld w 5 t).cell? ⟨w.heap.size, j, none⟩ = some (.int .u8 (t.data.toList.getD j 0).toNat) := fun j hj => Lib.bytesWorld_cell w 5 t j hj
  obtain ⟨W1, hW1⟩ : ∃ W1, W1 = Lib.bytesWorld w 5 t := ⟨_, rfl⟩
  rw [← hW1] at hcv hB ⊢
  clear hW1
  obtain ⟨bs, hL⟩ : ∃ bs, bs = t.data.toList := ⟨_, rfl⟩
  have hLn : bs.length = t.size := by rw [hL, Lib.size_eq]
  rw [← hL] at hB ⊢
  clear hL
  have hmv : IntKind.u64.wrap (IntKind.u64.wrap 4294967296 - 1) = 4294967295 := by
    rw [IntKind.wrap_u64, IntKind.wrap_u64]
    decide
  go_enter Tryd.func31, Tryd.ntmps31
  go_wp2
  go_loop [12, 13, 101] (fun vu vn vi => ∃ (k acc : Nat) (a : Int), vu = .bool false ∧ vn = .int .u64 a ∧ vi = .int .i64 k ∧ k ≤ t.size ∧ Hid (a = (acc : Int) ∧ acc < 16 ^ k ∧ goX 0 bs = goX acc (bs.drop k)))
    (fun _ _ vi => t.size - (RowKit.intOf vi).toNat)
  case atStart => exact ⟨0, 0, 0, rfl, rfl, rfl, by omega, Go.Lib.hid ⟨rfl, by simp, rfl⟩⟩
  case round =>
    obtain ⟨k, acc, a, rfl, rfl, rfl, hk, hh⟩ := hrel
    obtain ⟨ha, hacc, hdec⟩ := hh.out
    clear hh
    by_cases hkn : k < t.size
    · have hpow : acc < 268435456 := Nat.lt_of_lt_of_le hacc (show 16 ^ k ≤ 16 ^ 7 from Nat.pow_le_pow_right (by omega) (by omega))
      have a0 : 0 ≤ a := by omega
      have a1 : a ≤ 268435455 := by omega
      have hc := hB k hkn
      have hdrop : bs.drop k = bs[k]'(by omega) :: bs.drop (k + 1) := List.drop_eq_getElem_cons (by omega)
      have hget : bs.getD k 0 = bs[k]'(by omega) := by simp [List.getD, List.getElem?_eq_getElem (show k < bs.length by omega)]
      rw [hdrop] at hdec
      rw [hget] at hc
      generalize bs[k]'(by omega) = c at hc hdec
      have hc256 : c.toNat < 256 := c.toNat_lt
      clear hB hdrop hget
      have hnext : ∀ d, digC c = some d → goX acc (c :: bs.drop (k + 1)) = goX (acc * 16 + d) (bs.drop (k + 1)) := fun d hd => by simp only [goX, hd]
      have hbad : digC c = none → goX acc (c :: bs.drop (k + 1)) = none := fun hd => by simp only [goX, hd]
      have hps : ∀ d, d < 16 → acc * 16 + d < 16 ^ (k + 1) := fun d hd => by rw [Nat.pow_succ]; omega
      by_cases hdig : 48 ≤ c.toNat ∧ c.toNat ≤ 57
      · have hF := hnext (c.toNat - 48) (by unfold digC; rw [if_pos hdig])
        obtain ⟨hd0, hd1⟩ := hdig
        have HN : Hid (a * 16 + ((c.toNat : Int) - 48) = ((acc * 16 + (c.toNat - 48) : Nat) : Int) ∧ acc * 16 + (c.toNat - 48) < 16 ^ (k + 1) ∧ goX 0 bs = goX (acc * 16 + (c.toNat - 48)) (bs.drop (k + 1))) := Go.Lib.hid ⟨by omega, hps _ (by omega), hdec.trans hF⟩
        clear hacc hF hdec ha hnext hbad hps
        go_wp2
        refine ⟨⟨k + 1, acc * 16 + (c.toNat - 48), a * 16 + ((c.toNat : Int) - 48), rfl, (by first | rfl | (congr 1; omega)), (by first | rfl | (congr 1; omega)), by omega, HN⟩, by simp [RowKit.intOf]; omega⟩
      · obtain ⟨v, hv⟩ : ∃ v, Go.bits .or .u8 ((c.toNat : Nat) : Int) 32 = v := ⟨_, rfl⟩
        have hlw : lw c = v := hv
        have hv0 := bits_lo_u8 .or (c.toNat : Int) 32
        have hv1 := bits_hi_u8 .or (c.toNat : Int) 32
        rw [hv] at hv0 hv1
        have h95 : c.toNat = 95 → v = 127 := fun e => by rw [← hv, e]; decide +kernel
        by_cases hlet : 97 ≤ v ∧ v ≤ 102
        · have hF := hnext (v.toNat - 87) (by unfold digC; rw [if_neg hdig, hlw, if_pos hlet])
          obtain ⟨hd0, hd1⟩ := hlet
          have hn95 : c.toNat ≠ 95 := fun e => by have := h95 e; omega
          have HN : Hid (a * 16 + (v - 87) = ((acc * 16 + (v.toNat - 87) : Nat) : Int) ∧ acc * 16 + (v.toNat - 87) < 16 ^ (k + 1) ∧ goX 0 bs = goX (acc * 16 + (v.toNat - 87)) (bs.drop (k + 1))) := Go.Lib.hid ⟨by omega, hps _ (by omega), hdec.trans hF⟩
          have HV := Go.Lib.hid hv
          clear hacc hF hdec ha hnext hbad hps hv hlw h95
          go_wp2_with (go_at_call 44; refine (lower_k _ _ HV.out _).mono ?_; rintro e w' ⟨rfl, rfl⟩)
          all_goals exact ⟨⟨k + 1, acc * 16 + (v.toNat - 87), a * 16 + (v - 87), rfl, (by congr 1; omega), (by first | rfl | (congr 1; omega)), by omega, HN⟩, by simp [RowKit.intOf]; omega⟩
        · have hF := hbad (by unfold digC; rw [if_neg hdig, hlw, if_neg hlet])
          rw [hF] at hdec
          have HV := Go.Lib.hid hv
          have HD := Go.Lib.hid hdec
          clear hacc hF hdec ha hnext hbad hps hv hlw
          go_wp2_with (go_at_call 44; first | (refine (lower_k _ _ HV.out _).mono ?_; rintro e w' ⟨rfl, rfl⟩) | (refine (lower_k 95 127 (by decide +kernel) _).mono ?_; rintro e w' ⟨rfl, rfl⟩))
          all_goals go_ret2
          all_goals exact ⟨by rw [HD.out]; rfl, rfl⟩
    · have hkk : k = t.size := by omega
      subst hkk
      have hF : goX acc (bs.drop t.size) = some acc := by rw [List.drop_eq_nil_of_le (by omega)]; rfl
      rw [hF] at hdec
      subst ha
      have hpow : acc < 4294967296 := by rw [h8] at hacc; exact hacc
      clear hacc hF
      go_wp2
      go_ret2
      exact ⟨by first | rfl | (rw [hdec]; rfl), rfl⟩
set_option maxHeartbeats 4000000 in
set_option maxRecDepth 100000 in
theorem parse16 (t : ByteArray) (h8 : t.size = 8) (w : World) (ev : Value) (hv : w.cell? ⟨0, 0, none⟩ = some ev) (hev : ev = .nilIface ∨ ∃ te pe, ev = .iface te pe) :
    Calls Tryd.prog 20 #[.string t, .int .i64 16, .int .i64 32] w fun e w' => ((∃ v, goX 0 t.data.toList = some v ∧ e = .returned (.tuple #[.int .u64 ((v : Nat) : Int), .nilIface])) ∨ (goX 0 t.data.toList = none ∧ ∃ N, e = .returned (.tuple #[.int .u64 0, .iface 91 (.pointer (some ⟨N, 0, none⟩))]))) ∧ Below w.heap.size w w' := by
  have hb := Lib.bytesWorld_below w 5 t
  have hv1 : (Lib.bytesWorld w 5 t).cell? ⟨0, 0, none⟩ = some ev := (hb.cell (World.block_lt_of_cell? w _ hv)).trans hv
  have HB := Go.Lib.hid hb
  clear hb
  go_enter Tryd.func20, Tryd.ntmps20
  go_wp2_with fail
  refine (parse16_in t h8 _).mono ?_
  rintro e w1 ⟨rfl, rfl⟩
  cases hg : goX 0 t.data.toList with
  | some v =>
    unfold endX
    dsimp only
    go_wp2
    go_ret2
    exact ⟨.inl ⟨v, hg, rfl⟩, HB.out⟩
  | none =>
    unfold endX
    dsimp only
    go_wp2_with fail
    refine (Tryd.strconv_toError_syntax _ t 16 32 ev _ (by omega) hv1 hev).mono ?_
    rintro e w2 ⟨N, rfl, hN, hc, hb2⟩
    have HB2 := Go.Lib.hid hb2
    clear hb2
    go_wp2
    go_ret2
    exact ⟨.inr ⟨hg, N, rfl⟩, HB.out.trans (HB2.out.mono HB.out.size)⟩
end Go.Proofs.YtchflhbpdnfopaaDoor.S32


/- strconv.ParseUint at (10, 64) and, eight bytes, at (16, 32): one piece. -/
set_option linter.unusedVariables false
set_option linter.unusedSectionVars false
set_option linter.unusedSimpArgs false
namespace Go.Proofs.YtchflhbpdnfopaaDoor.Eng.U
open Go Go.RowKit Go.Proofs Go.Proofs.YtchflhbpdnfopaaDoor.Eng Go.Proofs.YtchflhbpdnfopaaDoor.Eng.Rdv Go.Proofs.YtchflhbpdnfopaaDoor.S32

def endXA : Option Nat → AV
  | some v => .tup [.int .u64 ((v : Nat) : Int), .nili]
  | none => .tup [.int .u64 0, .ifc]
noncomputable def pPUx : Piece := { f := strconv_ParseUint, ans := fun args => match args with
  | [.str s, .int .i64 b, .int .i64 z] => bif decide (b = 16) && decide (z = 32) && decide (s.size = 8) then some (endXA (goX 0 s.data.toList)) else pPUint.ans [.str s, .int .i64 b, .int .i64 z]
  | _ => none }
theorem pux_right : pPUx.Right := by
  refine ⟨⟨Tryd.f20, Tryd.func20, by kernel_rfl, by kernel_rfl⟩, fun args res h => ?_⟩
  unfold pPUx at h
  dsimp only at h
  split at h
  · rename_i s b z
    by_cases hc : (decide (b = 16) && decide (z = 32) && decide (s.size = 8)) = true
    · rw [hc, cond_true] at h
      simp only [Bool.and_eq_true, decide_eq_true_eq] at hc
      obtain ⟨⟨rfl, rfl⟩, h8⟩ := hc
      obtain rfl := Option.some.inj h
      cases he : goX 0 s.data.toList with
      | some v =>
        refine ok_tup rfl fun S w vals hag hG hV => ?_
        obtain ⟨v1, v2, v3, rfl, g1, g2, g3⟩ := VL_3 hV
        obtain rfl := V_str g1
        obtain rfl := V_int g2
        obtain rfl := V_int g3
        obtain ⟨t, u, hi⟩ := iface_of (g := 0) hag hG rfl
        refine (parse16 s h8 w _ hi (.inr ⟨_, _, rfl⟩)).mono ?_
        rintro e w' ⟨hx, hb⟩
        rcases hx with ⟨v', hv', rfl⟩ | ⟨hn, _⟩
        · rw [he] at hv'
          cases hv'
          exact ⟨[_, _], rfl, rfl, fun S' => V2 (V.int _ _) V.nili, hb⟩
        · rw [he] at hn
          cases hn
      | none =>
        refine ok_tup rfl fun S w vals hag hG hV => ?_
        obtain ⟨v1, v2, v3, rfl, g1, g2, g3⟩ := VL_3 hV
        obtain rfl := V_str g1
        obtain rfl := V_int g2
        obtain rfl := V_int g3
        obtain ⟨t, u, hi⟩ := iface_of (g := 0) hag hG rfl
        refine (parse16 s h8 w _ hi (.inr ⟨_, _, rfl⟩)).mono ?_
        rintro e w' ⟨hx, hb⟩
        rcases hx with ⟨v', hv', _⟩ | ⟨hn, N, rfl⟩
        · rw [he] at hv'
          cases hv'
        · exact ⟨[_, _], rfl, rfl, fun S' => V2 (V.int _ _) (V.ifc _ _), hb⟩
    · rw [Bool.not_eq_true] at hc
      rw [hc, cond_false] at h
      exact pUint_right.2 _ _ h
  · cases h
/-- ParseUint at 16, 32: eight bytes. -/
class HasHexP (E : Ext) : Prop where
  parse : ∀ (k n : Nat) (s : Tx), s.length = 8 → kp E k n strconv_ParseUint [.str (str s), .int .i64 16, .int .i64 32] = some (endXA (goX 0 s))
theorem hexp_of {ps : List Piece} (h : ps.find? (fun q => q.f == pPUx.f) = some pPUx) : HasHexP (extOf ps) where
  parse k n s hs := (kp_piece (k := k) (n := n) h).trans (by
    show (bif decide ((16 : Int) = 16) && decide ((32 : Int) = 32) && decide ((str s).size = 8) then some (endXA (goX 0 (str s).data.toList)) else _) = _
    rw [str_size, decide_eq_true hs]
    rfl)
theorem num_of16 {ps : List Piece} (h2 : ps.find? (fun q => q.f == pItoa.f) = some pItoa) (h5 : ps.find? (fun q => q.f == pIndex.f) = some pIndex) (h6 : ps.find? (fun q => q.f == pIndexByte.f) = some pIndexByte) (h9 : ps.find? (fun q => q.f == pPUx.f) = some pPUx) : HasNum (extOf ps) where
  itoa k n v g0 g1 := (kp_piece (k := k) (n := n) h2).trans (by
    show (bif decide (-9223372036854775808 ≤ v) && decide (v ≤ 9223372036854775807) then _ else none) = _
    rw [decide_eq_true g0, decide_eq_true g1]
    rfl)
  index k n s x := (kp_piece (k := k) (n := n) h5).trans rfl
  indexB k n s c := (kp_piece (k := k) (n := n) h6).trans rfl
  puint k n s g0 := (kp_piece (k := k) (n := n) h9).trans (by
    show pPUint.ans [.str (str s), .int .i64 10, .int .i64 64] = _
    show (bif decide ((10 : Int) = 10) && decide ((64 : Int) = 64) && decide ((str s).size ≤ 281474976710656) then _ else none) = _
    rw [str_size, decide_eq_true g0]
    rfl)
end Go.Proofs.YtchflhbpdnfopaaDoor.Eng.U


/- What functions answer, as the engine evaluates their code. Printed by gen2.py. -/
set_option linter.unusedVariables false
namespace Go.Proofs.YtchflhbpdnfopaaDoor.Eng.U
open Go Go.Proofs Go.Proofs.YtchflhbpdnfopaaDoor.Eng

end Go.Proofs.YtchflhbpdnfopaaDoor.Eng.U


/- Items' names in plain words: what a full name tells, a head's full names, how much a head is. -/
set_option linter.unusedVariables false
set_option linter.unusedSectionVars false
set_option linter.unusedSimpArgs false
namespace Go.Proofs.YtchflhbpdnfopaaDoor.Eng.U
open Go Go.Proofs Go.Proofs.YtchflhbpdnfopaaDoor.Eng
variable {E : Ext} [Core E] {k n : Nat}

/-- Does a text end in a slash? -/
def sl (s : List UInt8) : Bool := decide (s.getLast? = some 47)
def told (kind : Int) (s : List UInt8) : Int × List UInt8 :=
  if kind = 1 ∧ sl s = true then (if 1 < s.length then (6, s.dropLast) else (6, s))
  else if kind = 6 ∧ sl s = true ∧ 1 < s.length then (6, s.dropLast) else (kind, s)
end Go.Proofs.YtchflhbpdnfopaaDoor.Eng.U


/- ItemFulls, but for whether any field is wrong. -/
set_option linter.unusedVariables false
set_option linter.unusedSectionVars false
set_option linter.unusedSimpArgs false
namespace Go.Proofs.YtchflhbpdnfopaaDoor.Eng.U
open Go Go.Proofs Go.Proofs.YtchflhbpdnfopaaDoor.Eng
variable {E : Ext} [Core E] {k n : Nat}

end Go.Proofs.YtchflhbpdnfopaaDoor.Eng.U


/- What functions answer, as the engine evaluates their code. Printed by gen2.py. -/
set_option linter.unusedVariables false
namespace Go.Proofs.YtchflhbpdnfopaaDoor.Eng.U
open Go Go.Proofs Go.Proofs.YtchflhbpdnfopaaDoor.Eng
/- strings.ContainsAny -/
theorem strings_ContainsAny_eq {E : Ext} [Core E] (k n : Nat) (a0 : ByteArray) (a1 : ByteArray) : kp E k (n + 1) strings_ContainsAny [(.str a0), (.str a1)] =
  (callI .i64 (kp E k n strings_IndexAny [(.str a0), (.str a1)]) fun vn2 => (some (.bool (decide (vn2 ≥ (0 : Int)))))) := (kp_at (by kernel_rfl)).trans (by kernel_rfl)
/- strings.IndexAny -/
noncomputable def strings_IndexAny_bd : Code := Tryd.f29.body.getD .skip
noncomputable def strings_IndexAny_L0 (kap : FuncId → List AV → Option AV) (k : Nat) (k0 : Nat) (s1 : ByteArray) (i45s : ByteArray) (i45p : Nat) : Option AV :=
  loop (fun fr K => code ((bs E0 k).cfg kap strings_IndexAny) (sel strings_IndexAny_bd [1, 1, 1, 1, 0, 1, 0, 0]) fr K) (canon ((bs E0 k).cfg kap strings_IndexAny) (firstReg (sel strings_IndexAny_bd [1, 1, 1, 1, 0, 1, 0, 0]))) k0 (mkFr 55 [(1, (.str s1)), (45, (.itr 45))] [(45, (.it i45s i45p))]) (plug ((bs E0 k).cfg kap strings_IndexAny) (retK ((bs E0 k).cfg kap strings_IndexAny) [] Tryd.f29 [] some) [.blk 2, .seqR (sel strings_IndexAny_bd [1, 1, 1, 1, 1])])
theorem strings_IndexAny_L0_s (kap : FuncId → List AV → Option AV) (k : Nat) (k0 : Nat) (s1 : ByteArray) (i45s : ByteArray) (i45p : Nat) : strings_IndexAny_L0 kap k (k0 + 1) s1 i45s i45p =
  (bif (decide (i45p < (ByteArray.size i45s))) then (callI .i64 (kap strings_IndexRune [(.str s1), (.int .i32 (((Utf8.decode i45s i45p).1 : Nat) : Int))]) fun vn8 => (bif (decide (vn8 ≥ (0 : Int))) then (some (.int .i64 ((i45p : Nat) : Int))) else (strings_IndexAny_L0 kap k k0 s1 i45s (i45p + (Utf8.decode i45s i45p).2)))) else (some (.int .i64 (-1 : Int)))) := by kernel_rfl
theorem strings_IndexAny_eq {E : Ext} [Core E] (hB : E.isBase strings_IndexAny = false) (hF : E.fs.contains strings_IndexAny = true) (k n : Nat) (a0 : ByteArray) (a1 : ByteArray) : kp E k (n + 1) strings_IndexAny [(.str a0), (.str a1)] =
  (bif (decide (a1 = (str []))) then (some (.int .i64 (-1 : Int))) else (bif (decide ((((ByteArray.size a1) : Nat) : Int) = (1 : Int))) then (bif (decide ((0 : Int) < (((ByteArray.size a1) : Nat) : Int))) then (bif (decide ((IntKind.wrap .i32 (byteAt a1 0)) ≥ (128 : Int))) then (callI .i64 (kp E k n strings_IndexRune [(.str a0), (.int .i32 (65533 : Int))]) fun vn2 => (some (.int .i64 vn2))) else (callI .i64 (kp E k n strings_IndexRune [(.str a0), (.int .i32 (IntKind.wrap .i32 (byteAt a1 0)))]) fun vn4 => (some (.int .i64 vn4)))) else none) else (callB (kp E k n strings_shouldUseASCIISet [(.int .i64 (((ByteArray.size a0) : Nat) : Int))]) fun vq6 => (bif vq6 then (code ((bs E0 k).cfg (kp E k n) strings_IndexAny) (sel strings_IndexAny_bd [1, 1, 1, 0, 1, 0]) (mkFr 55 [(0, (.str a0)), (1, (.str a1)), (4, (.int .i64 (0 : Int))), (11, (.str a1)), (12, (.bool (decide (a1 = (str []))))), (13, (.str a1)), (14, (.int .i64 (((ByteArray.size a1) : Nat) : Int))), (15, (.bool (decide ((((ByteArray.size a1) : Nat) : Int) = (1 : Int))))), (24, (.str a0)), (25, (.int .i64 (((ByteArray.size a0) : Nat) : Int))), (26, (.bool vq6))] []) (plug ((bs E0 k).cfg (kp E k n) strings_IndexAny) (retK ((bs E0 k).cfg (kp E k n) strings_IndexAny) [] Tryd.f29 [] some) [.seqR (sel strings_IndexAny_bd [1, 1, 1, 1])])) else (strings_IndexAny_L0 (kp E k n) k k a1 a0 0))))) := (Base.kap_at (B := bs E k) hB hF _).trans (by kernel_rfl)
/- strings.IndexRune -/
noncomputable def strings_IndexRune_bd : Code := Tryd.f40.body.getD .skip
noncomputable def strings_IndexRune_L0 (kap : FuncId → List AV → Option AV) (k : Nat) (k0 : Nat) (i175s : ByteArray) (i175p : Nat) : Option AV :=
  loop (fun fr K => code ((bs E0 k).cfg kap strings_IndexRune) (sel strings_IndexRune_bd [1, 0, 1, 1, 1, 0, 0, 1, 0, 0]) fr K) (canon ((bs E0 k).cfg kap strings_IndexRune) (firstReg (sel strings_IndexRune_bd [1, 0, 1, 1, 1, 0, 0, 1, 0, 0]))) k0 (mkFr 187 [(175, (.itr 175))] [(175, (.it i175s i175p))]) (plug ((bs E0 k).cfg kap strings_IndexRune) (retK ((bs E0 k).cfg kap strings_IndexRune) [] Tryd.f40 [] some) [.blk 9, .seqR (sel strings_IndexRune_bd [1, 0, 1, 1, 1, 0, 1]), .blk 0])
noncomputable def strings_IndexRune_L1 (kap : FuncId → List AV → Option AV) (k : Nat) (k1 : Nat) (s0 : ByteArray) (s7 : ByteArray) (s8 : Int) (s9 : Int) : Option AV :=
  loop (fun fr K => code ((bs E0 k).cfg kap strings_IndexRune) (sel strings_IndexRune_bd [1, 0, 1, 1, 1, 1, 1, 1, 0, 1, 1, 1, 1, 0, 0, 0]) fr K) (canon ((bs E0 k).cfg kap strings_IndexRune) (firstReg (sel strings_IndexRune_bd [1, 0, 1, 1, 1, 1, 1, 1, 0, 1, 1, 1, 1, 0, 0, 0]))) k1 (mkFr 187 [(0, (.str s0)), (7, (.str s7)), (8, (.int .i64 s8)), (9, (.int .i64 s9))] []) (plug ((bs E0 k).cfg kap strings_IndexRune) (retK ((bs E0 k).cfg kap strings_IndexRune) [] Tryd.f40 [] some) [.blk 1, .seqR (sel strings_IndexRune_bd [1, 0, 1, 1, 1, 1, 1, 1, 0, 1, 1, 1, 1, 1]), .blk 0])
noncomputable def strings_IndexRune_L2 (kap : FuncId → List AV → Option AV) (k : Nat) (k1 : Nat) (k2 : Nat) (s0 : ByteArray) (s7 : ByteArray) (s8 : Int) (s9 : Int) (s12 : Int) : Option AV :=
  loop (fun fr K => code ((bs E0 k).cfg kap strings_IndexRune) (sel strings_IndexRune_bd [1, 0, 1, 1, 1, 1, 1, 1, 0, 1, 1, 1, 1, 0, 0, 0, 1, 0, 0, 1, 0, 1, 0, 0]) fr K) (canon ((bs E0 k).cfg kap strings_IndexRune) (firstReg (sel strings_IndexRune_bd [1, 0, 1, 1, 1, 1, 1, 1, 0, 1, 1, 1, 1, 0, 0, 0, 1, 0, 0, 1, 0, 1, 0, 0]))) k2 (mkFr 187 [(0, (.str s0)), (7, (.str s7)), (8, (.int .i64 s8)), (9, (.int .i64 s9)), (12, (.int .i64 s12))] []) (plug ((bs E0 k).cfg kap strings_IndexRune) (retK ((bs E0 k).cfg kap strings_IndexRune) [] Tryd.f40 [] some) [.blk 3, .seqR (sel strings_IndexRune_bd [1, 0, 1, 1, 1, 1, 1, 1, 0, 1, 1, 1, 1, 0, 0, 0, 1, 0, 0, 1, 1]), .blk 2, .lp (sel strings_IndexRune_bd [1, 0, 1, 1, 1, 1, 1, 1, 0, 1, 1, 1, 1, 0, 0, 0]) k1, .blk 1, .seqR (sel strings_IndexRune_bd [1, 0, 1, 1, 1, 1, 1, 1, 0, 1, 1, 1, 1, 1]), .blk 0])
theorem strings_IndexRune_L0_s (kap : FuncId → List AV → Option AV) (k : Nat) (k0 : Nat) (i175s : ByteArray) (i175p : Nat) : strings_IndexRune_L0 kap k (k0 + 1) i175s i175p =
  (bif (decide (i175p < (ByteArray.size i175s))) then (bif (decide ((((Utf8.decode i175s i175p).1 : Nat) : Int) = (65533 : Int))) then (some (.int .i64 ((i175p : Nat) : Int))) else (strings_IndexRune_L0 kap k k0 i175s (i175p + (Utf8.decode i175s i175p).2))) else (some (.int .i64 (-1 : Int)))) := by kernel_rfl
theorem strings_IndexRune_L1_s (kap : FuncId → List AV → Option AV) (k : Nat) (k1 : Nat) (s0 : ByteArray) (s7 : ByteArray) (s8 : Int) (s9 : Int) : strings_IndexRune_L1 kap k (k1 + 1) s0 s7 s8 s9 =
  (bif (decide (s9 < (((ByteArray.size s0) : Nat) : Int))) then (bif ((decide ((0 : Int) ≤ s9)) && (decide (s9 < (((ByteArray.size s0) : Nat) : Int)))) then (bif ((decide ((0 : Int) ≤ s8)) && (decide (s8 < (((ByteArray.size s7) : Nat) : Int)))) then (bif (!(decide ((byteAt s0 (Int.toNat s9)) = (byteAt s7 (Int.toNat s8))))) then (bif ((decide ((0 : Int) ≤ (IntKind.wrap .i64 (s9 + (1 : Int))))) && (decide ((IntKind.wrap .i64 (s9 + (1 : Int))) ≤ (((ByteArray.size s0) : Nat) : Int)))) then (bif ((decide ((0 : Int) ≤ s8)) && (decide (s8 < (((ByteArray.size s7) : Nat) : Int)))) then (callI .i64 (kap strings_IndexByte [(.str (ByteArray.extract s0 (Int.toNat (IntKind.wrap .i64 (s9 + (1 : Int)))) (ByteArray.size s0))), (.int .u8 (byteAt s7 (Int.toNat s8)))]) fun vn6 => (bif (decide (vn6 < (0 : Int))) then (some (.int .i64 (-1 : Int))) else (strings_IndexRune_L2 kap k k1 k s0 s7 s8 (IntKind.wrap .i64 (s9 + (IntKind.wrap .i64 (vn6 + (1 : Int))))) (1 : Int)))) else none) else none) else (strings_IndexRune_L2 kap k k1 k s0 s7 s8 s9 (1 : Int))) else none) else none) else (some (.int .i64 (-1 : Int)))) := by kernel_rfl
theorem strings_IndexRune_eq {E : Ext} [Core E] (k n : Nat) (a0 : ByteArray) (a1 : Int) : kp E k (n + 1) strings_IndexRune [(.str a0), (.int .i32 a1)] =
  (bif (decide ((0 : Int) ≤ a1)) then (bif (decide (a1 < (128 : Int))) then (callI .i64 (kp E k n strings_IndexByte [(.str a0), (.int .u8 (IntKind.wrap .u8 a1))]) fun vn2 => (some (.int .i64 vn2))) else (bif (decide (a1 = (65533 : Int))) then (strings_IndexRune_L0 (kp E k n) k k a0 0) else (callB (kp E k n unicode_utf8_ValidRune [(.int .i32 a1)]) fun vq4 => (bif (!vq4) then (some (.int .i64 (-1 : Int))) else (strings_IndexRune_L1 (kp E k n) k k a0 (Utf8.encode a1) (IntKind.wrap .i64 ((((ByteArray.size (Utf8.encode a1)) : Nat) : Int) - (1 : Int))) (IntKind.wrap .i64 ((((ByteArray.size (Utf8.encode a1)) : Nat) : Int) - (1 : Int)))))))) else (bif (decide (a1 = (65533 : Int))) then (strings_IndexRune_L0 (kp E k n) k k a0 0) else (callB (kp E k n unicode_utf8_ValidRune [(.int .i32 a1)]) fun vq8 => (bif (!vq8) then (some (.int .i64 (-1 : Int))) else (strings_IndexRune_L1 (kp E k n) k k a0 (Utf8.encode a1) (IntKind.wrap .i64 ((((ByteArray.size (Utf8.encode a1)) : Nat) : Int) - (1 : Int))) (IntKind.wrap .i64 ((((ByteArray.size (Utf8.encode a1)) : Nat) : Int) - (1 : Int)))))))) := (kp_at (by kernel_rfl)).trans (by kernel_rfl)
/- strings.shouldUseASCIISet -/
theorem strings_shouldUseASCIISet_eq {E : Ext} [Core E] (k n : Nat) (a0 : Int) : kp E k (n + 1) strings_shouldUseASCIISet [(.int .i64 a0)] =
  (some (.bool (decide (a0 > (8 : Int))))) := (kp_at (by kernel_rfl)).trans (by kernel_rfl)
/- unicode/utf8.ValidRune -/
theorem unicode_utf8_ValidRune_eq {E : Ext} [Core E] (k n : Nat) (a0 : Int) : kp E k (n + 1) unicode_utf8_ValidRune [(.int .i32 a0)] =
  (bif (decide ((0 : Int) ≤ a0)) then (bif (decide (a0 < (55296 : Int))) then (some (.bool true)) else (bif (decide ((57343 : Int) < a0)) then (bif (decide (a0 ≤ (1114111 : Int))) then (some (.bool true)) else (some (.bool false))) else (some (.bool false)))) else (bif (decide ((57343 : Int) < a0)) then (bif (decide (a0 ≤ (1114111 : Int))) then (some (.bool true)) else (some (.bool false))) else (some (.bool false)))) := (kp_at (by kernel_rfl)).trans (by kernel_rfl)
end Go.Proofs.YtchflhbpdnfopaaDoor.Eng.U


/- Is any field of a head wrong: some number answers, and 0 says what ItemFulls wants. -/
set_option linter.unusedVariables false
set_option linter.unusedSectionVars false
set_option linter.unusedSimpArgs false
namespace Go.Proofs.YtchflhbpdnfopaaDoor.Eng.U
open Go Go.Proofs Go.Proofs.YtchflhbpdnfopaaDoor.Eng Go.Proofs.YtchflhbpdnfopaaDoor.P04
variable {E : Ext} [Core E] [HasNum E] {k n : Nat}

class HasText (E : Ext) : Prop where
  dec : ∀ (k n : Nat) (s : List UInt8), ∃ r w : Int, kp E k n unicode_utf8_DecodeRuneInString [.str (str s)] = some (.tup [.int .i32 r, .int .i64 w])
  idx : ∀ (k n : Nat) (s : List UInt8), s.length ≤ 1000000 → ∃ i : Int, kp E k n strings_IndexAny [.str (str s), .str (str [61, 0])] = some (.int .i64 i)
def IsB (x : Option AV) : Prop := ∃ b : Bool, x = some (.bool b)
theorem isB_some (b : Bool) : IsB (some (.bool b)) := ⟨b, rfl⟩
theorem isB_bif {c : Bool} {a b : Option AV} (h1 : IsB a) (h2 : IsB b) : IsB (bif c then a else b) := by cases c <;> assumption
section
variable [HasText E]
theorem width_pos (s : ByteArray) (i : Nat) : 1 ≤ (Utf8.decode s i).2 := by
  rw [Lib.decode_at]
  unfold Lib.decodeN
  (repeat' split) <;> simp
end
end Go.Proofs.YtchflhbpdnfopaaDoor.Eng.U


/- strings.IndexAny at "=\x00" and a text of at most 8 bytes: some place. -/
set_option linter.unusedVariables false
set_option linter.unusedSectionVars false
set_option linter.unusedSimpArgs false
namespace Go.Proofs.YtchflhbpdnfopaaDoor.Eng.U
open Go Go.Proofs Go.Proofs.YtchflhbpdnfopaaDoor.Eng
variable {E : Ext} [Core E] {k n : Nat}

class HasIB (E : Ext) : Prop where
  indexB : ∀ (k n : Nat) (s : List UInt8) (c : Int), kp E k n strings_IndexByte [.str (str s), .int .u8 c] = some (.int .i64 (Lib.indexByte s c.toNat.toUInt8))
theorem valid_B (r : Int) : IsB (kp E k (n + 1) unicode_utf8_ValidRune [.int .i32 r]) := by
  rw [unicode_utf8_ValidRune_eq]
  repeat' first | exact isB_some _ | refine isB_bif ?_ ?_
end Go.Proofs.YtchflhbpdnfopaaDoor.Eng.U


/- What functions answer, as the engine evaluates their code. Printed by gen2.py. -/
set_option linter.unusedVariables false
namespace Go.Proofs.YtchflhbpdnfopaaDoor.Eng.U
open Go Go.Proofs Go.Proofs.YtchflhbpdnfopaaDoor.Eng
/- oakum/oakumref02.Unquote -/
noncomputable def ref02_Unquote_bd : Code := Tryd.f13.body.getD .skip
noncomputable def ref02_Unquote_L0 (kap : FuncId → List AV → Option AV) (k : Nat) (k0 : Nat) (s0 : ByteArray) (s5 : Int) (x4 : List AV) : Option AV :=
  loop (fun fr K => code ((bs E0 k).cfg kap ref02_Unquote) (sel ref02_Unquote_bd [1, 1, 1, 0, 0, 0]) fr K) (canon ((bs E0 k).cfg kap ref02_Unquote) (firstReg (sel ref02_Unquote_bd [1, 1, 1, 0, 0, 0]))) k0 (mkFr 66 [(0, (.str s0)), (4, (.own 4)), (5, (.int .i64 s5))] [(4, (.row 5 x4 false))]) (plug ((bs E0 k).cfg kap ref02_Unquote) (retK ((bs E0 k).cfg kap ref02_Unquote) [] Tryd.f13 [] some) [.blk 0, .seqR (sel ref02_Unquote_bd [1, 1, 1, 1])])
noncomputable def ref02_Unquote_L1 (kap : FuncId → List AV → Option AV) (k : Nat) (k0 : Nat) (k1 : Nat) (s0 : ByteArray) (s5 : Int) (s6 : Bool) (s7 : Int) (x4 : List AV) : Option AV :=
  loop (fun fr K => code ((bs E0 k).cfg kap ref02_Unquote) (sel ref02_Unquote_bd [1, 1, 1, 0, 0, 0, 1, 0, 1, 1, 0, 1, 0, 0]) fr K) (canon ((bs E0 k).cfg kap ref02_Unquote) (firstReg (sel ref02_Unquote_bd [1, 1, 1, 0, 0, 0, 1, 0, 1, 1, 0, 1, 0, 0]))) k1 (mkFr 66 [(0, (.str s0)), (4, (.own 4)), (5, (.int .i64 s5)), (6, (.bool s6)), (7, (.int .i64 s7))] [(4, (.row 5 x4 false))]) (plug ((bs E0 k).cfg kap ref02_Unquote) (retK ((bs E0 k).cfg kap ref02_Unquote) [] Tryd.f13 [] some) [.blk 2, .seqR (sel ref02_Unquote_bd [1, 1, 1, 0, 0, 0, 1, 0, 1, 1, 1]), .blk 1, .lp (sel ref02_Unquote_bd [1, 1, 1, 0, 0, 0]) k0, .blk 0, .seqR (sel ref02_Unquote_bd [1, 1, 1, 1])])
theorem ref02_Unquote_L0_s (kap : FuncId → List AV → Option AV) (k : Nat) (k0 : Nat) (s0 : ByteArray) (s5 : Int) (x4 : List AV) : ref02_Unquote_L0 kap k (k0 + 1) s0 s5 x4 =
  (bif (decide (s5 < (((ByteArray.size s0) : Nat) : Int))) then (bif ((decide ((0 : Int) ≤ s5)) && (decide (s5 < (((ByteArray.size s0) : Nat) : Int)))) then (callB (kap ref02_open [(.int .u8 (byteAt s0 (Int.toNat s5)))]) fun vq2 => (bif vq2 then (bif ((decide ((0 : Int) ≤ s5)) && (decide (s5 < (((ByteArray.size s0) : Nat) : Int)))) then (bif (decide (((List.length x4) + 1) * 1 ≤ 140737488355328) && decide (((List.length x4) + 1) ≤ 9223372036854775807)) then (ref02_Unquote_L0 kap k k0 s0 (IntKind.wrap .i64 (s5 + (1 : Int))) (x4 ++ [(.int .u8 (byteAt s0 (Int.toNat s5)))])) else none) else none) else (ref02_Unquote_L1 kap k k0 k s0 s5 false (0 : Int) x4))) else none) else ((toBytes x4).bind fun vl7 => (some (.tup [(.str (str vl7)), (.bool true)])))) := by kernel_rfl
theorem ref02_Unquote_L1_s (kap : FuncId → List AV → Option AV) (k : Nat) (k0 : Nat) (k1 : Nat) (s0 : ByteArray) (s5 : Int) (s6 : Bool) (s7 : Int) (x4 : List AV) : ref02_Unquote_L1 kap k k0 (k1 + 1) s0 s5 s6 s7 x4 =
  (bif (decide (s7 < (256 : Int))) then (bif (decide ((IntKind.wrap .i64 (s5 + (4 : Int))) ≤ (((ByteArray.size s0) : Nat) : Int))) then (bif (!s6) then (callB (kap ref02_open [(.int .u8 (IntKind.wrap .u8 s7))]) fun vq4 => (bif (!vq4) then (bif ((decide ((0 : Int) ≤ (IntKind.wrap .i64 (s5 + (4 : Int))))) && (decide ((IntKind.wrap .i64 (s5 + (4 : Int))) ≤ (((ByteArray.size s0) : Nat) : Int)))) then (bif ((decide ((0 : Int) ≤ s5)) && (decide (s5 ≤ (((Int.toNat (IntKind.wrap .i64 (s5 + (4 : Int)))) : Nat) : Int)))) then (callS (kap ref02_code [(.int .u8 (IntKind.wrap .u8 s7))]) fun vs6 => (bif (decide ((ByteArray.extract s0 (Int.toNat s5) (Int.toNat (IntKind.wrap .i64 (s5 + (4 : Int))))) = vs6)) then (bif (decide (((List.length x4) + 1) * 1 ≤ 140737488355328) && decide (((List.length x4) + 1) ≤ 9223372036854775807)) then (ref02_Unquote_L1 kap k k0 k1 s0 s5 true (IntKind.wrap .i64 (s7 + (1 : Int))) (x4 ++ [(.int .u8 (IntKind.wrap .u8 s7))])) else none) else (ref02_Unquote_L1 kap k k0 k1 s0 s5 s6 (IntKind.wrap .i64 (s7 + (1 : Int))) x4))) else none) else none) else (ref02_Unquote_L1 kap k k0 k1 s0 s5 s6 (IntKind.wrap .i64 (s7 + (1 : Int))) x4))) else (bif (!s6) then (some (.tup [(.str (str [])), (.bool false)])) else (ref02_Unquote_L0 kap k k0 s0 (IntKind.wrap .i64 (s5 + (4 : Int))) x4))) else (bif (!s6) then (some (.tup [(.str (str [])), (.bool false)])) else (ref02_Unquote_L0 kap k k0 s0 (IntKind.wrap .i64 (s5 + (4 : Int))) x4))) else (bif (!s6) then (some (.tup [(.str (str [])), (.bool false)])) else (ref02_Unquote_L0 kap k k0 s0 (IntKind.wrap .i64 (s5 + (4 : Int))) x4))) := by kernel_rfl
theorem ref02_Unquote_eq {E : Ext} [Core E] (k n : Nat) (a0 : ByteArray) : kp E k (n + 1) ref02_Unquote [(.str a0)] =
  (ref02_Unquote_L0 (kp E k n) k k a0 (0 : Int) []) := (kp_at (by kernel_rfl)).trans (by kernel_rfl)
/- oakum/oakumref02.open -/
theorem ref02_open_eq {E : Ext} [Core E] (k n : Nat) (a0 : Int) : kp E k (n + 1) ref02_open [(.int .u8 a0)] =
  (bif (decide (a0 ≥ (33 : Int))) then (bif (decide (a0 ≤ (126 : Int))) then (some (.bool (!(decide (a0 = (92 : Int)))))) else (some (.bool false))) else (some (.bool false))) := (kp_at (by kernel_rfl)).trans (by kernel_rfl)
/- oakum/oakumref02.code -/
theorem ref02_code_eq {E : Ext} [Core E] (k n : Nat) (a0 : Int) : kp E k (n + 1) ref02_code [(.int .u8 a0)] =
  ((toBytes [(.int .u8 (92 : Int)), (.int .u8 (IntKind.wrap .u8 ((48 : Int) + (IntKind.wrap .u8 (Int.tdiv a0 (64 : Int)))))), (.int .u8 (IntKind.wrap .u8 ((48 : Int) + (Int.tmod (IntKind.wrap .u8 (Int.tdiv a0 (8 : Int))) (8 : Int))))), (.int .u8 (IntKind.wrap .u8 ((48 : Int) + (Int.tmod a0 (8 : Int)))))]).bind fun vl1 => (some (.str (str vl1)))) := (kp_at (by kernel_rfl)).trans (by kernel_rfl)
end Go.Proofs.YtchflhbpdnfopaaDoor.Eng.U


/- The Utf laws in plain words, part 1: how many bytes stand for a code point. -/
set_option linter.unusedVariables false
set_option linter.unusedSimpArgs false
namespace Go.Proofs.YtchflhbpdnfopaaDoor.Eng.U
open Go Go.Proofs Go.Proofs.YtchflhbpdnfopaaDoor.Eng Go.Lib
variable {kap : FuncId → List AV → Option AV} {E : Ext} [Core E] {n : Nat}
def goDec (s : ByteArray) : Nat × Nat := if s.size = 0 then (65533, 0) else Utf8.decode s 0

def by_ (s : ByteArray) (i : Nat) : Nat := (s.data.toList.getD i 0).toNat
theorem get_by (s : ByteArray) (i : Nat) : (s.get! i).toNat = by_ s i := by
  unfold by_
  congr 1
  simp [ByteArray.get!, List.getD_eq_getElem?_getD, Array.getElem!_eq_getD, Array.getD_eq_getD_getElem?]
  rfl
theorem i64w {x : Int} (h : -9223372036854775808 ≤ x ∧ x ≤ 9223372036854775807) : IntKind.wrap .i64 x = x := IntWalk.i64_in x h

end Go.Proofs.YtchflhbpdnfopaaDoor.Eng.U


/- The Utf laws in plain words, part 2: the size of a code point is what the decoder says. -/
set_option linter.unusedVariables false
set_option linter.unusedSimpArgs false
namespace Go.Proofs.YtchflhbpdnfopaaDoor.Eng.U
open Go Go.Proofs Go.Proofs.YtchflhbpdnfopaaDoor.Eng Go.Lib
variable {kap : FuncId → List AV → Option AV} {E : Ext} [Core E] {n : Nat}

end Go.Proofs.YtchflhbpdnfopaaDoor.Eng.U


/- The Utf laws in plain words, part 3: the functions that go through a text. -/
set_option linter.unusedVariables false
set_option linter.unusedSimpArgs false
namespace Go.Proofs.YtchflhbpdnfopaaDoor.Eng.U
open Go Go.Proofs Go.Proofs.YtchflhbpdnfopaaDoor.Eng Go.Lib
variable {kap : FuncId → List AV → Option AV} {E : Ext} [Core E] {n : Nat}

/-- Is the byte at a place no part of a code point? -/
def bad (s : ByteArray) (i : Nat) : Prop := Utf8.decode s i = (65533, 1)
instance (s : ByteArray) (i : Nat) : Decidable (bad s i) := inferInstanceAs (Decidable (_ = _))
/-- The place behind what stands at a place. -/
def nx (s : ByteArray) (i : Nat) : Nat := i + (Utf8.decode s i).2
/-- The place of the first byte that is no part of a code point; -1: there is none. -/
def firstL (s : ByteArray) : Nat → Nat → Int
  | 0, _ => -1
  | n + 1, pos => if pos < s.size then (if bad s pos then (pos : Int) else firstL s n (nx s pos)) else -1
def first (s : ByteArray) : Int := firstL s s.size 0
end Go.Proofs.YtchflhbpdnfopaaDoor.Eng.U


/- Which texts hold = or a nought, told exactly. -/
set_option linter.unusedVariables false
set_option linter.unusedSectionVars false
set_option linter.unusedSimpArgs false
namespace Go.Proofs.YtchflhbpdnfopaaDoor.Eng.U
open Go Go.Proofs Go.Proofs.YtchflhbpdnfopaaDoor.Eng
variable {E : Ext} [Core E] {k n : Nat}

def noEq (s : List UInt8) : Bool := s.all fun c => decide (c ≠ 61) && decide (c ≠ 0)
theorem dec_low (s : ByteArray) (i : Nat) (h : by_ s i < 128) : Utf8.decode s i = (by_ s i, 1) := by
  rw [Lib.decode_at, get_by, get_by, get_by, get_by]
  unfold Lib.decodeN
  rw [if_pos h]
theorem dec_wide (s : ByteArray) (i : Nat) (h : 128 ≤ by_ s i) : 128 ≤ (Utf8.decode s i).1 ∧ ∀ j, j < (Utf8.decode s i).2 → 128 ≤ by_ s (i + j) := by
  rw [Lib.decode_at, get_by, get_by, get_by, get_by]
  unfold Lib.decodeN
  rw [if_neg (by omega)]
  have key : ∀ (c w : Nat), 128 ≤ c → (w ≤ 4) → (1 < w → 128 ≤ by_ s (i + 1)) → (2 < w → 128 ≤ by_ s (i + 2)) → (3 < w → 128 ≤ by_ s (i + 3)) → 128 ≤ ((c, w) : Nat × Nat).1 ∧ ∀ j, j < ((c, w) : Nat × Nat).2 → 128 ≤ by_ s (i + j) := by
    intro c w hc hw h1 h2 h3
    refine ⟨hc, fun j hj => ?_⟩
    have hj : j < w := hj
    have : j = 0 ∨ j = 1 ∨ j = 2 ∨ j = 3 := by omega
    rcases this with rfl | rfl | rfl | rfl
    · exact h
    · exact h1 (by omega)
    · exact h2 (by omega)
    · exact h3 (by omega)
  repeat' split
  all_goals exact key _ _ (by omega) (by omega) (by omega) (by omega) (by omega)
class HasTextV (E : Ext) : Prop where
  dec : ∀ (k n : Nat) (s : ByteArray), kp E k n unicode_utf8_DecodeRuneInString [.str s] = some (.tup [.int .i32 ((goDec s).1 : Int), .int .i64 ((goDec s).2 : Int)])
  idx : ∀ (k n : Nat) (s : List UInt8), s.length ≤ 1000000 → ∃ i : Int, kp E k n strings_IndexAny [.str (str s), .str (str [61, 0])] = some (.int .i64 i) ∧ decide (i ≥ 0) = !noEq s
end Go.Proofs.YtchflhbpdnfopaaDoor.Eng.U


/- The functions of the Dec laws in plain words, part 4: the document's own reading of a time. -/
set_option linter.unusedVariables false
set_option linter.unusedSectionVars false
set_option linter.unusedSimpArgs false
namespace Go.Proofs.YtchflhbpdnfopaaDoor.Eng.U
open Go Go.Proofs Go.Proofs.YtchflhbpdnfopaaDoor.Eng Go.Proofs.YtchflhbpdnfopaaDoor.P04
variable {E : Ext} [Core E] {k n : Nat}

end Go.Proofs.YtchflhbpdnfopaaDoor.Eng.U


/- What a pair of a record is: both sides in plain words. -/
set_option linter.unusedVariables false
set_option linter.unusedSectionVars false
set_option linter.unusedSimpArgs false
namespace Go.Proofs.YtchflhbpdnfopaaDoor.Eng.U
open Go Go.Proofs Go.Proofs.YtchflhbpdnfopaaDoor.Eng Go.Proofs.YtchflhbpdnfopaaDoor.P04
variable {E : Ext} [Core E] [HasNum E] {k n : Nat}

def utfOk (l : List UInt8) : Bool := decide (first (str l) < 0)
section
variable [HasTextV E]
end
def clean (s : List UInt8) : Bool := s.all fun c => decide (c ≠ 0)
def whichL (key : List UInt8) : Int :=
  if key = [112, 97, 116, 104] then 0 else if key = [108, 105, 110, 107, 112, 97, 116, 104] then 1 else if key = [117, 110, 97, 109, 101] then 2 else if key = [103, 110, 97, 109, 101] then 3 else if key = [117, 105, 100] then 4 else if key = [103, 105, 100] then 5 else if key = [115, 105, 122, 101] then 6 else if key = [109, 116, 105, 109, 101] then 7 else -1
def numOk (s : List UInt8) : Bool := natOk s && decide (valA 0 s ≤ 9223372036854775807)
def valR (key s : List UInt8) : Bool :=
  if s = [] then true else if whichL key < 0 then true else if whichL key < 4 then clean s else if whichL key < 7 then numOk s else (timeL s).isSome
def pairOk (p : Pair) : Bool := decide (p.key ≠ []) && (utfOk p.key && (noEq p.key && (utfOk p.val && valR p.key p.val)))
end Go.Proofs.YtchflhbpdnfopaaDoor.Eng.U


/- How many bytes a record has: both sides. -/
set_option linter.unusedVariables false
set_option linter.unusedSectionVars false
set_option linter.unusedSimpArgs false
namespace Go.Proofs.YtchflhbpdnfopaaDoor.Eng.U
open Go Go.Proofs Go.Proofs.YtchflhbpdnfopaaDoor.Eng Go.Proofs.YtchflhbpdnfopaaDoor.P04
variable {E : Ext} [Core E] [HasNum E] {k n : Nat}

end Go.Proofs.YtchflhbpdnfopaaDoor.Eng.U


/- What is printed is read, in plain Lean. -/
set_option linter.unusedVariables false
set_option linter.unusedSimpArgs false
namespace Go.Proofs.YtchflhbpdnfopaaDoor.P04
open Go

/-! No fewer bytes. -/
end Go.Proofs.YtchflhbpdnfopaaDoor.P04


/- Which bytes are records: in plain words. -/
set_option linter.unusedVariables false
set_option linter.unusedSectionVars false
set_option linter.unusedSimpArgs false
namespace Go.Proofs.YtchflhbpdnfopaaDoor.Eng.U
open Go Go.Proofs Go.Proofs.YtchflhbpdnfopaaDoor.Eng Go.Proofs.YtchflhbpdnfopaaDoor.P04

def upto (c : UInt8) (l : Tx) : Tx := l.takeWhile fun x => decide (x ≠ c)
theorem upto_hit (c : UInt8) (l : Tx) : upto c (c :: l) = [] := by simp [upto]
theorem upto_cons {c x : UInt8} (h : x ≠ c) (l : Tx) : upto c (x :: l) = x :: upto c l := by simp [upto, h]
theorem upto_le (c : UInt8) : ∀ l : Tx, (upto c l).length ≤ l.length
  | [] => Nat.le_refl _
  | x :: l => by
    have := upto_le c l
    by_cases h : x = c
    · subst h; rw [upto_hit]; simp
    · rw [upto_cons h]; simp only [List.length_cons]; omega
theorem upto_take (c : UInt8) : ∀ l : Tx, l.take (upto c l).length = upto c l
  | [] => rfl
  | x :: l => by
    by_cases h : x = c
    · subst h; rw [upto_hit]; rfl
    · rw [upto_cons h, List.length_cons, List.take_succ_cons, upto_take c l]
end Go.Proofs.YtchflhbpdnfopaaDoor.Eng.U


/- Records, both sides: printed and parsed. -/
set_option linter.unusedVariables false
set_option linter.unusedSectionVars false
set_option linter.unusedSimpArgs false
namespace Go.Proofs.YtchflhbpdnfopaaDoor.Eng.U
open Go Go.Proofs Go.Proofs.YtchflhbpdnfopaaDoor.Eng Go.Proofs.YtchflhbpdnfopaaDoor.P04
variable {E : Ext} [Core E] [HasNum E] {k n : Nat}

def lenAV : Option (Nat × Nat) → AV
  | none => .tup [.int .i64 0, .int .i64 0, .bool false]
  | some x => .tup [.int .i64 (x.1 : Int), .int .i64 (x.2 : Int), .bool true]
theorem index_upto (x : UInt8) : ∀ l : Tx, Lib.indexByte l x = if (upto x l).length < l.length then ((upto x l).length : Int) else -1
  | [] => rfl
  | c :: l => by
    have ih := index_upto x l
    unfold Lib.indexByte
    by_cases hc : c = x
    · subst hc
      rw [upto_hit, if_pos (by simp)]
      simp
    · have h1 : (c == x) = false := by simpa using hc
      have hl := upto_le x l
      rw [upto_cons hc, List.length_cons, List.length_cons, h1]
      simp only [Bool.false_eq_true, if_false]
      rw [ih]
      by_cases h : (upto x l).length < l.length
      · rw [if_pos h, if_pos (show (upto x l).length + 1 < l.length + 1 by omega)]
        rw [if_neg (by simp)]
        omega
      · rw [if_neg h, if_neg (show ¬ (upto x l).length + 1 < l.length + 1 by omega)]
        rfl
end Go.Proofs.YtchflhbpdnfopaaDoor.Eng.U


/- Texts quoted and unquoted, in plain words. No program. -/
set_option linter.unusedVariables false
set_option linter.unusedSimpArgs false
namespace Go.Proofs.YtchflhbpdnfopaaDoor.Eng.U
open Go Go.Proofs Go.Proofs.YtchflhbpdnfopaaDoor.Eng

/-- May a byte stand as it is? -/
def openB (c : UInt8) : Bool := decide (32 < c.toNat) && decide (c.toNat < 127) && decide (c ≠ 92)
def qByte (c : UInt8) : List UInt8 := if openB c = true then [c] else [92, UInt8.ofNat (48 + c.toNat / 64), UInt8.ofNat (48 + c.toNat / 8 % 8), UInt8.ofNat (48 + c.toNat % 8)]
theorem ofNat_oct (d : Nat) (h : d < 8) : (UInt8.ofNat (48 + d)).toNat = 48 + d := by rw [UInt8.toNat_ofNat']; omega
def octB (c : UInt8) : Bool := decide (48 ≤ c.toNat) && decide (c.toNat ≤ 55)
def octV (a b d : UInt8) : Nat := (a.toNat - 48) * 64 + (b.toNat - 48) * 8 + (d.toNat - 48)
/-- The byte that three digits stand for, if it wants to be told so. -/
def octQ (a b d : UInt8) : Option UInt8 := if (decide (a.toNat ≤ 51) && octB a && octB b && octB d && !openB (UInt8.ofNat (octV a b d))) = true then some (UInt8.ofNat (octV a b d)) else none
def unq1 : List UInt8 → Option UInt8
  | c :: a :: b :: d :: _ => if c = 92 then octQ a b d else none
  | _ => none
def unqL : Nat → List UInt8 → Option (List UInt8)
  | _, [] => some []
  | 0, _ :: _ => none
  | f + 1, c :: r => if openB c = true then (unqL f r).map (c :: ·) else match unq1 (c :: r) with
    | none => none
    | some x => (unqL f (r.drop 3)).map (x :: ·)
theorem octQ_some {a b d x : UInt8} (h : octQ a b d = some x) : openB x = false ∧ qByte x = [92, a, b, d] := by
  unfold octQ at h
  split at h
  · rename_i hc
    obtain rfl := Option.some.inj h
    simp only [Bool.and_eq_true, decide_eq_true_eq, Bool.not_eq_true', octB] at hc
    obtain ⟨⟨⟨⟨h1, h2⟩, h3⟩, h4⟩, h5⟩ := hc
    refine ⟨h5, ?_⟩
    unfold qByte
    rw [if_neg (by rw [h5]; simp)]
    have hv : (UInt8.ofNat (octV a b d)).toNat = octV a b d := by rw [UInt8.toNat_ofNat']; unfold octV; omega
    rw [hv]
    have e1 : UInt8.ofNat (48 + octV a b d / 64) = a := UInt8.toNat_inj.1 (by rw [UInt8.toNat_ofNat']; unfold octV; omega)
    have e2 : UInt8.ofNat (48 + octV a b d / 8 % 8) = b := UInt8.toNat_inj.1 (by rw [UInt8.toNat_ofNat']; unfold octV; omega)
    have e3 : UInt8.ofNat (48 + octV a b d % 8) = d := UInt8.toNat_inj.1 (by rw [UInt8.toNat_ofNat']; unfold octV; omega)
    rw [e1, e2, e3]
  · cases h
theorem octQ_code {c : UInt8} (h : openB c = false) : octQ (UInt8.ofNat (48 + c.toNat / 64)) (UInt8.ofNat (48 + c.toNat / 8 % 8)) (UInt8.ofNat (48 + c.toNat % 8)) = some c := by
  have hc : c.toNat < 256 := c.toNat_lt
  have e1 := ofNat_oct (c.toNat / 64) (by omega)
  have e2 := ofNat_oct (c.toNat / 8 % 8) (by omega)
  have e3 := ofNat_oct (c.toNat % 8) (by omega)
  have hv : octV (UInt8.ofNat (48 + c.toNat / 64)) (UInt8.ofNat (48 + c.toNat / 8 % 8)) (UInt8.ofNat (48 + c.toNat % 8)) = c.toNat := by unfold octV; rw [e1, e2, e3]; omega
  unfold octQ
  rw [hv, UInt8.ofNat_toNat, if_pos]
  simp only [Bool.and_eq_true, decide_eq_true_eq, Bool.not_eq_true', octB, e1, e2, e3]
  refine ⟨?_, h⟩
  omega
theorem qByte_shut {c : UInt8} (h : openB c = false) : qByte c = [92, UInt8.ofNat (48 + c.toNat / 64), UInt8.ofNat (48 + c.toNat / 8 % 8), UInt8.ofNat (48 + c.toNat % 8)] := by unfold qByte; rw [if_neg (by rw [h]; simp)]
end Go.Proofs.YtchflhbpdnfopaaDoor.Eng.U


/- Words between a byte: plain. -/
set_option linter.unusedVariables false
namespace Go.Proofs.YtchflhbpdnfopaaDoor.Eng.U
open Go Go.Proofs Go.Proofs.YtchflhbpdnfopaaDoor.Eng

/-- The parts of a text between a byte. -/
def splitL (c : UInt8) : Tx → List Tx
  | [] => [[]]
  | b :: l => if b = c then [] :: splitL c l else (b :: (splitL c l).headD []) :: (splitL c l).tail
def countL (c : UInt8) : Tx → Nat
  | [] => 0
  | b :: l => if b = c then countL c l + 1 else countL c l
theorem split_cons (c b : UInt8) (l : Tx) : splitL c (b :: l) = if b = c then [] :: splitL c l else (b :: (splitL c l).headD []) :: (splitL c l).tail := rfl
theorem count_cons (c b : UInt8) (l : Tx) : countL c (b :: l) = if b = c then countL c l + 1 else countL c l := rfl
theorem split_len (c : UInt8) : ∀ l : Tx, (splitL c l).length = countL c l + 1
  | [] => rfl
  | b :: l => by
    have ih := split_len c l
    rw [split_cons, count_cons]
    by_cases h : b = c
    · rw [if_pos h, if_pos h, List.length_cons, ih]
    · rw [if_neg h, if_neg h, List.length_cons, List.length_tail, ih]
      omega
theorem count_le (c : UInt8) : ∀ l : Tx, countL c l ≤ l.length
  | [] => Nat.le_refl _
  | b :: l => by
    have ih := count_le c l
    rw [count_cons, List.length_cons]
    split <;> omega
/-- The first part, and those behind it. -/
theorem split_upto (c : UInt8) : ∀ l : Tx, splitL c l = if (upto c l).length < l.length then upto c l :: splitL c (l.drop ((upto c l).length + 1)) else [l]
  | [] => rfl
  | b :: l => by
    have ih := split_upto c l
    rw [split_cons]
    by_cases h : b = c
    · subst h
      rw [if_pos rfl, upto_hit, if_pos (by simp)]
      simp
    · rw [if_neg h, upto_cons h, List.length_cons, List.length_cons, ih]
      by_cases hu : (upto c l).length < l.length
      · rw [if_pos hu, if_pos (by omega)]
        simp
      · rw [if_neg hu, if_neg (by omega)]
        simp
theorem count_upto (c : UInt8) (l : Tx) : countL c l = if (upto c l).length < l.length then countL c (l.drop ((upto c l).length + 1)) + 1 else 0 := by
  have h1 := split_len c l
  have h2 := split_upto c l
  by_cases hu : (upto c l).length < l.length
  · rw [if_pos hu] at h2 ⊢
    have h3 := split_len c (l.drop ((upto c l).length + 1))
    rw [h2, List.length_cons] at h1
    omega
  · rw [if_neg hu] at h2 ⊢
    rw [h2] at h1
    simpa using h1.symm
end Go.Proofs.YtchflhbpdnfopaaDoor.Eng.U


/- What functions answer, as the engine evaluates their code. Printed by gen2.py. -/
set_option linter.unusedVariables false
namespace Go.Proofs.YtchflhbpdnfopaaDoor.Eng.U
open Go Go.Proofs Go.Proofs.YtchflhbpdnfopaaDoor.Eng
/- oakum/oakumlaw17.Many -/
noncomputable def law17_Many_bd : Code := Tryd.f5.body.getD .skip
noncomputable def law17_Many_L0 (kap : FuncId → List AV → Option AV) (k : Nat) (k0 : Nat) (s0 : List AV) (s3 : Int) (s4 : Int) : Option AV :=
  loop (fun fr K => code ((bs E0 k).cfg kap law17_Many) (sel law17_Many_bd [1, 1, 0, 1, 0, 0]) fr K) (canon ((bs E0 k).cfg kap law17_Many) (firstReg (sel law17_Many_bd [1, 1, 0, 1, 0, 0]))) k0 (mkFr 77 [(0, (.list 15 s0)), (3, (.int .i64 s3)), (4, (.int .i64 s4))] []) (plug ((bs E0 k).cfg kap law17_Many) (retK ((bs E0 k).cfg kap law17_Many) [] Tryd.f5 [] some) [.blk 0, .seqR (sel law17_Many_bd [1, 1, 1])])
noncomputable def law17_Many_L1 (kap : FuncId → List AV → Option AV) (k : Nat) (k0 : Nat) (k1 : Nat) (s0 : List AV) (s3 : Int) (s4 : Int) (s6 : Int) (b5_0 : Int) (b5_1 : ByteArray) (b5_2 : ByteArray) (b5_3 : Int) (b5_4 : Int) (b5_5 : Int) (b5_6 : Int) (b5_7 : Int) (b5_8 : Int) (b5_9 : ByteArray) (b5_10 : ByteArray) (b5_11 : Int) (b5_12 : Int) (b5_13 : List AV) : Option AV :=
  loop (fun fr K => code ((bs E0 k).cfg kap law17_Many) (sel law17_Many_bd [1, 1, 0, 1, 0, 0, 1, 0, 0, 1, 1, 0, 1, 0, 0]) fr K) (canon ((bs E0 k).cfg kap law17_Many) (firstReg (sel law17_Many_bd [1, 1, 0, 1, 0, 0, 1, 0, 0, 1, 1, 0, 1, 0, 0]))) k1 (mkFr 77 [(0, (.list 15 s0)), (3, (.int .i64 s3)), (4, (.int .i64 s4)), (5, (.loc 5 0)), (6, (.int .i64 s6))] [(5, (.box [(.int .i64 b5_0), (.str b5_1), (.str b5_2), (.int .i64 b5_3), (.int .i64 b5_4), (.int .i64 b5_5), (.int .i64 b5_6), (.int .i64 b5_7), (.int .i64 b5_8), (.str b5_9), (.str b5_10), (.int .i64 b5_11), (.int .i64 b5_12), (.list 2 b5_13)]))]) (plug ((bs E0 k).cfg kap law17_Many) (retK ((bs E0 k).cfg kap law17_Many) [] Tryd.f5 [] some) [.blk 2, .seqR (sel law17_Many_bd [1, 1, 0, 1, 0, 0, 1, 0, 0, 1, 1, 1]), .blk 1, .seqR (sel law17_Many_bd [1, 1, 0, 1, 0, 0, 1, 1]), .lp (sel law17_Many_bd [1, 1, 0, 1, 0, 0]) k0, .blk 0, .seqR (sel law17_Many_bd [1, 1, 1])])
theorem law17_Many_L0_s (kap : FuncId → List AV → Option AV) (k : Nat) (k0 : Nat) (s0 : List AV) (s3 : Int) (s4 : Int) : law17_Many_L0 kap k (k0 + 1) s0 s3 s4 =
  (bif (decide (s4 < (((List.length s0) : Nat) : Int))) then (bif ((decide ((0 : Int) ≤ s4)) && (decide (s4 < (((List.length s0) : Nat) : Int)))) then ((s0[(Int.toNat s4)]?).bind fun vy1 => (cellI .i64 (AV.cells vy1) 0 fun vn2 => (cellS (AV.cells vy1) 1 fun vs3 => (cellS (AV.cells vy1) 2 fun vs4 => (cellI .i64 (AV.cells vy1) 3 fun vn5 => (cellI .i64 (AV.cells vy1) 4 fun vn6 => (cellI .i64 (AV.cells vy1) 5 fun vn7 => (cellI .i64 (AV.cells vy1) 6 fun vn8 => (cellI .i64 (AV.cells vy1) 7 fun vn9 => (cellI .i64 (AV.cells vy1) 8 fun vn10 => (cellS (AV.cells vy1) 9 fun vs11 => (cellS (AV.cells vy1) 10 fun vs12 => (cellI .i64 (AV.cells vy1) 11 fun vn13 => (cellI .i64 (AV.cells vy1) 12 fun vn14 => (cellL 2 (AV.cells vy1) 13 fun vl15 => (bif ((decide ((0 : Int) ≤ s4)) && (decide (s4 < (((List.length s0) : Nat) : Int)))) then ((s0[(Int.toNat s4)]?).bind fun vy16 => (cellL 1 (AV.cells vy16) 14 fun vl17 => (law17_Many_L1 kap k k0 k s0 (IntKind.wrap .i64 ((IntKind.wrap .i64 ((IntKind.wrap .i64 ((IntKind.wrap .i64 ((IntKind.wrap .i64 (s3 + (((ByteArray.size vs3) : Nat) : Int))) + (((ByteArray.size vs4) : Nat) : Int))) + (((ByteArray.size vs11) : Nat) : Int))) + (((ByteArray.size vs12) : Nat) : Int))) + (((List.length vl17) : Nat) : Int))) s4 (0 : Int) vn2 vs3 vs4 vn5 vn6 vn7 vn8 vn9 vn10 vs11 vs12 vn13 vn14 vl15))) else none)))))))))))))))) else none) else (some (.bool (decide ((((List.length s0) : Nat) : Int) > (12 : Int)))))) := by kernel_rfl
theorem law17_Many_L1_s (kap : FuncId → List AV → Option AV) (k : Nat) (k0 : Nat) (k1 : Nat) (s0 : List AV) (s3 : Int) (s4 : Int) (s6 : Int) (b5_0 : Int) (b5_1 : ByteArray) (b5_2 : ByteArray) (b5_3 : Int) (b5_4 : Int) (b5_5 : Int) (b5_6 : Int) (b5_7 : Int) (b5_8 : Int) (b5_9 : ByteArray) (b5_10 : ByteArray) (b5_11 : Int) (b5_12 : Int) (b5_13 : List AV) : law17_Many_L1 kap k k0 (k1 + 1) s0 s3 s4 s6 b5_0 b5_1 b5_2 b5_3 b5_4 b5_5 b5_6 b5_7 b5_8 b5_9 b5_10 b5_11 b5_12 b5_13 =
  (bif (decide (s6 < (((List.length b5_13) : Nat) : Int))) then (bif ((decide ((0 : Int) ≤ s6)) && (decide (s6 < (((List.length b5_13) : Nat) : Int)))) then ((b5_13[(Int.toNat s6)]?).bind fun vy18 => (cellS (AV.cells vy18) 0 fun vs19 => (bif ((decide ((0 : Int) ≤ s6)) && (decide (s6 < (((List.length b5_13) : Nat) : Int)))) then ((b5_13[(Int.toNat s6)]?).bind fun vy20 => (cellS (AV.cells vy20) 1 fun vs21 => (law17_Many_L1 kap k k0 k1 s0 (IntKind.wrap .i64 ((IntKind.wrap .i64 (s3 + (((ByteArray.size vs19) : Nat) : Int))) + (((ByteArray.size vs21) : Nat) : Int))) s4 (IntKind.wrap .i64 (s6 + (1 : Int))) b5_0 b5_1 b5_2 b5_3 b5_4 b5_5 b5_6 b5_7 b5_8 b5_9 b5_10 b5_11 b5_12 b5_13))) else none))) else none) else (bif (decide ((((List.length b5_13) : Nat) : Int) > (30 : Int))) then (some (.bool true)) else (bif (decide (s3 > (300000 : Int))) then (some (.bool true)) else (law17_Many_L0 kap k k0 s0 s3 (IntKind.wrap .i64 (s4 + (1 : Int))))))) := by kernel_rfl
theorem law17_Many_eq {E : Ext} [Core E] (k n : Nat) (a0 : List AV) : kp E k (n + 1) law17_Many [(.list 15 a0)] =
  (law17_Many_L0 (kp E k n) k k a0 (0 : Int) (0 : Int)) := (kp_at (by kernel_rfl)).trans (by kernel_rfl)
/- oakum/oakumref20.Words -/
noncomputable def ref20_Words_bd : Code := Tryd.f10.body.getD .skip
noncomputable def ref20_Words_L0 (kap : FuncId → List AV → Option AV) (k : Nat) (k0 : Nat) (s0 : ByteArray) (s4 : Int) (s5 : Int) (x3 : List AV) : Option AV :=
  loop (fun fr K => code ((bs E0 k).cfg kap ref20_Words) (sel ref20_Words_bd [1, 1, 1, 0, 1, 0, 0]) fr K) (canon ((bs E0 k).cfg kap ref20_Words) (firstReg (sel ref20_Words_bd [1, 1, 1, 0, 1, 0, 0]))) k0 (mkFr 32 [(0, (.str s0)), (3, (.own 3)), (4, (.int .i64 s4)), (5, (.int .i64 s5))] [(3, (.row 9 x3 false))]) (plug ((bs E0 k).cfg kap ref20_Words) (retK ((bs E0 k).cfg kap ref20_Words) [] Tryd.f10 [] some) [.blk 0, .seqR (sel ref20_Words_bd [1, 1, 1, 1])])
theorem ref20_Words_L0_s (kap : FuncId → List AV → Option AV) (k : Nat) (k0 : Nat) (s0 : ByteArray) (s4 : Int) (s5 : Int) (x3 : List AV) : ref20_Words_L0 kap k (k0 + 1) s0 s4 s5 x3 =
  (bif (decide (s5 ≤ (((ByteArray.size s0) : Nat) : Int))) then (bif (decide (s5 = (((ByteArray.size s0) : Nat) : Int))) then (bif ((decide ((0 : Int) ≤ s5)) && (decide (s5 ≤ (((ByteArray.size s0) : Nat) : Int)))) then (bif ((decide ((0 : Int) ≤ s4)) && (decide (s4 ≤ (((Int.toNat s5) : Nat) : Int)))) then (bif (decide (((List.length x3) + 1) * 16 ≤ 140737488355328) && decide (((List.length x3) + 1) ≤ 9223372036854775807)) then (ref20_Words_L0 kap k k0 s0 (IntKind.wrap .i64 (s5 + (1 : Int))) (IntKind.wrap .i64 (s5 + (1 : Int))) (x3 ++ [(.str (ByteArray.extract s0 (Int.toNat s4) (Int.toNat s5)))])) else none) else none) else none) else (bif ((decide ((0 : Int) ≤ s5)) && (decide (s5 < (((ByteArray.size s0) : Nat) : Int)))) then (bif (decide ((byteAt s0 (Int.toNat s5)) = (32 : Int))) then (bif ((decide ((0 : Int) ≤ s5)) && (decide (s5 ≤ (((ByteArray.size s0) : Nat) : Int)))) then (bif ((decide ((0 : Int) ≤ s4)) && (decide (s4 ≤ (((Int.toNat s5) : Nat) : Int)))) then (bif (decide (((List.length x3) + 1) * 16 ≤ 140737488355328) && decide (((List.length x3) + 1) ≤ 9223372036854775807)) then (ref20_Words_L0 kap k k0 s0 (IntKind.wrap .i64 (s5 + (1 : Int))) (IntKind.wrap .i64 (s5 + (1 : Int))) (x3 ++ [(.str (ByteArray.extract s0 (Int.toNat s4) (Int.toNat s5)))])) else none) else none) else none) else (ref20_Words_L0 kap k k0 s0 s4 (IntKind.wrap .i64 (s5 + (1 : Int))) x3)) else none)) else (some (.list 1 x3))) := by kernel_rfl
theorem ref20_Words_eq {E : Ext} [Core E] (k n : Nat) (a0 : ByteArray) : kp E k (n + 1) ref20_Words [(.str a0)] =
  (ref20_Words_L0 (kp E k n) k k a0 (0 : Int) (0 : Int) []) := (kp_at (by kernel_rfl)).trans (by kernel_rfl)
/- strings.Split -/
theorem strings_Split_eq {E : Ext} [Core E] (k n : Nat) (a0 : ByteArray) (a1 : ByteArray) : kp E k (n + 1) strings_Split [(.str a0), (.str a1)] =
  (callL 1 (kp E k n strings_genSplit [(.str a0), (.str a1), (.int .i64 (0 : Int)), (.int .i64 (-1 : Int))]) fun vl2 => (some (.list 1 vl2))) := (kp_at (by kernel_rfl)).trans (by kernel_rfl)
/- strings.HasPrefix -/
theorem strings_HasPrefix_eq {E : Ext} [Core E] (k n : Nat) (a0 : ByteArray) (a1 : ByteArray) : kp E k (n + 1) strings_HasPrefix [(.str a0), (.str a1)] =
  (callB (kp E k n stringslite_HasPrefix [(.str a0), (.str a1)]) fun vq2 => (some (.bool vq2))) := (kp_at (by kernel_rfl)).trans (by kernel_rfl)
/- oakum/text.Unquote -/
noncomputable def text_Unquote_bd : Code := Tryd.f22.body.getD .skip
noncomputable def text_Unquote_L0 (kap : FuncId → List AV → Option AV) (k : Nat) (k0 : Nat) (s0 : ByteArray) (x4 : List AV) : Option AV :=
  loop (fun fr K => code ((bs E0 k).cfg kap text_Unquote) (sel text_Unquote_bd [1, 1, 0, 0, 0]) fr K) (canon ((bs E0 k).cfg kap text_Unquote) (firstReg (sel text_Unquote_bd [1, 1, 0, 0, 0]))) k0 (mkFr 73 [(0, (.str s0)), (4, (.own 4))] [(4, (.row 5 x4 false))]) (plug ((bs E0 k).cfg kap text_Unquote) (retK ((bs E0 k).cfg kap text_Unquote) [] Tryd.f22 [] some) [.blk 0, .seqR (sel text_Unquote_bd [1, 1, 1])])
theorem text_Unquote_L0_s (kap : FuncId → List AV → Option AV) (k : Nat) (k0 : Nat) (s0 : ByteArray) (x4 : List AV) : text_Unquote_L0 kap k (k0 + 1) s0 x4 =
  (bif (decide ((((ByteArray.size s0) : Nat) : Int) > (0 : Int))) then (bif (decide ((0 : Int) < (((ByteArray.size s0) : Nat) : Int))) then (callB (kap text_open [(.int .u8 (byteAt s0 0))]) fun vq2 => (bif vq2 then (bif (decide ((0 : Int) < (((ByteArray.size s0) : Nat) : Int))) then (bif (decide (((List.length x4) + 1) * 1 ≤ 140737488355328) && decide (((List.length x4) + 1) ≤ 9223372036854775807)) then (bif (decide ((1 : Int) ≤ (((ByteArray.size s0) : Nat) : Int))) then (text_Unquote_L0 kap k k0 (ByteArray.extract s0 1 (ByteArray.size s0)) (x4 ++ [(.int .u8 (byteAt s0 0))])) else none) else none) else none) else (bif (decide ((0 : Int) < (((ByteArray.size s0) : Nat) : Int))) then (bif (!(decide ((byteAt s0 0) = (92 : Int)))) then (some (.tup [(.str (str [])), (.int .u8 (15 : Int))])) else (bif (decide ((((ByteArray.size s0) : Nat) : Int) < (4 : Int))) then (some (.tup [(.str (str [])), (.int .u8 (15 : Int))])) else (bif (decide ((1 : Int) < (((ByteArray.size s0) : Nat) : Int))) then (bif (decide ((byteAt s0 1) > (51 : Int))) then (some (.tup [(.str (str [])), (.int .u8 (15 : Int))])) else (bif (decide ((1 : Int) < (((ByteArray.size s0) : Nat) : Int))) then (callB (kap text_digit [(.int .u8 (byteAt s0 1))]) fun vq4 => (bif (!vq4) then (some (.tup [(.str (str [])), (.int .u8 (15 : Int))])) else (bif (decide ((2 : Int) < (((ByteArray.size s0) : Nat) : Int))) then (callB (kap text_digit [(.int .u8 (byteAt s0 2))]) fun vq6 => (bif (!vq6) then (some (.tup [(.str (str [])), (.int .u8 (15 : Int))])) else (bif (decide ((3 : Int) < (((ByteArray.size s0) : Nat) : Int))) then (callB (kap text_digit [(.int .u8 (byteAt s0 3))]) fun vq8 => (bif (!vq8) then (some (.tup [(.str (str [])), (.int .u8 (15 : Int))])) else (bif (decide ((1 : Int) < (((ByteArray.size s0) : Nat) : Int))) then (bif (decide ((2 : Int) < (((ByteArray.size s0) : Nat) : Int))) then (bif (decide ((3 : Int) < (((ByteArray.size s0) : Nat) : Int))) then (callB (kap text_open [(.int .u8 (IntKind.wrap .u8 ((BitVec.ofInt (IntKind.bits .u8) (IntKind.wrap .u8 ((BitVec.ofInt (IntKind.bits .u8) (IntKind.wrap .u8 ((IntKind.wrap .u8 ((BitVec.ofInt (IntKind.bits .u8) (byteAt s0 1) &&& BitVec.ofInt (IntKind.bits .u8) (7 : Int)).toNat : Int)) * 2 ^ (min (Int.toNat (6 : Int)) (IntKind.bits .u8)))) ||| BitVec.ofInt (IntKind.bits .u8) (IntKind.wrap .u8 ((IntKind.wrap .u8 ((BitVec.ofInt (IntKind.bits .u8) (byteAt s0 2) &&& BitVec.ofInt (IntKind.bits .u8) (7 : Int)).toNat : Int)) * 2 ^ (min (Int.toNat (3 : Int)) (IntKind.bits .u8))))).toNat : Int)) ||| BitVec.ofInt (IntKind.bits .u8) (IntKind.wrap .u8 ((BitVec.ofInt (IntKind.bits .u8) (byteAt s0 3) &&& BitVec.ofInt (IntKind.bits .u8) (7 : Int)).toNat : Int))).toNat : Int)))]) fun vq10 => (bif vq10 then (some (.tup [(.str (str [])), (.int .u8 (15 : Int))])) else (bif (decide (((List.length x4) + 1) * 1 ≤ 140737488355328) && decide (((List.length x4) + 1) ≤ 9223372036854775807)) then (bif (decide ((4 : Int) ≤ (((ByteArray.size s0) : Nat) : Int))) then (text_Unquote_L0 kap k k0 (ByteArray.extract s0 4 (ByteArray.size s0)) (x4 ++ [(.int .u8 (IntKind.wrap .u8 ((BitVec.ofInt (IntKind.bits .u8) (IntKind.wrap .u8 ((BitVec.ofInt (IntKind.bits .u8) (IntKind.wrap .u8 ((IntKind.wrap .u8 ((BitVec.ofInt (IntKind.bits .u8) (byteAt s0 1) &&& BitVec.ofInt (IntKind.bits .u8) (7 : Int)).toNat : Int)) * 2 ^ (min (Int.toNat (6 : Int)) (IntKind.bits .u8)))) ||| BitVec.ofInt (IntKind.bits .u8) (IntKind.wrap .u8 ((IntKind.wrap .u8 ((BitVec.ofInt (IntKind.bits .u8) (byteAt s0 2) &&& BitVec.ofInt (IntKind.bits .u8) (7 : Int)).toNat : Int)) * 2 ^ (min (Int.toNat (3 : Int)) (IntKind.bits .u8))))).toNat : Int)) ||| BitVec.ofInt (IntKind.bits .u8) (IntKind.wrap .u8 ((BitVec.ofInt (IntKind.bits .u8) (byteAt s0 3) &&& BitVec.ofInt (IntKind.bits .u8) (7 : Int)).toNat : Int))).toNat : Int)))])) else none) else none))) else none) else none) else none))) else none))) else none))) else none)) else none))) else none))) else none) else ((toBytes x4).bind fun vl11 => (some (.tup [(.str (str vl11)), (.int .u8 (0 : Int))])))) := by kernel_rfl
theorem text_Unquote_eq {E : Ext} [Core E] (k n : Nat) (a0 : ByteArray) : kp E k (n + 1) text_Unquote [(.str a0)] =
  (text_Unquote_L0 (kp E k n) k k a0 []) := (kp_at (by kernel_rfl)).trans (by kernel_rfl)
/- strings.genSplit -/
noncomputable def strings_genSplit_bd : Code := Tryd.f28.body.getD .skip
noncomputable def strings_genSplit_L0 (kap : FuncId → List AV → Option AV) (k : Nat) (k0 : Nat) (s0 : ByteArray) (s1 : ByteArray) (s2 : Int) (s3 : Int) (s10 : Int) (x9 : List AV) : Option AV :=
  loop (fun fr K => code ((bs E0 k).cfg kap strings_genSplit) (sel strings_genSplit_bd [1, 1, 1, 1, 1, 1, 1, 1, 0, 0, 0]) fr K) (canon ((bs E0 k).cfg kap strings_genSplit) (firstReg (sel strings_genSplit_bd [1, 1, 1, 1, 1, 1, 1, 1, 0, 0, 0]))) k0 (mkFr 66 [(0, (.str s0)), (1, (.str s1)), (2, (.int .i64 s2)), (3, (.int .i64 s3)), (9, (.own 9)), (10, (.int .i64 s10))] [(9, (.row 9 x9 false))]) (plug ((bs E0 k).cfg kap strings_genSplit) (retK ((bs E0 k).cfg kap strings_genSplit) [] Tryd.f28 [] some) [.blk 0, .seqR (sel strings_genSplit_bd [1, 1, 1, 1, 1, 1, 1, 1, 1])])
theorem strings_genSplit_L0_s (kap : FuncId → List AV → Option AV) (k : Nat) (k0 : Nat) (s0 : ByteArray) (s1 : ByteArray) (s2 : Int) (s3 : Int) (s10 : Int) (x9 : List AV) : strings_genSplit_L0 kap k (k0 + 1) s0 s1 s2 s3 s10 x9 =
  (bif (decide (s10 < s3)) then (callI .i64 (kap strings_Index [(.str s0), (.str s1)]) fun vn6 => (bif (decide (vn6 < (0 : Int))) then (bif ((decide ((0 : Int) ≤ s10)) && (decide (s10 < (((List.length x9) : Nat) : Int)))) then ((x9[(Int.toNat s10)]?).bind fun vy7 => (bif (decide (0 + 1 ≤ (AV.cells vy7).length) && true) then (bif ((decide ((0 : Int) ≤ (IntKind.wrap .i64 (s10 + (1 : Int))))) && (decide ((IntKind.wrap .i64 (s10 + (1 : Int))) ≤ (((List.length (List.set x9 (Int.toNat s10) (mkElem 1 (splice (AV.cells vy7) 0 [(.str s0)]) vy7))) : Nat) : Int)))) then (some (.list 1 (List.take (Int.toNat (IntKind.wrap .i64 (s10 + (1 : Int)))) (List.set x9 (Int.toNat s10) (mkElem 1 (splice (AV.cells vy7) 0 [(.str s0)]) vy7))))) else none) else none)) else none) else (bif ((decide ((0 : Int) ≤ (IntKind.wrap .i64 (vn6 + s2)))) && (decide ((IntKind.wrap .i64 (vn6 + s2)) ≤ (((ByteArray.size s0) : Nat) : Int)))) then (bif ((decide ((0 : Int) ≤ s10)) && (decide (s10 < (((List.length x9) : Nat) : Int)))) then ((x9[(Int.toNat s10)]?).bind fun vy8 => (bif (decide (0 + 1 ≤ (AV.cells vy8).length) && true) then (bif ((decide ((0 : Int) ≤ (IntKind.wrap .i64 (vn6 + (((ByteArray.size s1) : Nat) : Int))))) && (decide ((IntKind.wrap .i64 (vn6 + (((ByteArray.size s1) : Nat) : Int))) ≤ (((ByteArray.size s0) : Nat) : Int)))) then (strings_genSplit_L0 kap k k0 (ByteArray.extract s0 (Int.toNat (IntKind.wrap .i64 (vn6 + (((ByteArray.size s1) : Nat) : Int)))) (ByteArray.size s0)) s1 s2 s3 (IntKind.wrap .i64 (s10 + (1 : Int))) (List.set x9 (Int.toNat s10) (mkElem 1 (splice (AV.cells vy8) 0 [(.str (ByteArray.extract s0 0 (Int.toNat (IntKind.wrap .i64 (vn6 + s2)))))]) vy8))) else none) else none)) else none) else none))) else (bif ((decide ((0 : Int) ≤ s10)) && (decide (s10 < (((List.length x9) : Nat) : Int)))) then ((x9[(Int.toNat s10)]?).bind fun vy9 => (bif (decide (0 + 1 ≤ (AV.cells vy9).length) && true) then (bif ((decide ((0 : Int) ≤ (IntKind.wrap .i64 (s10 + (1 : Int))))) && (decide ((IntKind.wrap .i64 (s10 + (1 : Int))) ≤ (((List.length (List.set x9 (Int.toNat s10) (mkElem 1 (splice (AV.cells vy9) 0 [(.str s0)]) vy9))) : Nat) : Int)))) then (some (.list 1 (List.take (Int.toNat (IntKind.wrap .i64 (s10 + (1 : Int)))) (List.set x9 (Int.toNat s10) (mkElem 1 (splice (AV.cells vy9) 0 [(.str s0)]) vy9))))) else none) else none)) else none)) := by kernel_rfl
theorem strings_genSplit_eq {E : Ext} [Core E] (k n : Nat) (a0 : ByteArray) (a1 : ByteArray) (a2 : Int) (a3 : Int) : kp E k (n + 1) strings_genSplit [(.str a0), (.str a1), (.int .i64 a2), (.int .i64 a3)] =
  (bif (decide (a3 = (0 : Int))) then (some (.list 1 [])) else (bif (decide (a1 = (str []))) then (callL 1 (kp E k n strings_explode [(.str a0), (.int .i64 a3)]) fun vl2 => (some (.list 1 vl2))) else (bif (decide (a3 < (0 : Int))) then (callI .i64 (kp E k n strings_Count [(.str a0), (.str a1)]) fun vn4 => (bif (((decide ((0 : Int) ≤ (if (IntKind.wrap .i64 ((((ByteArray.size a0) : Nat) : Int) + (1 : Int))) < (IntKind.wrap .i64 (vn4 + (1 : Int))) then (IntKind.wrap .i64 ((((ByteArray.size a0) : Nat) : Int) + (1 : Int))) else (IntKind.wrap .i64 (vn4 + (1 : Int)))))) && (decide ((if (IntKind.wrap .i64 ((((ByteArray.size a0) : Nat) : Int) + (1 : Int))) < (IntKind.wrap .i64 (vn4 + (1 : Int))) then (IntKind.wrap .i64 ((((ByteArray.size a0) : Nat) : Int) + (1 : Int))) else (IntKind.wrap .i64 (vn4 + (1 : Int)))) ≤ (if (IntKind.wrap .i64 ((((ByteArray.size a0) : Nat) : Int) + (1 : Int))) < (IntKind.wrap .i64 (vn4 + (1 : Int))) then (IntKind.wrap .i64 ((((ByteArray.size a0) : Nat) : Int) + (1 : Int))) else (IntKind.wrap .i64 (vn4 + (1 : Int)))))) && (decide ((if (IntKind.wrap .i64 ((((ByteArray.size a0) : Nat) : Int) + (1 : Int))) < (IntKind.wrap .i64 (vn4 + (1 : Int))) then (IntKind.wrap .i64 ((((ByteArray.size a0) : Nat) : Int) + (1 : Int))) else (IntKind.wrap .i64 (vn4 + (1 : Int)))) * 16 ≤ 140737488355328)) && (decide ((if (IntKind.wrap .i64 ((((ByteArray.size a0) : Nat) : Int) + (1 : Int))) < (IntKind.wrap .i64 (vn4 + (1 : Int))) then (IntKind.wrap .i64 ((((ByteArray.size a0) : Nat) : Int) + (1 : Int))) else (IntKind.wrap .i64 (vn4 + (1 : Int)))) ≤ (9223372036854775807 : Int)))) && true && true) then (strings_genSplit_L0 (kp E k n) k k a0 a1 a2 (IntKind.wrap .i64 ((if (IntKind.wrap .i64 ((((ByteArray.size a0) : Nat) : Int) + (1 : Int))) < (IntKind.wrap .i64 (vn4 + (1 : Int))) then (IntKind.wrap .i64 ((((ByteArray.size a0) : Nat) : Int) + (1 : Int))) else (IntKind.wrap .i64 (vn4 + (1 : Int)))) - (1 : Int))) (0 : Int) (List.replicate (Int.toNat (if (IntKind.wrap .i64 ((((ByteArray.size a0) : Nat) : Int) + (1 : Int))) < (IntKind.wrap .i64 (vn4 + (1 : Int))) then (IntKind.wrap .i64 ((((ByteArray.size a0) : Nat) : Int) + (1 : Int))) else (IntKind.wrap .i64 (vn4 + (1 : Int))))) ((.str (str [])) : AV))) else none)) else (bif (((decide ((0 : Int) ≤ (if (IntKind.wrap .i64 ((((ByteArray.size a0) : Nat) : Int) + (1 : Int))) < a3 then (IntKind.wrap .i64 ((((ByteArray.size a0) : Nat) : Int) + (1 : Int))) else a3))) && (decide ((if (IntKind.wrap .i64 ((((ByteArray.size a0) : Nat) : Int) + (1 : Int))) < a3 then (IntKind.wrap .i64 ((((ByteArray.size a0) : Nat) : Int) + (1 : Int))) else a3) ≤ (if (IntKind.wrap .i64 ((((ByteArray.size a0) : Nat) : Int) + (1 : Int))) < a3 then (IntKind.wrap .i64 ((((ByteArray.size a0) : Nat) : Int) + (1 : Int))) else a3))) && (decide ((if (IntKind.wrap .i64 ((((ByteArray.size a0) : Nat) : Int) + (1 : Int))) < a3 then (IntKind.wrap .i64 ((((ByteArray.size a0) : Nat) : Int) + (1 : Int))) else a3) * 16 ≤ 140737488355328)) && (decide ((if (IntKind.wrap .i64 ((((ByteArray.size a0) : Nat) : Int) + (1 : Int))) < a3 then (IntKind.wrap .i64 ((((ByteArray.size a0) : Nat) : Int) + (1 : Int))) else a3) ≤ (9223372036854775807 : Int)))) && true && true) then (strings_genSplit_L0 (kp E k n) k k a0 a1 a2 (IntKind.wrap .i64 ((if (IntKind.wrap .i64 ((((ByteArray.size a0) : Nat) : Int) + (1 : Int))) < a3 then (IntKind.wrap .i64 ((((ByteArray.size a0) : Nat) : Int) + (1 : Int))) else a3) - (1 : Int))) (0 : Int) (List.replicate (Int.toNat (if (IntKind.wrap .i64 ((((ByteArray.size a0) : Nat) : Int) + (1 : Int))) < a3 then (IntKind.wrap .i64 ((((ByteArray.size a0) : Nat) : Int) + (1 : Int))) else a3)) ((.str (str [])) : AV))) else none)))) := (kp_at (by kernel_rfl)).trans (by kernel_rfl)
/- internal/stringslite.HasPrefix -/
theorem stringslite_HasPrefix_eq {E : Ext} [Core E] (k n : Nat) (a0 : ByteArray) (a1 : ByteArray) : kp E k (n + 1) stringslite_HasPrefix [(.str a0), (.str a1)] =
  (bif (decide ((((ByteArray.size a0) : Nat) : Int) ≥ (((ByteArray.size a1) : Nat) : Int))) then (bif ((decide ((0 : Int) ≤ (((ByteArray.size a1) : Nat) : Int))) && (decide ((((ByteArray.size a1) : Nat) : Int) ≤ (((ByteArray.size a0) : Nat) : Int)))) then (some (.bool (decide ((ByteArray.extract a0 0 (Int.toNat (((ByteArray.size a1) : Nat) : Int))) = a1)))) else none) else (some (.bool false))) := (kp_at (by kernel_rfl)).trans (by kernel_rfl)
/- oakum/text.open -/
theorem text_open_eq {E : Ext} [Core E] (k n : Nat) (a0 : Int) : kp E k (n + 1) text_open [(.int .u8 a0)] =
  (bif (decide (a0 > (32 : Int))) then (bif (decide (a0 < (127 : Int))) then (some (.bool (!(decide (a0 = (92 : Int)))))) else (some (.bool false))) else (some (.bool false))) := (kp_at (by kernel_rfl)).trans (by kernel_rfl)
/- oakum/text.digit -/
theorem text_digit_eq {E : Ext} [Core E] (k n : Nat) (a0 : Int) : kp E k (n + 1) text_digit [(.int .u8 a0)] =
  (bif (decide (a0 ≥ (48 : Int))) then (some (.bool (decide (a0 ≤ (55 : Int))))) else (some (.bool false))) := (kp_at (by kernel_rfl)).trans (by kernel_rfl)
/- strings.Index -/
theorem strings_Index_eq {E : Ext} [Core E] (k n : Nat) (a0 : ByteArray) (a1 : ByteArray) : kp E k (n + 1) strings_Index [(.str a0), (.str a1)] =
  (callI .i64 (kp E k n stringslite_Index [(.str a0), (.str a1)]) fun vn2 => (some (.int .i64 vn2))) := (kp_at (by kernel_rfl)).trans (by kernel_rfl)
end Go.Proofs.YtchflhbpdnfopaaDoor.Eng.U


/- strings.Split at a text of one byte, in plain words. -/
set_option linter.unusedVariables false
set_option linter.unusedSectionVars false
set_option linter.unusedSimpArgs false
namespace Go.Proofs.YtchflhbpdnfopaaDoor.Eng.U
open Go Go.Proofs Go.Proofs.YtchflhbpdnfopaaDoor.Eng
variable {E : Ext} [Core E] {k n k0 : Nat}

class HasCount (E : Ext) : Prop where
  count : ∀ (k n : Nat) (s : List UInt8) (x : UInt8), kp E k n strings_Count [.str (str s), .str (str [x])] = some (.int .i64 ((Lib.countByte s x : Nat) : Int))
theorem countL_byte (x : UInt8) : ∀ l : Tx, Lib.countByte l x = countL x l
  | [] => rfl
  | b :: l => by
    have ih := countL_byte x l
    unfold Lib.countByte at ih ⊢
    rw [count_cons, List.count_cons, ih]
    by_cases h : b = x
    · subst h; simp
    · rw [if_neg h, if_neg (by simpa using h), Nat.add_zero]
theorem pad_len (done : List Tx) (r : Nat) : (svs done ++ List.replicate r (AV.str (str []))).length = done.length + r := by rw [List.length_append, svs_len, List.length_replicate]
theorem pad_get {β : Type} (done : List Tx) (r : Nat) (K : AV → Option β) : ((svs done ++ List.replicate (r + 1) (AV.str (str [])))[done.length]?).bind K = K (AV.str (str [])) := by
  rw [List.getElem?_append_right (by rw [svs_len]; exact Nat.le_refl _), svs_len, Nat.sub_self]
  rfl
theorem pad_set (done : List Tx) (r : Nat) (w : Tx) : (svs done ++ List.replicate (r + 1) (AV.str (str []))).set done.length (AV.str (str w)) = svs (done ++ [w]) ++ List.replicate r (AV.str (str [])) := by
  rw [List.set_append_right _ _ (by rw [svs_len]; exact Nat.le_refl _), svs_len, Nat.sub_self]
  have e : svs (done ++ [w]) = svs done ++ [AV.str (str w)] := by unfold svs; rw [List.map_append]; rfl
  rw [e, List.append_assoc]
  rfl
theorem genSplit_loop (x : UInt8) (kap : FuncId → List AV → Option AV) (hidx : ∀ t : Tx, kap strings_Index [.str (str t), .str (str [x])] = some (.int .i64 (Lib.indexByte t x))) (N : Nat) (hN : N < 1000000000) :
    ∀ (m : Nat) (suf : Tx) (done : List Tx) (k0 : Nat), countL x suf = m → m < k0 → done.length + m = N → suf.length < 1000000000000 →
    strings_genSplit_L0 kap k k0 (str suf) (str [x]) 0 ((N : Nat) : Int) ((done.length : Nat) : Int) (svs done ++ List.replicate (m + 1) (AV.str (str []))) = some (.list 1 (svs (done ++ splitL x suf)))
  | 0, suf, done, k0 + 1, hc, h, hd, hs => by
    have hu := count_upto x suf
    have hsp := split_upto x suf
    have hlt : ¬ (upto x suf).length < suf.length := fun hh => by rw [if_pos hh] at hu; omega
    rw [if_neg hlt] at hsp
    have hl : (svs done ++ List.replicate (0 + 1) (AV.str (str []))).length = done.length + 1 := pad_len done 1
    rw [strings_genSplit_L0_s, bif_f (by omega), hl, inb (by omega), cond_true, Int.toNat_natCast, pad_get]
    have e : mkElem 1 (splice (AV.cells (AV.str (str []))) 0 [.str (str suf)]) (AV.str (str [])) = .str (str suf) := rfl
    rw [e, pad_set]
    have e2 : (decide (0 + 1 ≤ (AV.cells (AV.str (str []))).length) && true) = true := rfl
    rw [e2, cond_true, wrap1 (by omega)]
    have hl2 : (svs (done ++ [suf]) ++ List.replicate 0 (AV.str (str []))).length = done.length + 1 := by rw [pad_len]; simp
    rw [hl2, bif_a, bif_t (by omega), bif_t (by omega), Int.toNat_natCast, hsp]
    have e3 : List.take (done.length + 1) (svs (done ++ [suf]) ++ List.replicate 0 (AV.str (str []))) = svs (done ++ [suf]) := by
      rw [List.replicate_zero, List.append_nil, List.take_of_length_le (by rw [svs_len]; simp)]
    rw [e3]
  | m + 1, suf, done, k0 + 1, hc, h, hd, hs => by
    have hu := count_upto x suf
    have hsp := split_upto x suf
    have hlt : (upto x suf).length < suf.length := by
      apply Classical.byContradiction
      intro hh
      rw [if_neg hh] at hu
      omega
    rw [if_pos hlt] at hu hsp
    have hi : Lib.indexByte suf x = ((upto x suf).length : Int) := by rw [index_upto, if_pos hlt]
    have hl : (svs done ++ List.replicate (m + 1 + 1) (AV.str (str []))).length = done.length + (m + 2) := pad_len done (m + 2)
    have ih := genSplit_loop x kap hidx N hN m (suf.drop ((upto x suf).length + 1)) (done ++ [upto x suf]) k0 (by omega) (by omega) (by rw [List.length_append, List.length_singleton]; omega) (by rw [List.length_drop]; omega)
    rw [strings_genSplit_L0_s, bif_t (by omega), hidx, callI_ok, hi, bif_f (by omega), Int.add_zero, i64w (x := ((upto x suf).length : Int)) (by omega), str_size, bif_a, bif_t (by omega), bif_t (by omega), hl, inb (by omega), cond_true, Int.toNat_natCast, pad_get]
    have e2 : (decide (0 + 1 ≤ (AV.cells (AV.str (str []))).length) && true) = true := rfl
    rw [e2, cond_true, str_size, List.length_singleton, wrapP (by omega) (by omega), bif_a, bif_t (by omega), bif_t (by omega), Int.toNat_natCast, Int.toNat_natCast, str_ext, str_ext, List.take_length, List.drop_zero, upto_take]
    have e : mkElem 1 (splice (AV.cells (AV.str (str []))) 0 [.str (str (upto x suf))]) (AV.str (str [])) = .str (str (upto x suf)) := rfl
    rw [e, pad_set, wrap1 (by omega)]
    rw [List.length_append, List.length_singleton] at ih
    rw [hsp]
    refine ih.trans ?_
    rw [List.append_assoc]
    rfl
theorem index_k [HasNum E] (t : Tx) (x : UInt8) : kp E k (n + 1) strings_Index [.str (str t), .str (str [x])] = some (.int .i64 (Lib.indexByte t x)) := by
  rw [strings_Index_eq, HasNum.index k n t x, callI_ok]
theorem split_k [HasNum E] [HasCount E] (s : Tx) (x : UInt8) (hs : s.length < 100000000) (hk : s.length < k) : kp E k (n + 3) strings_Split [.str (str s), .str (str [x])] = some (.list 1 (svs (splitL x s))) := by
  have hc := count_le x s
  have h := genSplit_loop (k := k) x (kp E k (n + 1)) (fun t => index_k t x) (countL x s) (by omega) (countL x s) s [] k rfl (by omega) (by simp) (by omega)
  have hne : ¬ str [x] = str [] := fun e => by rw [str_inj] at e; simp at e
  have e1 : (if (((s.length : Nat) : Int) + 1) < (((countL x s : Nat) : Int) + 1) then (((s.length : Nat) : Int) + 1) else (((countL x s : Nat) : Int) + 1)) = ((countL x s + 1 : Nat) : Int) := by rw [if_neg (by omega)]; omega
  rw [strings_Split_eq, strings_genSplit_eq, decide_eq_false (by omega), cond_false, decide_eq_false hne, cond_false, decide_eq_true (by omega), cond_true, HasCount.count, callI_ok, countL_byte, str_size, i64w (x := ((s.length : Nat) : Int) + 1) (by omega), i64w (x := ((countL x s : Nat) : Int) + 1) (by omega), e1]
  have e2 : ((((decide ((0 : Int) ≤ ((countL x s + 1 : Nat) : Int)) && decide (((countL x s + 1 : Nat) : Int) ≤ ((countL x s + 1 : Nat) : Int)) && decide (((countL x s + 1 : Nat) : Int) * 16 ≤ 140737488355328)) && decide (((countL x s + 1 : Nat) : Int) ≤ (9223372036854775807 : Int)))) && true && true) = true := by
    simp only [Bool.and_true, Bool.and_eq_true, decide_eq_true_eq]
    omega
  have e3 : IntKind.wrap .i64 (((countL x s + 1 : Nat) : Int) - 1) = ((countL x s : Nat) : Int) := by rw [i64w (by omega)]; omega
  rw [e3, Int.toNat_natCast]
  have h' : strings_genSplit_L0 (kp E k (n + 1)) k k (str s) (str [x]) 0 ((countL x s : Nat) : Int) 0 (List.replicate (countL x s + 1) (AV.str (str []))) = some (.list 1 (svs (splitL x s))) := h
  rw [h']
  simp only [e2, cond_true]
  rw [callL_ok]
end Go.Proofs.YtchflhbpdnfopaaDoor.Eng.U


/- strings.Count at a text of one byte, as a piece. -/
set_option linter.unusedVariables false
set_option linter.unusedSectionVars false
set_option linter.unusedSimpArgs false
namespace Go.Proofs.YtchflhbpdnfopaaDoor.Eng.U
open Go Go.RowKit Go.Proofs Go.Proofs.YtchflhbpdnfopaaDoor.Eng

def pCount : Piece := { f := strings_Count, ans := fun args => match args with
  | [.str s, .str c] => (one c).bind fun x => some (.int .i64 ((Lib.countByte s.data.toList x : Nat) : Int))
  | _ => none }
theorem count_right : pCount.Right := by
  refine ⟨⟨Tryd.f38, Tryd.func38, by kernel_rfl, by kernel_rfl⟩, fun args res h => ?_⟩
  unfold pCount at h
  dsimp only at h
  split at h
  · rename_i s c
    obtain ⟨x, hx, h⟩ := Option.bind_eq_some_iff.1 h
    obtain rfl := one_some hx
    obtain rfl := Option.some.inj h
    refine ok_pure ⟨rfl, rfl⟩ fun S w vals hag hG hV => ?_
    obtain ⟨v, u, rfl, hv, hu⟩ := VL_2 hV
    obtain rfl := V_str hv
    obtain rfl := V_str hu
    refine (Tryd.strings_Count_one s x w).mono ?_
    rintro e w' ⟨rfl, rfl⟩
    exact ⟨_, rfl, fun S' => V.int _ _, Below.refl _ _⟩
  · cases h
end Go.Proofs.YtchflhbpdnfopaaDoor.Eng.U

