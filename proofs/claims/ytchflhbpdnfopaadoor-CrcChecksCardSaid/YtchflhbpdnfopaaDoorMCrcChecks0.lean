/- Several texts of this proof in one file: Core, Shelf, RowT, Ext, R04, Q04, U04, U04b, U04c, Api, V04, ApiR, B04, S32, S32b, Q32, B32, S32c, B32c, R09, U09, U09b, RS, U09c, U09e, R7, Z05a, Z05b, Z05c, U09f, U04d, U07, U07b, Q04b, U07c, U07d, Q02, Q20, RT, U21, B21, R32, Q32b, S02, B02, U02, U02b, U02c, Q08, U08, U09d, U09g, U09h, U09i, U09j, V00, V04b, U20, U20b, U20c, U20d, V09, U32, U32c, U20e, U20f, U20g, Q08b, U08c, U08d, T14, V20, RH, U20r, Q32c, U32d, U32e, U32f, X33. -/
import Derived.Test.YtchflhbpdnfopaaDoorMECrcChecks2
import Derived.Test.YtchflhbpdnfopaaDoorProg
import Derived.Lib.DecodeN
import Derived.Lib.ItoaNum
import Derived.Shelf.Small.Utf8
import Derived.Shelf.Small.Strs
import Derived.Shelf.Utf8.RuneCount
import Derived.Shelf.Strconv.Itoa0
import Derived.Shelf.Strconv.Itoa1
import Derived.Shelf.LaysM
import Derived.Shelf.Strconv.Itoa2
import Derived.Shelf.Strconv.Itoa3
import Derived.Shelf.Strconv.Clone
import Derived.Shelf.Strconv.SyntaxError
import Derived.Shelf.LaysC
import Derived.Shelf.Strconv.ToError
import Derived.Shelf.Strconv.Lower
import Derived.Shelf.Strconv.ParseUint10
import Derived.Shelf.Strconv.ParseUint10Empty
import Derived.Shelf.Strconv.ParseUint10Any
import Derived.Shelf.Strconv.RangeError
import Derived.Shelf.Strconv.ToErrorRange
import Derived.Shelf.Strconv.ParseUintEmpty
import Derived.Shelf.Strconv.ParseUint10b64
import Derived.Shelf.Strconv.ParseUint10b32
import Derived.Shelf.Strconv.ParseUint10b16
import Derived.Shelf.Strconv.ParseUint10b8
import Derived.Shelf.Strconv.ParseUint10At
import Derived.Ground.MpProg
import Derived.Shelf.Pu.ParseUintPublic10
import Derived.Shelf.Pu.ErrVarParseUint
import Derived.Shelf.Strings.Search1
import Derived.Shelf.Strings.Search2
import Derived.Shelf.Strings.Search3
import Derived.Shelf.Strings.Count
import Derived.Shelf.Strings.Shaped
import Derived.Shelf.Strings.Prefix
import Derived.Shelf.Strings.Split
import Derived.Shelf.Strings.SplitShaped
import Derived.Shelf.Unicode.Decode
import Derived.Shelf.Strings.Runes
import Derived.Shelf.Strings.RuneCount
import Derived.Shelf.Strings.IndexAny
import Derived.Shelf.Strings.AsciiSet
import Derived.Shelf.Strings.IndexAnyAll
import Derived.Shelf.Strings.Explode
import Derived.Shelf.Unicode.DecodeSlow
import Derived.Shelf.Unicode.DecodeAny
import Derived.Test.YtchflhbpdnfopaaDoorCards
import Derived.Test.YtchflhbpdnfopaaDoorTie
import Derived.Lib.LaidIn
import Derived.Lib.LaidU8
import Derived.PinnedBridge
import Derived.Deep.DeepHandedRow
import Derived.ChangeSlices
import Derived.WalkKit
import Derived.ProofKit
import Derived.OpenShut
import Derived.ShutString
import Derived.ChangeOld
import Derived.ChangeSame
import Derived.Below
import Derived.Lib.ParseIntB
import Derived.Lib.Bytealg
import Derived.Lib.TrimByte
import Derived.Lib.Strings
import Derived.Lib.Repeat
import Derived.Lib.ItoaMem
import Derived.Lib.ItoaLen
import Derived.WalkSmall
import Derived.Lib.SmallJoins
import Derived.KernelRfl
import Derived.Tactics
import Derived.Laws.Rows
import Derived.Laws.Tables
import Derived.Laws.CopyOwn
import Derived.Laws.BitsLemmas
import Derived.Lib.Hide
import Derived.Laws.Slices
import Derived.Lib.ItoaWalk
import Derived.Laws.IdiomStrings
import Derived.Laws.BytesString
import Derived.BigCall
import Derived.BigGuard
import Derived.Lib.ConvBytes
import Derived.Lib.AtoiErrMem
import Derived.IntWalk
import Derived.Lib.RuneCountTail
import Derived.Lib.IndexAny
import Derived.Lib.OthersKept
import Derived.Lib.FrozenHead2
import Derived.Shelf.Strings.BuilderK
/- The functions of a seat, by their names; what each loop keeps; a base open at its given functions. Printed by gen2.py. -/
set_option linter.unusedVariables false
namespace Go.Proofs.YtchflhbpdnfopaaDoor.Eng.U
open Go Go.Proofs Go.Proofs.YtchflhbpdnfopaaDoor.Eng
def ref02_Unquote : FuncId := 13
def crc_More : FuncId := 16
def strconv_ParseUint : FuncId := 20
def crc_table : FuncId := 27
def strings_IndexAny : FuncId := 29
def strings_Count : FuncId := 38
def unicode_utf8_DecodeRuneInString : FuncId := 52
def stringslite_Index : FuncId := 54
def strings_IndexByte : FuncId := 55
def strconv_Itoa : FuncId := 61
def dirs : FuncId → Nat → Option Dir
  | 3, 5 => some { slots := [(0, .keep), (1, .keep), (5, .keep), (6, .keep)], boxes := [] }
  | 3, 13 => some { slots := [(0, .keep), (1, .keep), (7, .keep), (8, .keep), (9, .keep)], boxes := [] }
  | 5, 3 => some { slots := [(0, .keep), (3, .keep), (4, .keep)], boxes := [] }
  | 5, 8 => some { slots := [(0, .keep), (3, .keep), (4, .keep), (5, .keep), (6, .keep)], boxes := [5] }
  | 6, 3 => some { slots := [(0, .keep), (5, .keep), (16, .keep), (17, .keep), (18, .keep)], boxes := [15] }
  | 6, 10 => some { slots := [(5, .keep), (8, .own 31 false), (33, .keep), (34, .keep), (35, .keep)], boxes := [15] }
  | 10, 4 => some { slots := [(0, .keep), (3, .own 9 false), (4, .keep), (5, .keep)], boxes := [] }
  | 11, 7 => some { slots := [(0, .keep), (4, .own 5 false), (5, .keep)], boxes := [] }
  | 13, 3 => some { slots := [(0, .keep), (4, .own 5 false), (5, .keep)], boxes := [] }
  | 13, 9 => some { slots := [(0, .keep), (4, .own 5 false), (5, .keep), (6, .keep), (7, .keep)], boxes := [] }
  | 14, 2 => some { slots := [(0, .keep), (1, .keep), (6, .keep)], boxes := [] }
  | 15, 3 => some { slots := [(1, .keep), (5, .keep), (6, .keep)], boxes := [] }
  | 15, 7 => some { slots := [(1, .keep), (5, .keep), (6, .keep), (7, .keep)], boxes := [] }
  | 22, 2 => some { slots := [(0, .keep), (4, .own 5 false)], boxes := [] }
  | 24, 5 => some { slots := [(0, .keep), (4, .keep), (5, .keep)], boxes := [] }
  | 28, 11 => some { slots := [(0, .keep), (1, .keep), (2, .keep), (3, .keep), (9, .own 9 false), (10, .keep)], boxes := [] }
  | 29, 12 => some { slots := [(0, .keep), (6, .keep), (8, .keep)], boxes := [6] }
  | 29, 18 => some { slots := [(1, .keep), (45, .keep)], boxes := [45] }
  | 36, 2 => some { slots := [(0, .keep), (3, .keep)], boxes := [] }
  | 37, 6 => some { slots := [(0, .keep), (1, .keep), (6, .own 9 false), (7, .keep)], boxes := [] }
  | 40, 5 => some { slots := [(0, .keep), (7, .keep), (8, .keep), (9, .keep)], boxes := [] }
  | 40, 12 => some { slots := [(0, .keep), (7, .keep), (8, .keep), (9, .keep), (12, .keep)], boxes := [] }
  | 40, 25 => some { slots := [(0, .keep), (7, .keep), (8, .keep), (9, .keep), (14, .keep), (15, .keep)], boxes := [] }
  | 40, 29 => some { slots := [(0, .keep), (7, .keep), (8, .keep), (9, .keep), (14, .keep), (15, .keep), (16, .keep)], boxes := [] }
  | 40, 38 => some { slots := [(175, .keep)], boxes := [175] }
  | 45, 10 => some { slots := [(0, .keep), (3, .keep), (4, .keep), (5, .keep)], boxes := [] }
  | 50, 2 => some { slots := [(0, .keep), (5, .keep), (6, .keep)], boxes := [] }
  | 51, 2 => some { slots := [(2, .keep), (4, .keep)], boxes := [4] }
  | 64, 5 => some { slots := [(0, .keep), (1, .keep), (5, .keep), (6, .keep), (7, .keep), (8, .keep), (9, .keep)], boxes := [] }
  | 64, 11 => some { slots := [(0, .keep), (1, .keep), (5, .keep), (6, .keep), (7, .keep), (8, .keep), (10, .keep)], boxes := [] }
  | 67, 3 => some { slots := [(0, .keep), (4, .keep), (5, .keep)], boxes := [] }
  | 67, 8 => some { slots := [(4, .keep), (6, .keep), (7, .keep), (8, .keep)], boxes := [] }
  | _, _ => none
def fl : FuncId → List Bool
  | _ => []
def ln : FuncId → List Nat
  | _ => []
def hd : FuncId → List Nat
  | _ => []
def glob (g : Nat) : Option (List AV) :=
  if g = 3 then some ((List.range 256).map fun c => .int .u8 (Lib.firstT c : Int)) else if g = 4 then some ((List.range 32).map fun i => .int .u8 ((if i % 2 = 0 then Lib.accLo (i / 2) else Lib.accHi (i / 2) : Nat) : Int)) else if g = 5 then some (Lib.pow10Tab.map fun z => .int .u64 z) else if g = 0 then some [.ifc] else if g = 1 then some [.ifc] else if g = 7 then some (([0, 1, 56, 2, 57, 49, 28, 3, 61, 58, 42, 50, 38, 29, 17, 4, 62, 47, 59, 36, 45, 43, 51, 22, 53, 39, 33, 30, 24, 18, 12, 5, 63, 55, 48, 27, 60, 41, 37, 16, 46, 35, 44, 21, 52, 32, 23, 11, 54, 26, 40, 15, 34, 20, 31, 10, 25, 14, 19, 9, 13, 8, 7, 6] : List Int).map fun z => .int .u8 z) else none
def coreFs : List FuncId := [3, 4, 5, 6, 7, 8, 9, 10, 11, 12, 13, 14, 15, 17, 18, 19, 21, 22, 23, 24, 25, 26, 28, 30, 33, 34, 35, 36, 37, 39, 40, 41, 44, 45, 50, 51, 56, 57, 63, 64, 65, 67, 69, 73, 74, 75, 76, 77]
noncomputable def bs (E : Ext) (k : Nat) : Base := { P := Tryd.prog, fs := E.fs, isBase := E.isBase, base := E.base, fl := fl, ln := ln, hd := hd, glob := glob, dirs := dirs, k := k }
/-- An extension that has no given functions: for what doesn't look at them. -/
def E0 : Ext := { fs := [], isBase := fun _ => false, base := fun _ _ => none }
class Core (E : Ext) : Prop where
  isB : ∀ f, coreFs.contains f = true → E.isBase f = false
  has : ∀ f, coreFs.contains f = true → E.fs.contains f = true
/-- What a function answers, calls nested n deep, k rounds of each loop. -/
noncomputable def kp (E : Ext) (k n : Nat) : FuncId → List AV → Option AV := (bs E k).kap n
theorem kp_base {E : Ext} {k n : Nat} {f : FuncId} {args : List AV} (hf : E.isBase f = true) : kp E k n f args = E.base f args := Base.kap_base (B := bs E k) hf args
end Go.Proofs.YtchflhbpdnfopaaDoor.Eng.U


/-
  DERIVED: THE SHELF's CONTRACTS AT THIS DUMP, IN PLAIN WORDS (tools/lay-plain.mjs out of 'TrydShelf.lean', which tools/lay-shelf.mjs wrote): THE SAME DECLARATIONS UNDER THE SAME NAMES: 'import', 'namespace', 'open', 'def', 'theorem' AND NOTHING ELSE: no command of the shelf's: FOR A HAND-IN. Each laying: the table of numbers ('.._ren') and one theorem, a field a fact of the dump's own or the kernel's comparison; each contract: ONE APPLICATION.
-/
namespace Go.Proofs
open Go.Shelf
def Tryd.lays137_ren : Go.Shelf.Ren := ⟨fun | 137 => 55 | 217 => 63 | 266 => 66 | n => n, fun | 9 => 9 | 5 => 5 | 3 => 3 | n => n, fun | n => n⟩
theorem Tryd.lays137 : Go.Proofs.Lays.n137 Tryd.prog Tryd.lays137_ren := {
  mixed := by kernel_rfl
  f137 := Tryd.func55.trans (congrArg some (by kernel_rfl))
  f217 := Tryd.func63.trans (congrArg some (by kernel_rfl))
  f266 := Tryd.func66.trans (congrArg some (by kernel_rfl))
  t3 := Tryd.underlying3
  a3 := Tryd.isAgg3
  z3 := Tryd.sizeOf3
  v3 := Tryd.zeroValue3
  t5 := Tryd.underlying5
  a5 := Tryd.isAgg5
  z5 := Tryd.sizeOf5
  v5 := Tryd.zeroValue5
  t9 := Tryd.underlying9
  a9 := Tryd.isAgg9
  z9 := Tryd.sizeOf9
  v9 := Tryd.zeroValue9 }
open Go.RowKit in
/-- strings.IndexByte: "IndexByte returns the index of the first instance of c in s, or -1 if c is not present in s.": IT RETURNS 'Lib.indexByte s c'; the world is as it was. (LAID: no walk: one application.) -/
theorem Tryd.strings_IndexByte (s : ByteArray) (c : Int) (w : World) :
    Calls Tryd.prog 55 #[.string s, .int .u8 c] w fun e w' => e = .returned (.int .i64 (Lib.indexByte s.data.toList c.toNat.toUInt8)) ∧ w' = w := Any.strings_IndexByte Tryd.lays137 s c w
def Tryd.laysM171_ren : Go.Shelf.Ren := ⟨fun | 171 => 61 | 243 => 65 | 246 => 68 | 283 => 69 | 284 => 70 | 285 => 71 | 286 => 72 | 129 => 74 | 317 => 73 | 318 => 75 | 319 => 76 | 320 => 77 | 337 => 78 | 338 => 79 | n => n, fun | 3 => 3 | 9 => 9 | 2 => 2 | 4 => 4 | 171 => 117 | 0 => 0 | 53 => 61 | 37 => 35 | 5 => 5 | 173 => 120 | 212 => 123 | 51 => 33 | 20 => 20 | 213 => 124 | 46 => 75 | 232 => 127 | 233 => 128 | n => n, fun | 17 => 5 | 18 => 6 | 19 => 7 | n => n⟩
theorem Tryd.laysM171 : Go.Proofs.LaysM.n171 Tryd.prog Tryd.laysM171_ren := {
  mixed := by kernel_rfl
  f129 := Tryd.func74.trans (congrArg some (by kernel_rfl))
  f171 := Tryd.func61.trans (congrArg some (by kernel_rfl))
  f243 := Tryd.func65.trans (congrArg some (by kernel_rfl))
  f246 := Tryd.func68.trans (congrArg some (by kernel_rfl))
  f283 := Tryd.func69.trans (congrArg some (by kernel_rfl))
  f284 := Tryd.func70.trans (congrArg some (by kernel_rfl))
  f285 := Tryd.func71.trans (congrArg some (by kernel_rfl))
  f286 := Tryd.func72.trans (congrArg some (by kernel_rfl))
  f317 := Tryd.func73.trans (congrArg some (by kernel_rfl))
  f318 := Tryd.func75.trans (congrArg some (by kernel_rfl))
  f319 := Tryd.func76.trans (congrArg some (by kernel_rfl))
  f320 := Tryd.func77.trans (congrArg some (by kernel_rfl))
  f337 := Tryd.func78.trans (congrArg some (by kernel_rfl))
  f338 := Tryd.func79.trans (congrArg some (by kernel_rfl))
  t0 := Tryd.underlying0
  a0 := Tryd.isAgg0
  z0 := Tryd.sizeOf0
  v0 := Tryd.zeroValue0
  t2 := Tryd.underlying2
  a2 := Tryd.isAgg2
  z2 := Tryd.sizeOf2
  v2 := Tryd.zeroValue2
  t3 := Tryd.underlying3
  a3 := Tryd.isAgg3
  z3 := Tryd.sizeOf3
  v3 := Tryd.zeroValue3
  t4 := Tryd.underlying4
  a4 := Tryd.isAgg4
  z4 := Tryd.sizeOf4
  v4 := Tryd.zeroValue4
  t5 := Tryd.underlying5
  a5 := Tryd.isAgg5
  z5 := Tryd.sizeOf5
  v5 := Tryd.zeroValue5
  t9 := Tryd.underlying9
  a9 := Tryd.isAgg9
  z9 := Tryd.sizeOf9
  v9 := Tryd.zeroValue9
  t20 := Tryd.underlying20
  a20 := Tryd.isAgg20
  z20 := Tryd.sizeOf20
  v20 := Tryd.zeroValue20
  t37 := Tryd.underlying35
  a37 := Tryd.isAgg35
  z37 := Tryd.sizeOf35
  v37 := Tryd.zeroValue35
  t46 := Tryd.underlying75
  a46 := Tryd.isAgg75
  z46 := Tryd.sizeOf75
  v46 := Tryd.zeroValue75
  t51 := Tryd.underlying33
  a51 := Tryd.isAgg33
  z51 := Tryd.sizeOf33
  v51 := Tryd.zeroValue33
  t53 := Tryd.underlying61
  a53 := Tryd.isAgg61
  z53 := Tryd.sizeOf61
  v53 := Tryd.zeroValue61
  t171 := Tryd.underlying117
  a171 := Tryd.isAgg117
  z171 := Tryd.sizeOf117
  v171 := Tryd.zeroValue117
  t173 := Tryd.underlying120
  a173 := Tryd.isAgg120
  z173 := Tryd.sizeOf120
  v173 := Tryd.zeroValue120
  t212 := Tryd.underlying123
  a212 := Tryd.isAgg123
  z212 := Tryd.sizeOf123
  v212 := Tryd.zeroValue123
  t213 := Tryd.underlying124
  a213 := Tryd.isAgg124
  z213 := Tryd.sizeOf124
  t232 := Tryd.underlying127
  a232 := Tryd.isAgg127
  z232 := Tryd.sizeOf127
  v232 := Tryd.zeroValue127
  t233 := Tryd.underlying128
  a233 := Tryd.isAgg128
  z233 := Tryd.sizeOf128
  v233 := Tryd.zeroValue128
  g17 := by kernel_rfl
  g18 := by kernel_rfl
  g19 := by kernel_rfl
  i0 := by kernel_rfl
  i2 := by kernel_rfl
  i3 := by kernel_rfl
  i4 := by kernel_rfl
  i5 := by kernel_rfl
  i9 := by kernel_rfl
  i20 := by kernel_rfl
  i37 := by kernel_rfl
  i46 := by kernel_rfl
  i51 := by kernel_rfl
  i53 := by kernel_rfl
  i171 := by kernel_rfl
  i173 := by kernel_rfl
  i212 := by kernel_rfl
  i232 := by kernel_rfl
  i233 := by kernel_rfl
  m17 := by kernel_rfl
  m18 := by kernel_rfl
  m19 := by kernel_rfl }
open Go.RowKit Go.Sort Go.Lib in
/-- strconv.Itoa: "Itoa is equivalent to FormatInt(int64(i), 10).": i's DECIMAL NUMERAL ('Lib.itoa': a '-' where i is negative, then the digits), FOR EVERY int. The world behind the call: the world before it, new blocks behind the heap (the library's 'var a [24]byte'), draws. (LAID: no walk: one application.) -/
theorem Tryd.strconv_Itoa (n : Int) (h0 : -9223372036854775808 ≤ n) (h1 : n ≤ 9223372036854775807) (w : World) (htab : Lib.TabIs Tryd.prog w "internal/strconv.uint64pow10" .u64 Lib.pow10Tab) :
    Calls Tryd.prog 61 #[.int .i64 n] w fun e w' => e = .returned (.string ⟨(Lib.itoa n).toArray⟩) ∧ ∃ k os, w' = grow (w.drewN k) os := Any.strconv_Itoa Tryd.laysM171 n h0 h1 w htab
def Tryd.lays219_ren : Go.Shelf.Ren := ⟨fun | 219 => 54 | 217 => 63 | 225 => 58 | 224 => 57 | 267 => 64 | 266 => 66 | 314 => 67 | n => n, fun | 9 => 9 | 3 => 3 | 4 => 4 | 5 => 5 | 46 => 75 | 146 => 114 | 51 => 33 | n => n, fun | 1 => 2 | n => n⟩
theorem Tryd.lays219 : Go.Proofs.Lays.n219 Tryd.prog Tryd.lays219_ren := {
  mixed := by kernel_rfl
  f217 := Tryd.func63.trans (congrArg some (by kernel_rfl))
  f219 := Tryd.func54.trans (congrArg some (by kernel_rfl))
  f224 := Tryd.func57.trans (congrArg some (by kernel_rfl))
  f225 := Tryd.func58.trans (congrArg some (by kernel_rfl))
  f266 := Tryd.func66.trans (congrArg some (by kernel_rfl))
  f267 := Tryd.func64.trans (congrArg some (by kernel_rfl))
  f314 := Tryd.func67.trans (congrArg some (by kernel_rfl))
  t3 := Tryd.underlying3
  a3 := Tryd.isAgg3
  z3 := Tryd.sizeOf3
  v3 := Tryd.zeroValue3
  t4 := Tryd.underlying4
  a4 := Tryd.isAgg4
  z4 := Tryd.sizeOf4
  v4 := Tryd.zeroValue4
  t5 := Tryd.underlying5
  a5 := Tryd.isAgg5
  z5 := Tryd.sizeOf5
  v5 := Tryd.zeroValue5
  t9 := Tryd.underlying9
  a9 := Tryd.isAgg9
  z9 := Tryd.sizeOf9
  v9 := Tryd.zeroValue9
  t46 := Tryd.underlying75
  a46 := Tryd.isAgg75
  z46 := Tryd.sizeOf75
  v46 := Tryd.zeroValue75
  t51 := Tryd.underlying33
  a51 := Tryd.isAgg33
  z51 := Tryd.sizeOf33
  v51 := Tryd.zeroValue33
  t146 := Tryd.underlying114
  a146 := Tryd.isAgg114
  z146 := Tryd.sizeOf114
  v146 := Tryd.zeroValue114
  g1 := by kernel_rfl }
open Go.RowKit Go.Lib in
/-- internal/stringslite.Index (what strings.Index calls) AT A substr OF WHATEVER LENGTH: IT RETURNS 'Lib.index s substr'; the world is as it was. 'm': what internal/bytealg.MaxLen holds: whatever. (LAID: no walk: one application.) -/
theorem Tryd.stringslite_Index (s sub : ByteArray) (m : Int) (w : World) (hs : s.size < 4294967281) (hm : w.cell? ⟨2, 0, none⟩ = some (.int .i64 m)) :
    Calls Tryd.prog 54 #[.string s, .string sub] w fun e w' => e = .returned (.int .i64 (Lib.index s.data.toList sub.data.toList)) ∧ w' = w := Any.stringslite_Index Tryd.lays219 s sub m w hs hm
def Tryd.lays138_ren : Go.Shelf.Ren := ⟨fun | 138 => 38 | 195 => 51 | 218 => 53 | 143 => 39 | 219 => 54 | 217 => 63 | 225 => 58 | 224 => 57 | 267 => 64 | 266 => 66 | 314 => 67 | n => n, fun | 9 => 9 | 3 => 3 | 4 => 4 | 5 => 5 | 0 => 0 | 46 => 75 | 146 => 114 | 51 => 33 | n => n, fun | 1 => 2 | n => n⟩
theorem Tryd.lays138 : Go.Proofs.Lays.n138 Tryd.prog Tryd.lays138_ren := {
  mixed := by kernel_rfl
  f138 := Tryd.func38.trans (congrArg some (by kernel_rfl))
  f143 := Tryd.func39.trans (congrArg some (by kernel_rfl))
  f195 := Tryd.func51.trans (congrArg some (by kernel_rfl))
  f217 := Tryd.func63.trans (congrArg some (by kernel_rfl))
  f218 := Tryd.func53.trans (congrArg some (by kernel_rfl))
  f219 := Tryd.func54.trans (congrArg some (by kernel_rfl))
  f224 := Tryd.func57.trans (congrArg some (by kernel_rfl))
  f225 := Tryd.func58.trans (congrArg some (by kernel_rfl))
  f266 := Tryd.func66.trans (congrArg some (by kernel_rfl))
  f267 := Tryd.func64.trans (congrArg some (by kernel_rfl))
  f314 := Tryd.func67.trans (congrArg some (by kernel_rfl))
  t0 := Tryd.underlying0
  a0 := Tryd.isAgg0
  z0 := Tryd.sizeOf0
  v0 := Tryd.zeroValue0
  t3 := Tryd.underlying3
  a3 := Tryd.isAgg3
  z3 := Tryd.sizeOf3
  v3 := Tryd.zeroValue3
  t4 := Tryd.underlying4
  a4 := Tryd.isAgg4
  z4 := Tryd.sizeOf4
  v4 := Tryd.zeroValue4
  t5 := Tryd.underlying5
  a5 := Tryd.isAgg5
  z5 := Tryd.sizeOf5
  v5 := Tryd.zeroValue5
  t9 := Tryd.underlying9
  a9 := Tryd.isAgg9
  z9 := Tryd.sizeOf9
  v9 := Tryd.zeroValue9
  t46 := Tryd.underlying75
  a46 := Tryd.isAgg75
  z46 := Tryd.sizeOf75
  v46 := Tryd.zeroValue75
  t51 := Tryd.underlying33
  a51 := Tryd.isAgg33
  z51 := Tryd.sizeOf33
  v51 := Tryd.zeroValue33
  t146 := Tryd.underlying114
  a146 := Tryd.isAgg114
  z146 := Tryd.sizeOf114
  v146 := Tryd.zeroValue114
  g1 := by kernel_rfl }
open Go.RowKit Go.Lib in
/-- strings.Count AT A substr OF TWO BYTES OR MORE: "Count counts the number of non-overlapping instances of substr in s.": IT RETURNS 'Lib.count s substr'; the world is as it was. (LAID: no walk: one application.) -/
theorem Tryd.strings_Count (s sub : ByteArray) (m : Int) (w : World) (hs : s.size < 4294967281) (hm : w.cell? ⟨2, 0, none⟩ = some (.int .i64 m)) (h2 : 2 ≤ sub.size) :
    Calls Tryd.prog 38 #[.string s, .string sub] w fun e w' => e = .returned (.int .i64 (Lib.countB s sub)) ∧ w' = w := Any.strings_Count Tryd.lays138 s sub m w hs hm h2
def Tryd.lays153_ren : Go.Shelf.Ren := ⟨fun | 153 => 29 | 152 => 40 | 226 => 41 | 227 => 42 | 228 => 43 | 137 => 55 | 119 => 56 | 224 => 57 | 225 => 58 | 217 => 63 | 266 => 66 | n => n, fun | 9 => 9 | 3 => 3 | 4 => 4 | 5 => 5 | 21 => 21 | 117 => 87 | 116 => 86 | 0 => 0 | 46 => 75 | 124 => 100 | n => n, fun | n => n⟩
theorem Tryd.lays153 : Go.Proofs.Lays.n153 Tryd.prog Tryd.lays153_ren := {
  mixed := by kernel_rfl
  f119 := Tryd.func56.trans (congrArg some (by kernel_rfl))
  f137 := Tryd.func55.trans (congrArg some (by kernel_rfl))
  f152 := Tryd.func40.trans (congrArg some (by kernel_rfl))
  f153 := Tryd.func29.trans (congrArg some (by kernel_rfl))
  f217 := Tryd.func63.trans (congrArg some (by kernel_rfl))
  f224 := Tryd.func57.trans (congrArg some (by kernel_rfl))
  f225 := Tryd.func58.trans (congrArg some (by kernel_rfl))
  f226 := Tryd.func41.trans (congrArg some (by kernel_rfl))
  f227 := Tryd.func42.trans (congrArg some (by kernel_rfl))
  f228 := Tryd.func43.trans (congrArg some (by kernel_rfl))
  f266 := Tryd.func66.trans (congrArg some (by kernel_rfl))
  t0 := Tryd.underlying0
  a0 := Tryd.isAgg0
  z0 := Tryd.sizeOf0
  v0 := Tryd.zeroValue0
  t3 := Tryd.underlying3
  a3 := Tryd.isAgg3
  z3 := Tryd.sizeOf3
  v3 := Tryd.zeroValue3
  t4 := Tryd.underlying4
  a4 := Tryd.isAgg4
  z4 := Tryd.sizeOf4
  v4 := Tryd.zeroValue4
  t5 := Tryd.underlying5
  a5 := Tryd.isAgg5
  z5 := Tryd.sizeOf5
  v5 := Tryd.zeroValue5
  t9 := Tryd.underlying9
  a9 := Tryd.isAgg9
  z9 := Tryd.sizeOf9
  v9 := Tryd.zeroValue9
  t21 := Tryd.underlying21
  a21 := Tryd.isAgg21
  z21 := Tryd.sizeOf21
  v21 := Tryd.zeroValue21
  t46 := Tryd.underlying75
  a46 := Tryd.isAgg75
  z46 := Tryd.sizeOf75
  v46 := Tryd.zeroValue75
  t116 := Tryd.underlying86
  a116 := Tryd.isAgg86
  z116 := Tryd.sizeOf86
  t117 := Tryd.underlying87
  a117 := Tryd.isAgg87
  z117 := Tryd.sizeOf87
  v117 := Tryd.zeroValue87
  t124 := Tryd.underlying100
  a124 := Tryd.isAgg100
  z124 := Tryd.sizeOf100
  v124 := Tryd.zeroValue100 }
open Go.RowKit Go.Lib in
/-- strings.IndexAny ON ASCII BYTES: the four roads under one statement. (LAID: no walk: one application.) -/
theorem Tryd.strings_IndexAny (hv116 : ∀ w, (zeroValue 86).run Tryd.prog w = .ok (.agg (Array.replicate 256 (.bool false))) w) (s chars : ByteArray) (w : World) (hs : s.size < 4294967281) (hcs : chars.size < 4294967281) (has : ∀ (j : Nat) b, s.data.toList[j]? = some b → b.toNat < 128) (hac : ∀ (j : Nat) b, chars.data.toList[j]? = some b → b.toNat < 128) :
    Calls Tryd.prog 29 #[.string s, .string chars] w fun e w' => e = .returned (.int .i64 (Lib.indexAny s.data.toList chars.data.toList)) ∧ Below w.heap.size w w' := Any.strings_IndexAny Tryd.lays153 hv116 (by kernel_rfl) s chars w hs hcs has hac
def Tryd.lays260_ren : Go.Shelf.Ren := ⟨fun | 260 => 62 | n => n, fun | 9 => 9 | 21 => 21 | 3 => 3 | 4 => 4 | 5 => 5 | 119 => 110 | 0 => 0 | 46 => 75 | 139 => 113 | 138 => 112 | n => n, fun | 3 => 3 | 4 => 4 | n => n⟩
theorem Tryd.lays260 : Go.Proofs.Lays.n260 Tryd.prog Tryd.lays260_ren := {
  mixed := by kernel_rfl
  f260 := Tryd.func62.trans (congrArg some (by kernel_rfl))
  t0 := Tryd.underlying0
  a0 := Tryd.isAgg0
  z0 := Tryd.sizeOf0
  v0 := Tryd.zeroValue0
  t3 := Tryd.underlying3
  a3 := Tryd.isAgg3
  z3 := Tryd.sizeOf3
  v3 := Tryd.zeroValue3
  t4 := Tryd.underlying4
  a4 := Tryd.isAgg4
  z4 := Tryd.sizeOf4
  v4 := Tryd.zeroValue4
  t5 := Tryd.underlying5
  a5 := Tryd.isAgg5
  z5 := Tryd.sizeOf5
  v5 := Tryd.zeroValue5
  t9 := Tryd.underlying9
  a9 := Tryd.isAgg9
  z9 := Tryd.sizeOf9
  v9 := Tryd.zeroValue9
  t21 := Tryd.underlying21
  a21 := Tryd.isAgg21
  z21 := Tryd.sizeOf21
  v21 := Tryd.zeroValue21
  t46 := Tryd.underlying75
  a46 := Tryd.isAgg75
  z46 := Tryd.sizeOf75
  v46 := Tryd.zeroValue75
  t119 := Tryd.underlying110
  a119 := Tryd.isAgg110
  z119 := Tryd.sizeOf110
  t138 := Tryd.underlying112
  a138 := Tryd.isAgg112
  z138 := Tryd.sizeOf112
  v138 := Tryd.zeroValue112
  t139 := Tryd.underlying113
  a139 := Tryd.isAgg113
  z139 := Tryd.sizeOf113
  v139 := Tryd.zeroValue113
  g3 := by kernel_rfl
  g4 := by kernel_rfl }
end Go.Proofs


/- What the rows of a seat with laid tables and sentinels share: the tables, the witness. -/
set_option linter.unusedVariables false
set_option linter.unusedSimpArgs false
namespace Go.Proofs.YtchflhbpdnfopaaDoor.row
open Go Go.ChangeShapes Go.WideShapes Go.ChangeAt Go.RowKit Go.Proofs Go.Shelf Go.Proofs.YtchflhbpdnfopaaDoor.Eng Go.Proofs.YtchflhbpdnfopaaDoor.Eng.Rdv

theorem own : ownKnob Tryd.prog.godebug = none := by kernel_rfl
section
variable {H : Type} {enc : TypeId × Value → H} {P : Program} {w : World} {base : Nat} {sp : Nat → Bool} {held : Bool}
theorem arr_len {fuel : Nat} {t e : TypeId} {n : Nat} {cs : List Value} {d : DataW H} {p : List MemPlace} (ht : P.underlying t = some (.array n e)) (h : DataW.trod enc P w base sp held fuel t cs = some (d, p)) : cs.length = P.cellsOf t := by
  cases fuel with
  | zero => simp [DataW.trod] at h
  | succ fuel =>
    simp only [DataW.trod, ht] at h
    split at h
    · assumption
    · cases h
theorem iface_only {fuel : Nat} {t : TypeId} {ms : Array (String × TypeId)} {cs : List Value} {nm : String} {d : DataW H} {p : List MemPlace} (ht : P.underlying t = some (.interface ms)) (h : DataW.trod enc P w base sp held fuel t cs = some (.iface nm d, p)) : ∃ u v, cs = [.iface u v] := by
  cases fuel with
  | zero => simp [DataW.trod] at h
  | succ fuel =>
    simp only [DataW.trod, ht] at h
    split at h <;> first | exact ⟨_, _, rfl⟩ | (cases h; done) | simp_all
end
theorem add0 (g j : Nat) : (⟨g, 0, none⟩ : Addr).add j = ⟨g, j, none⟩ := by rw [add_lit', Nat.zero_add]
/-- A variable of so many leaves, cell by cell. -/
theorem glob_one {W : World} {g : Nat} {arr : Array Value} {name : String} (hn : Tryd.prog.globalNamed name = some g) (hv : W.var? Tryd.prog name = some arr) (cs : List AV) (f : Nat → Value) (hl : arr.size = cs.length) (hleaf : ∀ (j : Nat) (c : AV), cs[j]? = some c → c.leaf = true ∧ arr[j]? = some (f j) ∧ V (stab W) c (f j)) :
    V (stab W) (.eptr cs 0) (.pointer (some ⟨g, 0, none⟩)) ∧ ∃ arr t f, W.heap[g]? = some (.cells arr t f) ∧ arr.size = cs.length := by
  refine ⟨?_, ?_⟩
  · have := V.eptr (S := stab W) cs 0 ⟨g, 0, none⟩ f (fun j c h => (hleaf j c h).1) (fun j c h => by
      rw [add0]
      show W.cell? ⟨g, j, none⟩ = _
      rw [World.var?_cell hn hv j]
      exact (hleaf j c h).2.1) (fun j c h => (hleaf j c h).2.2)
    rwa [add0] at this
  · unfold World.var? at hv
    rw [hn, Option.bind_some] at hv
    split at hv
    · rename_i cs' t f' he
      obtain rfl := Option.some.inj hv
      exact ⟨_, _, _, he, hl⟩
    · cases hv
theorem ints_one {W : World} {g : Nat} {name : String} {k : IntKind} {zs : List Int} (hn : Tryd.prog.globalNamed name = some g) (hv : W.var? Tryd.prog name = some (zs.map fun z => Value.int k z).toArray) :
    V (stab W) (.eptr (zs.map fun z => .int k z) 0) (.pointer (some ⟨g, 0, none⟩)) ∧ ∃ arr t f, W.heap[g]? = some (.cells arr t f) ∧ arr.size = (zs.map fun z => AV.int k z).length := by
  refine glob_one hn hv _ (fun j => .int k (zs.getD j 0)) (by simp) fun j c hc => ?_
  rw [List.getElem?_map] at hc
  obtain ⟨z, hz, rfl⟩ := Option.map_eq_some_iff.1 hc
  refine ⟨rfl, ?_, ?_⟩
  · simp [List.getD_eq_getElem?_getD, hz]
  · rw [List.getD_eq_getElem?_getD, hz]; exact V.int _ _
theorem iface_one {W : World} {g : Nat} {name : String} {nm : String} {d : DataW Unit} {t : TypeId} {ms : Array (String × TypeId)} (hn : Tryd.prog.globalNamed name = some g) (hy : (Tryd.prog.globals[g]?).map (·.type) = some t) (hi : Tryd.prog.underlying t = some (.interface ms)) (h : Lib.VarReads Tryd.prog W name (.iface nm d)) :
    V (stab W) (.eptr [.ifc] 0) (.pointer (some ⟨g, 0, none⟩)) ∧ ∃ arr t f, W.heap[g]? = some (.cells arr t f) ∧ arr.size = [AV.ifc].length := by
  obtain ⟨g', t', cs, fuel, p, hg, hty, hvar, hd⟩ := h
  obtain rfl := Option.some.inj (hn.symm.trans hg)
  obtain rfl := Option.some.inj (hy.symm.trans hty)
  obtain ⟨u, v, e⟩ := iface_only hi hd
  obtain ⟨cs⟩ := cs
  obtain rfl : cs = [.iface u v] := e
  refine glob_one hn hvar _ (fun _ => .iface u v) rfl fun j c hc => ?_
  match j with
  | 0 => cases hc; exact ⟨rfl, rfl, V.ifc _ _⟩
  | j + 1 => simp at hc
theorem tab_var {W : World} {g : Nat} {name : String} {k : IntKind} {zs : List Int} {t e : TypeId} {n : Nat} (hn : Tryd.prog.globalNamed name = some g) (hy : (Tryd.prog.globals[g]?).map (·.type) = some t) (ht : Tryd.prog.underlying t = some (.array n e)) (he : Tryd.prog.underlying e = some (.int k)) (hce : Tryd.prog.cellsOf e = 1) (hct : Tryd.prog.cellsOf t = n) (h : Lib.VarReads Tryd.prog W name (Lib.tabData k zs)) : W.var? Tryd.prog name = some (zs.map fun z => Value.int k z).toArray := by
  obtain ⟨g', t', cs, fuel, p, hg, hty, hvar, hd⟩ := h
  obtain rfl := Option.some.inj (hn.symm.trans hg)
  obtain rfl := Option.some.inj (hy.symm.trans hty)
  rw [hvar, ← Lib.cells_of_tab ht he hce hct hd]
/-- What the row's laid variables give. -/
theorem tables {W : World} {l : List (String × DataW Unit)} (hl : l = [("math/bits.deBruijn32tab", Rows.laid_math_bits_deBruijn32tab), ("math/bits.deBruijn64tab", Rows.laid_math_bits_deBruijn64tab), ("internal/strconv.uint64pow10", Rows.laid_internal_strconv_uint64pow10), ("unicode/utf8.acceptRanges", Rows.laid_unicode_utf8_acceptRanges), ("strconv.ErrRange", Rows.laid_strconv_ErrRange), ("strconv.ErrSyntax", Rows.laid_strconv_ErrSyntax), ("unicode/utf8.first", Rows.laid_unicode_utf8_first)]) (h : laidMetH Tryd.prog l W) : GlobOk U.glob (stab W) W := by
  subst hl
  have h' : laidMet Tryd.prog [("math/bits.deBruijn32tab", Rows.laid_math_bits_deBruijn32tab), ("math/bits.deBruijn64tab", Lib.tabData .u8 [0, 1, 56, 2, 57, 49, 28, 3, 61, 58, 42, 50, 38, 29, 17, 4, 62, 47, 59, 36, 45, 43, 51, 22, 53, 39, 33, 30, 24, 18, 12, 5, 63, 55, 48, 27, 60, 41, 37, 16, 46, 35, 44, 21, 52, 32, 23, 11, 54, 26, 40, 15, 34, 20, 31, 10, 25, 14, 19, 9, 13, 8, 7, 6]), ("internal/strconv.uint64pow10", Lib.tabData .u64 Lib.pow10Tab), ("unicode/utf8.acceptRanges", Lib.acceptData), ("strconv.ErrRange", Rows.laid_strconv_ErrRange), ("strconv.ErrSyntax", Rows.laid_strconv_ErrSyntax), ("unicode/utf8.first", Lib.firstData)] W := by
    have e1 : (Rows.laid_unicode_utf8_acceptRanges : DataW Unit) = Lib.acceptData := by kernel_rfl
    have e2 : Rows.laid_unicode_utf8_first = Lib.firstData := by kernel_rfl
    have e3 : (Rows.laid_internal_strconv_uint64pow10 : DataW Unit) = Lib.tabData .u64 Lib.pow10Tab := by kernel_rfl
    have e4 : (Rows.laid_math_bits_deBruijn64tab : DataW Unit) = Lib.tabData .u8 [0, 1, 56, 2, 57, 49, 28, 3, 61, 58, 42, 50, 38, 29, 17, 4, 62, 47, 59, 36, 45, 43, 51, 22, 53, 39, 33, 30, 24, 18, 12, 5, 63, 55, 48, 27, 60, 41, 37, 16, 46, 35, 44, 21, 52, 32, 23, 11, 54, 26, 40, 15, 34, 20, 31, 10, 25, 14, 19, 9, 13, 8, 7, 6] := by kernel_rfl
    rw [← e1, ← e2, ← e3, ← e4]
    exact h
  have r2 : Lib.VarReads Tryd.prog W "math/bits.deBruijn64tab" (Lib.tabData .u8 [0, 1, 56, 2, 57, 49, 28, 3, 61, 58, 42, 50, 38, 29, 17, 4, 62, 47, 59, 36, 45, 43, 51, 22, 53, 39, 33, 30, 24, 18, 12, 5, 63, 55, 48, 27, 60, 41, 37, 16, 46, 35, 44, 21, 52, 32, 23, 11, 54, 26, 40, 15, 34, 20, 31, 10, 25, 14, 19, 9, 13, 8, 7, 6]) := Lib.laidMet.reads h' (.tail _ (.head _))
  have r1 : Lib.VarReads Tryd.prog W "internal/strconv.uint64pow10" (Lib.tabData .u64 Lib.pow10Tab) := Lib.laidMet.reads h' (.tail _ (.tail _ (.head _)))
  have r3 : Lib.VarReads Tryd.prog W "strconv.ErrSyntax" Rows.laid_strconv_ErrSyntax := Lib.laidMet.reads h' (.tail _ (.tail _ (.tail _ (.tail _ (.tail _ (.head _))))))
  have r4 : Lib.VarReads Tryd.prog W "strconv.ErrRange" Rows.laid_strconv_ErrRange := Lib.laidMet.reads h' (.tail _ (.tail _ (.tail _ (.tail _ (.head _)))))
  have r7 : Lib.VarReads Tryd.prog W "unicode/utf8.first" Lib.firstData := Lib.laidMet.reads h' (.tail _ (.tail _ (.tail _ (.tail _ (.tail _ (.tail _ (.head _)))))))
  have r8 : Lib.VarReads Tryd.prog W "unicode/utf8.acceptRanges" Lib.acceptData := Lib.laidMet.reads h' (.tail _ (.tail _ (.tail _ (.head _))))
  have hU : Lib.Utf8Tabs 3 4 W := Go.Proofs.utf8Tabs_of_reads (P := Tryd.prog) (ρ := Tryd.lays260_ren) { Tryd.lays260 with } ⟨by kernel_rfl, by kernel_rfl, by kernel_rfl, by kernel_rfl, by kernel_rfl, by kernel_rfl, by kernel_rfl⟩ r7 r8
  intro g cs hg
  unfold U.glob at hg
  split at hg
  · rename_i h0
    subst h0
    obtain rfl := Option.some.inj hg
    have := ints_one (g := 3) (name := "unicode/utf8.first") (by kernel_rfl) (tab_var (g := 3) (t := 110) (e := 5) (n := 256) (by kernel_rfl) (by kernel_rfl) Tryd.underlying110 Tryd.underlying5 (by kernel_rfl) (by kernel_rfl) r7)
    rw [Lib.firstTab, List.map_map] at this
    exact this
  · split at hg
    · rename_i h0 h1
      subst h1
      obtain rfl := Option.some.inj hg
      obtain ⟨g', t', cs, fuel, p, hgn, hty, hvar, hd⟩ := r8
      obtain rfl := Option.some.inj ((show Tryd.prog.globalNamed "unicode/utf8.acceptRanges" = some 4 by kernel_rfl).symm.trans hgn)
      obtain rfl := Option.some.inj ((show (Tryd.prog.globals[4]?).map (·.type) = some 113 by kernel_rfl).symm.trans hty)
      have hlen := arr_len Tryd.underlying113 hd
      have hsz : Tryd.prog.cellsOf 113 = 32 := by kernel_rfl
      rw [hsz, Array.length_toList] at hlen
      refine glob_one hgn hvar _ (fun i => .int .u8 (((if i % 2 = 0 then Lib.accLo (i / 2) else Lib.accHi (i / 2) : Nat) : Int))) (by simp [hlen]) fun j c hc => ?_
      rw [List.getElem?_map] at hc
      obtain ⟨x, hx, rfl⟩ := Option.map_eq_some_iff.1 hc
      obtain ⟨hj, rfl⟩ := List.getElem?_eq_some_iff.1 hx
      rw [List.length_range] at hj
      rw [List.getElem_range]
      refine ⟨rfl, ?_, V.int _ _⟩
      rw [← World.var?_cell hgn hvar j]
      obtain ⟨h2, h3⟩ := hU.2 (j / 2) (by omega)
      by_cases hm : j % 2 = 0
      · rw [if_pos hm]
        rwa [show 2 * (j / 2) = j from by omega] at h2
      · rw [if_neg hm]
        rwa [show 2 * (j / 2) + 1 = j from by omega] at h3
    · split at hg
      · rename_i h0 h1 h2
        subst h2
        obtain rfl := Option.some.inj hg
        exact ints_one (g := 5) (name := "internal/strconv.uint64pow10") (by kernel_rfl) (tab_var (g := 5) (t := 123) (e := 61) (n := 20) (by kernel_rfl) (by kernel_rfl) Tryd.underlying123 Tryd.underlying61 (by kernel_rfl) (by kernel_rfl) r1)
      · split at hg
        · rename_i h0 h1 h2 h3
          subst h3
          obtain rfl := Option.some.inj hg
          exact iface_one (name := "strconv.ErrSyntax") (by kernel_rfl) (t := 63) (by kernel_rfl) Tryd.underlying63 r3
        · split at hg
          · rename_i h0 h1 h2 h3 h4
            subst h4
            obtain rfl := Option.some.inj hg
            exact iface_one (name := "strconv.ErrRange") (by kernel_rfl) (t := 63) (by kernel_rfl) Tryd.underlying63 r4
          · split at hg
            · rename_i h0 h1 h2 h3 h4 h5
              subst h5
              obtain rfl := Option.some.inj hg
              exact ints_one (g := 7) (name := "math/bits.deBruijn64tab") (by kernel_rfl) (tab_var (g := 7) (t := 128) (e := 5) (n := 64) (by kernel_rfl) (by kernel_rfl) Tryd.underlying128 Tryd.underlying5 (by kernel_rfl) (by kernel_rfl) r2)
            · cases hg
/-- The cells that a datum of numbers is. -/
def litV : DataW Unit → Value
  | .lit (.int k n) => .int k n
  | _ => .nilIface
def rowV : DataW Unit → Array Value
  | .agg l => (l.map litV).toArray
  | _ => #[]
/-- So many blocks has the settled world. -/
noncomputable def low : Nat := (World.holding Tryd.prog default ⟨#[], #[], []⟩).heap.size
/-- The witness: the settled memory with the two errors' texts behind it, the variables holding what their initialisers lay. -/
noncomputable def laidWorld (os : Os) : World :=
  let w0 := World.holding Tryd.prog os ⟨#[.cells #[.string ⟨#[118, 97, 108, 117, 101, 32, 111, 117, 116, 32, 111, 102, 32, 114, 97, 110, 103, 101]⟩] 109, .cells #[.string ⟨#[105, 110, 118, 97, 108, 105, 100, 32, 115, 121, 110, 116, 97, 120]⟩] 109], #[], []⟩
  let put (h : Array Obj) (g : Nat) (cs : Array Value) : Array Obj := h.modify g fun
    | .cells _ t frozen => .cells cs t frozen
    | o => o
  let h1 := put w0.heap 3 (Lib.firstTab.map fun z => Value.int .u8 z).toArray
  let h2 := put h1 4 ((List.range 16).flatMap fun i => [Value.int .u8 (Lib.accLo i), Value.int .u8 (Lib.accHi i)]).toArray
  let h3 := put h2 6 (rowV Rows.laid_math_bits_deBruijn32tab)
  let h4 := put h3 7 (rowV Rows.laid_math_bits_deBruijn64tab)
  let h5 := put h4 5 (rowV Rows.laid_internal_strconv_uint64pow10)
  let h6 := put h5 1 #[.iface 107 (.pointer (some ⟨low, 0, none⟩))]
  let h7 := put h6 0 #[.iface 107 (.pointer (some ⟨low + 1, 0, none⟩))]
  { w0 with heap := h7 }
noncomputable abbrev laidBlocks : List Nat := [6, 7, 5, 4, 1, 0, 3, low, low + 1]
end Go.Proofs.YtchflhbpdnfopaaDoor.row


/- Given functions in pieces: each with what it answers, and that it does. -/
set_option linter.unusedVariables false
set_option linter.unusedSectionVars false
set_option linter.unusedSimpArgs false
namespace Go.Proofs.YtchflhbpdnfopaaDoor.Eng.U
open Go Go.Proofs Go.Proofs.YtchflhbpdnfopaaDoor.Eng Go.RowKit

structure Piece where
  f : FuncId
  ans : List AV → Option AV
def extOf (ps : List Piece) : Ext := { fs := coreFs, isBase := fun f => ps.any fun p => p.f == f, base := fun f args => (ps.find? fun p => p.f == f).bind fun p => p.ans args }
theorem core_of {ps : List Piece} (h : coreFs.all (fun f => !ps.any fun p => p.f == f) = true) : Core (extOf ps) where
  isB f hf := by
    have := List.all_eq_true.1 h f (List.contains_iff_mem.1 hf)
    simpa [extOf] using this
  has f hf := hf
theorem kp_piece {ps : List Piece} {p : Piece} {k n : Nat} {args : List AV} (hp : ps.find? (fun q => q.f == p.f) = some p) : kp (extOf ps) k n p.f args = p.ans args := by
  rw [kp_base (by
    show (ps.any fun q => q.f == p.f) = true
    have := List.find?_some (p := fun q : Piece => q.f == p.f) hp
    exact List.any_eq_true.2 ⟨p, List.mem_of_find?_eq_some hp, this⟩)]
  show ((ps.find? fun q => q.f == p.f).bind fun q => q.ans args) = _
  rw [hp]
  rfl
end Go.Proofs.YtchflhbpdnfopaaDoor.Eng.U


/- What functions answer, as the engine evaluates their code. Printed by gen2.py. -/
set_option linter.unusedVariables false
namespace Go.Proofs.YtchflhbpdnfopaaDoor.Eng.U
open Go Go.Proofs Go.Proofs.YtchflhbpdnfopaaDoor.Eng
/- oakum/oakumref04.Number -/
/- oakum/dec.Number -/
/- oakum/oakumref04.Below -/
/- oakum/dec.natural -/
/- oakum/oakumref04.only -/
/- oakum/dec.digits -/
end Go.Proofs.YtchflhbpdnfopaaDoor.Eng.U


/- Numbers as texts, in plain Lean. -/
set_option linter.unusedVariables false
set_option linter.unusedSimpArgs false
namespace Go.Proofs.YtchflhbpdnfopaaDoor.P04
open Go

def isDig (c : UInt8) : Bool := decide (48 ≤ c.toNat) && decide (c.toNat ≤ 57)
def digs (l : List UInt8) : Bool := l.all isDig && !l.isEmpty
def valA (acc : Nat) (l : List UInt8) : Nat := l.foldl (fun a c => a * 10 + (c.toNat - 48)) acc
def lead (l : List UInt8) : Bool := decide (l.headD 0 = 48) && decide (1 < l.length)
def natOk (l : List UInt8) : Bool := digs l && !lead l && decide (valA 0 l ≤ 9223372036854775808)
/-- Where the first point stands; the length, where there is none. -/
def dot (l : List UInt8) : Nat := l.findIdx (· == 46)
/-- The time that a text is, behind its sign. -/
def timeB (minus : Bool) (t : List UInt8) : Option (Int × Int) :=
  let a := t.take (dot t)
  let b := t.drop (dot t + 1)
  let nano := if dot t < t.length then valA 0 (b ++ List.replicate (9 - b.length) 48) else 0
  let v := valA 0 a
  if natOk a = false then none
  else if dot t < t.length ∧ ¬ (digs b = true ∧ b.length ≤ 9) then none
  else if minus = false then (if 9223372036854775807 < v then none else some ((v : Int), (nano : Int)))
  else if nano = 0 then some (-(v : Int), 0)
  else if 9223372036854775807 < v then none
  else some (-(v : Int) - 1, 1000000000 - (nano : Int))
def timeL (s : List UInt8) : Option (Int × Int) := timeB (decide (s.head? = some 45)) (if s.head? = some 45 then s.drop 1 else s)
/-! Printing. -/
end Go.Proofs.YtchflhbpdnfopaaDoor.P04


/- The functions of the Dec laws in plain words. -/
set_option linter.unusedVariables false
set_option linter.unusedSectionVars false
set_option linter.unusedSimpArgs false
namespace Go.Proofs.YtchflhbpdnfopaaDoor.Eng.U
open Go Go.Proofs Go.Proofs.YtchflhbpdnfopaaDoor.Eng Go.Proofs.YtchflhbpdnfopaaDoor.P04
variable {E : Ext} [Core E] {k n : Nat}

def endU : Lib.NumEnd Nat → AV
  | .ok v => .tup [.int .u64 v, .nili]
  | .range => .tup [.int .u64 18446744073709551615, .ifc]
  | _ => .tup [.int .u64 0, .ifc]
class HasNum (E : Ext) : Prop where
  itoa : ∀ (k n : Nat) (v : Int), -9223372036854775808 ≤ v → v ≤ 9223372036854775807 → kp E k n strconv_Itoa [.int .i64 v] = some (.str (str (Lib.itoa v)))
  index : ∀ (k n : Nat) (s : List UInt8) (x : UInt8), kp E k n stringslite_Index [.str (str s), .str (str [x])] = some (.int .i64 (Lib.indexByte s x))
  indexB : ∀ (k n : Nat) (s : List UInt8) (c : Int), kp E k n strings_IndexByte [.str (str s), .int .u8 c] = some (.int .i64 (Lib.indexByte s c.toNat.toUInt8))
  puint : ∀ (k n : Nat) (s : List UInt8), s.length ≤ 281474976710656 → kp E k n strconv_ParseUint [.str (str s), .int .i64 10, .int .i64 64] = some (endU (Lib.parseUintB 64 s))

end Go.Proofs.YtchflhbpdnfopaaDoor.Eng.U


/- The functions of the Dec laws in plain words, part 2: printing. -/
set_option linter.unusedVariables false
set_option linter.unusedSectionVars false
set_option linter.unusedSimpArgs false
namespace Go.Proofs.YtchflhbpdnfopaaDoor.Eng.U
open Go Go.Proofs Go.Proofs.YtchflhbpdnfopaaDoor.Eng Go.Proofs.YtchflhbpdnfopaaDoor.P04
variable {E : Ext} [Core E] [HasNum E] {k n : Nat}

def rightT (t : Int) : Bool := decide (0 ≤ t) && decide (t < 1000000000)
end Go.Proofs.YtchflhbpdnfopaaDoor.Eng.U


/- The functions of the Dec laws in plain words, part 3: reading. -/
set_option linter.unusedVariables false
set_option linter.unusedSectionVars false
set_option linter.unusedSimpArgs false
namespace Go.Proofs.YtchflhbpdnfopaaDoor.Eng.U
open Go Go.Proofs Go.Proofs.YtchflhbpdnfopaaDoor.Eng Go.Proofs.YtchflhbpdnfopaaDoor.P04
variable {E : Ext} [Core E] [HasNum E] {k n : Nat}

end Go.Proofs.YtchflhbpdnfopaaDoor.Eng.U


/- The program's own data: pairs, times, heads, items: as structures, as abstract values, as a row hands them in. Printed by apigen.py. -/
set_option linter.unusedVariables false
namespace Go.Proofs.YtchflhbpdnfopaaDoor.Eng.U
open Go Go.Proofs Go.Proofs.YtchflhbpdnfopaaDoor.Eng
abbrev Tx := List UInt8
structure Pair where
  key : Tx
  val : Tx
  deriving DecidableEq, Inhabited
structure Time where
  sec : Int
  nano : Int
  deriving DecidableEq, Inhabited
structure Head where
  kind : Int
  name : Tx
  link : Tx
  mode : Int
  uid : Int
  gid : Int
  size : Int
  sec : Int
  nano : Int
  user : Tx
  group : Tx
  major : Int
  minor : Int
  extra : List Pair
  deriving DecidableEq, Inhabited
structure Item where
  head : Head
  data : Tx
  deriving DecidableEq, Inhabited
def bys (l : Tx) : List AV := l.map byteAV
def encPair (p : Pair) : List AV := [.str (str p.key), .str (str p.val)]
def elPair (p : Pair) : AV := .agg (encPair p)
def prs (l : List Pair) : List AV := l.map elPair
def encHead (h : Head) : List AV := [.int .i64 h.kind, .str (str h.name), .str (str h.link), .int .i64 h.mode, .int .i64 h.uid, .int .i64 h.gid, .int .i64 h.size, .int .i64 h.sec, .int .i64 h.nano, .str (str h.user), .str (str h.group), .int .i64 h.major, .int .i64 h.minor, .list 2 (prs h.extra)]
def encItem (x : Item) : List AV := [.int .i64 x.head.kind, .str (str x.head.name), .str (str x.head.link), .int .i64 x.head.mode, .int .i64 x.head.uid, .int .i64 x.head.gid, .int .i64 x.head.size, .int .i64 x.head.sec, .int .i64 x.head.nano, .str (str x.head.user), .str (str x.head.group), .int .i64 x.head.major, .int .i64 x.head.minor, .list 2 (prs x.head.extra), .list 1 (bys x.data)]
def elItem (x : Item) : AV := .agg (encItem x)
def its (l : List Item) : List AV := l.map elItem
section
variable {β : Type}
theorem h_2 (x : Head) (K : ByteArray → Option β) : cellS (encHead x) 2 K = K (str x.link) := by first | exact (rfl) | (show cellS (encHead x) 2 K = _; simp [encHead, cellI, cellL, cellAt, atInt, atList])
end
end Go.Proofs.YtchflhbpdnfopaaDoor.Eng.U


/- The Dec laws answer true. -/
set_option linter.unusedVariables false
set_option linter.unusedSectionVars false
set_option linter.unusedSimpArgs false
namespace Go.Proofs.YtchflhbpdnfopaaDoor.Eng.U
open Go Go.Proofs Go.Proofs.YtchflhbpdnfopaaDoor.Eng Go.Proofs.YtchflhbpdnfopaaDoor.P04
variable {E : Ext} [Core E] [HasNum E] {k n : Nat}

end Go.Proofs.YtchflhbpdnfopaaDoor.Eng.U


/- The program's own data as a row hands them in: what is read is some item, with bounds. -/
set_option linter.unusedVariables false
set_option linter.unusedSimpArgs false
namespace Go.Proofs.YtchflhbpdnfopaaDoor.Eng.U
open Go Go.Proofs Go.Proofs.YtchflhbpdnfopaaDoor.Eng Go.Proofs.YtchflhbpdnfopaaDoor.Eng.Rdv

def InR (n : Int) : Prop := -9223372036854775808 ≤ n ∧ n ≤ 9223372036854775807
structure G_apiPair (p : Pair) : Prop where
  key : p.key.length ≤ 140737488351232
  val : p.val.length ≤ 140737488351232
structure G_apiTime (t : Time) : Prop where
  sec : InR t.sec
  nano : InR t.nano
structure G_apiHead (h : Head) : Prop where
  kind : InR h.kind
  name : h.name.length ≤ 140737488351232
  link : h.link.length ≤ 140737488351232
  mode : InR h.mode
  uid : InR h.uid
  gid : InR h.gid
  size : InR h.size
  sec : InR h.sec
  nano : InR h.nano
  user : h.user.length ≤ 140737488351232
  group : h.group.length ≤ 140737488351232
  major : InR h.major
  minor : InR h.minor
  extra : h.extra.length * 32 ≤ 140737488351232
  pairs : ∀ p ∈ h.extra, G_apiPair p
structure G_apiItem (x : Item) : Prop where
  head : G_apiHead x.head
  data : x.data.length ≤ 140737488351232
end Go.Proofs.YtchflhbpdnfopaaDoor.Eng.U


/- The library's functions that the Dec laws call, in pieces: numbers to text and back, texts cut. -/
set_option linter.unusedVariables false
set_option linter.unusedSectionVars false
set_option linter.unusedSimpArgs false
namespace Go.Proofs.YtchflhbpdnfopaaDoor.Eng.U
open Go Go.Proofs Go.Proofs.YtchflhbpdnfopaaDoor.Eng Go.RowKit

def pItoa : Piece := { f := strconv_Itoa, ans := fun args => match args with
  | [.int .i64 n] => bif decide (-9223372036854775808 ≤ n) && decide (n ≤ 9223372036854775807) then some (.str (str (Lib.itoa n))) else none
  | _ => none }
def one (c : ByteArray) : Option UInt8 := match c.data.toList with | [x] => some x | _ => none
def pIndex : Piece := { f := stringslite_Index, ans := fun args => match args with
  | [.str s, .str c] => (one c).bind fun x => some (.int .i64 (Lib.indexByte s.data.toList x))
  | _ => none }
def pIndexByte : Piece := { f := strings_IndexByte, ans := fun args => match args with
  | [.str s, .int .u8 c] => some (.int .i64 (Lib.indexByte s.data.toList c.toNat.toUInt8))
  | _ => none }
def pPUint : Piece := { f := strconv_ParseUint, ans := fun args => match args with
  | [.str s, .int .i64 b, .int .i64 z] => bif decide (b = 10) && decide (z = 64) && decide (s.size ≤ 281474976710656) then some (endU (Lib.parseUintB 64 s.data.toList)) else none
  | _ => none }
def ps04 : List Piece := [pItoa, pIndex, pIndexByte, pPUint]
def ext04 : Ext := extOf ps04
instance core04 : Core ext04 := core_of (by kernel_rfl)
theorem num_of {ps : List Piece} (h2 : ps.find? (fun q => q.f == pItoa.f) = some pItoa) (h5 : ps.find? (fun q => q.f == pIndex.f) = some pIndex) (h6 : ps.find? (fun q => q.f == pIndexByte.f) = some pIndexByte) (h9 : ps.find? (fun q => q.f == pPUint.f) = some pPUint) : HasNum (extOf ps) where
  itoa k n v g0 g1 := (kp_piece (k := k) (n := n) h2).trans (by
    show (bif decide (-9223372036854775808 ≤ v) && decide (v ≤ 9223372036854775807) then _ else none) = _
    rw [decide_eq_true g0, decide_eq_true g1]
    rfl)
  index k n s x := (kp_piece (k := k) (n := n) h5).trans rfl
  indexB k n s c := (kp_piece (k := k) (n := n) h6).trans rfl
  puint k n s g0 := (kp_piece (k := k) (n := n) h9).trans (by
    show (bif decide ((10 : Int) = 10) && decide ((64 : Int) = 64) && decide ((str s).size ≤ 281474976710656) then _ else none) = _
    rw [str_size, decide_eq_true g0]
    rfl)
instance num04 : HasNum ext04 := num_of rfl rfl rfl rfl
end Go.Proofs.YtchflhbpdnfopaaDoor.Eng.U


/- crc.table and crc.More, walked: the sum of any bytes behind others. -/
set_option linter.unusedVariables false
set_option linter.unusedSimpArgs false
namespace Go.Proofs.YtchflhbpdnfopaaDoor.S32
open Go Go.RowKit Go.Proofs

def crc_step (x : Int) : Int := if (Go.bits .and .u32 x 1 == 1) = true then Go.bits .xor .u32 (x / 2) 3988292384 else x / 2
def crc_steps : Nat → Int → Int
  | 0, x => x
  | n + 1, x => crc_steps n (crc_step x)
def crc_entry (i : Nat) : Int := crc_steps 8 i
theorem bits_u32 (o : BinOp) (x y : Int) : 0 ≤ Go.bits o .u32 x y ∧ Go.bits o .u32 x y ≤ 4294967295 := by
  unfold Go.bits
  split <;> (simp only [IntKind.wrap_u32]; omega)
def CrcTab (W : World) (g : Nat) (n : Nat) : Prop := ∃ cs : Array Value, W.heap[g]? = some (.cells cs 73 (0, 0)) ∧ cs.size = 256 ∧ ∀ j, j < n → cs[j]? = some (.int .u32 (crc_entry j))
theorem CrcTab.lt {W : World} {g n : Nat} (h : CrcTab W g n) : g < W.heap.size := by
  obtain ⟨cs, h, _⟩ := h
  exact (Array.getElem?_eq_some_iff.1 h).1
theorem CrcTab.cell {W : World} {g n : Nat} (h : CrcTab W g n) (i : Nat) (hi : i < 256) : ∃ v, W.cell? ⟨g, i, none⟩ = some v ∧ W.frozen? ⟨g, i, none⟩ = false := by
  obtain ⟨cs, h, hs, _⟩ := h
  exact ⟨cs[i], by rw [cell_of_row W g i cs _ _ h]; exact Array.getElem?_eq_getElem (by omega), frozen_of_row W g i cs _ h⟩
theorem CrcTab.set {W : World} {g n : Nat} (h : CrcTab W g n) {x : Int} (hx : x = crc_entry n) (hn : n < 256) : CrcTab (W.setCell ⟨g, n, none⟩ (.int .u32 x)) g (n + 1) := by
  obtain ⟨cs, h, hs, hc⟩ := h
  refine ⟨cs.setIfInBounds n (.int .u32 x), heap_setCell_same W g n cs _ _ h, by simp [hs], fun j hj => ?_⟩
  subst hx
  rw [Array.getElem?_setIfInBounds]
  by_cases e : n = j
  · subst e; simp [hs, hn]
  · rw [if_neg e]; exact hc j (by omega)
set_option maxHeartbeats 1000000 in
set_option maxRecDepth 100000 in
theorem crc_table.calls (w : World) :
    Calls Tryd.prog 27 #[] w fun e w' => ∃ cs : Array Value, e = .returned (.agg cs) ∧ (cs.size = 256 ∧ ∀ j, j < 256 → cs[j]? = some (.int .u32 (crc_entry j))) ∧ Below w.heap.size w w' := by
  have hu := Tryd.underlying73
  have hi0 : (Tryd.prog.info? 73).map (·.size) = some 256 := by kernel_rfl
  have Hi := Go.Lib.hid hi0; clear hi0
  obtain ⟨z, hz, hzs, hzo⟩ : ∃ z : Array Value, (∀ W, (zeroValue 73).run Tryd.prog W = .ok (.agg z) W) ∧ z.size = 256 ∧ z.all (·.oneCell') = true :=
    ⟨Array.replicate 256 (.int .u32 0), fun W => by kernel_rfl, by simp, by rw [Array.all_eq_true]; intro i hi; simp; rfl⟩
  have Hzs := Go.Lib.hid hzs; clear hzs
  have Hzo := Go.Lib.hid hzo; clear hzo
  have hB0 := Go.Lib.hid (((Below.refl w.heap.size w).alloc (Nat.le_refl _) (.cells z 73)).alloc (by simp) (.cells z 73))
  have hT0 := Go.Lib.hid (show CrcTab ((w.alloc (.cells z 73)).alloc (.cells z 73)) (w.heap.size + 1) 0 from ⟨z, heap_alloc2_new w _ _, Hzs.out, fun j hj => by omega⟩)
  have hR0 := Go.Lib.hid (show ((w.alloc (.cells z 73)).alloc (.cells z 73)).heap[w.heap.size]? = some (.cells z 73 (0, 0)) from heap_alloc2_old w _ _)
  go_enter Tryd.func27, Tryd.ntmps27
  go_wp2
  go_loopw [4] (fun i wr => ∃ n : Nat, n ≤ 256 ∧ i = .int .i64 n ∧ Hid (CrcTab wr (w.heap.size + 1) n) ∧ Hid (wr.heap[w.heap.size]? = some (.cells z 73 (0, 0))) ∧ Hid (Below w.heap.size w wr)) (fun i _ => 256 - (intOf i).toNat)
  case atStart => exact ⟨0, by omega, rfl, hT0, hR0, hB0⟩
  case round =>
    clear hT0 hR0 hB0
    obtain ⟨n, hn, rfl, HT, HR, HB⟩ := hrel
    by_cases hlt : n < 256
    · have hw : IntKind.u32.wrap (n : Int) = n := by rw [IntKind.wrap_u32]; omega
      go_wp2
      obtain ⟨wo, rfl⟩ : ∃ wo : World, wo = wr := ⟨_, rfl⟩
      go_loop [3, 9] (fun x k => ∃ (m : Nat) (y : Int), m ≤ 8 ∧ k = .int .i64 m ∧ x = .int .u32 y ∧ 0 ≤ y ∧ y ≤ 4294967295 ∧ Hid (crc_steps (8 - m) y = crc_entry n)) (fun _ k => 8 - (intOf k).toNat)
      case atStart => exact ⟨0, n, by omega, rfl, rfl, by omega, by omega, rfl⟩
      case round =>
        obtain ⟨m, y, hm, rfl, rfl, hy0, hy1, HY⟩ := hrel
        by_cases hlt2 : m < 8
        · have hs : crc_steps (8 - m) y = crc_steps (8 - (m + 1)) (crc_step y) := by rw [show 8 - m = (8 - (m + 1)) + 1 by omega]; rfl
          have hdiv : 0 ≤ y / 2 ∧ y / 2 ≤ 4294967295 := by omega
          have HS := Go.Lib.hid hs; clear hs
          by_cases ho : (Go.bits .and .u32 y 1 == 1) = true
          · have e : crc_step y = Go.bits .xor .u32 (y / 2) 3988292384 := if_pos ho
            have E := Go.Lib.hid e; clear e
            have hb := bits_u32 .xor (y / 2) 3988292384
            go_wp2
            go_round
            case rel => exact ⟨m + 1, _, by omega, by go_num, rfl, hb.1, hb.2, by rw [← E.out, ← HS.out]; exact HY.out⟩
            case measure => simp [intOf]; omega
          · have e : crc_step y = y / 2 := if_neg ho
            have E := Go.Lib.hid e; clear e
            replace ho : (Go.bits .and .u32 y 1 == 1) = false := by simpa using ho
            go_wp2
            go_round
            case rel => exact ⟨m + 1, _, by omega, by go_num, rfl, hdiv.1, hdiv.2, by rw [← E.out, ← HS.out]; exact HY.out⟩
            case measure => simp [intOf]; omega
        · obtain rfl : m = 8 := by omega
          have hT := HT.out
          obtain ⟨v, hc, hf⟩ := hT.cell n hlt
          have HT2 := Go.Lib.hid (hT.set (x := y) HY.out hlt)
          have HR2 := Go.Lib.hid ((heap_setCell_other wo ⟨w.heap.size + 1, n, none⟩ w.heap.size (.int .u32 y) (by simp)).trans HR.out)
          have HB2 := Go.Lib.hid (HB.out.setCell (p := ⟨w.heap.size + 1, n, none⟩) (by simp) (.int .u32 y))
          clear hT HT HR HB hlt2
          go_wp2
          go_roundw
          case rel => exact ⟨n + 1, by omega, by go_num, HT2, HR2, HB2⟩
          case measure => simp [intOf]; omega
    · obtain rfl : n = 256 := by omega
      have hT := HT.out
      obtain ⟨cs, hg, hs, hc⟩ := hT
      have hr2 := setRow_heap wr w.heap.size z cs 73 (0, 0) HR.out
      have hb2 : Below w.heap.size w (wr.setRow w.heap.size cs) := below_setRow HB.out (Nat.le_refl _) cs
      have hall : cs.all (·.oneCell') = true := by
        rw [Array.all_eq_true]; intro i hi
        have hj := hc i (by omega)
        rw [Array.getElem?_eq_getElem hi] at hj
        rw [Option.some.inj hj]; rfl
      have HG := Go.Lib.hid hg; clear hg
      have HS := Go.Lib.hid hs; clear hs
      have HC := Go.Lib.hid hc; clear hc
      have HA := Go.Lib.hid hall; clear hall
      have HR2 := Go.Lib.hid hr2; clear hr2
      have HB2 := Go.Lib.hid hb2; clear hb2
      go_wp2_with (first | (refine wpList_load_row rfl 73 (.tmp 1) rfl (w.heap.size + 1) rfl 73 cs (0, 0) _ HG.out hu rfl (by rw [HS.out]; exact Hi.out) ?_) | (refine wpList_store_row rfl 73 (.tmp 0) (.tmp 24) rfl w.heap.size cs rfl rfl 73 z HR.out (by rw [HS.out]; exact Hi.out) (by rw [HS.out]; exact Hzs.out) HA.out ?_))
      exact bodyPost_ret (v := .agg cs) (results_cell_row (fn := Tryd.f27) rfl _ _ w.heap.size 73 cs (0, 0) _ rfl HR2.out hu rfl (by rw [HS.out]; exact Hi.out)) rfl ⟨cs, rfl, ⟨HS.out, HC.out⟩, HB2.out⟩

def rd (l : List Int) (m : Nat) : Int := l.getD m 0
/-- What a row of bytes reads as. -/
def ReadsB (w : World) (A : Option Addr) (l : List Int) : Prop := l = [] ∨ ∃ a, A = some a ∧ ∀ j, j < l.length → w.cell? (a.add j) = some (.int .u8 (l.getD j 0))
theorem ReadsB.below {w W : World} {A : Option Addr} {l : List Int} (h : ReadsB w A l) (hb : Below w.heap.size w W) : ReadsB W A l := by
  rcases h with h | ⟨a, rfl, h⟩
  · exact .inl h
  · refine .inr ⟨a, rfl, fun j hj => ?_⟩
    have hc := h j hj
    exact (hb.cell (World.block_lt_of_cell? w _ hc)).trans hc
theorem ReadsB.at {w : World} {A : Option Addr} {l : List Int} (h : ReadsB w A l) (m : Nat) (hm : m < l.length) : ∃ a, A = some a ∧ w.cell? (a.add m) = some (.int .u8 (rd l m)) := by
  rcases h with rfl | ⟨a, rfl, h⟩
  · simp at hm
  · exact ⟨a, rfl, h m hm⟩
def crc_next (x c : Int) : Int := Go.bits .xor .u32 (x / 256) (crc_entry (Go.bits .xor .u8 (x % 256) c).toNat)
def crc_not (x : Int) : Int := Go.bits .xor .u32 IntKind.u32.max x
def crc_More.f (a0 : Int) (l1 : List Int) : Option Int := some (crc_not (l1.foldl crc_next (crc_not a0)))
theorem crc_bitsN (o : BinOp) (x : Int) : 0 ≤ Go.bits o .u32 IntKind.u32.max x ∧ Go.bits o .u32 IntKind.u32.max x ≤ 4294967295 := bits_u32 o _ _
theorem crc_bits8 (o : BinOp) (x y : Int) : 0 ≤ Go.bits o .u8 x y ∧ Go.bits o .u8 x y ≤ 255 := by
  unfold Go.bits
  split <;> (simp only [IntKind.wrap_u8]; omega)
set_option maxHeartbeats 1000000 in
set_option maxRecDepth 100000 in
theorem crc_More.calls (a0 : Int) (A1 : Option Addr) (c1 : Nat) (l1 : List Int) (r : Int) (w : World) (hr1 : ReadsB w A1 l1) (hlm : l1.length ≤ 1000000000) (h : crc_More.f a0 l1 = some r) :
    Calls Tryd.prog 16 #[.int .u32 a0, .slice A1 l1.length c1] w fun e w' => e = .returned (.int .u32 r) ∧ Below w.heap.size w w' := by
  have hu := Tryd.underlying73
  have hi0 : (Tryd.prog.info? 73).map (·.size) = some 256 := by kernel_rfl
  have Hi := Go.Lib.hid hi0; clear hi0
  have HF := Go.Lib.hid h; clear h
  have HR1 := Go.Lib.hid hr1
  clear hr1
  obtain ⟨z, hz, hzs, hzo⟩ : ∃ z : Array Value, (∀ W, (zeroValue 73).run Tryd.prog W = .ok (.agg z) W) ∧ z.size = 256 ∧ z.all (·.oneCell') = true :=
    ⟨Array.replicate 256 (.int .u32 0), fun W => by kernel_rfl, by simp, by rw [Array.all_eq_true]; intro i hi; simp; rfl⟩
  have Hzs := Go.Lib.hid hzs; clear hzs
  have Hzo := Go.Lib.hid hzo; clear hzo
  go_enter Tryd.func16, Tryd.ntmps16
  go_wp2_with fail
  refine (crc_table.calls _).mono ?_
  rintro e w1 ⟨cs, rfl, ⟨hs, hc⟩, hb⟩
  have hall : cs.all (·.oneCell') = true := by
    rw [Array.all_eq_true]; intro i hi
    have hj := hc i (by omega)
    rw [Array.getElem?_eq_getElem hi] at hj
    rw [Option.some.inj hj]; rfl
  have hb2 : Below w.heap.size w ((w1.alloc (.cells z 73)).setRow w1.heap.size cs) := below_setRow (hb.alloc hb.size _) hb.size cs
  have hg2 := setRow_heap (w1.alloc (.cells z 73)) w1.heap.size z cs 73 (0, 0) (heap_alloc_new w1 _)
  have HG0 := Go.Lib.hid (heap_alloc_new w1 (.cells z 73))
  have HS := Go.Lib.hid hs; clear hs
  have HC := Go.Lib.hid hc; clear hc
  have HA := Go.Lib.hid hall; clear hall
  have HB := Go.Lib.hid hb2; clear hb2 hb
  have HG := Go.Lib.hid hg2; clear hg2
  go_wp2_with (refine wpList_store_row rfl 73 (.tmp 5) (.tmp 9) rfl w1.heap.size cs rfl rfl 73 z HG0.out (by rw [HS.out]; exact Hi.out) (by rw [HS.out]; exact Hzs.out) HA.out ?_)
  have HR := Go.Lib.hid (HR1.out.below HB.out)
  have hcl : w1.heap.size < ((w1.alloc (.cells z 73)).setRow w1.heap.size cs).heap.size := by simp
  clear HG0 HR1
  generalize hW : (w1.alloc (.cells z 73)).setRow w1.heap.size cs = W2 at HB HG HR hcl ⊢
  clear hW
  obtain ⟨g, rfl⟩ : ∃ g, g = w1.heap.size := ⟨_, rfl⟩
  go_loop [6, 14] (fun x i => ∃ (m : Nat) (y : Int), m ≤ l1.length ∧ i = .int .i64 m ∧ x = .int .u32 y ∧ 0 ≤ y ∧ y ≤ 4294967295 ∧ Hid (y = (l1.take m).foldl crc_next (crc_not a0))) (fun _ i => l1.length - (intOf i).toNat)
  case atStart => exact ⟨0, _, by omega, rfl, rfl, (crc_bitsN _ _).1, (crc_bitsN _ _).2, rfl⟩
  case round =>
    obtain ⟨m, y, hm, rfl, rfl, hy0, hy1, HY⟩ := hrel
    by_cases hlt : m < l1.length
    · obtain ⟨ad, hA, hcell⟩ := HR.out.at m (by omega)
      cases hA
      have hx := crc_bits8 .xor (y % 256) (rd l1 m)
      have hb := bits_u32 .xor (y / 256) (crc_entry (Go.bits .xor .u8 (y % 256) (rd l1 m)).toNat)
      have hwy : IntKind.u8.wrap y = y % 256 := IntKind.wrap_u8 y
      have hr : (l1.take (m + 1)).foldl crc_next (crc_not a0) = crc_next ((l1.take m).foldl crc_next (crc_not a0)) (rd l1 m) := by
        rw [List.take_succ_eq_append_getElem hlt, List.foldl_append]
        simp [rd, List.getD_eq_getElem?_getD, List.getElem?_eq_getElem hlt]
      have HT := Go.Lib.hid hr; clear hr
      generalize hq : Go.bits .xor .u8 (y % 256) (rd l1 m) = q at hx hb
      obtain ⟨q', rfl⟩ := Int.eq_ofNat_of_zero_le hx.1
      have ht : W2.cell? ⟨w1.heap.size, q', none⟩ = some (.int .u32 (crc_entry q')) := by
        rw [cell_of_row W2 _ q' cs _ _ HG.out]; exact HC.out q' (by omega)
      have HQ := Go.Lib.hid hq
      have HE := Go.Lib.hid (show crc_next y (rd l1 m) = Go.bits .xor .u32 (y / 256) (crc_entry q') from by unfold crc_next; rw [HQ.out]; rfl)
      have hb' : 0 ≤ Go.bits .xor .u32 (y / 256) (crc_entry q') ∧ Go.bits .xor .u32 (y / 256) (crc_entry q') ≤ 4294967295 := hb
      clear hb
      have hdiv : 0 ≤ y / 256 := by omega
      go_wp2
      go_round
      case rel => exact ⟨m + 1, _, by omega, by go_num, rfl, hb'.1, hb'.2, by show _ = _; rw [HT.out, ← HE.out, ← HY.out]⟩
      case measure => simp [intOf]; omega
    · obtain rfl : m = l1.length := by omega
      have hv : r = crc_not y := by
        have h1 := HF.out
        unfold crc_More.f at h1
        rw [List.take_length] at HY
        rw [HY.out]; exact (Option.some.inj h1).symm
      have HV := Go.Lib.hid hv; clear hv
      clear HY
      go_wp2
      go_ret
      exact ⟨by rw [HV.out]; rfl, HB.out⟩
end Go.Proofs.YtchflhbpdnfopaaDoor.S32


/- strconv.FormatUint at base 16, walked: the digits of any number below 2^64. -/
set_option linter.unusedVariables false
set_option linter.unusedSimpArgs false
namespace Go.Proofs.YtchflhbpdnfopaaDoor.S32
open Go Go.RowKit Go.Proofs

/-! The digits. -/
/-- The row of 65 bytes, its last ones told. -/
def Arr (W : World) (g : Nat) (acc : List UInt8) : Prop := ∃ cs : Array Value, W.heap[g]? = some (.cells cs 124 (0, 0)) ∧ cs.size = 65 ∧ ∀ j c, acc[j]? = some c → cs[65 - acc.length + j]? = some (.int .u8 c.toNat)
theorem Arr.cell {W : World} {g : Nat} {acc : List UInt8} (h : Arr W g acc) (i : Nat) (hi : i < 65) : ∃ v, W.cell? ⟨g, i, none⟩ = some v ∧ W.frozen? ⟨g, i, none⟩ = false := by
  obtain ⟨cs, h, hs, _⟩ := h
  exact ⟨cs[i], by rw [cell_of_row W g i cs _ _ h]; exact Array.getElem?_eq_getElem (by omega), frozen_of_row W g i cs _ h⟩
theorem Arr.set {W : World} {g : Nat} {acc : List UInt8} (h : Arr W g acc) (c : UInt8) (hm : acc.length < 65) : Arr (W.setCell ⟨g, 64 - acc.length, none⟩ (.int .u8 c.toNat)) g (c :: acc) := by
  obtain ⟨cs, h, hs, hc⟩ := h
  refine ⟨cs.setIfInBounds (64 - acc.length) (.int .u8 c.toNat), heap_setCell_same W g _ cs _ _ h, by simp [hs], fun j d hj => ?_⟩
  rw [Array.getElem?_setIfInBounds, List.length_cons]
  cases j with
  | zero => rw [if_pos (by omega), if_pos (by omega)]; simp at hj; rw [hj]
  | succ j =>
    rw [List.getElem?_cons_succ] at hj
    have hl : j < acc.length := (List.getElem?_eq_some_iff.1 hj).1
    rw [if_neg (by omega), show 65 - (acc.length + 1) + (j + 1) = 65 - acc.length + j from by omega]
    exact hc j d hj
theorem add0' (g i j : Nat) : (⟨g, i, none⟩ : Addr).add j = ⟨g, i + j, none⟩ := by simp [Addr.add]
theorem Arr.text {W : World} {g : Nat} {acc : List UInt8} (h : Arr W g acc) (cap : Nat) : (convert 35 9 (.slice (some ⟨g, 65 - acc.length, none⟩) acc.length cap)).run Tryd.prog W = .ok (.string ⟨acc.toArray⟩) W := by
  refine run_convert_bytes_back W _ _ 5 _ _ _ Tryd.underlying35 Tryd.underlying5 Tryd.underlying9 fun j hj => ?_
  obtain ⟨cs, h, hs, hc⟩ := h
  rw [add0', cell_of_row W g _ cs _ _ h]
  exact hc j _ (List.getElem?_eq_getElem hj)
end Go.Proofs.YtchflhbpdnfopaaDoor.S32


/- The sum of bytes, plain: the table's steps are the bits' steps. -/
set_option linter.unusedVariables false
set_option linter.unusedSimpArgs false
namespace Go.Proofs.YtchflhbpdnfopaaDoor.Q32
open Go Go.RowKit Go.Proofs.YtchflhbpdnfopaaDoor.S32
abbrev B := BitVec 32
def poly : B := 3988292384#32
def stp (x : B) : B := if x.getLsbD 0 then (x >>> 1) ^^^ poly else x >>> 1
def stps : Nat → B → B
  | 0, x => x
  | n + 1, x => stps n (stp x)
/-! ### a byte at a time -/
theorem parts (x : B) : x = (x &&& 255#32) ^^^ ((x >>> 8) <<< 8) := by
  apply BitVec.eq_of_getLsbD_eq; intro i hi
  rw [BitVec.getLsbD_xor, BitVec.getLsbD_and, BitVec.getLsbD_shiftLeft, BitVec.getLsbD_ushiftRight]
  have h255 : (255#32).getLsbD i = decide (i < 8) := by
    have : ∀ i : Fin 32, (255#32).getLsbD i.val = decide (i.val < 8) := by decide
    exact this ⟨i, hi⟩
  rw [h255]
  by_cases e : i < 8
  · simp [e, hi]
  · have : 8 + (i - 8) = i := by omega
    simp [e, hi, this]
/-- All bytes, one behind the other. -/
def run (l : List B) (x : B) : B := l.foldl (fun x c => stps 8 (x ^^^ c)) x
/-- A row of 32 bits, as a number. -/
def T (x : B) : Int := (x.toNat : Int)
theorem low (x : B) : T x % (2 : Int) = 1 ↔ x.getLsbD 0 = true := by
  unfold T
  rw [BitVec.getLsbD, Nat.testBit_zero, decide_eq_true_eq]; omega
/-- A byte, as a row of bits. -/
def byte (c : Int) : B := BitVec.ofNat 32 c.toNat
end Go.Proofs.YtchflhbpdnfopaaDoor.Q32


/- The sum of bytes and the text of a number at base 16: the pieces. -/
set_option linter.unusedVariables false
set_option linter.unusedSectionVars false
set_option linter.unusedSimpArgs false
namespace Go.Proofs.YtchflhbpdnfopaaDoor.Eng.U
open Go Go.RowKit Go.Proofs Go.Proofs.YtchflhbpdnfopaaDoor.Eng Go.Proofs.YtchflhbpdnfopaaDoor.Eng.Rdv Go.Proofs.YtchflhbpdnfopaaDoor.S32

/-- Bytes as numbers. -/
def nums (l : Tx) : List Int := l.map fun c => ((c.toNat : Nat) : Int)
def moreI (a : Int) (l : Tx) : Int := crc_not ((nums l).foldl crc_next (crc_not a))
def toB : List AV → Option Tx
  | [] => some []
  | .int .u8 n :: l => bif decide (0 ≤ n) && decide (n ≤ 255) then (toB l).map (UInt8.ofNat n.toNat :: ·) else none
  | _ => none
theorem toB_bys : ∀ l : Tx, toB (bys l) = some l
  | [] => rfl
  | c :: l => by
    have h := c.toNat_lt
    show (bif decide ((0 : Int) ≤ ((c.toNat : Nat) : Int)) && decide (((c.toNat : Nat) : Int) ≤ 255) then (toB (bys l)).map _ else none) = _
    rw [decide_eq_true (Int.natCast_nonneg _), decide_eq_true (by omega), toB_bys l]
    show some (UInt8.ofNat (Int.toNat ((c.toNat : Nat) : Int)) :: l) = _
    rw [Int.toNat_natCast, UInt8.ofNat_toNat]
noncomputable def pMore : Piece := { f := crc_More, ans := fun args => match args with
  | [.int .u32 a, .list s xs] => (toB xs).bind fun l => bif (s == 1) && decide (l.length ≤ 1000000000) then some (.int .u32 (moreI a l)) else none
  | _ => none }
class HasCrc (E : Ext) : Prop where
  more : ∀ (k n : Nat) (a : Int) (l : Tx), l.length ≤ 1000000000 → kp E k n crc_More [.int .u32 a, .list 1 (bys l)] = some (.int .u32 (moreI a l))
end Go.Proofs.YtchflhbpdnfopaaDoor.Eng.U


/- internal/strconv.ParseUint at base 16 and 32 bits, eight bytes: walked (after the library's own walk at base 10). -/
set_option linter.unusedVariables false
set_option linter.unusedSimpArgs false
namespace Go.Proofs.YtchflhbpdnfopaaDoor.S32
open Go Go.RowKit Go.Proofs Go.Shelf

def lw (c : UInt8) : Int := Go.bits .or .u8 ((c.toNat : Nat) : Int) 32
def digC (c : UInt8) : Option Nat := if 48 ≤ c.toNat ∧ c.toNat ≤ 57 then some (c.toNat - 48) else if 97 ≤ lw c ∧ lw c ≤ 102 then some ((lw c).toNat - 87) else none
def goX : Nat → List UInt8 → Option Nat
  | acc, [] => some acc
  | acc, c :: l => match digC c with
    | some d => goX (acc * 16 + d) l
    | none => none
end Go.Proofs.YtchflhbpdnfopaaDoor.S32


/- strconv.ParseUint at (10, 64) and, eight bytes, at (16, 32): one piece. -/
set_option linter.unusedVariables false
set_option linter.unusedSectionVars false
set_option linter.unusedSimpArgs false
namespace Go.Proofs.YtchflhbpdnfopaaDoor.Eng.U
open Go Go.RowKit Go.Proofs Go.Proofs.YtchflhbpdnfopaaDoor.Eng Go.Proofs.YtchflhbpdnfopaaDoor.Eng.Rdv Go.Proofs.YtchflhbpdnfopaaDoor.S32

def endXA : Option Nat → AV
  | some v => .tup [.int .u64 ((v : Nat) : Int), .nili]
  | none => .tup [.int .u64 0, .ifc]
noncomputable def pPUx : Piece := { f := strconv_ParseUint, ans := fun args => match args with
  | [.str s, .int .i64 b, .int .i64 z] => bif decide (b = 16) && decide (z = 32) && decide (s.size = 8) then some (endXA (goX 0 s.data.toList)) else pPUint.ans [.str s, .int .i64 b, .int .i64 z]
  | _ => none }
/-- ParseUint at 16, 32: eight bytes. -/
class HasHexP (E : Ext) : Prop where
  parse : ∀ (k n : Nat) (s : Tx), s.length = 8 → kp E k n strconv_ParseUint [.str (str s), .int .i64 16, .int .i64 32] = some (endXA (goX 0 s))
theorem hexp_of {ps : List Piece} (h : ps.find? (fun q => q.f == pPUx.f) = some pPUx) : HasHexP (extOf ps) where
  parse k n s hs := (kp_piece (k := k) (n := n) h).trans (by
    show (bif decide ((16 : Int) = 16) && decide ((32 : Int) = 32) && decide ((str s).size = 8) then some (endXA (goX 0 (str s).data.toList)) else _) = _
    rw [str_size, decide_eq_true hs]
    rfl)
theorem num_of16 {ps : List Piece} (h2 : ps.find? (fun q => q.f == pItoa.f) = some pItoa) (h5 : ps.find? (fun q => q.f == pIndex.f) = some pIndex) (h6 : ps.find? (fun q => q.f == pIndexByte.f) = some pIndexByte) (h9 : ps.find? (fun q => q.f == pPUx.f) = some pPUx) : HasNum (extOf ps) where
  itoa k n v g0 g1 := (kp_piece (k := k) (n := n) h2).trans (by
    show (bif decide (-9223372036854775808 ≤ v) && decide (v ≤ 9223372036854775807) then _ else none) = _
    rw [decide_eq_true g0, decide_eq_true g1]
    rfl)
  index k n s x := (kp_piece (k := k) (n := n) h5).trans rfl
  indexB k n s c := (kp_piece (k := k) (n := n) h6).trans rfl
  puint k n s g0 := (kp_piece (k := k) (n := n) h9).trans (by
    show pPUint.ans [.str (str s), .int .i64 10, .int .i64 64] = _
    show (bif decide ((10 : Int) = 10) && decide ((64 : Int) = 64) && decide ((str s).size ≤ 281474976710656) then _ else none) = _
    rw [str_size, decide_eq_true g0]
    rfl)
end Go.Proofs.YtchflhbpdnfopaaDoor.Eng.U


/- What functions answer, as the engine evaluates their code. Printed by gen2.py. -/
set_option linter.unusedVariables false
namespace Go.Proofs.YtchflhbpdnfopaaDoor.Eng.U
open Go Go.Proofs Go.Proofs.YtchflhbpdnfopaaDoor.Eng

end Go.Proofs.YtchflhbpdnfopaaDoor.Eng.U


/- Items' names in plain words: what a full name tells, a head's full names, how much a head is. -/
set_option linter.unusedVariables false
set_option linter.unusedSectionVars false
set_option linter.unusedSimpArgs false
namespace Go.Proofs.YtchflhbpdnfopaaDoor.Eng.U
open Go Go.Proofs Go.Proofs.YtchflhbpdnfopaaDoor.Eng
variable {E : Ext} [Core E] {k n : Nat}

/-- Does a text end in a slash? -/
def sl (s : List UInt8) : Bool := decide (s.getLast? = some 47)
def told (kind : Int) (s : List UInt8) : Int × List UInt8 :=
  if kind = 1 ∧ sl s = true then (if 1 < s.length then (6, s.dropLast) else (6, s))
  else if kind = 6 ∧ sl s = true ∧ 1 < s.length then (6, s.dropLast) else (kind, s)
end Go.Proofs.YtchflhbpdnfopaaDoor.Eng.U


/- ItemFulls, but for whether any field is wrong. -/
set_option linter.unusedVariables false
set_option linter.unusedSectionVars false
set_option linter.unusedSimpArgs false
namespace Go.Proofs.YtchflhbpdnfopaaDoor.Eng.U
open Go Go.Proofs Go.Proofs.YtchflhbpdnfopaaDoor.Eng
variable {E : Ext} [Core E] {k n : Nat}

end Go.Proofs.YtchflhbpdnfopaaDoor.Eng.U


/- What functions answer, as the engine evaluates their code. Printed by gen2.py. -/
set_option linter.unusedVariables false
namespace Go.Proofs.YtchflhbpdnfopaaDoor.Eng.U
open Go Go.Proofs Go.Proofs.YtchflhbpdnfopaaDoor.Eng
/- strings.ContainsAny -/
/- strings.IndexAny -/
/- strings.IndexRune -/
/- strings.shouldUseASCIISet -/
/- unicode/utf8.ValidRune -/
end Go.Proofs.YtchflhbpdnfopaaDoor.Eng.U


/- Is any field of a head wrong: some number answers, and 0 says what ItemFulls wants. -/
set_option linter.unusedVariables false
set_option linter.unusedSectionVars false
set_option linter.unusedSimpArgs false
namespace Go.Proofs.YtchflhbpdnfopaaDoor.Eng.U
open Go Go.Proofs Go.Proofs.YtchflhbpdnfopaaDoor.Eng Go.Proofs.YtchflhbpdnfopaaDoor.P04
variable {E : Ext} [Core E] [HasNum E] {k n : Nat}

class HasText (E : Ext) : Prop where
  dec : ∀ (k n : Nat) (s : List UInt8), ∃ r w : Int, kp E k n unicode_utf8_DecodeRuneInString [.str (str s)] = some (.tup [.int .i32 r, .int .i64 w])
  idx : ∀ (k n : Nat) (s : List UInt8), s.length ≤ 1000000 → ∃ i : Int, kp E k n strings_IndexAny [.str (str s), .str (str [61, 0])] = some (.int .i64 i)
section
variable [HasText E]
end
end Go.Proofs.YtchflhbpdnfopaaDoor.Eng.U


/- strings.IndexAny at "=\x00" and a text of at most 8 bytes: some place. -/
set_option linter.unusedVariables false
set_option linter.unusedSectionVars false
set_option linter.unusedSimpArgs false
namespace Go.Proofs.YtchflhbpdnfopaaDoor.Eng.U
open Go Go.Proofs Go.Proofs.YtchflhbpdnfopaaDoor.Eng
variable {E : Ext} [Core E] {k n : Nat}

class HasIB (E : Ext) : Prop where
  indexB : ∀ (k n : Nat) (s : List UInt8) (c : Int), kp E k n strings_IndexByte [.str (str s), .int .u8 c] = some (.int .i64 (Lib.indexByte s c.toNat.toUInt8))
end Go.Proofs.YtchflhbpdnfopaaDoor.Eng.U


/- What functions answer, as the engine evaluates their code. Printed by gen2.py. -/
set_option linter.unusedVariables false
namespace Go.Proofs.YtchflhbpdnfopaaDoor.Eng.U
open Go Go.Proofs Go.Proofs.YtchflhbpdnfopaaDoor.Eng
/- oakum/oakumref02.Unquote -/
noncomputable def ref02_Unquote_bd : Code := Tryd.f13.body.getD .skip
noncomputable def ref02_Unquote_L0 (kap : FuncId → List AV → Option AV) (k : Nat) (k0 : Nat) (s0 : ByteArray) (s5 : Int) (x4 : List AV) : Option AV :=
  loop (fun fr K => code ((bs E0 k).cfg kap ref02_Unquote) (sel ref02_Unquote_bd [1, 1, 1, 0, 0, 0]) fr K) (canon ((bs E0 k).cfg kap ref02_Unquote) (firstReg (sel ref02_Unquote_bd [1, 1, 1, 0, 0, 0]))) k0 (mkFr 66 [(0, (.str s0)), (4, (.own 4)), (5, (.int .i64 s5))] [(4, (.row 5 x4 false))]) (plug ((bs E0 k).cfg kap ref02_Unquote) (retK ((bs E0 k).cfg kap ref02_Unquote) [] Tryd.f13 [] some) [.blk 0, .seqR (sel ref02_Unquote_bd [1, 1, 1, 1])])
/- oakum/oakumref02.open -/
/- oakum/oakumref02.code -/
end Go.Proofs.YtchflhbpdnfopaaDoor.Eng.U


/- The Utf laws in plain words, part 1: how many bytes stand for a code point. -/
set_option linter.unusedVariables false
set_option linter.unusedSimpArgs false
namespace Go.Proofs.YtchflhbpdnfopaaDoor.Eng.U
open Go Go.Proofs Go.Proofs.YtchflhbpdnfopaaDoor.Eng Go.Lib
variable {kap : FuncId → List AV → Option AV} {E : Ext} [Core E] {n : Nat}
def goDec (s : ByteArray) : Nat × Nat := if s.size = 0 then (65533, 0) else Utf8.decode s 0

theorem i64w {x : Int} (h : -9223372036854775808 ≤ x ∧ x ≤ 9223372036854775807) : IntKind.wrap .i64 x = x := IntWalk.i64_in x h

end Go.Proofs.YtchflhbpdnfopaaDoor.Eng.U


/- The Utf laws in plain words, part 2: the size of a code point is what the decoder says. -/
set_option linter.unusedVariables false
set_option linter.unusedSimpArgs false
namespace Go.Proofs.YtchflhbpdnfopaaDoor.Eng.U
open Go Go.Proofs Go.Proofs.YtchflhbpdnfopaaDoor.Eng Go.Lib
variable {kap : FuncId → List AV → Option AV} {E : Ext} [Core E] {n : Nat}

end Go.Proofs.YtchflhbpdnfopaaDoor.Eng.U


/- The Utf laws in plain words, part 3: the functions that go through a text. -/
set_option linter.unusedVariables false
set_option linter.unusedSimpArgs false
namespace Go.Proofs.YtchflhbpdnfopaaDoor.Eng.U
open Go Go.Proofs Go.Proofs.YtchflhbpdnfopaaDoor.Eng Go.Lib
variable {kap : FuncId → List AV → Option AV} {E : Ext} [Core E] {n : Nat}

/-- Is the byte at a place no part of a code point? -/
def bad (s : ByteArray) (i : Nat) : Prop := Utf8.decode s i = (65533, 1)
instance (s : ByteArray) (i : Nat) : Decidable (bad s i) := inferInstanceAs (Decidable (_ = _))
/-- The place behind what stands at a place. -/
def nx (s : ByteArray) (i : Nat) : Nat := i + (Utf8.decode s i).2
/-- The place of the first byte that is no part of a code point; -1: there is none. -/
def firstL (s : ByteArray) : Nat → Nat → Int
  | 0, _ => -1
  | n + 1, pos => if pos < s.size then (if bad s pos then (pos : Int) else firstL s n (nx s pos)) else -1
def first (s : ByteArray) : Int := firstL s s.size 0
end Go.Proofs.YtchflhbpdnfopaaDoor.Eng.U


/- Which texts hold = or a nought, told exactly. -/
set_option linter.unusedVariables false
set_option linter.unusedSectionVars false
set_option linter.unusedSimpArgs false
namespace Go.Proofs.YtchflhbpdnfopaaDoor.Eng.U
open Go Go.Proofs Go.Proofs.YtchflhbpdnfopaaDoor.Eng
variable {E : Ext} [Core E] {k n : Nat}

def noEq (s : List UInt8) : Bool := s.all fun c => decide (c ≠ 61) && decide (c ≠ 0)
class HasTextV (E : Ext) : Prop where
  dec : ∀ (k n : Nat) (s : ByteArray), kp E k n unicode_utf8_DecodeRuneInString [.str s] = some (.tup [.int .i32 ((goDec s).1 : Int), .int .i64 ((goDec s).2 : Int)])
  idx : ∀ (k n : Nat) (s : List UInt8), s.length ≤ 1000000 → ∃ i : Int, kp E k n strings_IndexAny [.str (str s), .str (str [61, 0])] = some (.int .i64 i) ∧ decide (i ≥ 0) = !noEq s
end Go.Proofs.YtchflhbpdnfopaaDoor.Eng.U


/- The functions of the Dec laws in plain words, part 4: the document's own reading of a time. -/
set_option linter.unusedVariables false
set_option linter.unusedSectionVars false
set_option linter.unusedSimpArgs false
namespace Go.Proofs.YtchflhbpdnfopaaDoor.Eng.U
open Go Go.Proofs Go.Proofs.YtchflhbpdnfopaaDoor.Eng Go.Proofs.YtchflhbpdnfopaaDoor.P04
variable {E : Ext} [Core E] {k n : Nat}

end Go.Proofs.YtchflhbpdnfopaaDoor.Eng.U


/- What a pair of a record is: both sides in plain words. -/
set_option linter.unusedVariables false
set_option linter.unusedSectionVars false
set_option linter.unusedSimpArgs false
namespace Go.Proofs.YtchflhbpdnfopaaDoor.Eng.U
open Go Go.Proofs Go.Proofs.YtchflhbpdnfopaaDoor.Eng Go.Proofs.YtchflhbpdnfopaaDoor.P04
variable {E : Ext} [Core E] [HasNum E] {k n : Nat}

def utfOk (l : List UInt8) : Bool := decide (first (str l) < 0)
section
variable [HasTextV E]
end
def clean (s : List UInt8) : Bool := s.all fun c => decide (c ≠ 0)
def whichL (key : List UInt8) : Int :=
  if key = [112, 97, 116, 104] then 0 else if key = [108, 105, 110, 107, 112, 97, 116, 104] then 1 else if key = [117, 110, 97, 109, 101] then 2 else if key = [103, 110, 97, 109, 101] then 3 else if key = [117, 105, 100] then 4 else if key = [103, 105, 100] then 5 else if key = [115, 105, 122, 101] then 6 else if key = [109, 116, 105, 109, 101] then 7 else -1
def numOk (s : List UInt8) : Bool := natOk s && decide (valA 0 s ≤ 9223372036854775807)
def valR (key s : List UInt8) : Bool :=
  if s = [] then true else if whichL key < 0 then true else if whichL key < 4 then clean s else if whichL key < 7 then numOk s else (timeL s).isSome
def pairOk (p : Pair) : Bool := decide (p.key ≠ []) && (utfOk p.key && (noEq p.key && (utfOk p.val && valR p.key p.val)))
end Go.Proofs.YtchflhbpdnfopaaDoor.Eng.U


/- How many bytes a record has: both sides. -/
set_option linter.unusedVariables false
set_option linter.unusedSectionVars false
set_option linter.unusedSimpArgs false
namespace Go.Proofs.YtchflhbpdnfopaaDoor.Eng.U
open Go Go.Proofs Go.Proofs.YtchflhbpdnfopaaDoor.Eng Go.Proofs.YtchflhbpdnfopaaDoor.P04
variable {E : Ext} [Core E] [HasNum E] {k n : Nat}

end Go.Proofs.YtchflhbpdnfopaaDoor.Eng.U


/- What is printed is read, in plain Lean. -/
set_option linter.unusedVariables false
set_option linter.unusedSimpArgs false
namespace Go.Proofs.YtchflhbpdnfopaaDoor.P04
open Go

/-! No fewer bytes. -/
end Go.Proofs.YtchflhbpdnfopaaDoor.P04


/- Which bytes are records: in plain words. -/
set_option linter.unusedVariables false
set_option linter.unusedSectionVars false
set_option linter.unusedSimpArgs false
namespace Go.Proofs.YtchflhbpdnfopaaDoor.Eng.U
open Go Go.Proofs Go.Proofs.YtchflhbpdnfopaaDoor.Eng Go.Proofs.YtchflhbpdnfopaaDoor.P04

end Go.Proofs.YtchflhbpdnfopaaDoor.Eng.U


/- Records, both sides: printed and parsed. -/
set_option linter.unusedVariables false
set_option linter.unusedSectionVars false
set_option linter.unusedSimpArgs false
namespace Go.Proofs.YtchflhbpdnfopaaDoor.Eng.U
open Go Go.Proofs Go.Proofs.YtchflhbpdnfopaaDoor.Eng Go.Proofs.YtchflhbpdnfopaaDoor.P04
variable {E : Ext} [Core E] [HasNum E] {k n : Nat}

def lenAV : Option (Nat × Nat) → AV
  | none => .tup [.int .i64 0, .int .i64 0, .bool false]
  | some x => .tup [.int .i64 (x.1 : Int), .int .i64 (x.2 : Int), .bool true]
end Go.Proofs.YtchflhbpdnfopaaDoor.Eng.U


/- Texts quoted and unquoted, in plain words. No program. -/
set_option linter.unusedVariables false
set_option linter.unusedSimpArgs false
namespace Go.Proofs.YtchflhbpdnfopaaDoor.Eng.U
open Go Go.Proofs Go.Proofs.YtchflhbpdnfopaaDoor.Eng

/-- May a byte stand as it is? -/
def openB (c : UInt8) : Bool := decide (32 < c.toNat) && decide (c.toNat < 127) && decide (c ≠ 92)
def octB (c : UInt8) : Bool := decide (48 ≤ c.toNat) && decide (c.toNat ≤ 55)
def octV (a b d : UInt8) : Nat := (a.toNat - 48) * 64 + (b.toNat - 48) * 8 + (d.toNat - 48)
/-- The byte that three digits stand for, if it wants to be told so. -/
def octQ (a b d : UInt8) : Option UInt8 := if (decide (a.toNat ≤ 51) && octB a && octB b && octB d && !openB (UInt8.ofNat (octV a b d))) = true then some (UInt8.ofNat (octV a b d)) else none
def unq1 : List UInt8 → Option UInt8
  | c :: a :: b :: d :: _ => if c = 92 then octQ a b d else none
  | _ => none
end Go.Proofs.YtchflhbpdnfopaaDoor.Eng.U


/- Words between a byte: plain. -/
set_option linter.unusedVariables false
namespace Go.Proofs.YtchflhbpdnfopaaDoor.Eng.U
open Go Go.Proofs Go.Proofs.YtchflhbpdnfopaaDoor.Eng

end Go.Proofs.YtchflhbpdnfopaaDoor.Eng.U


/- What functions answer, as the engine evaluates their code. Printed by gen2.py. -/
set_option linter.unusedVariables false
namespace Go.Proofs.YtchflhbpdnfopaaDoor.Eng.U
open Go Go.Proofs Go.Proofs.YtchflhbpdnfopaaDoor.Eng
/- oakum/oakumlaw17.Many -/
/- oakum/oakumref20.Words -/
/- strings.Split -/
/- strings.HasPrefix -/
/- oakum/text.Unquote -/
/- strings.genSplit -/
/- internal/stringslite.HasPrefix -/
/- oakum/text.open -/
/- oakum/text.digit -/
/- strings.Index -/
end Go.Proofs.YtchflhbpdnfopaaDoor.Eng.U


/- strings.Split at a text of one byte, in plain words. -/
set_option linter.unusedVariables false
set_option linter.unusedSectionVars false
set_option linter.unusedSimpArgs false
namespace Go.Proofs.YtchflhbpdnfopaaDoor.Eng.U
open Go Go.Proofs Go.Proofs.YtchflhbpdnfopaaDoor.Eng
variable {E : Ext} [Core E] {k n k0 : Nat}

class HasCount (E : Ext) : Prop where
  count : ∀ (k n : Nat) (s : List UInt8) (x : UInt8), kp E k n strings_Count [.str (str s), .str (str [x])] = some (.int .i64 ((Lib.countByte s x : Nat) : Int))
end Go.Proofs.YtchflhbpdnfopaaDoor.Eng.U


/- strings.Count at a text of one byte, as a piece. -/
set_option linter.unusedVariables false
set_option linter.unusedSectionVars false
set_option linter.unusedSimpArgs false
namespace Go.Proofs.YtchflhbpdnfopaaDoor.Eng.U
open Go Go.RowKit Go.Proofs Go.Proofs.YtchflhbpdnfopaaDoor.Eng

def pCount : Piece := { f := strings_Count, ans := fun args => match args with
  | [.str s, .str c] => (one c).bind fun x => some (.int .i64 ((Lib.countByte s.data.toList x : Nat) : Int))
  | _ => none }
end Go.Proofs.YtchflhbpdnfopaaDoor.Eng.U


/- What functions answer, as the engine evaluates their code. Printed by gen2.py. -/
set_option linter.unusedVariables false
namespace Go.Proofs.YtchflhbpdnfopaaDoor.Eng.U
open Go Go.Proofs Go.Proofs.YtchflhbpdnfopaaDoor.Eng
/- oakum/oakumlaw32.CrcChecks -/
/- oakum/oakumlaw32.alive -/
/- oakum/crc.Check -/
/- oakum/oakumref32.Check -/
/- oakum/crc.Sum -/
/- oakum/crc.parse -/
/- oakum/oakumref21.Hex -/
/- oakum/oakumref32.File -/
/- oakum/oakumref32.More -/
/- oakum/oakumref21.digit -/
end Go.Proofs.YtchflhbpdnfopaaDoor.Eng.U


/- Eight digits at base 16, plain. -/
set_option linter.unusedVariables false
set_option linter.unusedSimpArgs false
namespace Go.Proofs.YtchflhbpdnfopaaDoor.Q32
open Go Go.Proofs.YtchflhbpdnfopaaDoor.S32

end Go.Proofs.YtchflhbpdnfopaaDoor.Q32


/- strings.Builder's WriteByte, and text.Quote, walked. After the library's own contracts (BuilderK). -/
set_option linter.unusedVariables false
set_option linter.unusedSimpArgs false
namespace Go.Proofs.YtchflhbpdnfopaaDoor.S02
open Go Go.RowKit Go.Proofs Go.Shelf Go.Proofs.YtchflhbpdnfopaaDoor.Eng Go.Proofs.YtchflhbpdnfopaaDoor.Eng.U

end Go.Proofs.YtchflhbpdnfopaaDoor.S02


/- text.Quote as a given function. -/
set_option linter.unusedVariables false
set_option linter.unusedSectionVars false
set_option linter.unusedSimpArgs false
namespace Go.Proofs.YtchflhbpdnfopaaDoor.Eng.U
open Go Go.RowKit Go.Proofs Go.Proofs.YtchflhbpdnfopaaDoor.Eng Go.Proofs.YtchflhbpdnfopaaDoor.S02

class HasQuote (E : Ext) : Prop where
end Go.Proofs.YtchflhbpdnfopaaDoor.Eng.U


/- Texts quoted: by the definition, in plain words. -/
set_option linter.unusedVariables false
set_option linter.unusedSectionVars false
set_option linter.unusedSimpArgs false
namespace Go.Proofs.YtchflhbpdnfopaaDoor.Eng.U
open Go Go.Proofs Go.Proofs.YtchflhbpdnfopaaDoor.Eng
variable {E : Ext} [Core E] {k n : Nat}

end Go.Proofs.YtchflhbpdnfopaaDoor.Eng.U


/- Texts unquoted: by the program and by the definition, in plain words. -/
set_option linter.unusedVariables false
set_option linter.unusedSectionVars false
set_option linter.unusedSimpArgs false
namespace Go.Proofs.YtchflhbpdnfopaaDoor.Eng.U
open Go Go.Proofs Go.Proofs.YtchflhbpdnfopaaDoor.Eng
variable {E : Ext} [Core E] {k n : Nat}

end Go.Proofs.YtchflhbpdnfopaaDoor.Eng.U


/- Texts unquoted by the definition (it tries all codes), in plain words. -/
set_option linter.unusedVariables false
set_option linter.unusedSectionVars false
set_option linter.unusedSimpArgs false
namespace Go.Proofs.YtchflhbpdnfopaaDoor.Eng.U
open Go Go.Proofs Go.Proofs.YtchflhbpdnfopaaDoor.Eng
variable {E : Ext} [Core E] {k n : Nat}

noncomputable def after (pre w acc : List UInt8) (k k0 n : Nat) (E : Ext) : Option AV := match unq1 w with
  | none => some (.tup [.str (str []), .bool false])
  | some x => ref02_Unquote_L0 (kp E k (n + 1)) k k0 (str (pre ++ w)) (((pre.length + 4 : Nat) : Nat) : Int) ((acc ++ [x]).map byteAV)
end Go.Proofs.YtchflhbpdnfopaaDoor.Eng.U


/- Overlays in plain words: the order of keys, what is laid. No program. -/
set_option linter.unusedVariables false
set_option linter.unusedSimpArgs false
namespace Go.Proofs.YtchflhbpdnfopaaDoor.Eng.U
open Go Go.Proofs Go.Proofs.YtchflhbpdnfopaaDoor.Eng

theorem u8_lt_irrefl (a : UInt8) : ¬ a < a := fun h => by rw [UInt8.lt_iff_toNat_lt] at h; omega
theorem lt_irr : ∀ a : Tx, Op.bytesLess a a = false
  | [] => rfl
  | a :: x => by
    unfold Op.bytesLess
    rw [lt_irr x, decide_eq_false (u8_lt_irrefl a), Bool.and_false, Bool.or_false]
theorem lt_cons (a b : UInt8) (x y : Tx) : Op.bytesLess (a :: x) (b :: y) = true ↔ a.toNat < b.toNat ∨ a = b ∧ Op.bytesLess x y = true := by
  rw [Op.bytesLess, Bool.or_eq_true, Bool.and_eq_true, decide_eq_true_eq, beq_iff_eq, UInt8.lt_iff_toNat_lt]
theorem lt_tr : ∀ {a b c : Tx}, Op.bytesLess a b = true → Op.bytesLess b c = true → Op.bytesLess a c = true
  | _, _, [], _, h => by cases ‹Tx› <;> simp [Op.bytesLess] at h
  | [], _, _ :: _, _, _ => rfl
  | a :: x, [], c :: z, h, _ => by simp [Op.bytesLess] at h
  | a :: x, b :: y, c :: z, h1, h2 => by
    rw [lt_cons] at *
    rcases h1 with h1 | ⟨rfl, h1⟩
    · rcases h2 with h2 | ⟨rfl, h2⟩
      · left; omega
      · left; exact h1
    · rcases h2 with h2 | ⟨rfl, h2⟩
      · left; exact h2
      · right; exact ⟨rfl, lt_tr h1 h2⟩
theorem lt_tot : ∀ {a b : Tx}, Op.bytesLess a b = false → a ≠ b → Op.bytesLess b a = true
  | [], [], _, h => absurd rfl h
  | [], _ :: _, h, _ => by simp [Op.bytesLess] at h
  | _ :: _, [], _, _ => rfl
  | a :: x, b :: y, h, hn => by
    rw [lt_cons]
    have h' : ¬ (a.toNat < b.toNat ∨ a = b ∧ Op.bytesLess x y = true) := by rw [← lt_cons, h]; simp
    by_cases e : a = b
    · subst e
      right
      refine ⟨rfl, lt_tot ?_ fun e => hn (by rw [e])⟩
      cases hq : Op.bytesLess x y with
      | false => rfl
      | true => exact absurd (.inr ⟨rfl, hq⟩) h'
    · left
      have : a.toNat ≠ b.toNat := fun h => e (UInt8.toNat_inj.1 h)
      omega
theorem lt_asym {a b : Tx} (h : Op.bytesLess a b = true) : Op.bytesLess b a = false := by
  cases hq : Op.bytesLess b a with
  | false => rfl
  | true => have := lt_tr h hq; rw [lt_irr] at this; cases this
theorem not_le (a b : Tx) : (!(Op.bytesLess a b || decide (a = b))) = Op.bytesLess b a := by
  by_cases e : a = b
  · subst e; rw [decide_eq_true rfl, Bool.or_true, lt_irr]; rfl
  · rw [decide_eq_false e, Bool.or_false]
    cases h : Op.bytesLess a b with
    | true => rw [lt_asym h]; rfl
    | false => rw [lt_tot h e]; rfl

/-- Above what was ahead. -/
def gtO (a : Option Tx) (x : Tx) : Bool := match a with | none => true | some y => Op.bytesLess y x
def okSt : Option Tx → List Pair → Bool
  | _, [] => true
  | a, p :: l => gtO a p.key && decide (p.val ≠ []) && okSt (some p.key) l
end Go.Proofs.YtchflhbpdnfopaaDoor.Eng.U


/- Overlays: what both sides answer, in plain words. -/
set_option linter.unusedVariables false
set_option linter.unusedSectionVars false
set_option linter.unusedSimpArgs false
namespace Go.Proofs.YtchflhbpdnfopaaDoor.Eng.U
open Go Go.Proofs Go.Proofs.YtchflhbpdnfopaaDoor.Eng Go.Proofs.YtchflhbpdnfopaaDoor.P04
variable {E : Ext} [Core E] [HasNum E] {k n : Nat}

def overOk (l : List Pair) : Bool := okSt none l && l.all pairOk
end Go.Proofs.YtchflhbpdnfopaaDoor.Eng.U


/- ItemFulls answers true. -/
set_option linter.unusedVariables false
set_option linter.unusedSectionVars false
set_option linter.unusedSimpArgs false
namespace Go.Proofs.YtchflhbpdnfopaaDoor.Eng.U
open Go Go.Proofs Go.Proofs.YtchflhbpdnfopaaDoor.Eng Go.Proofs.YtchflhbpdnfopaaDoor.P04
variable {E : Ext} [Core E] [HasNum E] [HasText E] {k n : Nat}

end Go.Proofs.YtchflhbpdnfopaaDoor.Eng.U


/- Which field of a head is the first that isn't right: both sides. -/
set_option linter.unusedVariables false
set_option linter.unusedSectionVars false
set_option linter.unusedSimpArgs false
namespace Go.Proofs.YtchflhbpdnfopaaDoor.Eng.U
open Go Go.Proofs Go.Proofs.YtchflhbpdnfopaaDoor.Eng Go.Proofs.YtchflhbpdnfopaaDoor.P04
variable {E : Ext} [Core E] [HasNum E] {k n k0 : Nat}

def nameOk (s : List UInt8) : Bool := decide (s ≠ []) && (decide (s.length ≤ 65536) && clean s)
def links (h : Head) : Bool := decide (h.kind = 2) || decide (h.kind = 3)
def f1 (h : Head) : Bool := decide (h.kind ≥ 1) && decide (h.kind ≤ 7)
def f2 (h : Head) : Bool := nameOk h.name && !(decide (h.kind = 1) && sl h.name)
def f3 (h : Head) : Bool := bif links h then nameOk h.link else decide (h.link = [])
def f4 (h : Head) : Bool := decide (h.mode ≥ 0)
def f5 (h : Head) : Bool := decide (h.uid ≥ 0)
def f6 (h : Head) : Bool := decide (h.gid ≥ 0)
def f7 (h : Head) : Bool := decide (h.size = 0) || (decide (h.size > 0) && decide (h.kind = 1))
def f8 (h : Head) : Bool := rightT h.nano
def f13 (h : Head) : Bool := overOk h.extra && h.extra.all fun p => decide (whichL p.key < 0)
def BdF (h : Head) : Prop := h.name.length ≤ 400000 ∧ h.link.length ≤ 400000 ∧ h.user.length ≤ 400000 ∧ h.group.length ≤ 400000 ∧ h.extra.length ≤ 100000 ∧ ∀ p ∈ h.extra, p.key.length ≤ 1000000 ∧ p.val.length ≤ 1000000
end Go.Proofs.YtchflhbpdnfopaaDoor.Eng.U


/- Which field of a head is the first that isn't right: the reference's side. -/
set_option linter.unusedVariables false
set_option linter.unusedSectionVars false
set_option linter.unusedSimpArgs false
namespace Go.Proofs.YtchflhbpdnfopaaDoor.Eng.U
open Go Go.Proofs Go.Proofs.YtchflhbpdnfopaaDoor.Eng Go.Proofs.YtchflhbpdnfopaaDoor.P04
variable {E : Ext} [Core E] [HasNum E] {k n k0 : Nat}

end Go.Proofs.YtchflhbpdnfopaaDoor.Eng.U


/- Which field of a head is the first that isn't right: the reference's side. -/
set_option linter.unusedVariables false
set_option linter.unusedSectionVars false
set_option linter.unusedSimpArgs false
namespace Go.Proofs.YtchflhbpdnfopaaDoor.Eng.U
open Go Go.Proofs Go.Proofs.YtchflhbpdnfopaaDoor.Eng Go.Proofs.YtchflhbpdnfopaaDoor.P04
variable {E : Ext} [Core E] [HasNum E] {k n k0 : Nat}

end Go.Proofs.YtchflhbpdnfopaaDoor.Eng.U


/- Which field of a head is the first that isn't right: the reference's side. -/
set_option linter.unusedVariables false
set_option linter.unusedSectionVars false
set_option linter.unusedSimpArgs false
namespace Go.Proofs.YtchflhbpdnfopaaDoor.Eng.U
open Go Go.Proofs Go.Proofs.YtchflhbpdnfopaaDoor.Eng Go.Proofs.YtchflhbpdnfopaaDoor.P04
variable {E : Ext} [Core E] [HasNum E] {k n k0 : Nat}

end Go.Proofs.YtchflhbpdnfopaaDoor.Eng.U


/- How many bytes pairs have together; a pair that is right. -/
set_option linter.unusedVariables false
set_option linter.unusedSimpArgs false
namespace Go.Proofs.YtchflhbpdnfopaaDoor.Eng.U
open Go Go.Proofs Go.Proofs.YtchflhbpdnfopaaDoor.Eng

def sumP : List Pair → Nat
  | [] => 0
  | p :: l => p.key.length + p.val.length + sumP l
end Go.Proofs.YtchflhbpdnfopaaDoor.Eng.U


/- The Dec laws answer true, part 2: reading, and back again. -/
set_option linter.unusedVariables false
set_option linter.unusedSectionVars false
set_option linter.unusedSimpArgs false
namespace Go.Proofs.YtchflhbpdnfopaaDoor.Eng.U
open Go Go.Proofs Go.Proofs.YtchflhbpdnfopaaDoor.Eng Go.Proofs.YtchflhbpdnfopaaDoor.P04
variable {E : Ext} [Core E] [HasNum E] {k n : Nat}

theorem w0 : IntKind.wrap .i64 0 = 0 := i64w (by omega)
end Go.Proofs.YtchflhbpdnfopaaDoor.Eng.U


/- A head's line: by the program and by the definition, in plain words. -/
set_option linter.unusedVariables false
set_option linter.unusedSectionVars false
set_option linter.unusedSimpArgs false
namespace Go.Proofs.YtchflhbpdnfopaaDoor.Eng.U
open Go Go.Proofs Go.Proofs.YtchflhbpdnfopaaDoor.Eng Go.Proofs.YtchflhbpdnfopaaDoor.P04
variable {E : Ext} [Core E] [HasNum E] {k n k0 : Nat}

class HasJn (E : Ext) : Prop where
structure Bd20 (h : Head) : Prop where
  f : BdF h
  mode : -9223372036854775808 ≤ h.mode ∧ h.mode ≤ 9223372036854775807
  uid : -9223372036854775808 ≤ h.uid ∧ h.uid ≤ 9223372036854775807
  gid : -9223372036854775808 ≤ h.gid ∧ h.gid ≤ 9223372036854775807
  size : -9223372036854775808 ≤ h.size ∧ h.size ≤ 9223372036854775807
  sec : -9223372036854775808 ≤ h.sec ∧ h.sec ≤ 9223372036854775807
  major : -9223372036854775808 ≤ h.major ∧ h.major ≤ 9223372036854775807
  minor : -9223372036854775808 ≤ h.minor ∧ h.minor ≤ 9223372036854775807
  few : h.extra.length ≤ 2000
  sum : sumP h.extra ≤ 400000
end Go.Proofs.YtchflhbpdnfopaaDoor.Eng.U


/- A head's line by the definition, in plain words. -/
set_option linter.unusedVariables false
set_option linter.unusedSectionVars false
set_option linter.unusedSimpArgs false
namespace Go.Proofs.YtchflhbpdnfopaaDoor.Eng.U
open Go Go.Proofs Go.Proofs.YtchflhbpdnfopaaDoor.Eng Go.Proofs.YtchflhbpdnfopaaDoor.P04
variable {E : Ext} [Core E] [HasNum E] {k n k0 : Nat}

end Go.Proofs.YtchflhbpdnfopaaDoor.Eng.U


/- The lines of items; whether there are many: in plain words. -/
set_option linter.unusedVariables false
set_option linter.unusedSectionVars false
set_option linter.unusedSimpArgs false
namespace Go.Proofs.YtchflhbpdnfopaaDoor.Eng.U
open Go Go.Proofs Go.Proofs.YtchflhbpdnfopaaDoor.Eng Go.Proofs.YtchflhbpdnfopaaDoor.P04
variable {E : Ext} [Core E] [HasNum E] {k n k0 : Nat}

end Go.Proofs.YtchflhbpdnfopaaDoor.Eng.U


/- Whether there are many items: in plain words. -/
set_option linter.unusedVariables false
set_option linter.unusedSectionVars false
set_option linter.unusedSimpArgs false
namespace Go.Proofs.YtchflhbpdnfopaaDoor.Eng.U
open Go Go.Proofs Go.Proofs.YtchflhbpdnfopaaDoor.Eng Go.Proofs.YtchflhbpdnfopaaDoor.P04
variable {E : Ext} [Core E] {k n k0 : Nat}

end Go.Proofs.YtchflhbpdnfopaaDoor.Eng.U


/- ItemWrong in plain words: it answers true. -/
set_option linter.unusedVariables false
set_option linter.unusedSectionVars false
set_option linter.unusedSimpArgs false
namespace Go.Proofs.YtchflhbpdnfopaaDoor.Eng.U
open Go Go.Proofs Go.Proofs.YtchflhbpdnfopaaDoor.Eng Go.Proofs.YtchflhbpdnfopaaDoor.P04
variable {E : Ext} [Core E] [HasNum E] {k n : Nat}

end Go.Proofs.YtchflhbpdnfopaaDoor.Eng.U


/- The line of a name and data, by the program and by the definition, in plain words. -/
set_option linter.unusedVariables false
set_option linter.unusedSectionVars false
set_option linter.unusedSimpArgs false
namespace Go.Proofs.YtchflhbpdnfopaaDoor.Eng.U
open Go Go.RowKit Go.Proofs Go.Proofs.YtchflhbpdnfopaaDoor.Eng Go.Proofs.YtchflhbpdnfopaaDoor.S32 Go.Proofs.YtchflhbpdnfopaaDoor.Q32
variable {E : Ext} [Core E] [HasNum E] [HasCrc E] {k n : Nat}

/-! The definition's sum. -/
/-! Eight digits. -/
/-! The line. -/
section
variable [HasQuote E]
end
end Go.Proofs.YtchflhbpdnfopaaDoor.Eng.U


/- Which texts hold one of the letters A to F, told exactly. -/
set_option linter.unusedVariables false
set_option linter.unusedSectionVars false
set_option linter.unusedSimpArgs false
namespace Go.Proofs.YtchflhbpdnfopaaDoor.Eng.U
open Go Go.Proofs Go.Proofs.YtchflhbpdnfopaaDoor.Eng
variable {E : Ext} [Core E] {k n : Nat}

end Go.Proofs.YtchflhbpdnfopaaDoor.Eng.U


/- A head out of words, by the program: in plain words. -/
set_option linter.unusedVariables false
set_option linter.unusedSectionVars false
set_option linter.unusedSimpArgs false
namespace Go.Proofs.YtchflhbpdnfopaaDoor.Eng.U
open Go Go.Proofs Go.Proofs.YtchflhbpdnfopaaDoor.Eng Go.Proofs.YtchflhbpdnfopaaDoor.P04
variable {E : Ext} [Core E] [HasNum E] {k n k0 : Nat}

end Go.Proofs.YtchflhbpdnfopaaDoor.Eng.U


/- A line's head, by the program: in plain words. -/
set_option linter.unusedVariables false
set_option linter.unusedSectionVars false
set_option linter.unusedSimpArgs false
namespace Go.Proofs.YtchflhbpdnfopaaDoor.Eng.U
open Go Go.Proofs Go.Proofs.YtchflhbpdnfopaaDoor.Eng Go.Proofs.YtchflhbpdnfopaaDoor.P04
variable {E : Ext} [Core E] [HasNum E] {k n k0 : Nat}

def tl : Nat → List Tx → List Tx
  | 0, l => l
  | i + 1, l => (tl i l).tail
def W (i : Nat) (l : List Tx) : Tx := (tl i l).headD []
end Go.Proofs.YtchflhbpdnfopaaDoor.Eng.U


/- What a line's words are, and that they tell the head again. -/
set_option linter.unusedVariables false
set_option linter.unusedSectionVars false
set_option linter.unusedSimpArgs false
namespace Go.Proofs.YtchflhbpdnfopaaDoor.Eng.U
open Go Go.Proofs Go.Proofs.YtchflhbpdnfopaaDoor.Eng Go.Proofs.YtchflhbpdnfopaaDoor.P04

end Go.Proofs.YtchflhbpdnfopaaDoor.Eng.U


/- Overlays in plain words, part 2: laid one by one. No program. -/
set_option linter.unusedVariables false
set_option linter.unusedSimpArgs false
namespace Go.Proofs.YtchflhbpdnfopaaDoor.Eng.U
open Go Go.Proofs Go.Proofs.YtchflhbpdnfopaaDoor.Eng

end Go.Proofs.YtchflhbpdnfopaaDoor.Eng.U


/- Overlays, the program's side: laid one by one; what is said of a head, both sides. -/
set_option linter.unusedVariables false
set_option linter.unusedSectionVars false
set_option linter.unusedSimpArgs false
namespace Go.Proofs.YtchflhbpdnfopaaDoor.Eng.U
open Go Go.Proofs Go.Proofs.YtchflhbpdnfopaaDoor.Eng Go.Proofs.YtchflhbpdnfopaaDoor.P04
variable {E : Ext} [Core E] {k n : Nat}

class HasIns (E : Ext) : Prop where
section
variable [HasIns E]
end
/-! What pairs say of a head. -/
end Go.Proofs.YtchflhbpdnfopaaDoor.Eng.U


/- What pairs say of a head: the whole, both sides; two heads that are the same. -/
set_option linter.unusedVariables false
set_option linter.unusedSectionVars false
set_option linter.unusedSimpArgs false
namespace Go.Proofs.YtchflhbpdnfopaaDoor.Eng.U
open Go Go.Proofs Go.Proofs.YtchflhbpdnfopaaDoor.Eng Go.Proofs.YtchflhbpdnfopaaDoor.P04
variable {E : Ext} [Core E] [HasNum E] {k n : Nat}

end Go.Proofs.YtchflhbpdnfopaaDoor.Eng.U


/- A head's fourteen cells, taken out of an answer. -/
set_option linter.unusedVariables false
namespace Go.Proofs.YtchflhbpdnfopaaDoor.Eng.U
open Go Go.Proofs Go.Proofs.YtchflhbpdnfopaaDoor.Eng

end Go.Proofs.YtchflhbpdnfopaaDoor.Eng.U


/- The laws of lines in plain words: TaleLines, TaleBack. -/
set_option linter.unusedVariables false
set_option linter.unusedSectionVars false
set_option linter.unusedSimpArgs false
namespace Go.Proofs.YtchflhbpdnfopaaDoor.Eng.U
open Go Go.Proofs Go.Proofs.YtchflhbpdnfopaaDoor.Eng Go.Proofs.YtchflhbpdnfopaaDoor.P04
variable {E : Ext} [Core E] [HasNum E] [HasTextV E] [HasQuote E] [HasJn E] [HasCount E] {k n k0 kk : Nat}

end Go.Proofs.YtchflhbpdnfopaaDoor.Eng.U


/- What functions answer, as the engine evaluates their code. Printed by gen2.py. -/
set_option linter.unusedVariables false
namespace Go.Proofs.YtchflhbpdnfopaaDoor.Eng.U
open Go Go.Proofs Go.Proofs.YtchflhbpdnfopaaDoor.Eng

end Go.Proofs.YtchflhbpdnfopaaDoor.Eng.U


/- Words and heads by the definition (ref20), in plain words. Written by gen/u20r.py. -/
set_option linter.unusedVariables false
set_option linter.unusedSectionVars false
set_option linter.unusedSimpArgs false
namespace Go.Proofs.YtchflhbpdnfopaaDoor.Eng.U
open Go Go.Proofs Go.Proofs.YtchflhbpdnfopaaDoor.Eng Go.Proofs.YtchflhbpdnfopaaDoor.P04
variable {E : Ext} [Core E] [HasNum E] {k n k0 kk : Nat}

end Go.Proofs.YtchflhbpdnfopaaDoor.Eng.U


/- Digits at base 16: by ParseUint and by the definition, plain. -/
set_option linter.unusedVariables false
set_option linter.unusedSimpArgs false
namespace Go.Proofs.YtchflhbpdnfopaaDoor.Q32
open Go Go.Proofs.YtchflhbpdnfopaaDoor.S32

end Go.Proofs.YtchflhbpdnfopaaDoor.Q32


/- A line that is checked, by the program and by the definition, in plain words. -/
set_option linter.unusedVariables false
set_option linter.unusedSectionVars false
set_option linter.unusedSimpArgs false
namespace Go.Proofs.YtchflhbpdnfopaaDoor.Eng.U
open Go Go.RowKit Go.Proofs Go.Proofs.YtchflhbpdnfopaaDoor.Eng Go.Proofs.YtchflhbpdnfopaaDoor.S32 Go.Proofs.YtchflhbpdnfopaaDoor.Q32
variable {E : Ext} [Core E] [HasNum E] [HasCrc E] [HasCount E] [HasHexP E] [HasIB E] {k n : Nat}

class HasFree (E : Ext) : Prop where
  notB : E.isBase strings_IndexAny = false
  has : E.fs.contains strings_IndexAny = true
/-! Hexadecimal words. -/
/-! The program's parse. -/
end Go.Proofs.YtchflhbpdnfopaaDoor.Eng.U


/- The definition's check and the program's, line for line; CrcChecks answers true. -/
set_option linter.unusedVariables false
set_option linter.unusedSectionVars false
set_option linter.unusedSimpArgs false
namespace Go.Proofs.YtchflhbpdnfopaaDoor.Eng.U
open Go Go.RowKit Go.Proofs Go.Proofs.YtchflhbpdnfopaaDoor.Eng Go.Proofs.YtchflhbpdnfopaaDoor.S32 Go.Proofs.YtchflhbpdnfopaaDoor.Q32
variable {E : Ext} [Core E] [HasNum E] [HasCrc E] [HasCount E] [HasHexP E] [HasIB E] [HasFree E] {k n : Nat}

/-! The definition's bytes of a word. -/
/-! The last File of a name. -/
end Go.Proofs.YtchflhbpdnfopaaDoor.Eng.U


/- The check of lines, by the program; CrcChecks answers true. -/
set_option linter.unusedVariables false
set_option linter.unusedSectionVars false
set_option linter.unusedSimpArgs false
namespace Go.Proofs.YtchflhbpdnfopaaDoor.Eng.U
open Go Go.RowKit Go.Proofs Go.Proofs.YtchflhbpdnfopaaDoor.Eng Go.Proofs.YtchflhbpdnfopaaDoor.S32 Go.Proofs.YtchflhbpdnfopaaDoor.Q32
variable {E : Ext} [Core E] [HasNum E] [HasCrc E] [HasCount E] [HasHexP E] [HasIB E] [HasFree E] {k n : Nat}

/-! The law. -/
end Go.Proofs.YtchflhbpdnfopaaDoor.Eng.U


/- The library's functions, the sum, ParseUint at both bases, strings.Count, given together; strings.IndexAny evaluated. -/
set_option linter.unusedVariables false
set_option linter.unusedSectionVars false
set_option linter.unusedSimpArgs false
namespace Go.Proofs.YtchflhbpdnfopaaDoor.Eng.U
open Go Go.RowKit Go.Proofs Go.Proofs.YtchflhbpdnfopaaDoor.Eng Go.Proofs.YtchflhbpdnfopaaDoor.S32

noncomputable def ps33 : List Piece := [pItoa, pIndex, pIndexByte, pPUx, pMore, pCount]
noncomputable def ext33 : Ext := { extOf ps33 with fs := strings_IndexAny :: coreFs }
instance core33 : Core ext33 where
  isB f hf := (core_of (ps := ps33) (by kernel_rfl)).isB f hf
  has f hf := by
    show (strings_IndexAny :: coreFs).contains f = true
    rw [List.contains_cons, hf, Bool.or_true]
theorem kp33 {k n : Nat} {f : FuncId} {args : List AV} (h : (ps33.any fun p => p.f == f) = true) : kp ext33 k n f args = kp (extOf ps33) k n f args :=
  (kp_base (E := ext33) h).trans (kp_base (E := extOf ps33) h).symm
instance num33 : HasNum ext33 where
  itoa k n v g0 g1 := (kp33 (by kernel_rfl)).trans ((num_of16 rfl rfl rfl rfl).itoa k n v g0 g1)
  index k n s x := (kp33 (by kernel_rfl)).trans ((num_of16 rfl rfl rfl rfl).index k n s x)
  indexB k n s c := (kp33 (by kernel_rfl)).trans ((num_of16 rfl rfl rfl rfl).indexB k n s c)
  puint k n s g0 := (kp33 (by kernel_rfl)).trans ((num_of16 rfl rfl rfl rfl).puint k n s g0)
instance ib33 : HasIB ext33 := ⟨fun k n s c => (kp_base (E := ext33) (by kernel_rfl)).trans rfl⟩
instance free33 : HasFree ext33 := ⟨by kernel_rfl, by kernel_rfl⟩
instance hexp33 : HasHexP ext33 := ⟨fun k n s hs => (kp33 (by kernel_rfl)).trans ((hexp_of (ps := ps33) rfl).parse k n s hs)⟩
instance count33 : HasCount ext33 where
  count k n s x := by
    refine (kp33 (by kernel_rfl)).trans ((kp_piece (ps := ps33) (p := pCount) (k := k) (n := n) (args := [.str (str s), .str (str [x])]) rfl).trans ?_)
    rfl
instance crc33 : HasCrc ext33 where
  more k n a l hl := by
    have h := (kp33 (by kernel_rfl)).trans (kp_piece (ps := ps33) (p := pMore) (k := k) (n := n) (args := [.int .u32 a, .list 1 (bys l)]) rfl)
    refine h.trans ?_
    show ((toB (bys l)).bind fun l => _) = _
    rw [toB_bys]
    show (bif (1 == 1) && decide (l.length ≤ 1000000000) then _ else none) = _
    rw [decide_eq_true hl]
    rfl
end Go.Proofs.YtchflhbpdnfopaaDoor.Eng.U

