/- Several texts of this proof in one file: Core, Shelf, RowU, Ext, Api, R40, R24, Q24, U24, T24, Q40, U40, U40b, S40, S24, V24, B24, U40c, U17. -/
import Derived.Test.YteamddaglbleeaaDoorMEOrderBy2
import Derived.Test.YteamddaglbleeaaDoorProg
import Derived.Lib.DecodeN
import Derived.Lib.ItoaNum
import Derived.Shelf.Strings.Builder1
import Derived.Shelf.Strings.Builder2
import Derived.Shelf.Strings.OnBuilder
import Derived.Shelf.Small.Strs
import Derived.Shelf.Small.Wraps
import Derived.Shelf.Strings.BuilderF
import Derived.Shelf.Strings.BuilderK
import Derived.Shelf.Strings.Builder2Cap
import Derived.Shelf.Strings.Search1
import Derived.Shelf.Strings.Search2
import Derived.Shelf.Strings.Search3
import Derived.Shelf.LaysM
import Derived.Shelf.Strings.Shaped
import Derived.Shelf.Strings.Prefix
import Derived.Shelf.Unicode.Decode
import Derived.Shelf.Unicode.DecodeSlow
import Derived.Shelf.Unicode.DecodeAny
import Derived.Shelf.Strings.BuilderCap
import Derived.Shelf.Slices.Turned
import Derived.Shelf.Slices.Equal
import Derived.Ground.Names2Prog
import Derived.Shelf.Slices.SearchI
import Derived.Shelf.Slices.Empties2
import Derived.Test.YteamddaglbleeaaDoorCards
import Derived.Test.YteamddaglbleeaaDoorTie
import Derived.Lib.LaidIn
import Derived.Lib.LaidU8
import Derived.PinnedBridge
import Derived.Deep.DeepHandedRow
import Derived.ChangeSlices
import Derived.WalkKit
import Derived.ProofKit
import Derived.OpenShut
import Derived.ShutString
import Derived.ChangeOld
import Derived.ChangeSame
import Derived.Below
import Derived.OwnWalkIn
import Derived.TacticsInMore
import Derived.Shelf.Abstract
import Derived.Lib.SliceRun
import Derived.RangeFuncBox
import Derived.RangeFuncLeaves
import Derived.LoopNIn
import Derived.LoopIn
import Derived.Maps.AppendAt
/- The functions of a seat, by their names; what each loop keeps; a base open at its given functions. Printed by gen2.py. -/
set_option linter.unusedVariables false
namespace Go.Proofs.YteamddaglbleeaaDoor.Eng.U
open Go Go.Proofs Go.Proofs.YteamddaglbleeaaDoor.Eng
def law40_OrderBy : FuncId := 4
def law40_alive : FuncId := 9
def law40_few : FuncId := 10
def order_By : FuncId := 11
def ref40_Less : FuncId := 12
def usage_Of : FuncId := 13
def law17_Many : FuncId := 14
def slices_SortStableFunc_int : FuncId := 15
def ref10_SameInts : FuncId := 21
def order_Sorted : FuncId := 22
def order_Is : FuncId := 23
def order_compare : FuncId := 24
def order_By_1 : FuncId := 25
def path_Clean : FuncId := 26
def usage_in : FuncId := 27
def usage_Use_add : FuncId := 28
def slices_stableCmpFunc_int : FuncId := 29
def slices_Clone_api_Pair : FuncId := 31
def slices_Clone_byte : FuncId := 32
def order_Leans : FuncId := 34
def order_number : FuncId := 35
def cmp_Compare_int64 : FuncId := 36
def order_text : FuncId := 37
def strings_Compare : FuncId := 38
def cmp_Or_int : FuncId := 39
def path_form : FuncId := 40
def path_absolute : FuncId := 41
def path_stack : FuncId := 42
def path_Safe : FuncId := 43
def path_In : FuncId := 44
def text_Blocks : FuncId := 45
def slices_insertionSortCmpFunc_int : FuncId := 46
def order_leans : FuncId := 48
def cmp_isNaN_int64 : FuncId := 49
def strings_Join : FuncId := 51
def strings_HasPrefix : FuncId := 52
def path_Parts : FuncId := 53
def slices_Contains_string : FuncId := 54
def slices_Equal_string : FuncId := 55
def stringslite_HasPrefix : FuncId := 61
def slices_Index_string : FuncId := 63
def dirs : FuncId → Nat → Option Dir
  | 3, 10 => some { slots := [(0, .keep), (5, .keep), (6, .own 4 false), (7, .keep)], boxes := [] }
  | 3, 14 => some { slots := [(0, .keep), (5, .keep), (6, .own 4 false), (7, .keep), (8, .keep), (9, .keep)], boxes := [] }
  | 4, 12 => some { slots := [(0, .keep), (1, .keep), (5, .keep), (7, .own 4 false), (8, .keep)], boxes := [] }
  | 4, 16 => some { slots := [(0, .keep), (1, .keep), (5, .keep), (7, .own 4 false), (8, .keep), (9, .keep), (10, .keep)], boxes := [] }
  | 6, 2 => some { slots := [(0, .keep), (3, .keep)], boxes := [] }
  | 7, 3 => some { slots := [(1, .keep), (2, .keep), (5, .own 3 false), (14, .keep), (15, .keep)], boxes := [2] }
  | 7, 10 => some { slots := [(2, .keep), (7, .own 34 false), (32, .own 3 false), (33, .keep), (34, .keep)], boxes := [2] }
  | 10, 2 => some { slots := [(0, .keep), (3, .keep)], boxes := [] }
  | 11, 6 => some { slots := [(2, .keep), (3, .keep), (8, .own 3 false), (23, .keep), (24, .keep)], boxes := [2, 3] }
  | 13, 3 => some { slots := [(4, .keep), (5, .keep), (11, .keep), (12, .keep), (13, .keep)], boxes := [4, 5] }
  | 14, 3 => some { slots := [(0, .keep), (3, .keep), (4, .keep)], boxes := [] }
  | 14, 8 => some { slots := [(0, .keep), (3, .keep), (4, .keep), (5, .keep), (6, .keep)], boxes := [5] }
  | 21, 4 => some { slots := [(0, .keep), (1, .keep), (5, .keep)], boxes := [] }
  | 22, 4 => some { slots := [(0, .keep), (3, .own 4 false), (4, .own 3 false), (13, .keep), (14, .keep)], boxes := [] }
  | 22, 7 => some { slots := [(0, .keep), (3, .own 4 false), (4, .own 3 false), (5, .keep), (13, .keep), (14, .keep), (17, .keep), (18, .keep)], boxes := [] }
  | 22, 14 => some { slots := [(0, .keep), (3, .own 4 false), (4, .own 3 false), (5, .keep), (6, .keep), (7, .keep), (13, .keep), (14, .keep), (17, .keep), (18, .keep), (29, .keep), (30, .keep)], boxes := [] }
  | 23, 2 => some { slots := [(0, .keep), (6, .keep), (7, .keep)], boxes := [] }
  | 23, 5 => some { slots := [(0, .keep), (3, .keep), (4, .keep), (6, .keep), (7, .keep)], boxes := [] }
  | 29, 2 => some { slots := [(0, .keep), (1, .keep), (2, .keep), (6, .keep), (7, .keep), (8, .keep)], boxes := [0] }
  | 29, 7 => some { slots := [(0, .keep), (1, .keep), (2, .keep), (6, .keep)], boxes := [0] }
  | 29, 9 => some { slots := [(0, .keep), (1, .keep), (2, .keep), (6, .keep), (7, .keep), (8, .keep)], boxes := [0] }
  | 33, 4 => some { slots := [(0, .keep), (1, .keep), (5, .keep)], boxes := [] }
  | 39, 3 => some { slots := [(3, .keep), (6, .keep), (7, .keep), (8, .keep)], boxes := [] }
  | 42, 3 => some { slots := [(0, .keep), (3, .own 9 false), (7, .keep), (8, .keep), (9, .keep)], boxes := [] }
  | 46, 1 => some { slots := [(0, .keep), (1, .keep), (2, .keep), (3, .keep), (8, .keep)], boxes := [0] }
  | 46, 4 => some { slots := [(0, .keep), (1, .keep), (2, .keep), (3, .keep), (8, .keep), (9, .keep)], boxes := [0] }
  | 55, 4 => some { slots := [(0, .keep), (1, .keep), (12, .keep), (13, .keep)], boxes := [] }
  | 63, 2 => some { slots := [(0, .keep), (1, .keep), (7, .keep), (8, .keep)], boxes := [] }
  | 78, 5 => some { slots := [(0, .keep), (1, .keep), (5, .keep), (6, .keep), (7, .keep), (8, .keep), (9, .keep)], boxes := [] }
  | 78, 11 => some { slots := [(0, .keep), (1, .keep), (5, .keep), (6, .keep), (7, .keep), (8, .keep), (10, .keep)], boxes := [] }
  | 80, 3 => some { slots := [(0, .keep), (4, .keep), (5, .keep)], boxes := [] }
  | 80, 8 => some { slots := [(4, .keep), (6, .keep), (7, .keep), (8, .keep)], boxes := [] }
  | _, _ => none
def fl : FuncId → List Bool
  | _ => []
def ln : FuncId → List Nat
  | 15 => [1, 0]
  | 28 => [1, 0]
  | 29 => [1, 0, 0]
  | 46 => [1, 0, 0, 0]
  | 47 => [1, 0, 0, 0, 0]
  | _ => []
def hd : FuncId → List Nat
  | _ => []
def glob (g : Nat) : Option (List AV) :=
  if g = 1 then some ((List.range 256).map fun c => .int .u8 (Lib.firstT c : Int)) else if g = 2 then some ((List.range 32).map fun i => .int .u8 ((if i % 2 = 0 then Lib.accLo (i / 2) else Lib.accHi (i / 2) : Nat) : Int)) else none
def coreFs : List FuncId := [3, 4, 5, 6, 7, 8, 9, 10, 11, 12, 13, 14, 15, 16, 17, 18, 19, 20, 21, 22, 23, 24, 25, 26, 27, 28, 29, 30, 33, 34, 35, 36, 37, 39, 40, 41, 42, 43, 44, 45, 46, 48, 49, 50, 52, 54, 55, 61, 63, 67, 72, 75, 77, 78, 80]
noncomputable def bs (E : Ext) (k : Nat) : Base := { P := Tryd.prog, fs := E.fs, isBase := E.isBase, base := E.base, fl := fl, ln := ln, hd := hd, glob := glob, dirs := dirs, k := k }
/-- An extension that has no given functions: for what doesn't look at them. -/
def E0 : Ext := { fs := [], isBase := fun _ => false, base := fun _ _ => none }
class Core (E : Ext) : Prop where
  isB : ∀ f, coreFs.contains f = true → E.isBase f = false
  has : ∀ f, coreFs.contains f = true → E.fs.contains f = true
/-- What a function answers, calls nested n deep, k rounds of each loop. -/
noncomputable def kp (E : Ext) (k n : Nat) : FuncId → List AV → Option AV := (bs E k).kap n
theorem kp_at {E : Ext} [h : Core E] {k n : Nat} {f : FuncId} {args : List AV} (hf : coreFs.contains f = true) : kp E k (n + 1) f args = (bs E k).at (kp E k n) f args := Base.kap_at (h.isB f hf) (h.has f hf) args
theorem kp_base {E : Ext} {k n : Nat} {f : FuncId} {args : List AV} (hf : E.isBase f = true) : kp E k n f args = E.base f args := Base.kap_base (B := bs E k) hf args
end Go.Proofs.YteamddaglbleeaaDoor.Eng.U


/-
  DERIVED: THE SHELF's CONTRACTS AT THIS DUMP, IN PLAIN WORDS (tools/lay-plain.mjs out of 'TrydShelf.lean', which tools/lay-shelf.mjs wrote): THE SAME DECLARATIONS UNDER THE SAME NAMES: 'import', 'namespace', 'open', 'def', 'theorem' AND NOTHING ELSE: no command of the shelf's: FOR A HAND-IN. Each laying: the table of numbers ('.._ren') and one theorem, a field a fact of the dump's own or the kernel's comparison; each contract: ONE APPLICATION.
-/
namespace Go.Proofs
open Go.Shelf
def Tryd.lays156_ren : Go.Shelf.Ren := ⟨fun | 156 => 51 | 165 => 58 | 166 => 59 | 169 => 60 | 240 => 65 | 241 => 66 | 276 => 68 | 277 => 69 | n => n, fun | 31 => 74 | 9 => 9 | 3 => 3 | 4 => 4 | 0 => 0 | 20 => 20 | 72 => 87 | 76 => 91 | 70 => 85 | 37 => 32 | 75 => 90 | 127 => 98 | 164 => 100 | 5 => 5 | 80 => 93 | n => n, fun | n => n⟩
theorem Tryd.lays156 : Go.Proofs.Lays.n156 Tryd.prog Tryd.lays156_ren := {
  mixed := by kernel_rfl
  f156 := Tryd.func51.trans (congrArg some (by kernel_rfl))
  f165 := Tryd.func58.trans (congrArg some (by kernel_rfl))
  f166 := Tryd.func59.trans (congrArg some (by kernel_rfl))
  f169 := Tryd.func60.trans (congrArg some (by kernel_rfl))
  f240 := Tryd.func65.trans (congrArg some (by kernel_rfl))
  f241 := Tryd.func66.trans (congrArg some (by kernel_rfl))
  f276 := Tryd.func68.trans (congrArg some (by kernel_rfl))
  f277 := Tryd.func69.trans (congrArg some (by kernel_rfl))
  t0 := Tryd.underlying0
  a0 := Tryd.isAgg0
  z0 := Tryd.sizeOf0
  v0 := Tryd.zeroValue0
  t3 := Tryd.underlying3
  a3 := Tryd.isAgg3
  z3 := Tryd.sizeOf3
  v3 := Tryd.zeroValue3
  t4 := Tryd.underlying4
  a4 := Tryd.isAgg4
  z4 := Tryd.sizeOf4
  v4 := Tryd.zeroValue4
  t9 := Tryd.underlying9
  a9 := Tryd.isAgg9
  z9 := Tryd.sizeOf9
  v9 := Tryd.zeroValue9
  t20 := Tryd.underlying20
  a20 := Tryd.isAgg20
  z20 := Tryd.sizeOf20
  v20 := Tryd.zeroValue20
  t31 := Tryd.underlying74
  a31 := Tryd.isAgg74
  z31 := Tryd.sizeOf74
  v31 := Tryd.zeroValue74
  t37 := Tryd.underlying32
  a37 := Tryd.isAgg32
  z37 := Tryd.sizeOf32
  v37 := Tryd.zeroValue32
  t70 := Tryd.underlying85
  a70 := Tryd.isAgg85
  z70 := Tryd.sizeOf85
  v70 := Tryd.zeroValue85
  t72 := Tryd.underlying87
  a72 := Tryd.isAgg87
  z72 := Tryd.sizeOf87
  v72 := Tryd.zeroValue87
  t75 := Tryd.underlying90
  a75 := Tryd.isAgg90
  z75 := Tryd.sizeOf90
  v75 := Tryd.zeroValue90
  t76 := Tryd.underlying91
  a76 := Tryd.isAgg91
  z76 := Tryd.sizeOf91
  v76 := Tryd.zeroValue91
  t127 := Tryd.underlying98
  a127 := Tryd.isAgg98
  z127 := Tryd.sizeOf98
  v127 := Tryd.zeroValue98
  t164 := Tryd.underlying100
  a164 := Tryd.isAgg100
  z164 := Tryd.sizeOf100
  v164 := Tryd.zeroValue100 }
theorem Tryd.Builder_Extra_156 : Builder.Extra Tryd.prog Tryd.lays156_ren := {
  sizeBuilder := by kernel_rfl
  liesBuilder := by kernel_rfl
  t5 := Tryd.underlying5
  a5 := Tryd.isAgg5
  z5 := Tryd.sizeOf5
  v5 := Tryd.zeroValue5
  infoByte := by kernel_rfl
  cellsByte := by kernel_rfl
  sizeByte := by kernel_rfl
  neB5 := by decide }
open Go.RowKit in
/-- No element: the empty string; the world is as it was. (Whatever the slice's address and capacity: a nil slice too.) (LAID: no walk: one application.) -/
theorem Tryd.strings_Join_none (a : Option Addr) (c : Nat) (sep : ByteArray) (w : World) :
    Calls Tryd.prog 51 #[.slice a 0 c, .string sep] w fun e w' => e = .returned (.string ⟨#[]⟩) ∧ w' = w := Any.strings_Join_none Tryd.lays156 Tryd.Builder_Extra_156 a c sep w
open Go.RowKit in
/-- strings.Join: "Join concatenates the elements of its first argument to create a single string. The separator string sep is placed between elements in the resulting string.": HOWEVER MANY ELEMENTS. Below the heap's end the world is as it was. (LAID: no walk: one application.) -/
theorem Tryd.strings_Join (bk o c : Nat) (xs : List ByteArray) (sep : ByteArray) (w : World) (hcells : ∀ (j : Nat) x, xs[j]? = some x → w.cell? ⟨bk, o + j, none⟩ = some (.string x)) (hbk : bk < w.heap.size) (hN : xs.length ≤ 140737488355328) (hcap : xs.length ≤ c) (hlen : (Lib.join (xs.map (·.data.toList)) sep.data.toList).length ≤ 140737488355328) :
    Calls Tryd.prog 51 #[.slice (some ⟨bk, o, none⟩) xs.length c, .string sep] w fun e w' => e = .returned (.string ⟨(Lib.join (xs.map (·.data.toList)) sep.data.toList).toArray⟩) ∧ Below w.heap.size w w' := Any.strings_Join Tryd.lays156 Tryd.Builder_Extra_156 bk o c xs sep w hcells hbk hN hcap hlen
def Tryd.lays106_ren : Go.Shelf.Ren := ⟨fun | 106 => 38 | 213 => 50 | 265 => 57 | n => n, fun | 9 => 9 | 3 => 3 | n => n, fun | n => n⟩
theorem Tryd.lays106 : Go.Proofs.Lays.n106 Tryd.prog Tryd.lays106_ren := {
  mixed := by kernel_rfl
  f106 := Tryd.func38.trans (congrArg some (by kernel_rfl))
  f213 := Tryd.func50.trans (congrArg some (by kernel_rfl))
  f265 := Tryd.func57.trans (congrArg some (by kernel_rfl))
  t3 := Tryd.underlying3
  a3 := Tryd.isAgg3
  z3 := Tryd.sizeOf3
  v3 := Tryd.zeroValue3
  t9 := Tryd.underlying9
  a9 := Tryd.isAgg9
  z9 := Tryd.sizeOf9
  v9 := Tryd.zeroValue9 }
open Go.RowKit in
/-- strings.Compare: "Compare returns an integer comparing two strings lexicographically. The result will be 0 if a == b, -1 if a < b, and +1 if a > b.": IT RETURNS 'Lib.compareBytes a b'; the world is as it was. (LAID: no walk: one application.) -/
theorem Tryd.strings_Compare (a b : ByteArray) (w : World) :
    Calls Tryd.prog 38 #[.string a, .string b] w fun e w' => e = .returned (.int .i64 (Lib.compareBytes a.data.toList b.data.toList)) ∧ w' = w := Any.strings_Compare Tryd.lays106 a b w
def Tryd.lays143_ren : Go.Shelf.Ren := ⟨fun | 143 => 72 | 219 => 74 | 217 => 75 | 225 => 76 | 224 => 77 | 267 => 78 | 266 => 79 | 314 => 80 | n => n, fun | 9 => 9 | 3 => 3 | 4 => 4 | 5 => 5 | 46 => 84 | 146 => 112 | 51 => 111 | n => n, fun | 1 => 0 | n => n⟩
theorem Tryd.lays143 : Go.Proofs.Lays.n143 Tryd.prog Tryd.lays143_ren := {
  mixed := by kernel_rfl
  f143 := Tryd.func72.trans (congrArg some (by kernel_rfl))
  f217 := Tryd.func75.trans (congrArg some (by kernel_rfl))
  f219 := Tryd.func74.trans (congrArg some (by kernel_rfl))
  f224 := Tryd.func77.trans (congrArg some (by kernel_rfl))
  f225 := Tryd.func76.trans (congrArg some (by kernel_rfl))
  f266 := Tryd.func79.trans (congrArg some (by kernel_rfl))
  f267 := Tryd.func78.trans (congrArg some (by kernel_rfl))
  f314 := Tryd.func80.trans (congrArg some (by kernel_rfl))
  t3 := Tryd.underlying3
  a3 := Tryd.isAgg3
  z3 := Tryd.sizeOf3
  v3 := Tryd.zeroValue3
  t4 := Tryd.underlying4
  a4 := Tryd.isAgg4
  z4 := Tryd.sizeOf4
  v4 := Tryd.zeroValue4
  t5 := Tryd.underlying5
  a5 := Tryd.isAgg5
  z5 := Tryd.sizeOf5
  v5 := Tryd.zeroValue5
  t9 := Tryd.underlying9
  a9 := Tryd.isAgg9
  z9 := Tryd.sizeOf9
  v9 := Tryd.zeroValue9
  t46 := Tryd.underlying84
  a46 := Tryd.isAgg84
  z46 := Tryd.sizeOf84
  v46 := Tryd.zeroValue84
  t51 := Tryd.underlying111
  a51 := Tryd.isAgg111
  z51 := Tryd.sizeOf111
  v51 := Tryd.zeroValue111
  t146 := Tryd.underlying112
  a146 := Tryd.isAgg112
  z146 := Tryd.sizeOf112
  v146 := Tryd.zeroValue112
  g1 := by kernel_rfl }
open Go.RowKit Go.Lib in
/-- strings.Index: "Index returns the index of the first instance of substr in s, or -1 if substr is not present in s.": AT A substr OF ONE BYTE c: IT RETURNS 'Lib.indexByte s c'; the world is as it was. (LAID: no walk: one application.) -/
theorem Tryd.strings_Index_one (s : ByteArray) (c : UInt8) (w : World) :
    Calls Tryd.prog 72 #[.string s, .string ⟨#[c]⟩] w fun e w' => e = .returned (.int .i64 (Lib.indexByte s.data.toList c)) ∧ w' = w := Any.strings_Index_one Tryd.lays143 s c w
def Tryd.lays206_ren : Go.Shelf.Ren := ⟨fun | 206 => 61 | n => n, fun | 9 => 9 | 4 => 4 | 3 => 3 | n => n, fun | n => n⟩
theorem Tryd.lays206 : Go.Proofs.Lays.n206 Tryd.prog Tryd.lays206_ren := {
  mixed := by kernel_rfl
  f206 := Tryd.func61.trans (congrArg some (by kernel_rfl))
  t3 := Tryd.underlying3
  a3 := Tryd.isAgg3
  z3 := Tryd.sizeOf3
  v3 := Tryd.zeroValue3
  t4 := Tryd.underlying4
  a4 := Tryd.isAgg4
  z4 := Tryd.sizeOf4
  v4 := Tryd.zeroValue4
  t9 := Tryd.underlying9
  a9 := Tryd.isAgg9
  z9 := Tryd.sizeOf9
  v9 := Tryd.zeroValue9 }
open Go.RowKit Go.Lib in
/-- internal/stringslite.HasPrefix (what strings.HasPrefix calls). (LAID: no walk: one application.) -/
theorem Tryd.stringslite_HasPrefix (s p : ByteArray) (w : World) :
    Calls Tryd.prog 61 #[.string s, .string p] w fun e w' => e = .returned (.bool (Lib.hasPrefix s.data.toList p.data.toList)) ∧ w' = w := Any.stringslite_HasPrefix Tryd.lays206 s p w
def Tryd.lays99_ren : Go.Shelf.Ren := ⟨fun | 99 => 52 | 206 => 61 | n => n, fun | 9 => 9 | 4 => 4 | 3 => 3 | n => n, fun | n => n⟩
theorem Tryd.lays99 : Go.Proofs.Lays.n99 Tryd.prog Tryd.lays99_ren := {
  mixed := by kernel_rfl
  f99 := Tryd.func52.trans (congrArg some (by kernel_rfl))
  f206 := Tryd.func61.trans (congrArg some (by kernel_rfl))
  t3 := Tryd.underlying3
  a3 := Tryd.isAgg3
  z3 := Tryd.sizeOf3
  v3 := Tryd.zeroValue3
  t4 := Tryd.underlying4
  a4 := Tryd.isAgg4
  z4 := Tryd.sizeOf4
  v4 := Tryd.zeroValue4
  t9 := Tryd.underlying9
  a9 := Tryd.isAgg9
  z9 := Tryd.sizeOf9
  v9 := Tryd.zeroValue9 }
open Go.RowKit Go.Lib in
/-- strings.HasPrefix: "HasPrefix reports whether the string s begins with prefix.": IT RETURNS 'Lib.hasPrefix s prefix'; the world is as it was. (LAID: no walk: one application.) -/
theorem Tryd.strings_HasPrefix (s p : ByteArray) (w : World) :
    Calls Tryd.prog 52 #[.string s, .string p] w fun e w' => e = .returned (.bool (Lib.hasPrefix s.data.toList p.data.toList)) ∧ w' = w := Any.strings_HasPrefix Tryd.lays99 s p w
def Tryd.lays260_ren : Go.Shelf.Ren := ⟨fun | 260 => 73 | n => n, fun | 9 => 9 | 21 => 21 | 3 => 3 | 4 => 4 | 5 => 5 | 119 => 105 | 0 => 0 | 46 => 84 | 139 => 108 | 138 => 107 | n => n, fun | 3 => 1 | 4 => 2 | n => n⟩
theorem Tryd.lays260 : Go.Proofs.Lays.n260 Tryd.prog Tryd.lays260_ren := {
  mixed := by kernel_rfl
  f260 := Tryd.func73.trans (congrArg some (by kernel_rfl))
  t0 := Tryd.underlying0
  a0 := Tryd.isAgg0
  z0 := Tryd.sizeOf0
  v0 := Tryd.zeroValue0
  t3 := Tryd.underlying3
  a3 := Tryd.isAgg3
  z3 := Tryd.sizeOf3
  v3 := Tryd.zeroValue3
  t4 := Tryd.underlying4
  a4 := Tryd.isAgg4
  z4 := Tryd.sizeOf4
  v4 := Tryd.zeroValue4
  t5 := Tryd.underlying5
  a5 := Tryd.isAgg5
  z5 := Tryd.sizeOf5
  v5 := Tryd.zeroValue5
  t9 := Tryd.underlying9
  a9 := Tryd.isAgg9
  z9 := Tryd.sizeOf9
  v9 := Tryd.zeroValue9
  t21 := Tryd.underlying21
  a21 := Tryd.isAgg21
  z21 := Tryd.sizeOf21
  v21 := Tryd.zeroValue21
  t46 := Tryd.underlying84
  a46 := Tryd.isAgg84
  z46 := Tryd.sizeOf84
  v46 := Tryd.zeroValue84
  t119 := Tryd.underlying105
  a119 := Tryd.isAgg105
  z119 := Tryd.sizeOf105
  t138 := Tryd.underlying107
  a138 := Tryd.isAgg107
  z138 := Tryd.sizeOf107
  v138 := Tryd.zeroValue107
  t139 := Tryd.underlying108
  a139 := Tryd.isAgg108
  z139 := Tryd.sizeOf108
  v139 := Tryd.zeroValue108
  g3 := by kernel_rfl
  g4 := by kernel_rfl }
def Tryd.lays109_ren : Go.Shelf.Ren := ⟨fun | 109 => 63 | n => n, fun | 31 => 74 | 9 => 9 | 3 => 3 | 0 => 0 | 4 => 4 | n => n, fun | n => n⟩
theorem Tryd.lays109 : Go.Proofs.Lays.n109 Tryd.prog Tryd.lays109_ren := {
  mixed := by kernel_rfl
  f109 := Tryd.func63.trans (congrArg some (by kernel_rfl))
  t0 := Tryd.underlying0
  a0 := Tryd.isAgg0
  z0 := Tryd.sizeOf0
  v0 := Tryd.zeroValue0
  t3 := Tryd.underlying3
  a3 := Tryd.isAgg3
  z3 := Tryd.sizeOf3
  v3 := Tryd.zeroValue3
  t4 := Tryd.underlying4
  a4 := Tryd.isAgg4
  z4 := Tryd.sizeOf4
  v4 := Tryd.zeroValue4
  t9 := Tryd.underlying9
  a9 := Tryd.isAgg9
  z9 := Tryd.sizeOf9
  v9 := Tryd.zeroValue9
  t31 := Tryd.underlying74
  a31 := Tryd.isAgg74
  z31 := Tryd.sizeOf74
  v31 := Tryd.zeroValue74 }
open Go.Lib in
/-- slices.Index at []string: "Index returns the index of the first occurrence of v in s, or -1 if not present.": IT RETURNS 'Lib.idxOfS (the elements) v'; the world is as it was. 'zs': what the cells behind the slice's address hold (its spare capacity too, if you have it); 'zs.take n': its elements. (LAID: no walk: one application.) -/
theorem Tryd.slices_Index_string (b off n c : Nat) (zs : List ByteArray) (x : ByteArray) (w : World) (hz : n ≤ zs.length) (hbig : n ≤ 9223372036854775807) (hc : ∀ j, j < zs.length → w.cell? ⟨b, off + j, none⟩ = some (.string (zs.getD j ByteArray.empty))) :
    Calls Tryd.prog 63 #[.slice (some ⟨b, off, none⟩) n c, .string x] w fun e w' => e = .returned (.int .i64 (Lib.idxOfS (zs.take n) x)) ∧ w' = w := Any.slices_Index_string Tryd.lays109 b off n c zs x w hz hbig hc
def Tryd.lays110_ren : Go.Shelf.Ren := ⟨fun | 110 => 54 | 109 => 63 | n => n, fun | 31 => 74 | 9 => 9 | 4 => 4 | 3 => 3 | 0 => 0 | n => n, fun | n => n⟩
theorem Tryd.lays110 : Go.Proofs.Lays.n110 Tryd.prog Tryd.lays110_ren := {
  mixed := by kernel_rfl
  f109 := Tryd.func63.trans (congrArg some (by kernel_rfl))
  f110 := Tryd.func54.trans (congrArg some (by kernel_rfl))
  t0 := Tryd.underlying0
  a0 := Tryd.isAgg0
  z0 := Tryd.sizeOf0
  v0 := Tryd.zeroValue0
  t3 := Tryd.underlying3
  a3 := Tryd.isAgg3
  z3 := Tryd.sizeOf3
  v3 := Tryd.zeroValue3
  t4 := Tryd.underlying4
  a4 := Tryd.isAgg4
  z4 := Tryd.sizeOf4
  v4 := Tryd.zeroValue4
  t9 := Tryd.underlying9
  a9 := Tryd.isAgg9
  z9 := Tryd.sizeOf9
  v9 := Tryd.zeroValue9
  t31 := Tryd.underlying74
  a31 := Tryd.isAgg74
  z31 := Tryd.sizeOf74
  v31 := Tryd.zeroValue74 }
open Go.Lib in
/-- slices.Contains at []string: "Contains reports whether v is present in s.": IT RETURNS 'Lib.containsS (the elements) v', which is true just where v is among them ('Lib.containsS_iff'); the world is as it was. ITS CALLEE slices.Index IS MET BY ITS OWN CONTRACT OFF THE SHELF (lay that first): no loop is walked here. (LAID: no walk: one application.) -/
theorem Tryd.slices_Contains_string (b off n c : Nat) (zs : List ByteArray) (x : ByteArray) (w : World) (hz : n ≤ zs.length) (hbig : n ≤ 9223372036854775807) (hc : ∀ j, j < zs.length → w.cell? ⟨b, off + j, none⟩ = some (.string (zs.getD j ByteArray.empty))) :
    Calls Tryd.prog 54 #[.slice (some ⟨b, off, none⟩) n c, .string x] w fun e w' => e = .returned (.bool (Lib.containsS (zs.take n) x)) ∧ w' = w := Any.slices_Contains_string Tryd.lays110 b off n c zs x w hz hbig hc
def Tryd.lays193_ren : Go.Shelf.Ren := ⟨fun | 193 => 55 | n => n, fun | 31 => 74 | 9 => 9 | 4 => 4 | 3 => 3 | 0 => 0 | n => n, fun | n => n⟩
theorem Tryd.lays193 : Go.Proofs.Lays.n193 Tryd.prog Tryd.lays193_ren := {
  mixed := by kernel_rfl
  f193 := Tryd.func55.trans (congrArg some (by kernel_rfl))
  t0 := Tryd.underlying0
  a0 := Tryd.isAgg0
  z0 := Tryd.sizeOf0
  v0 := Tryd.zeroValue0
  t3 := Tryd.underlying3
  a3 := Tryd.isAgg3
  z3 := Tryd.sizeOf3
  v3 := Tryd.zeroValue3
  t4 := Tryd.underlying4
  a4 := Tryd.isAgg4
  z4 := Tryd.sizeOf4
  v4 := Tryd.zeroValue4
  t9 := Tryd.underlying9
  a9 := Tryd.isAgg9
  z9 := Tryd.sizeOf9
  v9 := Tryd.zeroValue9
  t31 := Tryd.underlying74
  a31 := Tryd.isAgg74
  z31 := Tryd.sizeOf74
  v31 := Tryd.zeroValue74 }
open Go.RowKit Go.Lib in
/-- slices.Equal at []string: "Equal reports whether two slices are equal: the same length and all elements equal. If the lengths are different, Equal returns false. Otherwise, the elements are compared in increasing index order, and the comparison stops at the first unequal pair. Empty and nil slices are considered equal.": IT RETURNS WHETHER THE TWO LISTS OF ELEMENTS ARE ONE; the world is as it was but for the count of draws (the test 's1[i] != s2[i]' has two reads, whose order the model draws, once a round). 'xs', 'ys': what the cells behind the two addresses hold (the spare capacity too, if you have it); 'xs.take n', 'ys.take m': the elements. THE TWO SLICES MAY OVERLAP. (LAID: no walk: one application.) -/
theorem Tryd.slices_Equal_string (b1 o1 n c b2 o2 m d : Nat) (xs ys : List ByteArray) (w : World) (hx : n ≤ xs.length) (hy : m ≤ ys.length) (hbig : n ≤ 9223372036854775807) (hbig2 : m ≤ 9223372036854775807) (hc1 : ∀ j, j < xs.length → w.cell? ⟨b1, o1 + j, none⟩ = some (.string (xs.getD j ByteArray.empty))) (hc2 : ∀ j, j < ys.length → w.cell? ⟨b2, o2 + j, none⟩ = some (.string (ys.getD j ByteArray.empty))) :
    Calls Tryd.prog 55 #[.slice (some ⟨b1, o1, none⟩) n c, .slice (some ⟨b2, o2, none⟩) m d] w fun e w' => e = .returned (.bool (decide (xs.take n = ys.take m))) ∧ ∃ q, w' = w.drewN q := Any.slices_Equal_string Tryd.lays193 b1 o1 n c b2 o2 m d xs ys w hx hy hbig hbig2 hc1 hc2
end Go.Proofs


/- What the rows of a seat share that lays the decoder's two tables alone: the tables, the witness. -/
set_option linter.unusedVariables false
set_option linter.unusedSimpArgs false
namespace Go.Proofs.YteamddaglbleeaaDoor.row
open Go Go.ChangeShapes Go.WideShapes Go.ChangeAt Go.RowKit Go.Proofs Go.Shelf Go.Proofs.YteamddaglbleeaaDoor.Eng Go.Proofs.YteamddaglbleeaaDoor.Eng.Rdv

theorem own : ownKnob Tryd.prog.godebug = none := by kernel_rfl
theorem laidOut : laidOutB Tryd.prog = true := by kernel_rfl
section
variable {H : Type} {enc : TypeId × Value → H} {P : Program} {w : World} {base : Nat} {sp : Nat → Bool} {held : Bool}
theorem arr_len {fuel : Nat} {t e : TypeId} {n : Nat} {cs : List Value} {d : DataW H} {p : List MemPlace} (ht : P.underlying t = some (.array n e)) (h : DataW.trod enc P w base sp held fuel t cs = some (d, p)) : cs.length = P.cellsOf t := by
  cases fuel with
  | zero => simp [DataW.trod] at h
  | succ fuel =>
    simp only [DataW.trod, ht] at h
    split at h
    · assumption
    · cases h
end
theorem add0 (g j : Nat) : (⟨g, 0, none⟩ : Addr).add j = ⟨g, j, none⟩ := by rw [add_lit', Nat.zero_add]
/-- A variable of so many leaves, cell by cell. -/
theorem glob_one {W : World} {g : Nat} {arr : Array Value} {name : String} (hn : Tryd.prog.globalNamed name = some g) (hv : W.var? Tryd.prog name = some arr) (cs : List AV) (f : Nat → Value) (hl : arr.size = cs.length) (hleaf : ∀ (j : Nat) (c : AV), cs[j]? = some c → c.leaf = true ∧ arr[j]? = some (f j) ∧ V (stab W) c (f j)) :
    V (stab W) (.eptr cs 0) (.pointer (some ⟨g, 0, none⟩)) ∧ ∃ arr t f, W.heap[g]? = some (.cells arr t f) ∧ arr.size = cs.length := by
  refine ⟨?_, ?_⟩
  · have := V.eptr (S := stab W) cs 0 ⟨g, 0, none⟩ f (fun j c h => (hleaf j c h).1) (fun j c h => by
      rw [add0]
      show W.cell? ⟨g, j, none⟩ = _
      rw [World.var?_cell hn hv j]
      exact (hleaf j c h).2.1) (fun j c h => (hleaf j c h).2.2)
    rwa [add0] at this
  · unfold World.var? at hv
    rw [hn, Option.bind_some] at hv
    split at hv
    · rename_i cs' t f' he
      obtain rfl := Option.some.inj hv
      exact ⟨_, _, _, he, hl⟩
    · cases hv
theorem ints_one {W : World} {g : Nat} {name : String} {k : IntKind} {zs : List Int} (hn : Tryd.prog.globalNamed name = some g) (hv : W.var? Tryd.prog name = some (zs.map fun z => Value.int k z).toArray) :
    V (stab W) (.eptr (zs.map fun z => .int k z) 0) (.pointer (some ⟨g, 0, none⟩)) ∧ ∃ arr t f, W.heap[g]? = some (.cells arr t f) ∧ arr.size = (zs.map fun z => AV.int k z).length := by
  refine glob_one hn hv _ (fun j => .int k (zs.getD j 0)) (by simp) fun j c hc => ?_
  rw [List.getElem?_map] at hc
  obtain ⟨z, hz, rfl⟩ := Option.map_eq_some_iff.1 hc
  refine ⟨rfl, ?_, ?_⟩
  · simp [List.getD_eq_getElem?_getD, hz]
  · rw [List.getD_eq_getElem?_getD, hz]; exact V.int _ _
theorem tab_var {W : World} {g : Nat} {name : String} {k : IntKind} {zs : List Int} {t e : TypeId} {n : Nat} (hn : Tryd.prog.globalNamed name = some g) (hy : (Tryd.prog.globals[g]?).map (·.type) = some t) (ht : Tryd.prog.underlying t = some (.array n e)) (he : Tryd.prog.underlying e = some (.int k)) (hce : Tryd.prog.cellsOf e = 1) (hct : Tryd.prog.cellsOf t = n) (h : Lib.VarReads Tryd.prog W name (Lib.tabData k zs)) : W.var? Tryd.prog name = some (zs.map fun z => Value.int k z).toArray := by
  obtain ⟨g', t', cs, fuel, p, hg, hty, hvar, hd⟩ := h
  obtain rfl := Option.some.inj (hn.symm.trans hg)
  obtain rfl := Option.some.inj (hy.symm.trans hty)
  rw [hvar, ← Lib.cells_of_tab ht he hce hct hd]
/-- What the row's laid variables give. -/
theorem tables {W : World} {l : List (String × DataW Unit)} (hl : l = [("unicode/utf8.acceptRanges", Rows.laid_unicode_utf8_acceptRanges), ("unicode/utf8.first", Rows.laid_unicode_utf8_first)]) (h : laidMetH Tryd.prog l W) : GlobOk U.glob (stab W) W := by
  subst hl
  have h' : laidMet Tryd.prog [("unicode/utf8.acceptRanges", Lib.acceptData), ("unicode/utf8.first", Lib.firstData)] W := by
    have e1 : (Rows.laid_unicode_utf8_acceptRanges : DataW Unit) = Lib.acceptData := by kernel_rfl
    have e2 : Rows.laid_unicode_utf8_first = Lib.firstData := by kernel_rfl
    rw [← e1, ← e2]
    exact h
  have r7 : Lib.VarReads Tryd.prog W "unicode/utf8.first" Lib.firstData := Lib.laidMet.reads h' (.tail _ (.head _))
  have r8 : Lib.VarReads Tryd.prog W "unicode/utf8.acceptRanges" Lib.acceptData := Lib.laidMet.reads h' (.head _)
  have hU : Lib.Utf8Tabs 1 2 W := Go.Proofs.utf8Tabs_of_reads (P := Tryd.prog) (ρ := Tryd.lays260_ren) { Tryd.lays260 with } ⟨by kernel_rfl, by kernel_rfl, by kernel_rfl, by kernel_rfl, by kernel_rfl, by kernel_rfl, by kernel_rfl⟩ r7 r8
  intro g cs hg
  unfold U.glob at hg
  split at hg
  · rename_i h0
    subst h0
    obtain rfl := Option.some.inj hg
    have := ints_one (g := 1) (name := "unicode/utf8.first") (by kernel_rfl) (tab_var (g := 1) (t := 105) (e := 5) (n := 256) (by kernel_rfl) (by kernel_rfl) Tryd.underlying105 Tryd.underlying5 (by kernel_rfl) (by kernel_rfl) r7)
    rw [Lib.firstTab, List.map_map] at this
    exact this
  · split at hg
    · rename_i h0 h1
      subst h1
      obtain rfl := Option.some.inj hg
      obtain ⟨g', t', cs, fuel, p, hgn, hty, hvar, hd⟩ := r8
      obtain rfl := Option.some.inj ((show Tryd.prog.globalNamed "unicode/utf8.acceptRanges" = some 2 by kernel_rfl).symm.trans hgn)
      obtain rfl := Option.some.inj ((show (Tryd.prog.globals[2]?).map (·.type) = some 108 by kernel_rfl).symm.trans hty)
      have hlen := arr_len Tryd.underlying108 hd
      have hsz : Tryd.prog.cellsOf 108 = 32 := by kernel_rfl
      rw [hsz, Array.length_toList] at hlen
      refine glob_one hgn hvar _ (fun i => .int .u8 (((if i % 2 = 0 then Lib.accLo (i / 2) else Lib.accHi (i / 2) : Nat) : Int))) (by simp [hlen]) fun j c hc => ?_
      rw [List.getElem?_map] at hc
      obtain ⟨x, hx, rfl⟩ := Option.map_eq_some_iff.1 hc
      obtain ⟨hj, rfl⟩ := List.getElem?_eq_some_iff.1 hx
      rw [List.length_range] at hj
      rw [List.getElem_range]
      refine ⟨rfl, ?_, V.int _ _⟩
      rw [← World.var?_cell hgn hvar j]
      obtain ⟨h2, h3⟩ := hU.2 (j / 2) (by omega)
      by_cases hm : j % 2 = 0
      · rw [if_pos hm]
        rwa [show 2 * (j / 2) = j from by omega] at h2
      · rw [if_neg hm]
        rwa [show 2 * (j / 2) + 1 = j from by omega] at h3
    · cases hg
/-- The witness: the settled memory, the two variables holding what their initialisers lay. -/
noncomputable def laidWorld (os : Os) : World :=
  let w0 := World.holding Tryd.prog os ⟨#[], #[], []⟩
  let put (h : Array Obj) (g : Nat) (cs : Array Value) : Array Obj := h.modify g fun
    | .cells _ t frozen => .cells cs t frozen
    | o => o
  let h1 := put w0.heap 1 (Lib.firstTab.map fun z => Value.int .u8 z).toArray
  let h2 := put h1 2 ((List.range 16).flatMap fun i => [Value.int .u8 (Lib.accLo i), Value.int .u8 (Lib.accHi i)]).toArray
  { w0 with heap := h2 }
noncomputable abbrev laidBlocks : List Nat := [2, 1]
theorem cells_int (k : IntKind) (n : Int) : (Value.int k n).cells.toList = [Value.int k n] := rfl
theorem cells_slice (a : Option Addr) (l c : Nat) : (Value.slice a l c).cells.toList = [Value.slice a l c] := rfl
end Go.Proofs.YteamddaglbleeaaDoor.row


/- Given functions in pieces: each with what it answers, and that it does. -/
set_option linter.unusedVariables false
set_option linter.unusedSectionVars false
set_option linter.unusedSimpArgs false
namespace Go.Proofs.YteamddaglbleeaaDoor.Eng.U
open Go Go.Proofs Go.Proofs.YteamddaglbleeaaDoor.Eng Go.RowKit

structure Piece where
  f : FuncId
  ans : List AV → Option AV
def extOf (ps : List Piece) : Ext := { fs := coreFs, isBase := fun f => ps.any fun p => p.f == f, base := fun f args => (ps.find? fun p => p.f == f).bind fun p => p.ans args }
def Piece.Right (p : Piece) : Prop := Enters Tryd.prog p.f ∧ ∀ args res, p.ans args = some res → Ok Tryd.prog glob p.f args res
theorem core_of {ps : List Piece} (h : coreFs.all (fun f => !ps.any fun p => p.f == f) = true) : Core (extOf ps) where
  isB f hf := by
    have := List.all_eq_true.1 h f (List.contains_iff_mem.1 hf)
    simpa [extOf] using this
  has f hf := hf
theorem good_of {ps : List Piece} (h : ∀ p ∈ ps, p.Right) (hn : coreFs.all (namedOk Tryd.prog) = true) (k : Nat) : (bs (extOf ps) k).Good where
  mixed := by kernel_rfl
  names := hn
  base f args res hb hr := by
    change ((ps.find? fun p => p.f == f).bind fun p => p.ans args) = some res at hr
    obtain ⟨p, hp, ha⟩ := Option.bind_eq_some_iff.1 hr
    have hm := List.mem_of_find?_eq_some hp
    have hf : (p.f == f) = true := List.find?_some (p := fun q : Piece => q.f == f) hp
    have hf : p.f = f := by simpa using hf
    obtain ⟨h1, h2⟩ := h p hm
    rw [hf] at h1 h2
    exact ⟨h1, h2 args res ha⟩
theorem names_ok : coreFs.all (namedOk Tryd.prog) = true := by kernel_rfl
theorem kp_piece {ps : List Piece} {p : Piece} {k n : Nat} {args : List AV} (hp : ps.find? (fun q => q.f == p.f) = some p) : kp (extOf ps) k n p.f args = p.ans args := by
  rw [kp_base (by
    show (ps.any fun q => q.f == p.f) = true
    have := List.find?_some (p := fun q : Piece => q.f == p.f) hp
    exact List.any_eq_true.2 ⟨p, List.mem_of_find?_eq_some hp, this⟩)]
  show ((ps.find? fun q => q.f == p.f).bind fun q => q.ans args) = _
  rw [hp]
  rfl
theorem VL_1 {S : Stab} {x : AV} {vals : List Value} (h : VL S [x] vals) : ∃ v, vals = [v] ∧ V S x v := by
  obtain ⟨h1, h2⟩ := h
  match vals, h1 with
  | [v], _ => exact ⟨v, rfl, h2 0 _ _ rfl rfl⟩
theorem VL_2 {S : Stab} {x y : AV} {vals : List Value} (h : VL S [x, y] vals) : ∃ v u, vals = [v, u] ∧ V S x v ∧ V S y u := by
  obtain ⟨h1, h2⟩ := h
  match vals, h1 with
  | [v, u], _ => exact ⟨v, u, rfl, h2 0 _ _ rfl rfl, h2 1 _ _ rfl rfl⟩
theorem V_str {S : Stab} {s : ByteArray} {v : Value} (h : V S (.str s) v) : v = .string s := by cases h; rfl
theorem agree_below {S : Stab} {w w' : World} (h : Agree S w) (hb : Below w.heap.size w w') : Agree S w' := fun x v hx =>
  (World.cell?_of_block (hb.block _ (World.block_lt_of_cell? w x (h x v hx)))).trans (h x v hx)
/-- A result that is pure, and nothing that lay has turned. -/
theorem ok_pure {f : FuncId} {args : List AV} {res : AV} (hres : res.isTup = false ∧ res.isFresh = false) (h : ∀ (S : Stab) (w : World) (vals : List Value), Agree S w → GlobOk glob S w → VL S args vals → Calls Tryd.prog f vals.toArray w fun e w' => ∃ v, e = .returned v ∧ (∀ S', V S' res v) ∧ Below w.heap.size w w') (hr : (args.all fun c => !c.isRes) = true := by rfl) : Ok Tryd.prog glob f args res := by
  refine Ok.of_plain (fun c hc => by simpa using List.all_eq_true.1 hr c hc) fun S w vals hag hG hV => ?_
  refine (h S w vals hag hG hV).mono ?_
  rintro e w' ⟨v, rfl, hv, hb⟩
  refine ⟨v, S, rfl, fun _ _ h => h, agree_below hag hb, fun _ _ h => .inl h, hb, ?_⟩
  have := hv S
  cases res <;> first | (cases hres.1; done) | (cases hres.2; done) | exact this
/-- A new row, frozen as it comes. -/
theorem row_V {S : Stab} {B : Nat} {w : World} {e : TypeId} {sz : Nat} {v : Value} {us : List Value} {xs : List AV} (hag : Agree S w) (hown : w.ownsRow B e sz v xs.length us) (hone : ∀ (i : Nat) (x : AV), xs[i]? = some x → x.cells.length = sz ∧ ∀ (j : Nat) (c : AV), x.cells[j]? = some c → c.leaf = true ∧ ∀ u, us[i * sz + j]? = some u → V S c u) :
    ∃ S', S.le S' ∧ Agree S' w ∧ (∀ x u, S' x = some u → S x = some u ∨ B ≤ x.block) ∧ V S' (.list sz xs) v := by
  have hul : us.length = xs.length * sz := hown.1
  rcases ownsRow_form hown with ⟨rfl, hn⟩ | ⟨g, cap, rfl, hb⟩
  · have hx : xs = [] := List.eq_nil_of_length_eq_zero hn
    subst hx
    exact ⟨S, fun _ _ h => h, hag, fun _ _ h => .inl h, .listn _⟩
  · let S' : Stab := fun x => if x.block = g ∧ x.spot = none ∧ x.off < xs.length * sz then w.cell? x else S x
    have hle : S.le S' := by
      intro x v hx
      show (if _ then _ else _) = _
      split
      · exact hag x v hx
      · exact hx
    have hS'g : ∀ k u, us[k]? = some u → S' ⟨g, k, none⟩ = some u := by
      intro k u hu
      have hk : k < xs.length * sz := by rw [← hul]; exact (List.getElem?_eq_some_iff.1 hu).1
      show (if _ then _ else _) = _
      rw [if_pos ⟨rfl, rfl, hk⟩]
      exact cell_of_us hown rfl hu
    refine ⟨S', hle, fun x v hx => ?_, fun x u hx => ?_, ?_⟩
    · have hx : (if x.block = g ∧ x.spot = none ∧ x.off < xs.length * sz then w.cell? x else S x) = some v := hx
      split at hx
      · exact hx
      · exact hag x v hx
    · have hx : (if x.block = g ∧ x.spot = none ∧ x.off < xs.length * sz then w.cell? x else S x) = some u := hx
      split at hx
      · rename_i hh; exact .inr (by rw [hh.1]; exact hb)
      · exact .inl hx
    · have hcle : xs.length ≤ cap := by
        rcases hown.2 with ⟨hv2, _⟩ | ⟨g2, cap2, cur2, hv2, _, _, hnc, _⟩
        · cases hv2
        · cases hv2; exact hnc
      have hval : ∀ (i : Nat) (x : AV) (j : Nat) (c : AV), xs[i]? = some x → x.cells[j]? = some c → us[i * sz + j]? = some (us.getD (i * sz + j) undef) := by
        intro i x j c hx hj
        have hi : i < xs.length := (List.getElem?_eq_some_iff.1 hx).1
        have hj' : j < sz := by rw [← (hone i x hx).1]; exact (List.getElem?_eq_some_iff.1 hj).1
        have hlt : i * sz + j < us.length := by rw [hul]; exact flat_lt hi hj'
        rw [List.getD_eq_getElem?_getD, List.getElem?_eq_getElem hlt]; rfl
      exact .list _ _ _ _ (fun i j => us.getD (i * sz + j) undef) hcle (fun i x hx => (hone i x hx).1) (fun i x j c hx hj => ((hone i x hx).2 j c hj).1)
        (fun i x j c hx hj => by rw [add_lit', Nat.zero_add]; exact hS'g _ _ (hval i x j c hx hj))
        (fun i x j c hx hj => (((hone i x hx).2 j c hj).2 _ (hval i x j c hx hj)).mono hle)
theorem ok_row {f : FuncId} {args : List AV} {e : TypeId} {sz : Nat} {xs : List AV} (h : ∀ (S : Stab) (w : World) (vals : List Value), Agree S w → GlobOk glob S w → VL S args vals → Calls Tryd.prog f vals.toArray w fun en w' => ∃ v us, en = .returned v ∧ w'.ownsRow w.heap.size e sz v xs.length us ∧
      (∀ (i : Nat) (x : AV), xs[i]? = some x → x.cells.length = sz ∧ ∀ (j : Nat) (c : AV), x.cells[j]? = some c → c.leaf = true ∧ ∀ u, us[i * sz + j]? = some u → V S c u) ∧ Below w.heap.size w w') (hr : (args.all fun c => !c.isRes) = true := by rfl) : Ok Tryd.prog glob f args (.list sz xs) := by
  refine Ok.of_plain (fun c hc => by simpa using List.all_eq_true.1 hr c hc) fun S w vals hag hG hV => ?_
  refine (h S w vals hag hG hV).mono ?_
  rintro en w' ⟨v, us, rfl, hown, hels, hb⟩
  obtain ⟨S', h1, h2, h3, h4⟩ := row_V (agree_below hag hb) hown hels
  exact ⟨v, S', rfl, h1, h2, h3, hb, h4⟩
/-- Texts out of abstract values. -/
def toStrs : List AV → Option (List (List UInt8))
  | [] => some []
  | .str s :: l => (toStrs l).bind fun r => some (s.data.toList :: r)
  | _ => none
theorem toStrs_svs : ∀ l : List (List UInt8), toStrs (svs l) = some l
  | [] => rfl
  | p :: l => by
    show (toStrs (svs l)).bind (fun r => some (p :: r)) = _
    rw [toStrs_svs l]
    rfl
theorem toStrs_some : ∀ {xs : List AV} {l : List (List UInt8)}, toStrs xs = some l → xs = svs l
  | [], l, h => by cases h; rfl
  | x :: xs, l, h => by
    unfold toStrs at h
    split at h
    · rename_i e; cases e
    · rename_i s l' e
      cases e
      obtain ⟨r, hr, he⟩ := Option.bind_eq_some_iff.1 h
      cases he
      rw [toStrs_some hr]
      have : AV.str s = sv s.data.toList := by
        show AV.str s = AV.str _
        congr 1
      rw [this]; rfl
    · cases h
end Go.Proofs.YteamddaglbleeaaDoor.Eng.U


/- The program's own data: pairs, times, heads, items: as structures, as abstract values, as a row hands them in. Printed by apigen.py. -/
set_option linter.unusedVariables false
namespace Go.Proofs.YteamddaglbleeaaDoor.Eng.U
open Go Go.Proofs Go.Proofs.YteamddaglbleeaaDoor.Eng
abbrev Tx := List UInt8
structure Pair where
  key : Tx
  val : Tx
  deriving DecidableEq, Inhabited
structure Time where
  sec : Int
  nano : Int
  deriving DecidableEq, Inhabited
structure Head where
  kind : Int
  name : Tx
  link : Tx
  mode : Int
  uid : Int
  gid : Int
  size : Int
  sec : Int
  nano : Int
  user : Tx
  group : Tx
  major : Int
  minor : Int
  extra : List Pair
  deriving DecidableEq, Inhabited
structure Item where
  head : Head
  data : Tx
  deriving DecidableEq, Inhabited
def bys (l : Tx) : List AV := l.map byteAV
def encPair (p : Pair) : List AV := [.str (str p.key), .str (str p.val)]
def elPair (p : Pair) : AV := .agg (encPair p)
def prs (l : List Pair) : List AV := l.map elPair
def encTime (t : Time) : List AV := [.int .i64 t.sec, .int .i64 t.nano]
def elTime (t : Time) : AV := .agg (encTime t)
def encHead (h : Head) : List AV := [.int .i64 h.kind, .str (str h.name), .str (str h.link), .int .i64 h.mode, .int .i64 h.uid, .int .i64 h.gid, .int .i64 h.size, .int .i64 h.sec, .int .i64 h.nano, .str (str h.user), .str (str h.group), .int .i64 h.major, .int .i64 h.minor, .list 2 (prs h.extra)]
def elHead (h : Head) : AV := .agg (encHead h)
def encItem (x : Item) : List AV := [.int .i64 x.head.kind, .str (str x.head.name), .str (str x.head.link), .int .i64 x.head.mode, .int .i64 x.head.uid, .int .i64 x.head.gid, .int .i64 x.head.size, .int .i64 x.head.sec, .int .i64 x.head.nano, .str (str x.head.user), .str (str x.head.group), .int .i64 x.head.major, .int .i64 x.head.minor, .list 2 (prs x.head.extra), .list 1 (bys x.data)]
def elItem (x : Item) : AV := .agg (encItem x)
def its (l : List Item) : List AV := l.map elItem
theorem bys_len (l : Tx) : (bys l).length = l.length := by simp [bys]
theorem prs_len (l : List Pair) : (prs l).length = l.length := by simp [prs]
theorem its_len (l : List Item) : (its l).length = l.length := by simp [its]
theorem cells_pair (p : Pair) : AV.cells (elPair p) = encPair p := (rfl)
theorem cells_time (p : Time) : AV.cells (elTime p) = encTime p := (rfl)
theorem cells_head (p : Head) : AV.cells (elHead p) = encHead p := (rfl)
theorem cells_item (p : Item) : AV.cells (elItem p) = encItem p := (rfl)
theorem fold_pair (p : Pair) : AV.agg [.str (str p.key), .str (str p.val)] = elPair p := (rfl)
theorem fold_time (t : Time) : AV.agg [.int .i64 t.sec, .int .i64 t.nano] = elTime t := (rfl)
theorem fold_head (h : Head) : AV.agg [.int .i64 h.kind, .str (str h.name), .str (str h.link), .int .i64 h.mode, .int .i64 h.uid, .int .i64 h.gid, .int .i64 h.size, .int .i64 h.sec, .int .i64 h.nano, .str (str h.user), .str (str h.group), .int .i64 h.major, .int .i64 h.minor, .list 2 (prs h.extra)] = elHead h := (rfl)
theorem fold_ihead (x : Item) : AV.agg [.int .i64 x.head.kind, .str (str x.head.name), .str (str x.head.link), .int .i64 x.head.mode, .int .i64 x.head.uid, .int .i64 x.head.gid, .int .i64 x.head.size, .int .i64 x.head.sec, .int .i64 x.head.nano, .str (str x.head.user), .str (str x.head.group), .int .i64 x.head.major, .int .i64 x.head.minor, .list 2 (prs x.head.extra)] = elHead x.head := (rfl)
theorem fold_item (x : Item) : AV.agg [.int .i64 x.head.kind, .str (str x.head.name), .str (str x.head.link), .int .i64 x.head.mode, .int .i64 x.head.uid, .int .i64 x.head.gid, .int .i64 x.head.size, .int .i64 x.head.sec, .int .i64 x.head.nano, .str (str x.head.user), .str (str x.head.group), .int .i64 x.head.major, .int .i64 x.head.minor, .list 2 (prs x.head.extra), .list 1 (bys x.data)] = elItem x := (rfl)
section
variable {β : Type}
theorem prs_at (l : List Pair) (i : Nat) (h : i < l.length) (F : AV → Option β) : ((prs l)[i]?).bind F = F (elPair l[i]) := by unfold prs; rw [List.getElem?_map, List.getElem?_eq_getElem h]; rfl
theorem its_at (l : List Item) (i : Nat) (h : i < l.length) (F : AV → Option β) : ((its l)[i]?).bind F = F (elItem l[i]) := by unfold its; rw [List.getElem?_map, List.getElem?_eq_getElem h]; rfl
theorem bys_at (l : Tx) (i : Nat) (h : i < l.length) (F : AV → Option β) : ((bys l)[i]?).bind F = F (byteAV l[i]) := by unfold bys; rw [List.getElem?_map, List.getElem?_eq_getElem h]; rfl
theorem prs_mid (a b : List Pair) (x : Pair) (F : AV → Option β) : ((prs (a ++ x :: b))[a.length]?).bind F = F (elPair x) := by rw [prs_at _ _ (by simp)]; simp
theorem its_mid (a b : List Item) (x : Item) (F : AV → Option β) : ((its (a ++ x :: b))[a.length]?).bind F = F (elItem x) := by rw [its_at _ _ (by simp)]; simp
theorem bys_mid (a b : Tx) (x : UInt8) (F : AV → Option β) : ((bys (a ++ x :: b))[a.length]?).bind F = F (byteAV x) := by rw [bys_at _ _ (by simp)]; simp
theorem byte_c (c : UInt8) (K : Int → Option β) : cellI .u8 (AV.cells (byteAV c)) 0 K = K ((c.toNat : Nat) : Int) := cellI_0 _ _ _
theorem callG_pair (p : Pair) (K : List AV → Option β) : callG 2 (some (elPair p)) K = K (encPair p) := (rfl)
theorem callG_time (p : Time) (K : List AV → Option β) : callG 2 (some (elTime p)) K = K (encTime p) := (rfl)
theorem callG_head (p : Head) (K : List AV → Option β) : callG 14 (some (elHead p)) K = K (encHead p) := (rfl)
theorem callG_item (p : Item) (K : List AV → Option β) : callG 15 (some (elItem p)) K = K (encItem p) := (rfl)
theorem tupG_pair (p : Pair) (t : List AV) (K : List AV → List AV → Option β) : tupG 2 (elPair p :: t) K = K (encPair p) t := (rfl)
theorem tupG_time (p : Time) (t : List AV) (K : List AV → List AV → Option β) : tupG 2 (elTime p :: t) K = K (encTime p) t := (rfl)
theorem tupG_head (p : Head) (t : List AV) (K : List AV → List AV → Option β) : tupG 14 (elHead p :: t) K = K (encHead p) t := (rfl)
theorem tupG_item (p : Item) (t : List AV) (K : List AV → List AV → Option β) : tupG 15 (elItem p :: t) K = K (encItem p) t := (rfl)
theorem h_0 (x : Head) (K : Int → Option β) : cellI .i64 (encHead x) 0 K = K x.kind := by first | exact (rfl) | (show cellI .i64 (encHead x) 0 K = _; simp [encHead, cellI, cellL, cellAt, atInt, atList])
theorem i_0 (x : Item) (K : Int → Option β) : cellI .i64 (encItem x) 0 K = K x.head.kind := by first | exact (rfl) | (show cellI .i64 (encItem x) 0 K = _; simp [encItem, cellI, cellL, cellAt, atInt, atList])
theorem h_1 (x : Head) (K : ByteArray → Option β) : cellS (encHead x) 1 K = K (str x.name) := by first | exact (rfl) | (show cellS (encHead x) 1 K = _; simp [encHead, cellI, cellL, cellAt, atInt, atList])
theorem i_1 (x : Item) (K : ByteArray → Option β) : cellS (encItem x) 1 K = K (str x.head.name) := by first | exact (rfl) | (show cellS (encItem x) 1 K = _; simp [encItem, cellI, cellL, cellAt, atInt, atList])
theorem h_2 (x : Head) (K : ByteArray → Option β) : cellS (encHead x) 2 K = K (str x.link) := by first | exact (rfl) | (show cellS (encHead x) 2 K = _; simp [encHead, cellI, cellL, cellAt, atInt, atList])
theorem i_2 (x : Item) (K : ByteArray → Option β) : cellS (encItem x) 2 K = K (str x.head.link) := by first | exact (rfl) | (show cellS (encItem x) 2 K = _; simp [encItem, cellI, cellL, cellAt, atInt, atList])
theorem h_3 (x : Head) (K : Int → Option β) : cellI .i64 (encHead x) 3 K = K x.mode := by first | exact (rfl) | (show cellI .i64 (encHead x) 3 K = _; simp [encHead, cellI, cellL, cellAt, atInt, atList])
theorem i_3 (x : Item) (K : Int → Option β) : cellI .i64 (encItem x) 3 K = K x.head.mode := by first | exact (rfl) | (show cellI .i64 (encItem x) 3 K = _; simp [encItem, cellI, cellL, cellAt, atInt, atList])
theorem h_4 (x : Head) (K : Int → Option β) : cellI .i64 (encHead x) 4 K = K x.uid := by first | exact (rfl) | (show cellI .i64 (encHead x) 4 K = _; simp [encHead, cellI, cellL, cellAt, atInt, atList])
theorem i_4 (x : Item) (K : Int → Option β) : cellI .i64 (encItem x) 4 K = K x.head.uid := by first | exact (rfl) | (show cellI .i64 (encItem x) 4 K = _; simp [encItem, cellI, cellL, cellAt, atInt, atList])
theorem h_5 (x : Head) (K : Int → Option β) : cellI .i64 (encHead x) 5 K = K x.gid := by first | exact (rfl) | (show cellI .i64 (encHead x) 5 K = _; simp [encHead, cellI, cellL, cellAt, atInt, atList])
theorem i_5 (x : Item) (K : Int → Option β) : cellI .i64 (encItem x) 5 K = K x.head.gid := by first | exact (rfl) | (show cellI .i64 (encItem x) 5 K = _; simp [encItem, cellI, cellL, cellAt, atInt, atList])
theorem h_6 (x : Head) (K : Int → Option β) : cellI .i64 (encHead x) 6 K = K x.size := by first | exact (rfl) | (show cellI .i64 (encHead x) 6 K = _; simp [encHead, cellI, cellL, cellAt, atInt, atList])
theorem i_6 (x : Item) (K : Int → Option β) : cellI .i64 (encItem x) 6 K = K x.head.size := by first | exact (rfl) | (show cellI .i64 (encItem x) 6 K = _; simp [encItem, cellI, cellL, cellAt, atInt, atList])
theorem h_7 (x : Head) (K : Int → Option β) : cellI .i64 (encHead x) 7 K = K x.sec := by first | exact (rfl) | (show cellI .i64 (encHead x) 7 K = _; simp [encHead, cellI, cellL, cellAt, atInt, atList])
theorem i_7 (x : Item) (K : Int → Option β) : cellI .i64 (encItem x) 7 K = K x.head.sec := by first | exact (rfl) | (show cellI .i64 (encItem x) 7 K = _; simp [encItem, cellI, cellL, cellAt, atInt, atList])
theorem h_8 (x : Head) (K : Int → Option β) : cellI .i64 (encHead x) 8 K = K x.nano := by first | exact (rfl) | (show cellI .i64 (encHead x) 8 K = _; simp [encHead, cellI, cellL, cellAt, atInt, atList])
theorem i_8 (x : Item) (K : Int → Option β) : cellI .i64 (encItem x) 8 K = K x.head.nano := by first | exact (rfl) | (show cellI .i64 (encItem x) 8 K = _; simp [encItem, cellI, cellL, cellAt, atInt, atList])
theorem h_9 (x : Head) (K : ByteArray → Option β) : cellS (encHead x) 9 K = K (str x.user) := by first | exact (rfl) | (show cellS (encHead x) 9 K = _; simp [encHead, cellI, cellL, cellAt, atInt, atList])
theorem i_9 (x : Item) (K : ByteArray → Option β) : cellS (encItem x) 9 K = K (str x.head.user) := by first | exact (rfl) | (show cellS (encItem x) 9 K = _; simp [encItem, cellI, cellL, cellAt, atInt, atList])
theorem h_10 (x : Head) (K : ByteArray → Option β) : cellS (encHead x) 10 K = K (str x.group) := by first | exact (rfl) | (show cellS (encHead x) 10 K = _; simp [encHead, cellI, cellL, cellAt, atInt, atList])
theorem i_10 (x : Item) (K : ByteArray → Option β) : cellS (encItem x) 10 K = K (str x.head.group) := by first | exact (rfl) | (show cellS (encItem x) 10 K = _; simp [encItem, cellI, cellL, cellAt, atInt, atList])
theorem h_11 (x : Head) (K : Int → Option β) : cellI .i64 (encHead x) 11 K = K x.major := by first | exact (rfl) | (show cellI .i64 (encHead x) 11 K = _; simp [encHead, cellI, cellL, cellAt, atInt, atList])
theorem i_11 (x : Item) (K : Int → Option β) : cellI .i64 (encItem x) 11 K = K x.head.major := by first | exact (rfl) | (show cellI .i64 (encItem x) 11 K = _; simp [encItem, cellI, cellL, cellAt, atInt, atList])
theorem h_12 (x : Head) (K : Int → Option β) : cellI .i64 (encHead x) 12 K = K x.minor := by first | exact (rfl) | (show cellI .i64 (encHead x) 12 K = _; simp [encHead, cellI, cellL, cellAt, atInt, atList])
theorem i_12 (x : Item) (K : Int → Option β) : cellI .i64 (encItem x) 12 K = K x.head.minor := by first | exact (rfl) | (show cellI .i64 (encItem x) 12 K = _; simp [encItem, cellI, cellL, cellAt, atInt, atList])
theorem h_13 (x : Head) (K : List AV → Option β) : cellL 2 (encHead x) 13 K = K (prs x.extra) := by first | exact (rfl) | (show cellL 2 (encHead x) 13 K = _; simp [encHead, cellI, cellL, cellAt, atInt, atList])
theorem i_13 (x : Item) (K : List AV → Option β) : cellL 2 (encItem x) 13 K = K (prs x.head.extra) := by first | exact (rfl) | (show cellL 2 (encItem x) 13 K = _; simp [encItem, cellI, cellL, cellAt, atInt, atList])
theorem i_14 (x : Item) (K : List AV → Option β) : cellL 1 (encItem x) 14 K = K (bys x.data) := by first | exact (rfl) | (show cellL 1 (encItem x) 14 K = _; simp [encItem, cellI, cellL, cellAt, atInt, atList])
theorem p_0 (x : Pair) (K : ByteArray → Option β) : cellS (encPair x) 0 K = K (str x.key) := by first | exact (rfl) | (show cellS (encPair x) 0 K = _; simp [encPair, cellI, cellL, cellAt, atInt, atList])
theorem p_1 (x : Pair) (K : ByteArray → Option β) : cellS (encPair x) 1 K = K (str x.val) := by first | exact (rfl) | (show cellS (encPair x) 1 K = _; simp [encPair, cellI, cellL, cellAt, atInt, atList])
theorem t_0 (x : Time) (K : Int → Option β) : cellI .i64 (encTime x) 0 K = K x.sec := by first | exact (rfl) | (show cellI .i64 (encTime x) 0 K = _; simp [encTime, cellI, cellL, cellAt, atInt, atList])
theorem t_1 (x : Time) (K : Int → Option β) : cellI .i64 (encTime x) 1 K = K x.nano := by first | exact (rfl) | (show cellI .i64 (encTime x) 1 K = _; simp [encTime, cellI, cellL, cellAt, atInt, atList])
end
end Go.Proofs.YteamddaglbleeaaDoor.Eng.U


/- What functions answer, as the engine evaluates their code. Printed by gen2.py. -/
set_option linter.unusedVariables false
namespace Go.Proofs.YteamddaglbleeaaDoor.Eng.U
open Go Go.Proofs Go.Proofs.YteamddaglbleeaaDoor.Eng
/- oakum/oakumlaw40.OrderBy -/
noncomputable def law40_OrderBy_bd : Code := Tryd.f4.body.getD .skip
noncomputable def law40_OrderBy_L0 (kap : FuncId → List AV → Option AV) (k : Nat) (k0 : Nat) (s0 : List AV) (s1 : Int) (s5 : List AV) (s8 : Int) (x7 : List AV) : Option AV :=
  loop (fun fr K => code ((bs E0 k).cfg kap law40_OrderBy) (sel law40_OrderBy_bd [1, 1, 1, 1, 1, 1, 1, 0, 1, 0, 0]) fr K) (canon ((bs E0 k).cfg kap law40_OrderBy) (firstReg (sel law40_OrderBy_bd [1, 1, 1, 1, 1, 1, 1, 0, 1, 0, 0]))) k0 (mkFr 94 [(0, (.list 15 s0)), (1, (.int .i64 s1)), (5, (.list 1 s5)), (7, (.own 7)), (8, (.int .i64 s8))] [(7, (.row 4 x7 false))]) (plug ((bs E0 k).cfg kap law40_OrderBy) (retK ((bs E0 k).cfg kap law40_OrderBy) [] Tryd.f4 [] some) [.blk 0, .seqR (sel law40_OrderBy_bd [1, 1, 1, 1, 1, 1, 1, 1])])
noncomputable def law40_OrderBy_L1 (kap : FuncId → List AV → Option AV) (k : Nat) (k0 : Nat) (k1 : Nat) (s0 : List AV) (s1 : Int) (s5 : List AV) (s8 : Int) (s9 : Int) (s10 : Int) (x7 : List AV) : Option AV :=
  loop (fun fr K => code ((bs E0 k).cfg kap law40_OrderBy) (sel law40_OrderBy_bd [1, 1, 1, 1, 1, 1, 1, 0, 1, 0, 0, 1, 0, 0, 1, 0, 1, 0, 0]) fr K) (canon ((bs E0 k).cfg kap law40_OrderBy) (firstReg (sel law40_OrderBy_bd [1, 1, 1, 1, 1, 1, 1, 0, 1, 0, 0, 1, 0, 0, 1, 0, 1, 0, 0]))) k1 (mkFr 94 [(0, (.list 15 s0)), (1, (.int .i64 s1)), (5, (.list 1 s5)), (7, (.own 7)), (8, (.int .i64 s8)), (9, (.int .i64 s9)), (10, (.int .i64 s10))] [(7, (.row 4 x7 false))]) (plug ((bs E0 k).cfg kap law40_OrderBy) (retK ((bs E0 k).cfg kap law40_OrderBy) [] Tryd.f4 [] some) [.blk 2, .seqR (sel law40_OrderBy_bd [1, 1, 1, 1, 1, 1, 1, 0, 1, 0, 0, 1, 0, 0, 1, 1]), .blk 1, .seqR (sel law40_OrderBy_bd [1, 1, 1, 1, 1, 1, 1, 0, 1, 0, 0, 1, 1]), .lp (sel law40_OrderBy_bd [1, 1, 1, 1, 1, 1, 1, 0, 1, 0, 0]) k0, .blk 0, .seqR (sel law40_OrderBy_bd [1, 1, 1, 1, 1, 1, 1, 1])])
theorem law40_OrderBy_L0_s (kap : FuncId → List AV → Option AV) (k : Nat) (k0 : Nat) (s0 : List AV) (s1 : Int) (s5 : List AV) (s8 : Int) (x7 : List AV) : law40_OrderBy_L0 kap k (k0 + 1) s0 s1 s5 s8 x7 =
  (bif (decide (s8 < (((List.length s5) : Nat) : Int))) then (law40_OrderBy_L1 kap k k0 k s0 s1 s5 s8 (-1 : Int) (0 : Int) x7) else (some (.bool true))) := by kernel_rfl
theorem law40_OrderBy_L1_s (kap : FuncId → List AV → Option AV) (k : Nat) (k0 : Nat) (k1 : Nat) (s0 : List AV) (s1 : Int) (s5 : List AV) (s8 : Int) (s9 : Int) (s10 : Int) (x7 : List AV) : law40_OrderBy_L1 kap k k0 (k1 + 1) s0 s1 s5 s8 s9 s10 x7 =
  (bif (decide (s10 < (((List.length s0) : Nat) : Int))) then (bif ((decide ((0 : Int) ≤ s10)) && (decide (s10 < (((List.length x7) : Nat) : Int)))) then ((x7[(Int.toNat s10)]?).bind fun vy11 => (cellB (AV.cells vy11) 0 fun vq12 => (bif (!vq12) then (bif (decide (s9 < (0 : Int))) then (law40_OrderBy_L1 kap k k0 k1 s0 s1 s5 s8 s10 (IntKind.wrap .i64 (s10 + (1 : Int))) x7) else (bif ((decide ((0 : Int) ≤ s10)) && (decide (s10 < (((List.length s0) : Nat) : Int)))) then ((s0[(Int.toNat s10)]?).bind fun vy13 => (cellI .i64 (AV.cells vy13) 0 fun vn14 => (cellS (AV.cells vy13) 1 fun vs15 => (cellS (AV.cells vy13) 2 fun vs16 => (cellI .i64 (AV.cells vy13) 3 fun vn17 => (cellI .i64 (AV.cells vy13) 4 fun vn18 => (cellI .i64 (AV.cells vy13) 5 fun vn19 => (cellI .i64 (AV.cells vy13) 6 fun vn20 => (cellI .i64 (AV.cells vy13) 7 fun vn21 => (cellI .i64 (AV.cells vy13) 8 fun vn22 => (cellS (AV.cells vy13) 9 fun vs23 => (cellS (AV.cells vy13) 10 fun vs24 => (cellI .i64 (AV.cells vy13) 11 fun vn25 => (cellI .i64 (AV.cells vy13) 12 fun vn26 => (cellL 2 (AV.cells vy13) 13 fun vl27 => (bif ((decide ((0 : Int) ≤ s9)) && (decide (s9 < (((List.length s0) : Nat) : Int)))) then ((s0[(Int.toNat s9)]?).bind fun vy28 => (cellI .i64 (AV.cells vy28) 0 fun vn29 => (cellS (AV.cells vy28) 1 fun vs30 => (cellS (AV.cells vy28) 2 fun vs31 => (cellI .i64 (AV.cells vy28) 3 fun vn32 => (cellI .i64 (AV.cells vy28) 4 fun vn33 => (cellI .i64 (AV.cells vy28) 5 fun vn34 => (cellI .i64 (AV.cells vy28) 6 fun vn35 => (cellI .i64 (AV.cells vy28) 7 fun vn36 => (cellI .i64 (AV.cells vy28) 8 fun vn37 => (cellS (AV.cells vy28) 9 fun vs38 => (cellS (AV.cells vy28) 10 fun vs39 => (cellI .i64 (AV.cells vy28) 11 fun vn40 => (cellI .i64 (AV.cells vy28) 12 fun vn41 => (cellL 2 (AV.cells vy28) 13 fun vl42 => (callB (kap ref40_Less [(.agg [(.int .i64 vn14), (.str vs15), (.str vs16), (.int .i64 vn17), (.int .i64 vn18), (.int .i64 vn19), (.int .i64 vn20), (.int .i64 vn21), (.int .i64 vn22), (.str vs23), (.str vs24), (.int .i64 vn25), (.int .i64 vn26), (.list 2 vl27)]), (.agg [(.int .i64 vn29), (.str vs30), (.str vs31), (.int .i64 vn32), (.int .i64 vn33), (.int .i64 vn34), (.int .i64 vn35), (.int .i64 vn36), (.int .i64 vn37), (.str vs38), (.str vs39), (.int .i64 vn40), (.int .i64 vn41), (.list 2 vl42)]), (.int .i64 s1)]) fun vq44 => (bif vq44 then (law40_OrderBy_L1 kap k k0 k1 s0 s1 s5 s8 s10 (IntKind.wrap .i64 (s10 + (1 : Int))) x7) else (law40_OrderBy_L1 kap k k0 k1 s0 s1 s5 s8 s9 (IntKind.wrap .i64 (s10 + (1 : Int))) x7)))))))))))))))))) else none)))))))))))))))) else none)) else (law40_OrderBy_L1 kap k k0 k1 s0 s1 s5 s8 s9 (IntKind.wrap .i64 (s10 + (1 : Int))) x7)))) else none) else (bif ((decide ((0 : Int) ≤ s8)) && (decide (s8 < (((List.length s5) : Nat) : Int)))) then ((s5[(Int.toNat s8)]?).bind fun vy45 => (cellI .i64 (AV.cells vy45) 0 fun vn46 => (bif (!(decide (vn46 = s9))) then (some (.bool false)) else (bif ((decide ((0 : Int) ≤ s9)) && (decide (s9 < (((List.length x7) : Nat) : Int)))) then ((x7[(Int.toNat s9)]?).bind fun vy47 => (bif (decide (0 + 1 ≤ (AV.cells vy47).length) && true) then (law40_OrderBy_L0 kap k k0 s0 s1 s5 (IntKind.wrap .i64 (s8 + (1 : Int))) (List.set x7 (Int.toNat s9) (mkElem 1 (splice (AV.cells vy47) 0 [(.bool true)]) vy47))) else none)) else none)))) else none)) := by kernel_rfl
theorem law40_OrderBy_eq {E : Ext} [Core E] (k n : Nat) (a0 : List AV) (a1 : Int) : kp E k (n + 1) law40_OrderBy [(.list 15 a0), (.int .i64 a1)] =
  (callB (kp E k n law40_alive []) fun vq2 => (bif (!vq2) then (some (.bool false)) else (callB (kp E k n law40_few [(.list 15 a0)]) fun vq4 => (bif (!vq4) then (some (.bool true)) else (callT (kp E k n order_By [(.list 15 a0), (.int .i64 a1)]) fun vt6 => (tupL 1 vt6 fun vl7 vt8 => (tupI .u8 vt8 fun vn9 vt10 => (atNil vt10 (bif (decide (a1 < (1 : Int))) then (bif (decide ((IntKind.wrap .i64 vn9) = (2 : Int))) then (some (.bool (decide ((((List.length vl7) : Nat) : Int) = (0 : Int))))) else (some (.bool false))) else (bif (decide (a1 > (12 : Int))) then (bif (decide ((IntKind.wrap .i64 vn9) = (2 : Int))) then (some (.bool (decide ((((List.length vl7) : Nat) : Int) = (0 : Int))))) else (some (.bool false))) else (bif (!(decide ((IntKind.wrap .i64 vn9) = (0 : Int)))) then (some (.bool false)) else (bif (!(decide ((((List.length vl7) : Nat) : Int) = (((List.length a0) : Nat) : Int)))) then (some (.bool false)) else (bif (((decide ((0 : Int) ≤ (((List.length a0) : Nat) : Int))) && (decide ((((List.length a0) : Nat) : Int) ≤ (((List.length a0) : Nat) : Int))) && (decide ((((List.length a0) : Nat) : Int) * 1 ≤ 140737488355328)) && (decide ((((List.length a0) : Nat) : Int) ≤ (9223372036854775807 : Int)))) && true && true) then (law40_OrderBy_L0 (kp E k n) k k a0 a1 vl7 (0 : Int) (List.replicate (Int.toNat (((List.length a0) : Nat) : Int)) ((.bool false) : AV))) else none))))))))))))) := (kp_at (by kernel_rfl)).trans (by kernel_rfl)
/- oakum/oakumref09.Same -/
/- oakum/oakumlaw40.alive -/
theorem law40_alive_eq {E : Ext} [Core E] (k n : Nat)  : kp E k (n + 1) law40_alive [] =
  (callL 1 (kp E k n order_Sorted [(.list 15 [(.agg [(.int .i64 (1 : Int)), (.str (str [97, 47, 98])), (.str (str [])), (.int .i64 (0 : Int)), (.int .i64 (0 : Int)), (.int .i64 (0 : Int)), (.int .i64 (0 : Int)), (.int .i64 (0 : Int)), (.int .i64 (0 : Int)), (.str (str [])), (.str (str [])), (.int .i64 (0 : Int)), (.int .i64 (0 : Int)), (.list 2 []), (.list 1 [])]), (.agg [(.int .i64 (6 : Int)), (.str (str [97])), (.str (str [])), (.int .i64 (0 : Int)), (.int .i64 (0 : Int)), (.int .i64 (0 : Int)), (.int .i64 (0 : Int)), (.int .i64 (0 : Int)), (.int .i64 (0 : Int)), (.str (str [])), (.str (str [])), (.int .i64 (0 : Int)), (.int .i64 (0 : Int)), (.list 2 []), (.list 1 [])])])]) fun vl2 => (callB (kp E k n ref10_SameInts [(.list 1 vl2), (.list 1 [(.int .i64 (1 : Int)), (.int .i64 (0 : Int))])]) fun vq4 => (bif vq4 then (callB (kp E k n order_Is [(.list 15 [(.agg [(.int .i64 (1 : Int)), (.str (str [97, 47, 98])), (.str (str [])), (.int .i64 (0 : Int)), (.int .i64 (0 : Int)), (.int .i64 (0 : Int)), (.int .i64 (0 : Int)), (.int .i64 (0 : Int)), (.int .i64 (0 : Int)), (.str (str [])), (.str (str [])), (.int .i64 (0 : Int)), (.int .i64 (0 : Int)), (.list 2 []), (.list 1 [])]), (.agg [(.int .i64 (6 : Int)), (.str (str [97])), (.str (str [])), (.int .i64 (0 : Int)), (.int .i64 (0 : Int)), (.int .i64 (0 : Int)), (.int .i64 (0 : Int)), (.int .i64 (0 : Int)), (.int .i64 (0 : Int)), (.str (str [])), (.str (str [])), (.int .i64 (0 : Int)), (.int .i64 (0 : Int)), (.list 2 []), (.list 1 [])])])]) fun vq6 => (some (.bool (!vq6)))) else (some (.bool false))))) := (kp_at (by kernel_rfl)).trans (by kernel_rfl)
/- oakum/oakumlaw40.few -/
noncomputable def law40_few_bd : Code := Tryd.f10.body.getD .skip
noncomputable def law40_few_L0 (kap : FuncId → List AV → Option AV) (k : Nat) (k0 : Nat) (s0 : List AV) (s3 : Int) : Option AV :=
  loop (fun fr K => code ((bs E0 k).cfg kap law40_few) (sel law40_few_bd [1, 0, 1, 0, 0]) fr K) (canon ((bs E0 k).cfg kap law40_few) (firstReg (sel law40_few_bd [1, 0, 1, 0, 0]))) k0 (mkFr 29 [(0, (.list 15 s0)), (3, (.int .i64 s3))] []) (plug ((bs E0 k).cfg kap law40_few) (retK ((bs E0 k).cfg kap law40_few) [] Tryd.f10 [] some) [.blk 0, .seqR (sel law40_few_bd [1, 1])])
theorem law40_few_L0_s (kap : FuncId → List AV → Option AV) (k : Nat) (k0 : Nat) (s0 : List AV) (s3 : Int) : law40_few_L0 kap k (k0 + 1) s0 s3 =
  (bif (decide (s3 < (((List.length s0) : Nat) : Int))) then (bif ((decide ((0 : Int) ≤ s3)) && (decide (s3 < (((List.length s0) : Nat) : Int)))) then ((s0[(Int.toNat s3)]?).bind fun vy1 => (cellS (AV.cells vy1) 1 fun vs2 => (bif ((decide ((0 : Int) ≤ s3)) && (decide (s3 < (((List.length s0) : Nat) : Int)))) then ((s0[(Int.toNat s3)]?).bind fun vy3 => (cellS (AV.cells vy3) 2 fun vs4 => (bif (decide ((IntKind.wrap .i64 ((((ByteArray.size vs2) : Nat) : Int) + (((ByteArray.size vs4) : Nat) : Int))) > (300 : Int))) then (some (.bool false)) else (law40_few_L0 kap k k0 s0 (IntKind.wrap .i64 (s3 + (1 : Int))))))) else none))) else none) else (callB (kap law17_Many [(.list 15 s0)]) fun vq6 => (some (.bool (!vq6))))) := by kernel_rfl
theorem law40_few_eq {E : Ext} [Core E] (k n : Nat) (a0 : List AV) : kp E k (n + 1) law40_few [(.list 15 a0)] =
  (law40_few_L0 (kp E k n) k k a0 (0 : Int)) := (kp_at (by kernel_rfl)).trans (by kernel_rfl)
/- oakum/order.By -/
noncomputable def order_By_bd : Code := Tryd.f11.body.getD .skip
noncomputable def order_By_L0 (kap : FuncId → List AV → Option AV) (k : Nat) (k0 : Nat) (s23 : Int) (s24 : Int) (b2_0 : List AV) (b3_0 : Int) (x8 : List AV) : Option AV :=
  loop (fun fr K => code ((bs E0 k).cfg kap order_By) (sel order_By_bd [1, 1, 1, 0, 1, 0, 0]) fr K) (canon ((bs E0 k).cfg kap order_By) (firstReg (sel order_By_bd [1, 1, 1, 0, 1, 0, 0]))) k0 (mkFr 36 [(2, (.loc 2 0)), (3, (.loc 3 0)), (8, (.own 8)), (23, (.int .i64 s23)), (24, (.int .i64 s24))] [(2, (.box [(.list 15 b2_0)])), (3, (.box [(.int .i64 b3_0)])), (8, (.row 3 x8 false))]) (plug ((bs E0 k).cfg kap order_By) (retK ((bs E0 k).cfg kap order_By) [] Tryd.f11 [] some) [.blk 0, .seqR (sel order_By_bd [1, 1, 1, 1])])
theorem order_By_L0_s (kap : FuncId → List AV → Option AV) (k : Nat) (k0 : Nat) (s23 : Int) (s24 : Int) (b2_0 : List AV) (b3_0 : Int) (x8 : List AV) : order_By_L0 kap k (k0 + 1) s23 s24 b2_0 b3_0 x8 =
  (bif (decide (s24 < s23)) then (bif ((decide ((0 : Int) ≤ s24)) && (decide (s24 < (((List.length x8) : Nat) : Int)))) then ((x8[(Int.toNat s24)]?).bind fun vy7 => (bif (decide (0 + 1 ≤ (AV.cells vy7).length) && true) then (order_By_L0 kap k k0 s23 (IntKind.wrap .i64 (s24 + (1 : Int))) b2_0 b3_0 (List.set x8 (Int.toNat s24) (mkElem 1 (splice (AV.cells vy7) 0 [(.int .i64 s24)]) vy7))) else none)) else none) else (callX (kap slices_SortStableFunc_int [(.lrow 3 x8), (.func (.func order_By_1) [] [(.eptr [(.list 15 b2_0)] 0), (.eptr [(.int .i64 b3_0)] 0)])]) fun vb8 vz9 => (nxR 3 vz9 fun vw11 vz10 => (bif List.length vw11 == (List.length x8) then (atNil vz10 (callT (some vb8) fun vt12 => (atNil vt12 (some (.tup [(.list 1 vw11), (.int .u8 (0 : Int))]))))) else none)))) := by kernel_rfl
theorem order_By_eq {E : Ext} [Core E] (k n : Nat) (a0 : List AV) (a1 : Int) : kp E k (n + 1) order_By [(.list 15 a0), (.int .i64 a1)] =
  (callT (kp E k n order_compare [(.agg [(.int .i64 (0 : Int)), (.str (str [])), (.str (str [])), (.int .i64 (0 : Int)), (.int .i64 (0 : Int)), (.int .i64 (0 : Int)), (.int .i64 (0 : Int)), (.int .i64 (0 : Int)), (.int .i64 (0 : Int)), (.str (str [])), (.str (str [])), (.int .i64 (0 : Int)), (.int .i64 (0 : Int)), (.list 2 [])]), (.agg [(.int .i64 (0 : Int)), (.str (str [])), (.str (str [])), (.int .i64 (0 : Int)), (.int .i64 (0 : Int)), (.int .i64 (0 : Int)), (.int .i64 (0 : Int)), (.int .i64 (0 : Int)), (.int .i64 (0 : Int)), (.str (str [])), (.str (str [])), (.int .i64 (0 : Int)), (.int .i64 (0 : Int)), (.list 2 [])]), (.int .i64 a1)]) fun vt2 => (tupI .i64 vt2 fun vn3 vt4 => (tupB vt4 fun vq5 vt6 => (atNil vt6 (bif (!vq5) then (some (.tup [(.list 1 []), (.int .u8 (2 : Int))])) else (bif (((decide ((0 : Int) ≤ (((List.length a0) : Nat) : Int))) && (decide ((((List.length a0) : Nat) : Int) ≤ (((List.length a0) : Nat) : Int))) && (decide ((((List.length a0) : Nat) : Int) * 8 ≤ 140737488355328)) && (decide ((((List.length a0) : Nat) : Int) ≤ (9223372036854775807 : Int)))) && true && true) then (order_By_L0 (kp E k n) k k (((List.length (List.replicate (Int.toNat (((List.length a0) : Nat) : Int)) ((.int .i64 (0 : Int)) : AV))) : Nat) : Int) (0 : Int) a0 a1 (List.replicate (Int.toNat (((List.length a0) : Nat) : Int)) ((.int .i64 (0 : Int)) : AV))) else none)))))) := (kp_at (by kernel_rfl)).trans (by kernel_rfl)
/- oakum/oakumref40.Less -/
theorem ref40_Less_eq {E : Ext} [Core E] (k n : Nat) (a0_0 : Int) (a0_1 : ByteArray) (a0_2 : ByteArray) (a0_3 : Int) (a0_4 : Int) (a0_5 : Int) (a0_6 : Int) (a0_7 : Int) (a0_8 : Int) (a0_9 : ByteArray) (a0_10 : ByteArray) (a0_11 : Int) (a0_12 : Int) (a0_13 : List AV) (a1_0 : Int) (a1_1 : ByteArray) (a1_2 : ByteArray) (a1_3 : Int) (a1_4 : Int) (a1_5 : Int) (a1_6 : Int) (a1_7 : Int) (a1_8 : Int) (a1_9 : ByteArray) (a1_10 : ByteArray) (a1_11 : Int) (a1_12 : Int) (a1_13 : List AV) (a2 : Int) : kp E k (n + 1) ref40_Less [(.agg [(.int .i64 a0_0), (.str a0_1), (.str a0_2), (.int .i64 a0_3), (.int .i64 a0_4), (.int .i64 a0_5), (.int .i64 a0_6), (.int .i64 a0_7), (.int .i64 a0_8), (.str a0_9), (.str a0_10), (.int .i64 a0_11), (.int .i64 a0_12), (.list 2 a0_13)]), (.agg [(.int .i64 a1_0), (.str a1_1), (.str a1_2), (.int .i64 a1_3), (.int .i64 a1_4), (.int .i64 a1_5), (.int .i64 a1_6), (.int .i64 a1_7), (.int .i64 a1_8), (.str a1_9), (.str a1_10), (.int .i64 a1_11), (.int .i64 a1_12), (.list 2 a1_13)]), (.int .i64 a2)] =
  (bif (decide (a2 = (1 : Int))) then (some (.bool (decide (a0_0 < a1_0)))) else (bif (decide (a2 = (2 : Int))) then (some (.bool (Op.bytesLess (ByteArray.toList a0_1) (ByteArray.toList a1_1)))) else (bif (decide (a2 = (3 : Int))) then (some (.bool (Op.bytesLess (ByteArray.toList a0_2) (ByteArray.toList a1_2)))) else (bif (decide (a2 = (4 : Int))) then (some (.bool (decide (a0_3 < a1_3)))) else (bif (decide (a2 = (5 : Int))) then (some (.bool (decide (a0_4 < a1_4)))) else (bif (decide (a2 = (6 : Int))) then (some (.bool (decide (a0_5 < a1_5)))) else (bif (decide (a2 = (7 : Int))) then (some (.bool (decide (a0_6 < a1_6)))) else (bif (decide (a2 = (8 : Int))) then (bif (decide (a0_7 < a1_7)) then (some (.bool true)) else (bif (decide (a0_7 = a1_7)) then (some (.bool (decide (a0_8 < a1_8)))) else (some (.bool false)))) else (bif (decide (a2 = (9 : Int))) then (some (.bool (Op.bytesLess (ByteArray.toList a0_9) (ByteArray.toList a1_9)))) else (bif (decide (a2 = (10 : Int))) then (some (.bool (Op.bytesLess (ByteArray.toList a0_10) (ByteArray.toList a1_10)))) else (bif (decide (a2 = (11 : Int))) then (some (.bool (decide (a0_11 < a1_11)))) else (some (.bool (decide (a0_12 < a1_12))))))))))))))) := (kp_at (by kernel_rfl)).trans (by kernel_rfl)
/- oakum/oakumlaw17.Many -/
noncomputable def law17_Many_bd : Code := Tryd.f14.body.getD .skip
noncomputable def law17_Many_L0 (kap : FuncId → List AV → Option AV) (k : Nat) (k0 : Nat) (s0 : List AV) (s3 : Int) (s4 : Int) : Option AV :=
  loop (fun fr K => code ((bs E0 k).cfg kap law17_Many) (sel law17_Many_bd [1, 1, 0, 1, 0, 0]) fr K) (canon ((bs E0 k).cfg kap law17_Many) (firstReg (sel law17_Many_bd [1, 1, 0, 1, 0, 0]))) k0 (mkFr 77 [(0, (.list 15 s0)), (3, (.int .i64 s3)), (4, (.int .i64 s4))] []) (plug ((bs E0 k).cfg kap law17_Many) (retK ((bs E0 k).cfg kap law17_Many) [] Tryd.f14 [] some) [.blk 0, .seqR (sel law17_Many_bd [1, 1, 1])])
noncomputable def law17_Many_L1 (kap : FuncId → List AV → Option AV) (k : Nat) (k0 : Nat) (k1 : Nat) (s0 : List AV) (s3 : Int) (s4 : Int) (s6 : Int) (b5_0 : Int) (b5_1 : ByteArray) (b5_2 : ByteArray) (b5_3 : Int) (b5_4 : Int) (b5_5 : Int) (b5_6 : Int) (b5_7 : Int) (b5_8 : Int) (b5_9 : ByteArray) (b5_10 : ByteArray) (b5_11 : Int) (b5_12 : Int) (b5_13 : List AV) : Option AV :=
  loop (fun fr K => code ((bs E0 k).cfg kap law17_Many) (sel law17_Many_bd [1, 1, 0, 1, 0, 0, 1, 0, 0, 1, 1, 0, 1, 0, 0]) fr K) (canon ((bs E0 k).cfg kap law17_Many) (firstReg (sel law17_Many_bd [1, 1, 0, 1, 0, 0, 1, 0, 0, 1, 1, 0, 1, 0, 0]))) k1 (mkFr 77 [(0, (.list 15 s0)), (3, (.int .i64 s3)), (4, (.int .i64 s4)), (5, (.loc 5 0)), (6, (.int .i64 s6))] [(5, (.box [(.int .i64 b5_0), (.str b5_1), (.str b5_2), (.int .i64 b5_3), (.int .i64 b5_4), (.int .i64 b5_5), (.int .i64 b5_6), (.int .i64 b5_7), (.int .i64 b5_8), (.str b5_9), (.str b5_10), (.int .i64 b5_11), (.int .i64 b5_12), (.list 2 b5_13)]))]) (plug ((bs E0 k).cfg kap law17_Many) (retK ((bs E0 k).cfg kap law17_Many) [] Tryd.f14 [] some) [.blk 2, .seqR (sel law17_Many_bd [1, 1, 0, 1, 0, 0, 1, 0, 0, 1, 1, 1]), .blk 1, .seqR (sel law17_Many_bd [1, 1, 0, 1, 0, 0, 1, 1]), .lp (sel law17_Many_bd [1, 1, 0, 1, 0, 0]) k0, .blk 0, .seqR (sel law17_Many_bd [1, 1, 1])])
theorem law17_Many_L0_s (kap : FuncId → List AV → Option AV) (k : Nat) (k0 : Nat) (s0 : List AV) (s3 : Int) (s4 : Int) : law17_Many_L0 kap k (k0 + 1) s0 s3 s4 =
  (bif (decide (s4 < (((List.length s0) : Nat) : Int))) then (bif ((decide ((0 : Int) ≤ s4)) && (decide (s4 < (((List.length s0) : Nat) : Int)))) then ((s0[(Int.toNat s4)]?).bind fun vy1 => (cellI .i64 (AV.cells vy1) 0 fun vn2 => (cellS (AV.cells vy1) 1 fun vs3 => (cellS (AV.cells vy1) 2 fun vs4 => (cellI .i64 (AV.cells vy1) 3 fun vn5 => (cellI .i64 (AV.cells vy1) 4 fun vn6 => (cellI .i64 (AV.cells vy1) 5 fun vn7 => (cellI .i64 (AV.cells vy1) 6 fun vn8 => (cellI .i64 (AV.cells vy1) 7 fun vn9 => (cellI .i64 (AV.cells vy1) 8 fun vn10 => (cellS (AV.cells vy1) 9 fun vs11 => (cellS (AV.cells vy1) 10 fun vs12 => (cellI .i64 (AV.cells vy1) 11 fun vn13 => (cellI .i64 (AV.cells vy1) 12 fun vn14 => (cellL 2 (AV.cells vy1) 13 fun vl15 => (bif ((decide ((0 : Int) ≤ s4)) && (decide (s4 < (((List.length s0) : Nat) : Int)))) then ((s0[(Int.toNat s4)]?).bind fun vy16 => (cellL 1 (AV.cells vy16) 14 fun vl17 => (law17_Many_L1 kap k k0 k s0 (IntKind.wrap .i64 ((IntKind.wrap .i64 ((IntKind.wrap .i64 ((IntKind.wrap .i64 ((IntKind.wrap .i64 (s3 + (((ByteArray.size vs3) : Nat) : Int))) + (((ByteArray.size vs4) : Nat) : Int))) + (((ByteArray.size vs11) : Nat) : Int))) + (((ByteArray.size vs12) : Nat) : Int))) + (((List.length vl17) : Nat) : Int))) s4 (0 : Int) vn2 vs3 vs4 vn5 vn6 vn7 vn8 vn9 vn10 vs11 vs12 vn13 vn14 vl15))) else none)))))))))))))))) else none) else (some (.bool (decide ((((List.length s0) : Nat) : Int) > (12 : Int)))))) := by kernel_rfl
theorem law17_Many_L1_s (kap : FuncId → List AV → Option AV) (k : Nat) (k0 : Nat) (k1 : Nat) (s0 : List AV) (s3 : Int) (s4 : Int) (s6 : Int) (b5_0 : Int) (b5_1 : ByteArray) (b5_2 : ByteArray) (b5_3 : Int) (b5_4 : Int) (b5_5 : Int) (b5_6 : Int) (b5_7 : Int) (b5_8 : Int) (b5_9 : ByteArray) (b5_10 : ByteArray) (b5_11 : Int) (b5_12 : Int) (b5_13 : List AV) : law17_Many_L1 kap k k0 (k1 + 1) s0 s3 s4 s6 b5_0 b5_1 b5_2 b5_3 b5_4 b5_5 b5_6 b5_7 b5_8 b5_9 b5_10 b5_11 b5_12 b5_13 =
  (bif (decide (s6 < (((List.length b5_13) : Nat) : Int))) then (bif ((decide ((0 : Int) ≤ s6)) && (decide (s6 < (((List.length b5_13) : Nat) : Int)))) then ((b5_13[(Int.toNat s6)]?).bind fun vy18 => (cellS (AV.cells vy18) 0 fun vs19 => (bif ((decide ((0 : Int) ≤ s6)) && (decide (s6 < (((List.length b5_13) : Nat) : Int)))) then ((b5_13[(Int.toNat s6)]?).bind fun vy20 => (cellS (AV.cells vy20) 1 fun vs21 => (law17_Many_L1 kap k k0 k1 s0 (IntKind.wrap .i64 ((IntKind.wrap .i64 (s3 + (((ByteArray.size vs19) : Nat) : Int))) + (((ByteArray.size vs21) : Nat) : Int))) s4 (IntKind.wrap .i64 (s6 + (1 : Int))) b5_0 b5_1 b5_2 b5_3 b5_4 b5_5 b5_6 b5_7 b5_8 b5_9 b5_10 b5_11 b5_12 b5_13))) else none))) else none) else (bif (decide ((((List.length b5_13) : Nat) : Int) > (30 : Int))) then (some (.bool true)) else (bif (decide (s3 > (300000 : Int))) then (some (.bool true)) else (law17_Many_L0 kap k k0 s0 s3 (IntKind.wrap .i64 (s4 + (1 : Int))))))) := by kernel_rfl
theorem law17_Many_eq {E : Ext} [Core E] (k n : Nat) (a0 : List AV) : kp E k (n + 1) law17_Many [(.list 15 a0)] =
  (law17_Many_L0 (kp E k n) k k a0 (0 : Int) (0 : Int)) := (kp_at (by kernel_rfl)).trans (by kernel_rfl)
/- oakum/item.Copy -/
/- oakum/oakumref08.SameHead -/
/- oakum/oakumref01.Same -/
/- oakum/oakumref10.SameInts -/
noncomputable def ref10_SameInts_bd : Code := Tryd.f21.body.getD .skip
noncomputable def ref10_SameInts_L0 (kap : FuncId → List AV → Option AV) (k : Nat) (k0 : Nat) (s0 : List AV) (s1 : List AV) (s5 : Int) : Option AV :=
  loop (fun fr K => code ((bs E0 k).cfg kap ref10_SameInts) (sel ref10_SameInts_bd [1, 1, 0, 1, 0, 0]) fr K) (canon ((bs E0 k).cfg kap ref10_SameInts) (firstReg (sel ref10_SameInts_bd [1, 1, 0, 1, 0, 0]))) k0 (mkFr 26 [(0, (.list 1 s0)), (1, (.list 1 s1)), (5, (.int .i64 s5))] []) (plug ((bs E0 k).cfg kap ref10_SameInts) (retK ((bs E0 k).cfg kap ref10_SameInts) [] Tryd.f21 [] some) [.blk 0, .seqR (sel ref10_SameInts_bd [1, 1, 1])])
theorem ref10_SameInts_L0_s (kap : FuncId → List AV → Option AV) (k : Nat) (k0 : Nat) (s0 : List AV) (s1 : List AV) (s5 : Int) : ref10_SameInts_L0 kap k (k0 + 1) s0 s1 s5 =
  (bif (decide (s5 < (((List.length s0) : Nat) : Int))) then (bif ((decide ((0 : Int) ≤ s5)) && (decide (s5 < (((List.length s0) : Nat) : Int)))) then ((s0[(Int.toNat s5)]?).bind fun vy1 => (cellI .i64 (AV.cells vy1) 0 fun vn2 => (bif ((decide ((0 : Int) ≤ s5)) && (decide (s5 < (((List.length s1) : Nat) : Int)))) then ((s1[(Int.toNat s5)]?).bind fun vy3 => (cellI .i64 (AV.cells vy3) 0 fun vn4 => (bif (!(decide (vn2 = vn4))) then (some (.bool false)) else (ref10_SameInts_L0 kap k k0 s0 s1 (IntKind.wrap .i64 (s5 + (1 : Int))))))) else none))) else none) else (some (.bool true))) := by kernel_rfl
theorem ref10_SameInts_eq {E : Ext} [Core E] (k n : Nat) (a0 : List AV) (a1 : List AV) : kp E k (n + 1) ref10_SameInts [(.list 1 a0), (.list 1 a1)] =
  (bif (!(decide ((((List.length a0) : Nat) : Int) = (((List.length a1) : Nat) : Int)))) then (some (.bool false)) else (ref10_SameInts_L0 (kp E k n) k k a0 a1 (0 : Int))) := (kp_at (by kernel_rfl)).trans (by kernel_rfl)
/- oakum/order.Sorted -/
noncomputable def order_Sorted_bd : Code := Tryd.f22.body.getD .skip
noncomputable def order_Sorted_L0 (kap : FuncId → List AV → Option AV) (k : Nat) (k0 : Nat) (s0 : List AV) (s13 : Int) (s14 : Int) (x3 : List AV) (x4 : List AV) : Option AV :=
  loop (fun fr K => code ((bs E0 k).cfg kap order_Sorted) (sel order_Sorted_bd [1, 1, 1, 0, 1, 0, 0]) fr K) (canon ((bs E0 k).cfg kap order_Sorted) (firstReg (sel order_Sorted_bd [1, 1, 1, 0, 1, 0, 0]))) k0 (mkFr 61 [(0, (.list 15 s0)), (3, (.own 3)), (4, (.own 4)), (13, (.int .i64 s13)), (14, (.int .i64 s14))] [(3, (.row 4 x3 false)), (4, (.row 3 x4 false))]) (plug ((bs E0 k).cfg kap order_Sorted) (retK ((bs E0 k).cfg kap order_Sorted) [] Tryd.f22 [] some) [.blk 0, .seqR (sel order_Sorted_bd [1, 1, 1, 1])])
noncomputable def order_Sorted_L1 (kap : FuncId → List AV → Option AV) (k : Nat) (k0 : Nat) (k1 : Nat) (s0 : List AV) (s5 : Int) (s13 : Int) (s14 : Int) (s17 : Int) (s18 : Int) (x3 : List AV) (x4 : List AV) : Option AV :=
  loop (fun fr K => code ((bs E0 k).cfg kap order_Sorted) (sel order_Sorted_bd [1, 1, 1, 0, 1, 0, 0, 1, 1, 0, 0, 1, 0, 1, 0, 0]) fr K) (canon ((bs E0 k).cfg kap order_Sorted) (firstReg (sel order_Sorted_bd [1, 1, 1, 0, 1, 0, 0, 1, 1, 0, 0, 1, 0, 1, 0, 0]))) k1 (mkFr 61 [(0, (.list 15 s0)), (3, (.own 3)), (4, (.own 4)), (5, (.int .i64 s5)), (13, (.int .i64 s13)), (14, (.int .i64 s14)), (17, (.int .i64 s17)), (18, (.int .i64 s18))] [(3, (.row 4 x3 false)), (4, (.row 3 x4 false))]) (plug ((bs E0 k).cfg kap order_Sorted) (retK ((bs E0 k).cfg kap order_Sorted) [] Tryd.f22 [] some) [.blk 2, .seqR (sel order_Sorted_bd [1, 1, 1, 0, 1, 0, 0, 1, 1, 0, 0, 1, 1]), .blk 1, .seqR (sel order_Sorted_bd [1, 1, 1, 0, 1, 0, 0, 1, 1, 1]), .lp (sel order_Sorted_bd [1, 1, 1, 0, 1, 0, 0]) k0, .blk 0, .seqR (sel order_Sorted_bd [1, 1, 1, 1])])
noncomputable def order_Sorted_L2 (kap : FuncId → List AV → Option AV) (k : Nat) (k1 : Nat) (k0 : Nat) (k2 : Nat) (s0 : List AV) (s5 : Int) (s6 : Int) (s7 : Bool) (s13 : Int) (s14 : Int) (s17 : Int) (s18 : Int) (s29 : Int) (s30 : Int) (x3 : List AV) (x4 : List AV) : Option AV :=
  loop (fun fr K => code ((bs E0 k).cfg kap order_Sorted) (sel order_Sorted_bd [1, 1, 1, 0, 1, 0, 0, 1, 1, 0, 0, 1, 0, 1, 0, 0, 1, 1, 0, 0, 1, 1, 1, 1, 0, 1, 0, 0]) fr K) (canon ((bs E0 k).cfg kap order_Sorted) (firstReg (sel order_Sorted_bd [1, 1, 1, 0, 1, 0, 0, 1, 1, 0, 0, 1, 0, 1, 0, 0, 1, 1, 0, 0, 1, 1, 1, 1, 0, 1, 0, 0]))) k2 (mkFr 61 [(0, (.list 15 s0)), (3, (.own 3)), (4, (.own 4)), (5, (.int .i64 s5)), (6, (.int .i64 s6)), (7, (.bool s7)), (13, (.int .i64 s13)), (14, (.int .i64 s14)), (17, (.int .i64 s17)), (18, (.int .i64 s18)), (29, (.int .i64 s29)), (30, (.int .i64 s30))] [(3, (.row 4 x3 false)), (4, (.row 3 x4 false))]) (plug ((bs E0 k).cfg kap order_Sorted) (retK ((bs E0 k).cfg kap order_Sorted) [] Tryd.f22 [] some) [.blk 4, .seqR (sel order_Sorted_bd [1, 1, 1, 0, 1, 0, 0, 1, 1, 0, 0, 1, 0, 1, 0, 0, 1, 1, 0, 0, 1, 1, 1, 1, 1]), .blk 3, .seqR (sel order_Sorted_bd [1, 1, 1, 0, 1, 0, 0, 1, 1, 0, 0, 1, 0, 1, 0, 0, 1, 1, 1]), .lp (sel order_Sorted_bd [1, 1, 1, 0, 1, 0, 0, 1, 1, 0, 0, 1, 0, 1, 0, 0]) k1, .blk 2, .seqR (sel order_Sorted_bd [1, 1, 1, 0, 1, 0, 0, 1, 1, 0, 0, 1, 1]), .blk 1, .seqR (sel order_Sorted_bd [1, 1, 1, 0, 1, 0, 0, 1, 1, 1]), .lp (sel order_Sorted_bd [1, 1, 1, 0, 1, 0, 0]) k0, .blk 0, .seqR (sel order_Sorted_bd [1, 1, 1, 1])])
theorem order_Sorted_L0_s (kap : FuncId → List AV → Option AV) (k : Nat) (k0 : Nat) (s0 : List AV) (s13 : Int) (s14 : Int) (x3 : List AV) (x4 : List AV) : order_Sorted_L0 kap k (k0 + 1) s0 s13 s14 x3 x4 =
  (bif (decide (s14 < s13)) then (order_Sorted_L1 kap k k0 k s0 (-1 : Int) s13 s14 (((List.length s0) : Nat) : Int) (0 : Int) x3 x4) else (some (.list 1 x4))) := by kernel_rfl
theorem order_Sorted_L1_s (kap : FuncId → List AV → Option AV) (k : Nat) (k0 : Nat) (k1 : Nat) (s0 : List AV) (s5 : Int) (s13 : Int) (s14 : Int) (s17 : Int) (s18 : Int) (x3 : List AV) (x4 : List AV) : order_Sorted_L1 kap k k0 (k1 + 1) s0 s5 s13 s14 s17 s18 x3 x4 =
  (bif (decide (s18 < s17)) then (bif ((decide ((0 : Int) ≤ s18)) && (decide (s18 < (((List.length x3) : Nat) : Int)))) then ((x3[(Int.toNat s18)]?).bind fun vy1 => (cellB (AV.cells vy1) 0 fun vq2 => (bif vq2 then (order_Sorted_L1 kap k k0 k1 s0 s5 s13 s14 s17 (IntKind.wrap .i64 (s18 + (1 : Int))) x3 x4) else (bif (decide (s5 < (0 : Int))) then (order_Sorted_L2 kap k k1 k0 k s0 s18 s18 false s13 s14 s17 s18 (((List.length s0) : Nat) : Int) (0 : Int) x3 x4) else (order_Sorted_L2 kap k k1 k0 k s0 s5 s18 false s13 s14 s17 s18 (((List.length s0) : Nat) : Int) (0 : Int) x3 x4))))) else none) else (bif ((decide ((0 : Int) ≤ s5)) && (decide (s5 < (((List.length x3) : Nat) : Int)))) then ((x3[(Int.toNat s5)]?).bind fun vy8 => (bif (decide (0 + 1 ≤ (AV.cells vy8).length) && true) then (bif (decide (((List.length x4) + 1) * 8 ≤ 140737488355328) && decide (((List.length x4) + 1) ≤ 9223372036854775807)) then (order_Sorted_L0 kap k k0 s0 s13 (IntKind.wrap .i64 (s14 + (1 : Int))) (List.set x3 (Int.toNat s5) (mkElem 1 (splice (AV.cells vy8) 0 [(.bool true)]) vy8)) (x4 ++ [(.int .i64 s5)])) else none) else none)) else none)) := by kernel_rfl
theorem order_Sorted_L2_s (kap : FuncId → List AV → Option AV) (k : Nat) (k1 : Nat) (k0 : Nat) (k2 : Nat) (s0 : List AV) (s5 : Int) (s6 : Int) (s7 : Bool) (s13 : Int) (s14 : Int) (s17 : Int) (s18 : Int) (s29 : Int) (s30 : Int) (x3 : List AV) (x4 : List AV) : order_Sorted_L2 kap k k1 k0 (k2 + 1) s0 s5 s6 s7 s13 s14 s17 s18 s29 s30 x3 x4 =
  (bif (decide (s30 < s29)) then (bif s7 then (order_Sorted_L2 kap k k1 k0 k2 s0 s5 s6 true s13 s14 s17 s18 s29 (IntKind.wrap .i64 (s30 + (1 : Int))) x3 x4) else (bif ((decide ((0 : Int) ≤ s30)) && (decide (s30 < (((List.length x3) : Nat) : Int)))) then ((x3[(Int.toNat s30)]?).bind fun vy3 => (cellB (AV.cells vy3) 0 fun vq4 => (bif (!vq4) then (callB (kap order_Leans [(.list 15 s0), (.int .i64 s6), (.int .i64 s30)]) fun vq6 => (order_Sorted_L2 kap k k1 k0 k2 s0 s5 s6 vq6 s13 s14 s17 s18 s29 (IntKind.wrap .i64 (s30 + (1 : Int))) x3 x4)) else (order_Sorted_L2 kap k k1 k0 k2 s0 s5 s6 false s13 s14 s17 s18 s29 (IntKind.wrap .i64 (s30 + (1 : Int))) x3 x4)))) else none)) else (bif (!s7) then (bif ((decide ((0 : Int) ≤ s6)) && (decide (s6 < (((List.length x3) : Nat) : Int)))) then ((x3[(Int.toNat s6)]?).bind fun vy7 => (bif (decide (0 + 1 ≤ (AV.cells vy7).length) && true) then (bif (decide (((List.length x4) + 1) * 8 ≤ 140737488355328) && decide (((List.length x4) + 1) ≤ 9223372036854775807)) then (order_Sorted_L0 kap k k0 s0 s13 (IntKind.wrap .i64 (s14 + (1 : Int))) (List.set x3 (Int.toNat s6) (mkElem 1 (splice (AV.cells vy7) 0 [(.bool true)]) vy7)) (x4 ++ [(.int .i64 s6)])) else none) else none)) else none) else (order_Sorted_L1 kap k k0 k1 s0 s5 s13 s14 s17 (IntKind.wrap .i64 (s18 + (1 : Int))) x3 x4))) := by kernel_rfl
theorem order_Sorted_eq {E : Ext} [Core E] (k n : Nat) (a0 : List AV) : kp E k (n + 1) order_Sorted [(.list 15 a0)] =
  (bif (((decide ((0 : Int) ≤ (((List.length a0) : Nat) : Int))) && (decide ((((List.length a0) : Nat) : Int) ≤ (((List.length a0) : Nat) : Int))) && (decide ((((List.length a0) : Nat) : Int) * 1 ≤ 140737488355328)) && (decide ((((List.length a0) : Nat) : Int) ≤ (9223372036854775807 : Int)))) && true && true) then (order_Sorted_L0 (kp E k n) k k a0 (((List.length a0) : Nat) : Int) (0 : Int) (List.replicate (Int.toNat (((List.length a0) : Nat) : Int)) ((.bool false) : AV)) []) else none) := (kp_at (by kernel_rfl)).trans (by kernel_rfl)
/- oakum/order.Is -/
noncomputable def order_Is_bd : Code := Tryd.f23.body.getD .skip
noncomputable def order_Is_L0 (kap : FuncId → List AV → Option AV) (k : Nat) (k0 : Nat) (s0 : List AV) (s6 : Int) (s7 : Int) : Option AV :=
  loop (fun fr K => code ((bs E0 k).cfg kap order_Is) (sel order_Is_bd [1, 0, 1, 0, 0]) fr K) (canon ((bs E0 k).cfg kap order_Is) (firstReg (sel order_Is_bd [1, 0, 1, 0, 0]))) k0 (mkFr 23 [(0, (.list 15 s0)), (6, (.int .i64 s6)), (7, (.int .i64 s7))] []) (plug ((bs E0 k).cfg kap order_Is) (retK ((bs E0 k).cfg kap order_Is) [] Tryd.f23 [] some) [.blk 0, .seqR (sel order_Is_bd [1, 1])])
noncomputable def order_Is_L1 (kap : FuncId → List AV → Option AV) (k : Nat) (k0 : Nat) (k1 : Nat) (s0 : List AV) (s3 : Int) (s4 : Int) (s6 : Int) (s7 : Int) : Option AV :=
  loop (fun fr K => code ((bs E0 k).cfg kap order_Is) (sel order_Is_bd [1, 0, 1, 0, 0, 1, 1, 0, 0, 1, 1, 0, 0]) fr K) (canon ((bs E0 k).cfg kap order_Is) (firstReg (sel order_Is_bd [1, 0, 1, 0, 0, 1, 1, 0, 0, 1, 1, 0, 0]))) k1 (mkFr 23 [(0, (.list 15 s0)), (3, (.int .i64 s3)), (4, (.int .i64 s4)), (6, (.int .i64 s6)), (7, (.int .i64 s7))] []) (plug ((bs E0 k).cfg kap order_Is) (retK ((bs E0 k).cfg kap order_Is) [] Tryd.f23 [] some) [.blk 2, .blk 1, .seqR (sel order_Is_bd [1, 0, 1, 0, 0, 1, 1, 1]), .lp (sel order_Is_bd [1, 0, 1, 0, 0]) k0, .blk 0, .seqR (sel order_Is_bd [1, 1])])
theorem order_Is_L0_s (kap : FuncId → List AV → Option AV) (k : Nat) (k0 : Nat) (s0 : List AV) (s6 : Int) (s7 : Int) : order_Is_L0 kap k (k0 + 1) s0 s6 s7 =
  (bif (decide (s7 < s6)) then (order_Is_L1 kap k k0 k s0 s7 (IntKind.wrap .i64 (s7 + (1 : Int))) s6 s7) else (some (.bool true))) := by kernel_rfl
theorem order_Is_L1_s (kap : FuncId → List AV → Option AV) (k : Nat) (k0 : Nat) (k1 : Nat) (s0 : List AV) (s3 : Int) (s4 : Int) (s6 : Int) (s7 : Int) : order_Is_L1 kap k k0 (k1 + 1) s0 s3 s4 s6 s7 =
  (bif (decide (s4 < (((List.length s0) : Nat) : Int))) then (callB (kap order_Leans [(.list 15 s0), (.int .i64 s3), (.int .i64 s4)]) fun vq2 => (bif vq2 then (some (.bool false)) else (order_Is_L1 kap k k0 k1 s0 s3 (IntKind.wrap .i64 (s4 + (1 : Int))) s6 s7))) else (order_Is_L0 kap k k0 s0 s6 (IntKind.wrap .i64 (s7 + (1 : Int))))) := by kernel_rfl
theorem order_Is_eq {E : Ext} [Core E] (k n : Nat) (a0 : List AV) : kp E k (n + 1) order_Is [(.list 15 a0)] =
  (order_Is_L0 (kp E k n) k k a0 (((List.length a0) : Nat) : Int) (0 : Int)) := (kp_at (by kernel_rfl)).trans (by kernel_rfl)
/- oakum/order.compare -/
theorem order_compare_eq {E : Ext} [Core E] (k n : Nat) (a0_0 : Int) (a0_1 : ByteArray) (a0_2 : ByteArray) (a0_3 : Int) (a0_4 : Int) (a0_5 : Int) (a0_6 : Int) (a0_7 : Int) (a0_8 : Int) (a0_9 : ByteArray) (a0_10 : ByteArray) (a0_11 : Int) (a0_12 : Int) (a0_13 : List AV) (a1_0 : Int) (a1_1 : ByteArray) (a1_2 : ByteArray) (a1_3 : Int) (a1_4 : Int) (a1_5 : Int) (a1_6 : Int) (a1_7 : Int) (a1_8 : Int) (a1_9 : ByteArray) (a1_10 : ByteArray) (a1_11 : Int) (a1_12 : Int) (a1_13 : List AV) (a2 : Int) : kp E k (n + 1) order_compare [(.agg [(.int .i64 a0_0), (.str a0_1), (.str a0_2), (.int .i64 a0_3), (.int .i64 a0_4), (.int .i64 a0_5), (.int .i64 a0_6), (.int .i64 a0_7), (.int .i64 a0_8), (.str a0_9), (.str a0_10), (.int .i64 a0_11), (.int .i64 a0_12), (.list 2 a0_13)]), (.agg [(.int .i64 a1_0), (.str a1_1), (.str a1_2), (.int .i64 a1_3), (.int .i64 a1_4), (.int .i64 a1_5), (.int .i64 a1_6), (.int .i64 a1_7), (.int .i64 a1_8), (.str a1_9), (.str a1_10), (.int .i64 a1_11), (.int .i64 a1_12), (.list 2 a1_13)]), (.int .i64 a2)] =
  (callT (kp E k n order_number [(.agg [(.int .i64 a0_0), (.str a0_1), (.str a0_2), (.int .i64 a0_3), (.int .i64 a0_4), (.int .i64 a0_5), (.int .i64 a0_6), (.int .i64 a0_7), (.int .i64 a0_8), (.str a0_9), (.str a0_10), (.int .i64 a0_11), (.int .i64 a0_12), (.list 2 a0_13)]), (.int .i64 a2)]) fun vt2 => (tupI .i64 vt2 fun vn3 vt4 => (tupB vt4 fun vq5 vt6 => (atNil vt6 (bif vq5 then (callT (kp E k n order_number [(.agg [(.int .i64 a1_0), (.str a1_1), (.str a1_2), (.int .i64 a1_3), (.int .i64 a1_4), (.int .i64 a1_5), (.int .i64 a1_6), (.int .i64 a1_7), (.int .i64 a1_8), (.str a1_9), (.str a1_10), (.int .i64 a1_11), (.int .i64 a1_12), (.list 2 a1_13)]), (.int .i64 a2)]) fun vt8 => (tupI .i64 vt8 fun vn9 vt10 => (tupB vt10 fun vq11 vt12 => (atNil vt12 (callI .i64 (kp E k n cmp_Compare_int64 [(.int .i64 vn3), (.int .i64 vn9)]) fun vn14 => (some (.tup [(.int .i64 vn14), (.bool true)]))))))) else (callT (kp E k n order_text [(.agg [(.int .i64 a0_0), (.str a0_1), (.str a0_2), (.int .i64 a0_3), (.int .i64 a0_4), (.int .i64 a0_5), (.int .i64 a0_6), (.int .i64 a0_7), (.int .i64 a0_8), (.str a0_9), (.str a0_10), (.int .i64 a0_11), (.int .i64 a0_12), (.list 2 a0_13)]), (.int .i64 a2)]) fun vt16 => (tupS vt16 fun vs17 vt18 => (tupB vt18 fun vq19 vt20 => (atNil vt20 (bif vq19 then (callT (kp E k n order_text [(.agg [(.int .i64 a1_0), (.str a1_1), (.str a1_2), (.int .i64 a1_3), (.int .i64 a1_4), (.int .i64 a1_5), (.int .i64 a1_6), (.int .i64 a1_7), (.int .i64 a1_8), (.str a1_9), (.str a1_10), (.int .i64 a1_11), (.int .i64 a1_12), (.list 2 a1_13)]), (.int .i64 a2)]) fun vt22 => (tupS vt22 fun vs23 vt24 => (tupB vt24 fun vq25 vt26 => (atNil vt26 (callI .i64 (kp E k n strings_Compare [(.str vs17), (.str vs23)]) fun vn28 => (some (.tup [(.int .i64 vn28), (.bool true)]))))))) else (callI .i64 (kp E k n cmp_Compare_int64 [(.int .i64 a0_7), (.int .i64 a1_7)]) fun vn30 => (callI .i64 (kp E k n cmp_Compare_int64 [(.int .i64 a0_8), (.int .i64 a1_8)]) fun vn32 => (callI .i64 (kp E k n cmp_Or_int [(.list 1 [(.int .i64 vn30), (.int .i64 vn32)])]) fun vn34 => (some (.tup [(.int .i64 vn34), (.bool (decide (a2 = (8 : Int))))]))))))))))))))) := (kp_at (by kernel_rfl)).trans (by kernel_rfl)
/- oakum/order.By$1 -/
theorem order_By_1_eq {E : Ext} [Core E] (k n : Nat) (a0 : Int) (a1 : Int) (c_v0 : List AV) (c_v1 : Int) : kp E k (n + 1) order_By_1 [(.int .i64 a0), (.int .i64 a1), (.eptr [(.list 15 c_v0)] 0), (.eptr [(.int .i64 c_v1)] 0)] =
  (bif ((decide ((0 : Int) ≤ a0)) && (decide (a0 < (((List.length c_v0) : Nat) : Int)))) then ((c_v0[(Int.toNat a0)]?).bind fun vy1 => (cellI .i64 (AV.cells vy1) 0 fun vn2 => (cellS (AV.cells vy1) 1 fun vs3 => (cellS (AV.cells vy1) 2 fun vs4 => (cellI .i64 (AV.cells vy1) 3 fun vn5 => (cellI .i64 (AV.cells vy1) 4 fun vn6 => (cellI .i64 (AV.cells vy1) 5 fun vn7 => (cellI .i64 (AV.cells vy1) 6 fun vn8 => (cellI .i64 (AV.cells vy1) 7 fun vn9 => (cellI .i64 (AV.cells vy1) 8 fun vn10 => (cellS (AV.cells vy1) 9 fun vs11 => (cellS (AV.cells vy1) 10 fun vs12 => (cellI .i64 (AV.cells vy1) 11 fun vn13 => (cellI .i64 (AV.cells vy1) 12 fun vn14 => (cellL 2 (AV.cells vy1) 13 fun vl15 => (bif ((decide ((0 : Int) ≤ a1)) && (decide (a1 < (((List.length c_v0) : Nat) : Int)))) then ((c_v0[(Int.toNat a1)]?).bind fun vy16 => (cellI .i64 (AV.cells vy16) 0 fun vn17 => (cellS (AV.cells vy16) 1 fun vs18 => (cellS (AV.cells vy16) 2 fun vs19 => (cellI .i64 (AV.cells vy16) 3 fun vn20 => (cellI .i64 (AV.cells vy16) 4 fun vn21 => (cellI .i64 (AV.cells vy16) 5 fun vn22 => (cellI .i64 (AV.cells vy16) 6 fun vn23 => (cellI .i64 (AV.cells vy16) 7 fun vn24 => (cellI .i64 (AV.cells vy16) 8 fun vn25 => (cellS (AV.cells vy16) 9 fun vs26 => (cellS (AV.cells vy16) 10 fun vs27 => (cellI .i64 (AV.cells vy16) 11 fun vn28 => (cellI .i64 (AV.cells vy16) 12 fun vn29 => (cellL 2 (AV.cells vy16) 13 fun vl30 => (callT (kp E k n order_compare [(.agg [(.int .i64 vn2), (.str vs3), (.str vs4), (.int .i64 vn5), (.int .i64 vn6), (.int .i64 vn7), (.int .i64 vn8), (.int .i64 vn9), (.int .i64 vn10), (.str vs11), (.str vs12), (.int .i64 vn13), (.int .i64 vn14), (.list 2 vl15)]), (.agg [(.int .i64 vn17), (.str vs18), (.str vs19), (.int .i64 vn20), (.int .i64 vn21), (.int .i64 vn22), (.int .i64 vn23), (.int .i64 vn24), (.int .i64 vn25), (.str vs26), (.str vs27), (.int .i64 vn28), (.int .i64 vn29), (.list 2 vl30)]), (.int .i64 c_v1)]) fun vt32 => (tupI .i64 vt32 fun vn33 vt34 => (tupB vt34 fun vq35 vt36 => (atNil vt36 (some (.int .i64 vn33))))))))))))))))))))) else none)))))))))))))))) else none) := (kp_at (by kernel_rfl)).trans (by kernel_rfl)
/- oakum/oakumref07.Same -/
/- oakum/order.Leans -/
theorem order_Leans_eq {E : Ext} [Core E] (k n : Nat) (a0 : List AV) (a1 : Int) (a2 : Int) : kp E k (n + 1) order_Leans [(.list 15 a0), (.int .i64 a1), (.int .i64 a2)] =
  (bif (decide (a1 < (0 : Int))) then (some (.bool false)) else (bif (decide (a2 < (0 : Int))) then (some (.bool false)) else (bif (decide (a1 ≥ (((List.length a0) : Nat) : Int))) then (some (.bool false)) else (bif (decide (a2 ≥ (((List.length a0) : Nat) : Int))) then (some (.bool false)) else (bif (decide (a1 = a2)) then (some (.bool false)) else (bif ((decide ((0 : Int) ≤ a1)) && (decide (a1 < (((List.length a0) : Nat) : Int)))) then ((a0[(Int.toNat a1)]?).bind fun vy1 => (cellI .i64 (AV.cells vy1) 0 fun vn2 => (cellS (AV.cells vy1) 1 fun vs3 => (cellS (AV.cells vy1) 2 fun vs4 => (cellI .i64 (AV.cells vy1) 3 fun vn5 => (cellI .i64 (AV.cells vy1) 4 fun vn6 => (cellI .i64 (AV.cells vy1) 5 fun vn7 => (cellI .i64 (AV.cells vy1) 6 fun vn8 => (cellI .i64 (AV.cells vy1) 7 fun vn9 => (cellI .i64 (AV.cells vy1) 8 fun vn10 => (cellS (AV.cells vy1) 9 fun vs11 => (cellS (AV.cells vy1) 10 fun vs12 => (cellI .i64 (AV.cells vy1) 11 fun vn13 => (cellI .i64 (AV.cells vy1) 12 fun vn14 => (cellL 2 (AV.cells vy1) 13 fun vl15 => (bif ((decide ((0 : Int) ≤ a2)) && (decide (a2 < (((List.length a0) : Nat) : Int)))) then ((a0[(Int.toNat a2)]?).bind fun vy16 => (cellI .i64 (AV.cells vy16) 0 fun vn17 => (cellS (AV.cells vy16) 1 fun vs18 => (cellS (AV.cells vy16) 2 fun vs19 => (cellI .i64 (AV.cells vy16) 3 fun vn20 => (cellI .i64 (AV.cells vy16) 4 fun vn21 => (cellI .i64 (AV.cells vy16) 5 fun vn22 => (cellI .i64 (AV.cells vy16) 6 fun vn23 => (cellI .i64 (AV.cells vy16) 7 fun vn24 => (cellI .i64 (AV.cells vy16) 8 fun vn25 => (cellS (AV.cells vy16) 9 fun vs26 => (cellS (AV.cells vy16) 10 fun vs27 => (cellI .i64 (AV.cells vy16) 11 fun vn28 => (cellI .i64 (AV.cells vy16) 12 fun vn29 => (cellL 2 (AV.cells vy16) 13 fun vl30 => (callB (kp E k n order_leans [(.agg [(.int .i64 vn2), (.str vs3), (.str vs4), (.int .i64 vn5), (.int .i64 vn6), (.int .i64 vn7), (.int .i64 vn8), (.int .i64 vn9), (.int .i64 vn10), (.str vs11), (.str vs12), (.int .i64 vn13), (.int .i64 vn14), (.list 2 vl15)]), (.agg [(.int .i64 vn17), (.str vs18), (.str vs19), (.int .i64 vn20), (.int .i64 vn21), (.int .i64 vn22), (.int .i64 vn23), (.int .i64 vn24), (.int .i64 vn25), (.str vs26), (.str vs27), (.int .i64 vn28), (.int .i64 vn29), (.list 2 vl30)])]) fun vq32 => (some (.bool vq32)))))))))))))))))) else none)))))))))))))))) else none)))))) := (kp_at (by kernel_rfl)).trans (by kernel_rfl)
/- oakum/order.number -/
theorem order_number_eq {E : Ext} [Core E] (k n : Nat) (a0_0 : Int) (a0_1 : ByteArray) (a0_2 : ByteArray) (a0_3 : Int) (a0_4 : Int) (a0_5 : Int) (a0_6 : Int) (a0_7 : Int) (a0_8 : Int) (a0_9 : ByteArray) (a0_10 : ByteArray) (a0_11 : Int) (a0_12 : Int) (a0_13 : List AV) (a1 : Int) : kp E k (n + 1) order_number [(.agg [(.int .i64 a0_0), (.str a0_1), (.str a0_2), (.int .i64 a0_3), (.int .i64 a0_4), (.int .i64 a0_5), (.int .i64 a0_6), (.int .i64 a0_7), (.int .i64 a0_8), (.str a0_9), (.str a0_10), (.int .i64 a0_11), (.int .i64 a0_12), (.list 2 a0_13)]), (.int .i64 a1)] =
  (bif (decide (a1 = (1 : Int))) then (some (.tup [(.int .i64 a0_0), (.bool true)])) else (bif (decide (a1 = (4 : Int))) then (some (.tup [(.int .i64 a0_3), (.bool true)])) else (bif (decide (a1 = (5 : Int))) then (some (.tup [(.int .i64 a0_4), (.bool true)])) else (bif (decide (a1 = (6 : Int))) then (some (.tup [(.int .i64 a0_5), (.bool true)])) else (bif (decide (a1 = (7 : Int))) then (some (.tup [(.int .i64 a0_6), (.bool true)])) else (bif (decide (a1 = (11 : Int))) then (some (.tup [(.int .i64 a0_11), (.bool true)])) else (bif (decide (a1 = (12 : Int))) then (some (.tup [(.int .i64 a0_12), (.bool true)])) else (some (.tup [(.int .i64 (0 : Int)), (.bool false)]))))))))) := (kp_at (by kernel_rfl)).trans (by kernel_rfl)
/- oakum/order.text -/
theorem order_text_eq {E : Ext} [Core E] (k n : Nat) (a0_0 : Int) (a0_1 : ByteArray) (a0_2 : ByteArray) (a0_3 : Int) (a0_4 : Int) (a0_5 : Int) (a0_6 : Int) (a0_7 : Int) (a0_8 : Int) (a0_9 : ByteArray) (a0_10 : ByteArray) (a0_11 : Int) (a0_12 : Int) (a0_13 : List AV) (a1 : Int) : kp E k (n + 1) order_text [(.agg [(.int .i64 a0_0), (.str a0_1), (.str a0_2), (.int .i64 a0_3), (.int .i64 a0_4), (.int .i64 a0_5), (.int .i64 a0_6), (.int .i64 a0_7), (.int .i64 a0_8), (.str a0_9), (.str a0_10), (.int .i64 a0_11), (.int .i64 a0_12), (.list 2 a0_13)]), (.int .i64 a1)] =
  (bif (decide (a1 = (2 : Int))) then (some (.tup [(.str a0_1), (.bool true)])) else (bif (decide (a1 = (3 : Int))) then (some (.tup [(.str a0_2), (.bool true)])) else (bif (decide (a1 = (9 : Int))) then (some (.tup [(.str a0_9), (.bool true)])) else (bif (decide (a1 = (10 : Int))) then (some (.tup [(.str a0_10), (.bool true)])) else (some (.tup [(.str (str [])), (.bool false)])))))) := (kp_at (by kernel_rfl)).trans (by kernel_rfl)
/- oakum/order.leans -/
theorem order_leans_eq {E : Ext} [Core E] (k n : Nat) (a0_0 : Int) (a0_1 : ByteArray) (a0_2 : ByteArray) (a0_3 : Int) (a0_4 : Int) (a0_5 : Int) (a0_6 : Int) (a0_7 : Int) (a0_8 : Int) (a0_9 : ByteArray) (a0_10 : ByteArray) (a0_11 : Int) (a0_12 : Int) (a0_13 : List AV) (a1_0 : Int) (a1_1 : ByteArray) (a1_2 : ByteArray) (a1_3 : Int) (a1_4 : Int) (a1_5 : Int) (a1_6 : Int) (a1_7 : Int) (a1_8 : Int) (a1_9 : ByteArray) (a1_10 : ByteArray) (a1_11 : Int) (a1_12 : Int) (a1_13 : List AV) : kp E k (n + 1) order_leans [(.agg [(.int .i64 a0_0), (.str a0_1), (.str a0_2), (.int .i64 a0_3), (.int .i64 a0_4), (.int .i64 a0_5), (.int .i64 a0_6), (.int .i64 a0_7), (.int .i64 a0_8), (.str a0_9), (.str a0_10), (.int .i64 a0_11), (.int .i64 a0_12), (.list 2 a0_13)]), (.agg [(.int .i64 a1_0), (.str a1_1), (.str a1_2), (.int .i64 a1_3), (.int .i64 a1_4), (.int .i64 a1_5), (.int .i64 a1_6), (.int .i64 a1_7), (.int .i64 a1_8), (.str a1_9), (.str a1_10), (.int .i64 a1_11), (.int .i64 a1_12), (.list 2 a1_13)])] =
  (callS (kp E k n path_Clean [(.str a0_1)]) fun vs2 => (callS (kp E k n path_Clean [(.str a1_1)]) fun vs4 => (bif (decide (vs2 = vs4)) then (some (.bool false)) else (bif (decide (a1_0 = (6 : Int))) then (callB (kp E k n path_In [(.str vs2), (.str vs4)]) fun vq6 => (some (.bool vq6))) else (bif (decide (a1_0 = (1 : Int))) then (bif (decide (a0_0 = (2 : Int))) then (callS (kp E k n path_Clean [(.str a0_2)]) fun vs8 => (some (.bool (decide (vs8 = vs4))))) else (some (.bool false))) else (some (.bool false))))))) := (kp_at (by kernel_rfl)).trans (by kernel_rfl)
end Go.Proofs.YteamddaglbleeaaDoor.Eng.U


/- What functions answer, as the engine evaluates their code. Printed by gen2.py. -/
set_option linter.unusedVariables false
namespace Go.Proofs.YteamddaglbleeaaDoor.Eng.U
open Go Go.Proofs Go.Proofs.YteamddaglbleeaaDoor.Eng
/- oakum/path.Clean -/
theorem path_Clean_eq {E : Ext} [Core E] (k n : Nat) (a0 : ByteArray) : kp E k (n + 1) path_Clean [(.str a0)] =
  (callB (kp E k n path_absolute [(.str a0)]) fun vq2 => (callL 1 (kp E k n path_stack [(.str a0)]) fun vl4 => (callS (kp E k n path_form [(.bool vq2), (.list 1 vl4)]) fun vs6 => (some (.str vs6))))) := (kp_at (by kernel_rfl)).trans (by kernel_rfl)
/- oakum/path.form -/
theorem path_form_eq {E : Ext} [Core E] (k n : Nat) (a0 : Bool) (a1 : List AV) : kp E k (n + 1) path_form [(.bool a0), (.list 1 a1)] =
  (callS (kp E k n strings_Join [(.list 1 a1), (.str (str [47]))]) fun vs2 => (bif a0 then (bif (decide (1 + (ByteArray.size vs2) ≤ 9223372036854775807)) then (some (.str ((str [47]) ++ vs2))) else none) else (bif (decide (vs2 = (str []))) then (some (.str (str [46]))) else (some (.str vs2))))) := (kp_at (by kernel_rfl)).trans (by kernel_rfl)
/- oakum/path.absolute -/
theorem path_absolute_eq {E : Ext} [Core E] (k n : Nat) (a0 : ByteArray) : kp E k (n + 1) path_absolute [(.str a0)] =
  (callB (kp E k n strings_HasPrefix [(.str a0), (.str (str [47]))]) fun vq2 => (some (.bool vq2))) := (kp_at (by kernel_rfl)).trans (by kernel_rfl)
/- oakum/path.stack -/
noncomputable def path_stack_bd : Code := Tryd.f42.body.getD .skip
noncomputable def path_stack_L0 (kap : FuncId → List AV → Option AV) (k : Nat) (k0 : Nat) (s0 : ByteArray) (s7 : List AV) (s8 : Int) (s9 : Int) (x3 : List AV) : Option AV :=
  loop (fun fr K => code ((bs E0 k).cfg kap path_stack) (sel path_stack_bd [1, 1, 0, 1, 0, 0]) fr K) (canon ((bs E0 k).cfg kap path_stack) (firstReg (sel path_stack_bd [1, 1, 0, 1, 0, 0]))) k0 (mkFr 48 [(0, (.str s0)), (3, (.own 3)), (7, (.list 1 s7)), (8, (.int .i64 s8)), (9, (.int .i64 s9))] [(3, (.row 9 x3 false))]) (plug ((bs E0 k).cfg kap path_stack) (retK ((bs E0 k).cfg kap path_stack) [] Tryd.f42 [] some) [.blk 0, .seqR (sel path_stack_bd [1, 1, 1])])
theorem path_stack_L0_s (kap : FuncId → List AV → Option AV) (k : Nat) (k0 : Nat) (s0 : ByteArray) (s7 : List AV) (s8 : Int) (s9 : Int) (x3 : List AV) : path_stack_L0 kap k (k0 + 1) s0 s7 s8 s9 x3 =
  (bif (decide (s9 < s8)) then (bif ((decide ((0 : Int) ≤ s9)) && (decide (s9 < (((List.length s7) : Nat) : Int)))) then ((s7[(Int.toNat s9)]?).bind fun vy3 => (cellS (AV.cells vy3) 0 fun vs4 => (bif (!(decide (vs4 = (str [46, 46])))) then (bif (decide (((List.length x3) + 1) * 16 ≤ 140737488355328) && decide (((List.length x3) + 1) ≤ 9223372036854775807)) then (path_stack_L0 kap k k0 s0 s7 s8 (IntKind.wrap .i64 (s9 + (1 : Int))) (x3 ++ [(.str vs4)])) else none) else (bif (decide ((((List.length x3) : Nat) : Int) > (0 : Int))) then (bif ((decide ((0 : Int) ≤ (IntKind.wrap .i64 ((((List.length x3) : Nat) : Int) - (1 : Int))))) && (decide ((IntKind.wrap .i64 ((((List.length x3) : Nat) : Int) - (1 : Int))) < (((List.length x3) : Nat) : Int)))) then ((x3[(Int.toNat (IntKind.wrap .i64 ((((List.length x3) : Nat) : Int) - (1 : Int))))]?).bind fun vy5 => (cellS (AV.cells vy5) 0 fun vs6 => (bif (!(decide (vs6 = (str [46, 46])))) then (bif ((decide ((0 : Int) ≤ (IntKind.wrap .i64 ((((List.length x3) : Nat) : Int) - (1 : Int))))) && (decide ((IntKind.wrap .i64 ((((List.length x3) : Nat) : Int) - (1 : Int))) ≤ (((List.length x3) : Nat) : Int)))) then (path_stack_L0 kap k k0 s0 s7 s8 (IntKind.wrap .i64 (s9 + (1 : Int))) (List.take (Int.toNat (IntKind.wrap .i64 ((((List.length x3) : Nat) : Int) - (1 : Int)))) x3)) else none) else (callB (kap path_absolute [(.str s0)]) fun vq8 => (bif (!vq8) then (bif (decide (((List.length x3) + 1) * 16 ≤ 140737488355328) && decide (((List.length x3) + 1) ≤ 9223372036854775807)) then (path_stack_L0 kap k k0 s0 s7 s8 (IntKind.wrap .i64 (s9 + (1 : Int))) (x3 ++ [(.str vs4)])) else none) else (path_stack_L0 kap k k0 s0 s7 s8 (IntKind.wrap .i64 (s9 + (1 : Int))) x3)))))) else none) else (callB (kap path_absolute [(.str s0)]) fun vq10 => (bif (!vq10) then (bif (decide (((List.length x3) + 1) * 16 ≤ 140737488355328) && decide (((List.length x3) + 1) ≤ 9223372036854775807)) then (path_stack_L0 kap k k0 s0 s7 s8 (IntKind.wrap .i64 (s9 + (1 : Int))) (x3 ++ [(.str vs4)])) else none) else (path_stack_L0 kap k k0 s0 s7 s8 (IntKind.wrap .i64 (s9 + (1 : Int))) x3))))))) else none) else (some (.list 1 x3))) := by kernel_rfl
theorem path_stack_eq {E : Ext} [Core E] (k n : Nat) (a0 : ByteArray) : kp E k (n + 1) path_stack [(.str a0)] =
  (callL 1 (kp E k n path_Parts [(.str a0)]) fun vl2 => (path_stack_L0 (kp E k n) k k a0 vl2 (((List.length vl2) : Nat) : Int) (0 : Int) [])) := (kp_at (by kernel_rfl)).trans (by kernel_rfl)
/- oakum/path.Safe -/
theorem path_Safe_eq {E : Ext} [Core E] (k n : Nat) (a0 : ByteArray) : kp E k (n + 1) path_Safe [(.str a0)] =
  (callB (kp E k n path_absolute [(.str a0)]) fun vq2 => (bif (!vq2) then (callL 1 (kp E k n path_stack [(.str a0)]) fun vl4 => (callB (kp E k n slices_Contains_string [(.list 1 vl4), (.str (str [46, 46]))]) fun vq6 => (some (.bool (!vq6))))) else (some (.bool false)))) := (kp_at (by kernel_rfl)).trans (by kernel_rfl)
/- oakum/path.In -/
theorem path_In_eq {E : Ext} [Core E] (k n : Nat) (a0 : ByteArray) (a1 : ByteArray) : kp E k (n + 1) path_In [(.str a0), (.str a1)] =
  (callL 1 (kp E k n path_stack [(.str a0)]) fun vl2 => (callL 1 (kp E k n path_stack [(.str a1)]) fun vl4 => (callB (kp E k n path_absolute [(.str a0)]) fun vq6 => (callB (kp E k n path_absolute [(.str a1)]) fun vq8 => (bif (vq6 == vq8) then (bif (decide ((((List.length vl2) : Nat) : Int) > (((List.length vl4) : Nat) : Int))) then (bif ((decide ((0 : Int) ≤ (((List.length vl4) : Nat) : Int))) && (decide ((((List.length vl4) : Nat) : Int) ≤ (((List.length vl2) : Nat) : Int)))) then (callB (kp E k n slices_Equal_string [(.list 1 (List.drop 0 (List.take (Int.toNat (((List.length vl4) : Nat) : Int)) vl2))), (.list 1 vl4)]) fun vq10 => (some (.bool vq10))) else none) else (some (.bool false))) else (some (.bool false))))))) := (kp_at (by kernel_rfl)).trans (by kernel_rfl)
/- strings.HasPrefix -/
theorem strings_HasPrefix_eq {E : Ext} [Core E] (k n : Nat) (a0 : ByteArray) (a1 : ByteArray) : kp E k (n + 1) strings_HasPrefix [(.str a0), (.str a1)] =
  (callB (kp E k n stringslite_HasPrefix [(.str a0), (.str a1)]) fun vq2 => (some (.bool vq2))) := (kp_at (by kernel_rfl)).trans (by kernel_rfl)
/- slices.Contains[[]string,string] -/
theorem slices_Contains_string_eq {E : Ext} [Core E] (k n : Nat) (a0 : List AV) (a1 : ByteArray) : kp E k (n + 1) slices_Contains_string [(.list 1 a0), (.str a1)] =
  (callI .i64 (kp E k n slices_Index_string [(.list 1 a0), (.str a1)]) fun vn2 => (some (.bool (decide (vn2 ≥ (0 : Int)))))) := (kp_at (by kernel_rfl)).trans (by kernel_rfl)
/- slices.Equal[[]string,string] -/
noncomputable def slices_Equal_string_bd : Code := Tryd.f55.body.getD .skip
noncomputable def slices_Equal_string_L0 (kap : FuncId → List AV → Option AV) (k : Nat) (k0 : Nat) (s0 : List AV) (s1 : List AV) (s12 : Int) (s13 : Int) : Option AV :=
  loop (fun fr K => code ((bs E0 k).cfg kap slices_Equal_string) (sel slices_Equal_string_bd [1, 1, 0, 1, 0, 0]) fr K) (canon ((bs E0 k).cfg kap slices_Equal_string) (firstReg (sel slices_Equal_string_bd [1, 1, 0, 1, 0, 0]))) k0 (mkFr 26 [(0, (.list 1 s0)), (1, (.list 1 s1)), (12, (.int .i64 s12)), (13, (.int .i64 s13))] []) (plug ((bs E0 k).cfg kap slices_Equal_string) (retK ((bs E0 k).cfg kap slices_Equal_string) [] Tryd.f55 [] some) [.blk 0, .seqR (sel slices_Equal_string_bd [1, 1, 1])])
theorem slices_Equal_string_L0_s (kap : FuncId → List AV → Option AV) (k : Nat) (k0 : Nat) (s0 : List AV) (s1 : List AV) (s12 : Int) (s13 : Int) : slices_Equal_string_L0 kap k (k0 + 1) s0 s1 s12 s13 =
  (bif (decide (s13 < s12)) then (bif ((decide ((0 : Int) ≤ s13)) && (decide (s13 < (((List.length s0) : Nat) : Int)))) then ((s0[(Int.toNat s13)]?).bind fun vy1 => (cellS (AV.cells vy1) 0 fun vs2 => (bif ((decide ((0 : Int) ≤ s13)) && (decide (s13 < (((List.length s1) : Nat) : Int)))) then ((s1[(Int.toNat s13)]?).bind fun vy3 => (cellS (AV.cells vy3) 0 fun vs4 => (bif (!(decide (vs2 = vs4))) then (some (.bool false)) else (slices_Equal_string_L0 kap k k0 s0 s1 s12 (IntKind.wrap .i64 (s13 + (1 : Int))))))) else none))) else none) else (some (.bool true))) := by kernel_rfl
theorem slices_Equal_string_eq {E : Ext} [Core E] (k n : Nat) (a0 : List AV) (a1 : List AV) : kp E k (n + 1) slices_Equal_string [(.list 1 a0), (.list 1 a1)] =
  (bif (!(decide ((((List.length a0) : Nat) : Int) = (((List.length a1) : Nat) : Int)))) then (some (.bool false)) else (slices_Equal_string_L0 (kp E k n) k k a0 a1 (((List.length a0) : Nat) : Int) (0 : Int))) := (kp_at (by kernel_rfl)).trans (by kernel_rfl)
/- internal/stringslite.HasPrefix -/
theorem stringslite_HasPrefix_eq {E : Ext} [Core E] (k n : Nat) (a0 : ByteArray) (a1 : ByteArray) : kp E k (n + 1) stringslite_HasPrefix [(.str a0), (.str a1)] =
  (bif (decide ((((ByteArray.size a0) : Nat) : Int) ≥ (((ByteArray.size a1) : Nat) : Int))) then (bif ((decide ((0 : Int) ≤ (((ByteArray.size a1) : Nat) : Int))) && (decide ((((ByteArray.size a1) : Nat) : Int) ≤ (((ByteArray.size a0) : Nat) : Int)))) then (some (.bool (decide ((ByteArray.extract a0 0 (Int.toNat (((ByteArray.size a1) : Nat) : Int))) = a1)))) else none) else (some (.bool false))) := (kp_at (by kernel_rfl)).trans (by kernel_rfl)
/- slices.Index[[]string,string] -/
noncomputable def slices_Index_string_bd : Code := Tryd.f63.body.getD .skip
noncomputable def slices_Index_string_L0 (kap : FuncId → List AV → Option AV) (k : Nat) (k0 : Nat) (s0 : List AV) (s1 : ByteArray) (s7 : Int) (s8 : Int) : Option AV :=
  loop (fun fr K => code ((bs E0 k).cfg kap slices_Index_string) (sel slices_Index_string_bd [1, 0, 1, 0, 0]) fr K) (canon ((bs E0 k).cfg kap slices_Index_string) (firstReg (sel slices_Index_string_bd [1, 0, 1, 0, 0]))) k0 (mkFr 19 [(0, (.list 1 s0)), (1, (.str s1)), (7, (.int .i64 s7)), (8, (.int .i64 s8))] []) (plug ((bs E0 k).cfg kap slices_Index_string) (retK ((bs E0 k).cfg kap slices_Index_string) [] Tryd.f63 [] some) [.blk 0, .seqR (sel slices_Index_string_bd [1, 1])])
theorem slices_Index_string_L0_s (kap : FuncId → List AV → Option AV) (k : Nat) (k0 : Nat) (s0 : List AV) (s1 : ByteArray) (s7 : Int) (s8 : Int) : slices_Index_string_L0 kap k (k0 + 1) s0 s1 s7 s8 =
  (bif (decide (s8 < s7)) then (bif ((decide ((0 : Int) ≤ s8)) && (decide (s8 < (((List.length s0) : Nat) : Int)))) then ((s0[(Int.toNat s8)]?).bind fun vy1 => (cellS (AV.cells vy1) 0 fun vs2 => (bif (decide (s1 = vs2)) then (some (.int .i64 s8)) else (slices_Index_string_L0 kap k k0 s0 s1 s7 (IntKind.wrap .i64 (s8 + (1 : Int))))))) else none) else (some (.int .i64 (-1 : Int)))) := by kernel_rfl
theorem slices_Index_string_eq {E : Ext} [Core E] (k n : Nat) (a0 : List AV) (a1 : ByteArray) : kp E k (n + 1) slices_Index_string [(.list 1 a0), (.str a1)] =
  (slices_Index_string_L0 (kp E k n) k k a0 a1 (((List.length a0) : Nat) : Int) (0 : Int)) := (kp_at (by kernel_rfl)).trans (by kernel_rfl)
/- internal/stringslite.IndexByte -/
end Go.Proofs.YteamddaglbleeaaDoor.Eng.U


/- Paths in plain words: the pieces between slashes, the parts, the clean form as a stack and as taking pairs off. No program in sight. -/
set_option linter.unusedVariables false
set_option linter.unusedSectionVars false
set_option linter.unusedSimpArgs false
namespace Go.Proofs.YteamddaglbleeaaDoor.P24

abbrev Tx := List UInt8
/-- A text cut at the first slash: what stands ahead of it, what stands behind it. -/
def cutAt : Tx → Option (Tx × Tx)
  | [] => none
  | c :: l => if c = 47 then some ([], l) else (cutAt l).map fun p => (c :: p.1, p.2)
/-- The pieces between slashes. -/
def pieces : Tx → List Tx
  | [] => [[]]
  | c :: l => if c = 47 then [] :: pieces l else match pieces l with
    | [] => [[c]]
    | p :: ps => (c :: p) :: ps
def good (p : Tx) : Bool := p != [] && p != [46]
def flt (pre : List Tx) : List Tx := pre.filter good
def partsL (l : Tx) : List Tx := flt (pieces l)
theorem pieces_cons (c : UInt8) (l : Tx) : pieces (c :: l) = if c = 47 then [] :: pieces l else match pieces l with
    | [] => [[c]]
    | p :: ps => (c :: p) :: ps := rfl
theorem cutAt_cons (c : UInt8) (l : Tx) : cutAt (c :: l) = if c = 47 then some ([], l) else (cutAt l).map fun p => (c :: p.1, p.2) := rfl
theorem pieces_ne : ∀ l, pieces l ≠ []
  | [] => by simp [pieces]
  | c :: l => by
    rw [pieces_cons]
    split
    · simp
    · split <;> simp
theorem pieces_cut : ∀ l, pieces l = match cutAt l with | none => [l] | some (a, b) => a :: pieces b
  | [] => rfl
  | c :: l => by
    rw [pieces_cons, cutAt_cons]
    split
    · rfl
    · rw [pieces_cut l]
      cases cutAt l with
      | none => rfl
      | some p => rfl
theorem cutAt_eq : ∀ {l a b}, cutAt l = some (a, b) → l = a ++ 47 :: b
  | [], a, b, h => by cases h
  | c :: l, a, b, h => by
    rw [cutAt_cons] at h
    split at h
    · rename_i hc
      subst hc
      cases h
      rfl
    · obtain ⟨⟨x, y⟩, hp, e⟩ := Option.map_eq_some_iff.1 h
      cases e
      rw [cutAt_eq hp]
      rfl
theorem pieces_len : ∀ l, (pieces l).length ≤ l.length + 1
  | [] => by simp [pieces]
  | c :: l => by
    have := pieces_len l
    rw [pieces_cons]
    split
    · simp; omega
    · split
      · simp
      · rename_i h; rw [h] at this; simp at this ⊢; omega
theorem flt_snoc (pre : List Tx) (x : Tx) : flt (pre ++ [x]) = if good x then flt pre ++ [x] else flt pre := by
  unfold flt
  by_cases h : good x <;> simp [h]
theorem flt_len (pre : List Tx) : (flt pre).length ≤ pre.length := List.length_filter_le _ _
theorem flt_app (a b : List Tx) : flt (a ++ b) = flt a ++ flt b := by simp [flt]
theorem parts_len (l : Tx) : (partsL l).length ≤ l.length + 1 := Nat.le_trans (flt_len _) (pieces_len l)

/-- Pieces of a text with a slash in its midst. -/
theorem pieces_slash : ∀ (a b : Tx), pieces (a ++ 47 :: b) = pieces a ++ pieces b
  | [], b => by simp [pieces]
  | c :: a, b => by
    rw [List.cons_append, pieces_cons, pieces_cons, pieces_slash a b]
    by_cases hc : c = 47
    · rw [if_pos hc, if_pos hc]; rfl
    · rw [if_neg hc, if_neg hc]
      cases h : pieces a with
      | nil => exact absurd h (pieces_ne a)
      | cons p ps => rfl
theorem parts_slash (a b : Tx) : partsL (a ++ 47 :: b) = partsL a ++ partsL b := by rw [partsL, pieces_slash, flt_app]; rfl
theorem pieces_plain : ∀ {p : Tx}, 47 ∉ p → pieces p = [p]
  | [], _ => rfl
  | c :: p, h => by
    rw [pieces_cons, if_neg (fun e => h (by simp [e])), pieces_plain (fun hp => h (by simp [hp]))]
theorem pieces_noslash : ∀ {l p : Tx}, p ∈ pieces l → 47 ∉ p
  | [], p, h => by simp [pieces] at h; subst h; simp
  | c :: l, p, h => by
    rw [pieces_cons] at h
    split at h
    · rcases List.mem_cons.1 h with rfl | h
      · simp
      · exact pieces_noslash h
    · rename_i hc
      split at h
      · have : p = [c] := by simpa using h
        subst this
        simpa using fun e => hc e.symm
      · rename_i q qs he
        rcases List.mem_cons.1 h with rfl | h
        · have := pieces_noslash (l := l) (p := q) (by rw [he]; simp)
          simp only [List.mem_cons, not_or]
          exact ⟨fun e => hc e.symm, this⟩
        · exact pieces_noslash (l := l) (by rw [he]; simp [h])
/-- A part: not empty, no point, no slash in it. -/
def isPart (p : Tx) : Prop := good p = true ∧ 47 ∉ p
theorem parts_part {l p : Tx} (h : p ∈ partsL l) : isPart p := by
  unfold partsL flt at h
  rw [List.mem_filter] at h
  exact ⟨h.2, pieces_noslash h.1⟩
theorem parts_one {p : Tx} (h : isPart p) : partsL p = [p] := by
  rw [partsL, pieces_plain h.2, flt]
  simp [h.1]

/-! Texts of parts. -/
def joinL : List Tx → Tx
  | [] => []
  | [p] => p
  | p :: q :: l => p ++ 47 :: joinL (q :: l)
theorem parts_join : ∀ {l : List Tx}, (∀ p ∈ l, isPart p) → partsL (joinL l) = l
  | [], _ => rfl
  | [p], h => parts_one (h p (by simp))
  | p :: q :: l, h => by
    rw [joinL, parts_slash, parts_one (h p (by simp)), parts_join (fun x hx => h x (by simp at hx ⊢; exact .inr hx))]
    rfl
theorem part_ne {p : Tx} (h : isPart p) : p ≠ [] := by rintro rfl; exact absurd h.1 (by decide)
theorem join_nil {l : List Tx} (h : ∀ p ∈ l, isPart p) : joinL l = [] ↔ l = [] := by
  constructor
  · intro e
    match l, h with
    | [], _ => rfl
    | [p], h => exact absurd e (part_ne (h p (by simp)))
    | p :: q :: l, h => simp [joinL] at e
  · rintro rfl; rfl
def isAbs : Tx → Bool
  | c :: _ => c == 47
  | [] => false
theorem abs_join {l : List Tx} (h : ∀ p ∈ l, isPart p) : isAbs (joinL l) = false := by
  have key : ∀ (p r : Tx), isPart p → isAbs (p ++ r) = false := by
    intro p r hp
    match p, hp with
    | [], hp => exact absurd rfl (part_ne hp)
    | c :: p, hp =>
      have : c ≠ 47 := fun e => hp.2 (by simp [e])
      simp [isAbs, this]
  match l, h with
  | [], _ => rfl
  | [p], h => simpa [joinL] using key p [] (h p (by simp))
  | p :: q :: l, h => exact key p _ (h p (by simp))
def formL (root : Bool) (l : List Tx) : Tx := if root then 47 :: joinL l else if joinL l = [] then [46] else joinL l
theorem parts_form {root : Bool} {l : List Tx} (h : ∀ p ∈ l, isPart p) : partsL (formL root l) = l := by
  unfold formL
  cases root with
  | true =>
    rw [if_pos rfl, show (47 :: joinL l : Tx) = [] ++ 47 :: joinL l from rfl, parts_slash, parts_join h]
    rfl
  | false =>
    rw [if_neg (by simp)]
    split
    · rename_i e
      rw [join_nil h] at e
      subst e
      rfl
    · exact parts_join h
theorem abs_form {root : Bool} {l : List Tx} (h : ∀ p ∈ l, isPart p) : isAbs (formL root l) = root := by
  unfold formL
  cases root with
  | true => rfl
  | false =>
    rw [if_neg (by simp)]
    split
    · rfl
    · exact abs_join h
/-! The stack of a clean form: how many '..' ahead, and the parts behind them. -/
def dd : Tx := [46, 46]
def step (s : Nat × List Tx) (p : Tx) : Nat × List Tx := if p ≠ dd then (s.1, s.2 ++ [p]) else if s.2 ≠ [] then (s.1, s.2.dropLast) else (s.1 + 1, [])
def nf (ps : List Tx) : Nat × List Tx := ps.foldl step (0, [])
def stOf (abs : Bool) (s : Nat × List Tx) : List Tx := (if abs then [] else List.replicate s.1 dd) ++ s.2
def stk (s : Tx) : List Tx := stOf (isAbs s) (nf (partsL s))
def cleanL (s : Tx) : Tx := formL (isAbs s) (stk s)
/-- The program's own step. -/
def push (abs : Bool) (st : List Tx) (p : Tx) : List Tx := if p ≠ dd then st ++ [p] else if st ≠ [] ∧ st.getLast? ≠ some dd then st.dropLast else if abs then st else st ++ [p]
def inOrder (s : Nat × List Tx) : Prop := ∀ p ∈ s.2, p ≠ dd
theorem step_order {s : Nat × List Tx} (h : inOrder s) (p : Tx) : inOrder (step s p) := by
  unfold step
  split
  · rename_i hp
    intro q hq
    rcases List.mem_append.1 hq with hq | hq
    · exact h q hq
    · rw [List.mem_singleton.1 hq]; exact hp
  · split
    · intro q hq
      exact h q ((List.dropLast_sublist _).subset hq)
    · intro q hq; cases hq
theorem fold_order {s : Nat × List Tx} (h : inOrder s) : ∀ ps : List Tx, inOrder (ps.foldl step s)
  | [] => h
  | p :: ps => by
    rw [List.foldl_cons]
    exact fold_order (step_order h p) ps
theorem nf_order (ps : List Tx) : inOrder (nf ps) := fold_order (fun _ h => by cases h) ps
theorem push_step (abs : Bool) {s : Nat × List Tx} (h : inOrder s) (p : Tx) : push abs (stOf abs s) p = stOf abs (step s p) := by
  obtain ⟨k, n⟩ := s
  unfold push step stOf
  by_cases hp : p ≠ dd
  · rw [if_pos hp, if_pos hp, List.append_assoc]
  · rw [if_neg hp, if_neg hp]
    have hp : p = dd := by simpa using hp
    subst hp
    by_cases hn : n ≠ []
    · have hl : n.getLast? ≠ some dd := by
        intro e
        exact h dd (List.mem_of_getLast? e) rfl
      have hl2 : ∀ l : List Tx, (l ++ n).getLast? ≠ some dd := by
        intro l
        rw [List.getLast?_append]
        cases hg : n.getLast? with
        | none => exact absurd (List.getLast?_eq_none_iff.1 hg) hn
        | some x => rw [hg] at hl; exact hl
      rw [if_pos ⟨by simp [hn], hl2 _⟩, if_pos hn]
      rw [List.dropLast_append_of_ne_nil hn]
    · rw [if_neg hn]
      have hn : n = [] := by simpa using hn
      subst hn
      simp only [List.append_nil]
      cases abs with
      | true => simp
      | false =>
        simp only [Bool.false_eq_true, if_false]
        rw [if_neg, List.replicate_succ']
        rintro ⟨h1, h2⟩
        apply h2
        cases k with
        | zero => simp at h1
        | succ k => rw [List.replicate_succ', List.getLast?_append]; simp
theorem push_fold (abs : Bool) : ∀ (ps : List Tx) {s : Nat × List Tx}, inOrder s → ps.foldl (push abs) (stOf abs s) = stOf abs (ps.foldl step s)
  | [], s, _ => rfl
  | p :: ps, s, h => by
    rw [List.foldl_cons, List.foldl_cons, push_step abs h, push_fold abs ps (step_order h p)]
theorem stk_fold (s : Tx) : (partsL s).foldl (push (isAbs s)) [] = stk s := by
  have := push_fold (isAbs s) (partsL s) (s := (0, [])) (fun _ h => by cases h)
  rw [show stOf (isAbs s) (0, []) = [] from by unfold stOf; cases isAbs s <;> rfl] at this
  exact this

/-! Taking pairs off. -/
theorem fold_pair (a b : List Tx) {x : Tx} (hx : x ≠ dd) (s : Nat × List Tx) : (a ++ x :: dd :: b).foldl step s = (a ++ b).foldl step s := by
  rw [List.foldl_append, List.foldl_append, List.foldl_cons, List.foldl_cons]
  congr 1
  generalize a.foldl step s = t
  unfold step
  rw [if_pos hx, if_neg (by simp), if_pos (by simp)]
  simp
theorem fold_plain : ∀ (l : List Tx) (k : Nat) (n : List Tx), (∀ p ∈ l, p ≠ dd) → l.foldl step (k, n) = (k, n ++ l)
  | [], k, n, _ => by simp
  | p :: l, k, n, h => by
    rw [List.foldl_cons]
    have : step (k, n) p = (k, n ++ [p]) := by unfold step; rw [if_pos (h p (by simp))]
    rw [this, fold_plain l k _ (fun q hq => h q (by simp [hq]))]
    simp
/-! What is clean. -/
theorem step_mem {s : Nat × List Tx} {p q : Tx} (h : q ∈ (step s p).2) : q ∈ s.2 ∨ q = p := by
  unfold step at h
  split at h
  · rcases List.mem_append.1 h with h | h
    · exact .inl h
    · exact .inr (List.mem_singleton.1 h)
  · split at h
    · exact .inl ((List.dropLast_sublist _).subset h)
    · cases h
theorem fold_mem : ∀ (ps : List Tx) {s : Nat × List Tx} {q : Tx}, q ∈ (ps.foldl step s).2 → q ∈ s.2 ∨ q ∈ ps
  | [], s, q, h => .inl h
  | p :: ps, s, q, h => by
    rw [List.foldl_cons] at h
    rcases fold_mem ps h with h | h
    · rcases step_mem h with h | h
      · exact .inl h
      · exact .inr (by simp [h])
    · exact .inr (by simp [h])
theorem dd_part : isPart dd := ⟨rfl, by decide⟩
theorem stOf_part {abs : Bool} {ps : List Tx} (h : ∀ p ∈ ps, isPart p) : ∀ p ∈ stOf abs (nf ps), isPart p := by
  intro p hp
  unfold stOf at hp
  rcases List.mem_append.1 hp with hp | hp
  · cases abs with
    | true => cases hp
    | false => rw [(List.mem_replicate.1 hp).2]; exact dd_part
  · rcases fold_mem ps hp with h' | h'
    · cases h'
    · exact h p h'
theorem stk_part (s : Tx) : ∀ p ∈ stk s, isPart p := stOf_part fun p hp => parts_part hp
theorem fold_dd : ∀ (k j : Nat), (List.replicate j dd).foldl step (k, []) = (k + j, [])
  | k, 0 => rfl
  | k, j + 1 => by
    rw [List.replicate_succ, List.foldl_cons]
    have : step (k, []) dd = (k + 1, []) := by unfold step; rw [if_neg (by simp), if_neg (by simp)]
    rw [this, fold_dd (k + 1) j]
    congr 1; omega
/-- A stack is the stack of itself. -/
theorem nf_stk (abs : Bool) {s : Nat × List Tx} (h : inOrder s) : stOf abs (nf (stOf abs s)) = stOf abs s := by
  obtain ⟨k, n⟩ := s
  unfold nf
  cases abs with
  | true =>
    have e : stOf true (k, n) = n := rfl
    rw [e, fold_plain n 0 [] h]
    rfl
  | false =>
    have e : stOf false (k, n) = List.replicate k dd ++ n := rfl
    rw [e, List.foldl_append, fold_dd, fold_plain n _ [] h]
    simp [stOf]
theorem parts_clean (s : Tx) : partsL (cleanL s) = stk s := parts_form (stk_part s)
theorem abs_clean (s : Tx) : isAbs (cleanL s) = isAbs s := abs_form (stk_part s)
theorem stk_clean (s : Tx) : stk (cleanL s) = stk s := by
  unfold stk
  rw [abs_clean, parts_clean]
  exact nf_stk _ (nf_order _)
def safeL (s : Tx) : Bool := !isAbs s && !(stk s).contains dd
def inL (s dir : Tx) : Bool := isAbs s == isAbs dir && decide ((stk s).length > (stk dir).length) && decide ((stk s).take (stk dir).length = stk dir)
theorem join_len : ∀ l : List Tx, (joinL l).length ≤ l.flatten.length + l.length
  | [] => by simp [joinL]
  | [p] => by simp [joinL]
  | p :: q :: l => by
    have := join_len (q :: l)
    simp only [joinL, List.length_append, List.length_cons, List.flatten_cons] at this ⊢
    omega
theorem pieces_sum : ∀ l : Tx, (pieces l).flatten.length ≤ l.length
  | [] => by simp [pieces]
  | c :: l => by
    have := pieces_sum l
    rw [pieces_cons]
    split
    · simp at this ⊢; omega
    · split
      · simp
      · rename_i h
        rw [h] at this
        simp at this ⊢; omega
theorem flt_sum : ∀ l : List Tx, (flt l).flatten.length ≤ l.flatten.length
  | [] => by simp [flt]
  | p :: l => by
    have := flt_sum l
    unfold flt at this ⊢
    rw [List.filter_cons]
    split <;> simp at this ⊢ <;> omega
theorem parts_sum (s : Tx) : (partsL s).flatten.length ≤ s.length := Nat.le_trans (flt_sum _) (pieces_sum s)
/-- How much a stack weighs. -/
def wt (s : Nat × List Tx) : Nat := 2 * s.1 + s.2.flatten.length
theorem step_wt (s : Nat × List Tx) (p : Tx) : wt (step s p) ≤ wt s + p.length ∧ (step s p).1 + (step s p).2.length ≤ s.1 + s.2.length + 1 := by
  obtain ⟨k, m⟩ := s
  unfold step wt
  by_cases hp : p ≠ dd
  · rw [if_pos hp]; simp; omega
  · rw [if_neg hp]
    have hp : p = dd := by simpa using hp
    subst hp
    by_cases hm : m ≠ []
    · rw [if_pos hm]
      have e : m.dropLast.flatten.length ≤ m.flatten.length := by
        conv => rhs; rw [← List.dropLast_concat_getLast hm]
        simp
      simp only [List.length_dropLast]
      omega
    · rw [if_neg hm]
      have hm : m = [] := by simpa using hm
      subst hm
      simp [dd]; omega
theorem fold_wt : ∀ (ps : List Tx) (s : Nat × List Tx), wt (ps.foldl step s) ≤ wt s + ps.flatten.length ∧ (ps.foldl step s).1 + (ps.foldl step s).2.length ≤ s.1 + s.2.length + ps.length
  | [], s => by simp
  | p :: ps, s => by
    have h1 := fold_wt ps (step s p)
    have h2 := step_wt s p
    rw [List.foldl_cons, List.flatten_cons, List.length_append, List.length_cons]
    omega
theorem stk_sum (s : Tx) : (stk s).flatten.length ≤ s.length ∧ (stk s).length ≤ s.length + 1 := by
  have h := fold_wt (partsL s) (0, [])
  have h1 := parts_sum s
  have h2 := parts_len s
  unfold wt at h
  simp only [List.flatten_nil, List.length_nil, Nat.mul_zero, Nat.zero_add, Nat.add_zero] at h
  unfold stk stOf nf
  generalize (partsL s).foldl step (0, []) = t at h
  cases isAbs s with
  | true => simp only [if_true, List.nil_append]; omega
  | false =>
    simp only [Bool.false_eq_true, if_false, List.flatten_append, List.length_append, List.length_replicate]
    have : (List.replicate t.1 dd).flatten.length = 2 * t.1 := by
      induction t.1 with
      | zero => rfl
      | succ m ih => rw [List.replicate_succ, List.flatten_cons, List.length_append, ih]; simp [dd]; omega
    omega
end Go.Proofs.YteamddaglbleeaaDoor.P24


/- The functions of the Path laws in plain words. -/
set_option linter.unusedVariables false
set_option linter.unusedSectionVars false
set_option linter.unusedSimpArgs false
namespace Go.Proofs.YteamddaglbleeaaDoor.Eng.U
open Go Go.Proofs Go.Proofs.YteamddaglbleeaaDoor.Eng Go.Proofs.YteamddaglbleeaaDoor.P24
variable {E : Ext} [Core E] {k n : Nat}

class HasParts (E : Ext) : Prop where
  parts : ∀ (k n : Nat) (s : List UInt8), s.length < 1000000 → kp E k n path_Parts [.str (str s)] = some (.list 1 (svs (partsL s)))
class HasJoin (E : Ext) : Prop where
  join : ∀ (k n : Nat) (l : List (List UInt8)) (sep : List UInt8), l.length ≤ 1000000 → (sep.intercalate l).length ≤ 1000000000 → kp E k n strings_Join [.list 1 (svs l), .str (str sep)] = some (.str (str (sep.intercalate l)))
theorem join_inter : ∀ l : List (List UInt8), ([47] : List UInt8).intercalate l = joinL l
  | [] => rfl
  | [p] => by simp [joinL, List.intercalate]
  | p :: q :: l => by
    have := join_inter (q :: l)
    simp only [joinL, List.intercalate, List.intersperse_cons_cons, List.flatten_cons] at this ⊢
    rw [this]
    simp

theorem prefix_k (s p : List UInt8) : kp E k (n + 1) stringslite_HasPrefix [.str (str s), .str (str p)] = some (.bool (decide (p <+: s))) := by
  rw [stringslite_HasPrefix_eq]
  rw [str_size, str_size, nge]
  by_cases h : p.length ≤ s.length
  · rw [dec0, Bool.true_and, decide_eq_true h, cond_true, cond_true, str_ext, str_dec]
    simp only [Int.toNat_natCast, List.drop_zero]
    congr 3
    rw [List.prefix_iff_eq_take]
    simp [eq_comm]
  · rw [decide_eq_false h, cond_false, decide_eq_false (fun hp => h hp.length_le)]
theorem hasPrefix_k (s p : List UInt8) : kp E k (n + 2) strings_HasPrefix [.str (str s), .str (str p)] = some (.bool (decide (p <+: s))) := by
  rw [strings_HasPrefix_eq, prefix_k, callB_ok]
theorem abs_prefix (s : List UInt8) : decide (([47] : List UInt8) <+: s) = isAbs s := by
  cases s with
  | nil => simp [isAbs]
  | cons c s =>
    simp only [isAbs, List.cons_prefix_cons, List.nil_prefix, and_true]
    rw [Bool.eq_iff_iff, decide_eq_true_eq, beq_iff_eq]
    exact eq_comm
theorem absolute_k (s : List UInt8) : kp E k (n + 3) path_absolute [.str (str s)] = some (.bool (isAbs s)) := by
  rw [path_absolute_eq, hasPrefix_k, callB_ok, abs_prefix]
/-! slices.Index, Contains, Equal; the law's own same. -/
theorem index_loop (kap : FuncId → List AV → Option AV) (x : List UInt8) : ∀ (suf pre : List (List UInt8)) (k0 : Nat), suf.length < k0 → (pre ++ suf).length < 1000000000 →
    slices_Index_string_L0 kap k k0 (svs (pre ++ suf)) (str x) (((pre ++ suf).length : Nat) : Int) ((pre.length : Nat) : Int) = some (.int .i64 (match suf.findIdx? (· == x) with | some i => ((pre.length + i : Nat) : Int) | none => -1))
  | [], pre, k0 + 1, h, hb => by
    rw [slices_Index_string_L0_s, nlt]
    simp
  | p :: suf, pre, k0 + 1, h, hb => by
    rw [slices_Index_string_L0_s, svs_len, mid_len, dec0, Bool.true_and, nlt, decide_eq_true (by omega), cond_true, cond_true, Int.toNat_natCast, svs_mid, str_dec]
    by_cases hx : p = x
    · subst hx
      rw [decide_eq_true rfl, cond_true, List.findIdx?_cons]
      simp
    · rw [decide_eq_false (fun e => hx e.symm), cond_false, wrap1 (by rw [mid_len] at hb; omega)]
      have := index_loop kap x suf (pre ++ [p]) k0 (by simpa using h) (by simpa using hb)
      simp only [List.append_assoc, List.cons_append, List.nil_append, List.length_append, List.length_cons, List.length_nil] at this
      rw [show pre.length + suf.length + 1 = pre.length + (suf.length + 1) from by omega, this, List.findIdx?_cons]
      simp only [beq_iff_eq, hx, if_false]
      cases suf.findIdx? (· == x) with
      | none => simp
      | some i => simp; omega
theorem index_k (l : List (List UInt8)) (x : List UInt8) (hb : l.length < 1000000000) (hk : l.length < k) : kp E k (n + 1) slices_Index_string [.list 1 (svs l), .str (str x)] = some (.int .i64 (match l.findIdx? (· == x) with | some i => (i : Int) | none => -1)) := by
  rw [slices_Index_string_eq, svs_len]
  have := index_loop (k := k) (kp E k n) x l [] k hk (by simpa using hb)
  simp only [List.nil_append, List.length_nil, Nat.zero_add] at this
  exact this
theorem contains_k (l : List (List UInt8)) (x : List UInt8) (hb : l.length < 1000000000) (hk : l.length < k) : kp E k (n + 2) slices_Contains_string [.list 1 (svs l), .str (str x)] = some (.bool (l.contains x)) := by
  rw [slices_Contains_string_eq, index_k l x hb hk, callI_ok]
  congr 2
  cases h : l.findIdx? (· == x) with
  | none =>
    rw [List.findIdx?_eq_none_iff] at h
    have : l.contains x = false := by
      rw [Bool.eq_false_iff]
      intro hc
      have := h x (List.contains_iff_mem.1 hc)
      simp at this
    rw [this]; simp
  | some i =>
    rw [List.findIdx?_eq_some_iff_getElem] at h
    obtain ⟨hi, hx, _⟩ := h
    have : l.contains x = true := List.contains_iff_mem.2 (by
      have : l[i] = x := by simpa using hx
      rw [← this]; exact List.getElem_mem hi)
    rw [this]; simp
theorem equal_loop (kap : FuncId → List AV → Option AV) (b pb : List (List UInt8)) : ∀ (suf pre sb pb : List (List UInt8)) (k0 : Nat), suf.length < k0 → (pre ++ suf).length < 1000000000 → suf.length = sb.length → pre.length = pb.length →
    slices_Equal_string_L0 kap k k0 (svs (pre ++ suf)) (svs (pb ++ sb)) (((pre ++ suf).length : Nat) : Int) ((pre.length : Nat) : Int) = some (.bool (decide (suf = sb)))
  | [], pre, [], pb, k0 + 1, h, hb, hl, hp => by
    rw [slices_Equal_string_L0_s, nlt]
    simp
  | p :: suf, pre, q :: sb, pb, k0 + 1, h, hb, hl, hp => by
    have hm := mid_len pre suf p
    have hm2 := mid_len pb sb q
    rw [slices_Equal_string_L0_s, svs_len, svs_len, hm, hm2, dec0, Bool.true_and, nlt, decide_eq_true (by omega), cond_true, cond_true, Bool.true_and, nlt, decide_eq_true (by omega), Int.toNat_natCast, svs_mid, cond_true, hp, svs_mid, str_dec, ← hp, ← hm]
    by_cases hx : p = q
    · subst hx
      rw [decide_eq_true rfl, Bool.not_true, cond_false, wrap1 (by omega)]
      have := equal_loop kap b pb suf (pre ++ [p]) sb (pb ++ [p]) k0 (by simpa using h) (by simpa using hb) (by simpa using hl) (by simp [hp])
      simp only [List.append_assoc, List.cons_append, List.nil_append] at this
      rw [show ((pre.length + 1 : Nat) : Int) = (((pre ++ [p]).length : Nat) : Int) from by simp, this]
      simp
    · rw [decide_eq_false hx, Bool.not_false, cond_true]
      simp [hx]
  | [], pre, q :: sb, pb, k0, h, hb, hl, hp => by simp at hl
  | p :: suf, pre, [], pb, k0, h, hb, hl, hp => by simp at hl
theorem equal_k (a b : List (List UInt8)) (hb : a.length < 1000000000) (hk : a.length < k) : kp E k (n + 1) slices_Equal_string [.list 1 (svs a), .list 1 (svs b)] = some (.bool (decide (a = b))) := by
  rw [slices_Equal_string_eq, svs_len, svs_len, neq_]
  by_cases h : a.length = b.length
  · rw [decide_eq_true h, Bool.not_true, cond_false]
    exact equal_loop (k := k) (kp E k n) [] [] a [] b [] k hk (by simpa using hb) h rfl
  · rw [decide_eq_false h, Bool.not_false, cond_true, decide_eq_false (fun e => h (by rw [e]))]
/-! The parts, as the reference gathers them. -/
/-! The stack, as the program builds it. -/
theorem last_at (st : List (List UInt8)) (h : st ≠ []) {β : Type} (K : ByteArray → Option β) : (((svs st)[st.length - 1]?).bind fun y => cellS (AV.cells y) 0 K) = K (str (st.getLast h)) := by
  rw [svs_at st _ (by have := List.length_pos_iff.2 h; omega), List.getLast_eq_getElem]
theorem stack_loop [HasParts E] (s : List UInt8) : ∀ (suf pre st : List (List UInt8)) (k0 : Nat), suf.length < k0 → (pre ++ suf).length < 1000000 → st.length ≤ pre.length →
    path_stack_L0 (kp E k (n + 3)) k k0 (str s) (svs (pre ++ suf)) (((pre ++ suf).length : Nat) : Int) ((pre.length : Nat) : Int) (svs st) = some (.list 1 (svs (suf.foldl (push (isAbs s)) st)))
  | [], pre, st, k0 + 1, h, hb, hs => by
    rw [path_stack_L0_s]
    simp (disch := first | omega | (simp only [List.length_append, List.length_cons, List.length_nil, List.length_take, List.length_drop]; done) | (simp only [List.length_append, List.length_cons, List.length_nil, List.length_take, List.length_drop]; omega) | fail) only [bif_t, bif_f, bif_n, bif_a, callB_ok, callI_ok, callS_ok, callL_ok, callF_ok, callT_ok, tupB_ok, tupI_ok, tupS_ok, tupL_ok, tupF_ok, atNil_ok, wrap1, wrapM, wrapP, Int.toNat_natCast, svs_len, ivs_len, bvs_len, str_size, svs_mid, ivs_mid, str_dec, str_ext, str_byte, mid_byte, mid_cut, List.length_nil, List.length_singleton, svs_snoc, ivs_snoc, svs_take, svs_drop, str_app, List.take_length, List.drop_zero, List.nil_append, cond_true, cond_false, Option.bind_some, Bool.not_true, Bool.not_false, Bool.true_and, Bool.and_true, List.append_nil]
    rfl
  | p :: suf, pre, st, k0 + 1, h, hb, hs => by
    have hm := mid_len pre suf p
    have go : ∀ st' : List (List UInt8), st'.length ≤ pre.length + 1 → path_stack_L0 (kp E k (n + 3)) k k0 (str s) (svs (pre ++ p :: suf)) ((pre.length + suf.length + 1 : Nat) : Int) ((pre.length + 1 : Nat) : Int) (svs st') = some (.list 1 (svs (suf.foldl (push (isAbs s)) st'))) := by
      intro st' hs'
      have := stack_loop s suf (pre ++ [p]) st' k0 (by simpa using h) (by simpa using hb) (by simpa using hs')
      rw [← mid_snoc, hm] at this
      simpa using this
    rw [path_stack_L0_s]
    simp (disch := first | omega | (simp only [List.length_append, List.length_cons, List.length_nil, List.length_take, List.length_drop]; done) | (simp only [List.length_append, List.length_cons, List.length_nil, List.length_take, List.length_drop]; omega) | fail) only [bif_t, bif_f, bif_n, bif_a, callB_ok, callI_ok, callS_ok, callL_ok, callF_ok, callT_ok, tupB_ok, tupI_ok, tupS_ok, tupL_ok, tupF_ok, atNil_ok, wrap1, wrapM, wrapP, Int.toNat_natCast, svs_len, ivs_len, bvs_len, str_size, svs_mid, ivs_mid, str_dec, str_ext, str_byte, mid_byte, mid_cut, List.length_nil, List.length_singleton, svs_snoc, ivs_snoc, svs_take, svs_drop, str_app, List.take_length, List.drop_zero, List.nil_append, cond_true, cond_false, Option.bind_some, Bool.not_true, Bool.not_false, Bool.true_and, Bool.and_true, hm, absolute_k, go]
    rw [List.foldl_cons]
    unfold push
    by_cases hp : p = dd
    · rw [if_neg (by simp [hp]), decide_eq_true (show p = [46, 46] from hp), cond_true]
      by_cases hst : st = []
      · subst hst
        simp (disch := first | omega | (simp only [List.length_append, List.length_cons, List.length_nil, List.length_take, List.length_drop]; done) | (simp only [List.length_append, List.length_cons, List.length_nil, List.length_take, List.length_drop]; omega) | fail) only [bif_t, bif_f, bif_n, bif_a, callB_ok, callI_ok, callS_ok, callL_ok, callF_ok, callT_ok, tupB_ok, tupI_ok, tupS_ok, tupL_ok, tupF_ok, atNil_ok, wrap1, wrapM, wrapP, Int.toNat_natCast, svs_len, ivs_len, bvs_len, str_size, svs_mid, ivs_mid, str_dec, str_ext, str_byte, mid_byte, mid_cut, List.length_nil, List.length_singleton, svs_snoc, ivs_snoc, svs_take, svs_drop, str_app, List.take_length, List.drop_zero, List.nil_append, cond_true, cond_false, Option.bind_some, Bool.not_true, Bool.not_false, Bool.true_and, Bool.and_true]
        cases isAbs s <;> rfl
      · have hl := List.length_pos_iff.2 hst
        simp (disch := first | omega | (simp only [List.length_append, List.length_cons, List.length_nil, List.length_take, List.length_drop]; done) | (simp only [List.length_append, List.length_cons, List.length_nil, List.length_take, List.length_drop]; omega) | fail) only [bif_t, bif_f, bif_n, bif_a, callB_ok, callI_ok, callS_ok, callL_ok, callF_ok, callT_ok, tupB_ok, tupI_ok, tupS_ok, tupL_ok, tupF_ok, atNil_ok, wrap1, wrapM, wrapP, Int.toNat_natCast, svs_len, ivs_len, bvs_len, str_size, svs_mid, ivs_mid, str_dec, str_ext, str_byte, mid_byte, mid_cut, List.length_nil, List.length_singleton, svs_snoc, ivs_snoc, svs_take, svs_drop, str_app, List.take_length, List.drop_zero, List.nil_append, cond_true, cond_false, Option.bind_some, Bool.not_true, Bool.not_false, Bool.true_and, Bool.and_true, last_at st hst, hm, go]
        by_cases he : st.getLast hst = dd
        · rw [decide_eq_true (show st.getLast hst = [46, 46] from he), cond_true, if_neg (by rw [List.getLast?_eq_some_getLast hst, he]; simp)]
          cases isAbs s <;> rfl
        · rw [decide_eq_false (show ¬ st.getLast hst = [46, 46] from he), cond_false, if_pos ⟨hst, by rw [List.getLast?_eq_some_getLast hst]; simpa using he⟩, List.dropLast_eq_take]
    · rw [decide_eq_false (show ¬ p = [46, 46] from hp), cond_false, if_pos hp]
theorem stack_k [HasParts E] (s : List UInt8) (hb : s.length < 100000) (hk : s.length + 1 < k) : kp E k (n + 4) path_stack [.str (str s)] = some (.list 1 (svs (stk s))) := by
  rw [path_stack_eq, HasParts.parts _ _ _ (by omega), callL_ok, svs_len]
  have hl := parts_len s
  have := stack_loop (k := k) (n := n) (E := E) s (partsL s) [] [] k (by omega) (by simp; omega) (by simp)
  simp only [List.nil_append, List.length_nil] at this
  rw [stk_fold] at this
  exact this

/-! What is left, as the reference takes pairs off. -/
/-! Forms, and what is asked of names. -/
theorem form_k [HasJoin E] (root : Bool) (l : List (List UInt8)) (h1 : l.length ≤ 1000000) (h2 : l.flatten.length ≤ 1000000) : kp E k (n + 1) path_form [.bool root, .list 1 (svs l)] = some (.str (str (formL root l))) := by
  have hj := join_len l
  rw [path_form_eq, HasJoin.join _ _ _ _ h1 (by rw [join_inter]; omega), join_inter]
  simp (disch := first | omega | (simp only [List.length_append, List.length_cons, List.length_nil, List.length_take, List.length_drop]; done) | (simp only [List.length_append, List.length_cons, List.length_nil, List.length_take, List.length_drop]; omega) | fail) only [bif_t, bif_f, bif_n, bif_a, callB_ok, callI_ok, callS_ok, callL_ok, callF_ok, callT_ok, tupB_ok, tupI_ok, tupS_ok, tupL_ok, tupF_ok, atNil_ok, wrap1, wrapM, wrapP, Int.toNat_natCast, svs_len, ivs_len, bvs_len, str_size, svs_mid, ivs_mid, str_dec, str_ext, str_byte, mid_byte, mid_cut, List.length_nil, List.length_singleton, svs_snoc, ivs_snoc, svs_take, svs_drop, str_app, List.take_length, List.drop_zero, List.nil_append, cond_true, cond_false, Option.bind_some, Bool.not_true, Bool.not_false, Bool.true_and, Bool.and_true]
  unfold formL
  cases root with
  | true => rfl
  | false =>
    by_cases h : joinL l = []
    · rw [h]; rfl
    · rw [decide_eq_false h]; simp [h]
end Go.Proofs.YteamddaglbleeaaDoor.Eng.U


/- The Path functions in plain words, part 2. -/
set_option linter.unusedVariables false
set_option linter.unusedSimpArgs false
set_option linter.unusedSectionVars false
namespace Go.Proofs.YteamddaglbleeaaDoor.Eng.U
open Go Go.Proofs Go.Proofs.YteamddaglbleeaaDoor.Eng Go.Proofs.YteamddaglbleeaaDoor.P24
variable {E : Ext} [Core E] [HasParts E] [HasJoin E] {k n : Nat}

theorem clean_k (s : List UInt8) (hb : s.length < 100000) (hk : s.length + 10 < k) : kp E k (n + 5) path_Clean [.str (str s)] = some (.str (str (cleanL s))) := by
  have h := stk_sum s
  rw [path_Clean_eq, absolute_k, callB_ok, stack_k s hb (by omega), callL_ok, form_k _ _ (by omega) (by omega), callS_ok]
  rfl
theorem safe_k (s : List UInt8) (hb : s.length < 100000) (hk : s.length + 10 < k) : kp E k (n + 5) path_Safe [.str (str s)] = some (.bool (safeL s)) := by
  have h := stk_sum s
  rw [path_Safe_eq, absolute_k, callB_ok, stack_k s hb (by omega), callL_ok, show ([46, 46] : List UInt8) = dd from rfl, contains_k _ _ (by omega) (by omega), callB_ok]
  unfold safeL
  cases isAbs s <;> rfl
theorem in_k (s dir : List UInt8) (hb : dir.length + s.length < 10000) (hk : dir.length + s.length + 20 < k) : kp E k (n + 5) path_In [.str (str s), .str (str dir)] = some (.bool (inL s dir)) := by
  have h1 := stk_sum s
  have h2 := stk_sum dir
  rw [path_In_eq, stack_k s (by omega) (by omega), callL_ok, stack_k dir (by omega) (by omega), callL_ok, absolute_k, callB_ok, absolute_k, callB_ok]
  unfold inL
  by_cases hl : (stk s).length > (stk dir).length
  · have he := equal_k (E := E) (k := k) (n := n + 3) ((stk s).take (stk dir).length) (stk dir) (by simp; omega) (by simp; omega)
    simp (disch := first | omega | (simp only [List.length_append, List.length_cons, List.length_nil, List.length_take, List.length_drop]; done) | (simp only [List.length_append, List.length_cons, List.length_nil, List.length_take, List.length_drop]; omega) | fail) only [bif_t, bif_f, bif_n, bif_a, callB_ok, callI_ok, callS_ok, callL_ok, callF_ok, callT_ok, tupB_ok, tupI_ok, tupS_ok, tupL_ok, tupF_ok, atNil_ok, wrap1, wrapM, wrapP, Int.toNat_natCast, svs_len, ivs_len, bvs_len, str_size, svs_mid, ivs_mid, str_dec, str_ext, str_byte, mid_byte, mid_cut, List.length_nil, List.length_singleton, svs_snoc, ivs_snoc, svs_take, svs_drop, str_app, List.take_length, List.drop_zero, List.nil_append, cond_true, cond_false, Option.bind_some, Bool.not_true, Bool.not_false, Bool.true_and, Bool.and_true, he]
    cases isAbs s == isAbs dir <;> simp [hl]
  · simp (disch := first | omega | (simp only [List.length_append, List.length_cons, List.length_nil, List.length_take, List.length_drop]; done) | (simp only [List.length_append, List.length_cons, List.length_nil, List.length_take, List.length_drop]; omega) | fail) only [bif_t, bif_f, bif_n, bif_a, callB_ok, callI_ok, callS_ok, callL_ok, callF_ok, callT_ok, tupB_ok, tupI_ok, tupS_ok, tupL_ok, tupF_ok, atNil_ok, wrap1, wrapM, wrapP, Int.toNat_natCast, svs_len, ivs_len, bvs_len, str_size, svs_mid, ivs_mid, str_dec, str_ext, str_byte, mid_byte, mid_cut, List.length_nil, List.length_singleton, svs_snoc, ivs_snoc, svs_take, svs_drop, str_app, List.take_length, List.drop_zero, List.nil_append, cond_true, cond_false, Option.bind_some, Bool.not_true, Bool.not_false, Bool.true_and, Bool.and_true]
    cases isAbs s == isAbs dir <;> simp [hl]
theorem clean_len (s : List UInt8) : (cleanL s).length ≤ 2 * s.length + 3 := by
  have h := stk_sum s
  have h2 := join_len (stk s)
  unfold cleanL formL
  split
  · simp; omega
  · split
    · simp
    · omega
end Go.Proofs.YteamddaglbleeaaDoor.Eng.U


/- The order of items in plain words: picking, again and again, the first place that leans on none that is left. No program in sight. -/
set_option linter.unusedVariables false
set_option linter.unusedSectionVars false
namespace Go.Proofs.YteamddaglbleeaaDoor.P40

/-- May place i be taken? t: what is taken; R: what leans on which. -/
def free (n : Nat) (R : Nat → Nat → Bool) (t : Nat → Bool) (i : Nat) : Bool := (List.range n).all (fun k => t k || !R i k) && !t i
def pick (n : Nat) (R : Nat → Nat → Bool) (t : Nat → Bool) : Nat := match (List.range n).find? (free n R t) with
  | some i => i
  | none => ((List.range n).find? fun i => !t i).getD 0
def sortGo (n : Nat) (R : Nat → Nat → Bool) : Nat → List Nat → List Nat
  | 0, out => out
  | m + 1, out => sortGo n R m (out ++ [pick n R out.contains])
def sorted (n : Nat) (R : Nat → Nat → Bool) : List Nat := sortGo n R n []

/-- The program's way: the first place met that is not taken is kept in mind. -/
def choose (n : Nat) (R : Nat → Nat → Bool) (t : Nat → Bool) : List Nat → Option Nat → Option Nat
  | [], nx => nx
  | i :: l, nx => if t i then choose n R t l nx else if (List.range n).all (fun k => t k || !R i k) then some i else choose n R t l (nx.or (some i))
theorem choose_eq (n : Nat) (R : Nat → Nat → Bool) (t : Nat → Bool) : ∀ (l : List Nat) (nx : Option Nat), choose n R t l nx = match l.find? (free n R t) with
    | some i => some i
    | none => nx.or (l.find? fun i => !t i)
  | [], nx => by cases nx <;> rfl
  | i :: l, nx => by
    rw [choose, List.find?_cons, List.find?_cons, choose_eq n R t l nx]
    unfold free
    cases ht : t i with
    | true => simp only [Bool.not_true, Bool.and_false, if_true]
    | false =>
      simp only [Bool.not_false, Bool.and_true, Bool.false_eq_true, if_false]
      cases ha : (List.range n).all (fun k => t k || !R i k) with
      | true => simp
      | false =>
        simp only [Bool.false_eq_true, if_false]
        rw [choose_eq n R t l]
        unfold free
        cases l.find? (fun i => (List.range n).all (fun k => t k || !R i k) && !t i) with
        | some j => rfl
        | none => cases nx <;> simp
theorem find_none {n : Nat} {p : Nat → Bool} : (List.range n).find? p = none ↔ ∀ i, i < n → p i = false := by simp [List.find?_eq_none]
theorem find_some {n i : Nat} {p : Nat → Bool} (h : (List.range n).find? p = some i) : i < n ∧ p i = true ∧ ∀ j, j < i → p j = false := by
  have h1 := List.find?_some h
  have h2 : i ∈ List.range n := List.mem_of_find?_eq_some h
  rw [List.find?_range_eq_some] at h
  refine ⟨by simpa using h2, h1, fun j hj => ?_⟩
  have := h.2.2 j hj
  simpa using this
theorem any_left {n : Nat} {out : List Nat} (hl : out.length < n) : ∃ i, i < n ∧ out.contains i = false := by
  apply Classical.byContradiction
  intro h
  have hsub : ∀ i ∈ List.range n, i ∈ out := by
    intro i hi
    apply Classical.byContradiction
    intro hn
    exact h ⟨i, by simpa using hi, by rw [Bool.eq_false_iff]; intro hc; exact hn (List.contains_iff_mem.1 hc)⟩
  have := (List.nodup_range (n := n)).length_le_of_subset hsub
  rw [List.length_range] at this
  omega
theorem pick_lt {n : Nat} {R : Nat → Nat → Bool} {out : List Nat} (hl : out.length < n) : pick n R out.contains < n ∧ out.contains (pick n R out.contains) = false := by
  unfold pick
  cases hf : (List.range n).find? (free n R out.contains) with
  | some i =>
    obtain ⟨h1, h2, _⟩ := find_some hf
    unfold free at h2
    simp only [Bool.and_eq_true, Bool.not_eq_true'] at h2
    exact ⟨h1, h2.2⟩
  | none =>
    obtain ⟨i, hi, hc⟩ := any_left hl
    cases hg : (List.range n).find? (fun i => !out.contains i) with
    | none =>
      have := find_none.1 hg i hi
      rw [hc] at this
      cases this
    | some j =>
      obtain ⟨h1, h2, _⟩ := find_some hg
      exact ⟨h1, by simpa using h2⟩
/-- What the picking has gathered at each time. -/
structure Gone (n : Nat) (out : List Nat) : Prop where
  lt : ∀ i ∈ out, i < n
  nd : out.Nodup
theorem Gone.snoc {n : Nat} {R : Nat → Nat → Bool} {out : List Nat} (h : Gone n out) (hl : out.length < n) : Gone n (out ++ [pick n R out.contains]) := by
  obtain ⟨h1, h2⟩ := pick_lt (R := R) hl
  refine ⟨fun i hi => ?_, ?_⟩
  · rcases List.mem_append.1 hi with hi | hi
    · exact h.lt i hi
    · rw [List.mem_singleton.1 hi]; exact h1
  · rw [List.nodup_append]
    refine ⟨h.nd, by simp, fun a ha b hb => ?_⟩
    rw [List.mem_singleton.1 hb]
    rintro rfl
    rw [List.contains_iff_mem.2 ha] at h2
    cases h2
end Go.Proofs.YteamddaglbleeaaDoor.P40


/- The functions of the Order laws in plain words. -/
set_option linter.unusedVariables false
set_option linter.unusedSimpArgs false
set_option linter.unusedSectionVars false
namespace Go.Proofs.YteamddaglbleeaaDoor.Eng.U
open Go Go.Proofs Go.Proofs.YteamddaglbleeaaDoor.Eng Go.Proofs.YteamddaglbleeaaDoor.P24
variable {E : Ext} [Core E] {k n : Nat}

/-! Same items. -/
theorem ints_loop (kap : FuncId → List AV → Option AV) : ∀ (suf pre sb pb : List Int) (k0 : Nat), suf.length < k0 → (pre ++ suf).length < 1000000000 → suf.length = sb.length → pre.length = pb.length →
    ref10_SameInts_L0 kap k k0 (ivs (pre ++ suf)) (ivs (pb ++ sb)) ((pre.length : Nat) : Int) = some (.bool (decide (suf = sb)))
  | [], pre, [], pb, k0 + 1, h, hb, hl, hp => by
    rw [ref10_SameInts_L0_s]
    simp (disch := first | omega | (simp only [List.length_append, List.length_cons, List.length_nil, List.length_take, List.length_drop]; done) | (simp only [List.length_append, List.length_cons, List.length_nil, List.length_take, List.length_drop]; omega) | fail) only [bif_t, bif_f, bif_n, bif_a, callB_ok, callI_ok, callS_ok, callL_ok, callF_ok, callT_ok, tupB_ok, tupI_ok, tupS_ok, tupL_ok, tupF_ok, atNil_ok, wrap1, wrapM, wrapP, Int.toNat_natCast, svs_len, ivs_len, bvs_len, str_size, svs_mid, ivs_mid, str_dec, str_ext, str_byte, mid_byte, mid_cut, List.length_nil, List.length_singleton, svs_snoc, ivs_snoc, svs_take, svs_drop, str_app, List.take_length, List.drop_zero, List.nil_append, cond_true, cond_false, Option.bind_some, Bool.not_true, Bool.not_false, Bool.true_and, Bool.and_true, bys_len, prs_len, its_len, cells_pair, cells_time, cells_head, cells_item, fold_pair, fold_time, fold_head, fold_ihead, fold_item, prs_mid, its_mid, bys_mid, byte_c, callG_pair, callG_time, callG_head, callG_item, tupG_pair, tupG_time, tupG_head, tupG_item, h_0, i_0, h_1, i_1, h_2, i_2, h_3, i_3, h_4, i_4, h_5, i_5, h_6, i_6, h_7, i_7, h_8, i_8, h_9, i_9, h_10, i_10, h_11, i_11, h_12, i_12, h_13, i_13, i_14, p_0, p_1, t_0, t_1, List.append_nil]
    rfl
  | p :: suf, pre, q :: sb, pb, k0 + 1, h, hb, hl, hp => by
    have hm := mid_len pre suf p
    have hm2 := mid_len pb sb q
    have hl' : suf.length = sb.length := by simpa using hl
    have q1 : ∀ (K : Int → Option AV), (((ivs (pb ++ q :: sb))[pre.length]?).bind fun y => cellI .i64 (AV.cells y) 0 K) = K q := fun F => by rw [hp]; exact ivs_mid _ _ _ _
    have ih := ints_loop kap suf (pre ++ [p]) sb (pb ++ [q]) k0 (by simpa using h) (by simpa using hb) hl' (by simp [hp])
    rw [← mid_snoc, ← mid_snoc, List.length_append, List.length_singleton] at ih
    rw [ref10_SameInts_L0_s]
    simp (disch := first | omega | (simp only [List.length_append, List.length_cons, List.length_nil, List.length_take, List.length_drop]; done) | (simp only [List.length_append, List.length_cons, List.length_nil, List.length_take, List.length_drop]; omega) | fail) only [bif_t, bif_f, bif_n, bif_a, callB_ok, callI_ok, callS_ok, callL_ok, callF_ok, callT_ok, tupB_ok, tupI_ok, tupS_ok, tupL_ok, tupF_ok, atNil_ok, wrap1, wrapM, wrapP, Int.toNat_natCast, svs_len, ivs_len, bvs_len, str_size, svs_mid, ivs_mid, str_dec, str_ext, str_byte, mid_byte, mid_cut, List.length_nil, List.length_singleton, svs_snoc, ivs_snoc, svs_take, svs_drop, str_app, List.take_length, List.drop_zero, List.nil_append, cond_true, cond_false, Option.bind_some, Bool.not_true, Bool.not_false, Bool.true_and, Bool.and_true, bys_len, prs_len, its_len, cells_pair, cells_time, cells_head, cells_item, fold_pair, fold_time, fold_head, fold_ihead, fold_item, prs_mid, its_mid, bys_mid, byte_c, callG_pair, callG_time, callG_head, callG_item, tupG_pair, tupG_time, tupG_head, tupG_item, h_0, i_0, h_1, i_1, h_2, i_2, h_3, i_3, h_4, i_4, h_5, i_5, h_6, i_6, h_7, i_7, h_8, i_8, h_9, i_9, h_10, i_10, h_11, i_11, h_12, i_12, h_13, i_13, i_14, p_0, p_1, t_0, t_1, hm, hm2, q1, ih]
    by_cases hpq : p = q <;> simp [hpq]
  | [], pre, q :: sb, pb, k0, h, hb, hl, hp => by simp at hl
  | p :: suf, pre, [], pb, k0, h, hb, hl, hp => by simp at hl
theorem sameInts_k (a b : List Int) (hb : a.length < 1000000000) (hk : a.length < k) : kp E k (n + 1) ref10_SameInts [.list 1 (ivs a), .list 1 (ivs b)] = some (.bool (decide (a = b))) := by
  rw [ref10_SameInts_eq]
  by_cases h : a.length = b.length
  · have := ints_loop (k := k) (kp E k n) a [] b [] k hk (by simpa using hb) h rfl
    simp only [List.nil_append, List.length_nil] at this
    simp (disch := first | omega | (simp only [List.length_append, List.length_cons, List.length_nil, List.length_take, List.length_drop]; done) | (simp only [List.length_append, List.length_cons, List.length_nil, List.length_take, List.length_drop]; omega) | fail) only [bif_t, bif_f, bif_n, bif_a, callB_ok, callI_ok, callS_ok, callL_ok, callF_ok, callT_ok, tupB_ok, tupI_ok, tupS_ok, tupL_ok, tupF_ok, atNil_ok, wrap1, wrapM, wrapP, Int.toNat_natCast, svs_len, ivs_len, bvs_len, str_size, svs_mid, ivs_mid, str_dec, str_ext, str_byte, mid_byte, mid_cut, List.length_nil, List.length_singleton, svs_snoc, ivs_snoc, svs_take, svs_drop, str_app, List.take_length, List.drop_zero, List.nil_append, cond_true, cond_false, Option.bind_some, Bool.not_true, Bool.not_false, Bool.true_and, Bool.and_true, bys_len, prs_len, its_len, cells_pair, cells_time, cells_head, cells_item, fold_pair, fold_time, fold_head, fold_ihead, fold_item, prs_mid, its_mid, bys_mid, byte_c, callG_pair, callG_time, callG_head, callG_item, tupG_pair, tupG_time, tupG_head, tupG_item, h_0, i_0, h_1, i_1, h_2, i_2, h_3, i_3, h_4, i_4, h_5, i_5, h_6, i_6, h_7, i_7, h_8, i_8, h_9, i_9, h_10, i_10, h_11, i_11, h_12, i_12, h_13, i_13, i_14, p_0, p_1, t_0, t_1]
    exact this
  · simp (disch := first | omega | (simp only [List.length_append, List.length_cons, List.length_nil, List.length_take, List.length_drop]; done) | (simp only [List.length_append, List.length_cons, List.length_nil, List.length_take, List.length_drop]; omega) | fail) only [bif_t, bif_f, bif_n, bif_a, callB_ok, callI_ok, callS_ok, callL_ok, callF_ok, callT_ok, tupB_ok, tupI_ok, tupS_ok, tupL_ok, tupF_ok, atNil_ok, wrap1, wrapM, wrapP, Int.toNat_natCast, svs_len, ivs_len, bvs_len, str_size, svs_mid, ivs_mid, str_dec, str_ext, str_byte, mid_byte, mid_cut, List.length_nil, List.length_singleton, svs_snoc, ivs_snoc, svs_take, svs_drop, str_app, List.take_length, List.drop_zero, List.nil_append, cond_true, cond_false, Option.bind_some, Bool.not_true, Bool.not_false, Bool.true_and, Bool.and_true, bys_len, prs_len, its_len, cells_pair, cells_time, cells_head, cells_item, fold_pair, fold_time, fold_head, fold_ihead, fold_item, prs_mid, its_mid, bys_mid, byte_c, callG_pair, callG_time, callG_head, callG_item, tupG_pair, tupG_time, tupG_head, tupG_item, h_0, i_0, h_1, i_1, h_2, i_2, h_3, i_3, h_4, i_4, h_5, i_5, h_6, i_6, h_7, i_7, h_8, i_8, h_9, i_9, h_10, i_10, h_11, i_11, h_12, i_12, h_13, i_13, i_14, p_0, p_1, t_0, t_1]
    rw [decide_eq_false (fun e => h (by rw [e]))]
end Go.Proofs.YteamddaglbleeaaDoor.Eng.U


/- The functions of the Order laws in plain words, part 2: which leans on which; the order; the items in order. -/
set_option linter.unusedVariables false
set_option linter.unusedSimpArgs false
set_option linter.unusedSectionVars false
namespace Go.Proofs.YteamddaglbleeaaDoor.Eng.U
open Go Go.Proofs Go.Proofs.YteamddaglbleeaaDoor.Eng Go.Proofs.YteamddaglbleeaaDoor.P24 Go.Proofs.YteamddaglbleeaaDoor.P40
class HasClone (E : Ext) : Prop where
  pairs : ∀ (k n : Nat) (l : List Pair), l.length ≤ 1000000000 → kp E k n slices_Clone_api_Pair [.list 2 (prs l)] = some (.list 2 (prs l))
  bytes : ∀ (k n : Nat) (l : Tx), l.length ≤ 1000000000 → kp E k n slices_Clone_byte [.list 1 (bys l)] = some (.list 1 (bys l))
variable {E : Ext} [Core E] [HasParts E] [HasJoin E] [HasClone E] {k n : Nat}

/-- Does an item lean on another one? -/
def leanH (x y : Head) : Bool := !decide (cleanL x.name = cleanL y.name) && (decide (y.kind = 6) && inL x.name y.name || decide (y.kind = 1) && decide (x.kind = 2) && decide (cleanL x.link = cleanL y.name))
theorem in_clean (s t : Tx) : inL (cleanL s) (cleanL t) = inL s t := by unfold inL; rw [abs_clean, abs_clean, stk_clean, stk_clean]
theorem leans_k (x y : Head) (h1 : x.name.length + x.link.length ≤ 300) (h2 : y.name.length + y.link.length ≤ 300) (hk : 10000 < k) : kp E k (n + 6) order_leans [elHead x, elHead y] = some (.bool (leanH x y)) := by
  have l1 := clean_len x.name
  have l2 := clean_len y.name
  have e1 := clean_k (E := E) (k := k) (n := n) x.name (by omega) (by omega)
  have e2 := clean_k (E := E) (k := k) (n := n) y.name (by omega) (by omega)
  have e3 := clean_k (E := E) (k := k) (n := n) x.link (by omega) (by omega)
  have e4 := in_k (E := E) (k := k) (n := n) (cleanL x.name) (cleanL y.name) (by omega) (by omega)
  refine (order_leans_eq (E := E) k (n + 5) x.kind (str x.name) (str x.link) x.mode x.uid x.gid x.size x.sec x.nano (str x.user) (str x.group) x.major x.minor (prs x.extra) y.kind (str y.name) (str y.link) y.mode y.uid y.gid y.size y.sec y.nano (str y.user) (str y.group) y.major y.minor (prs y.extra)).trans ?_
  simp (disch := first | omega | (simp only [List.length_append, List.length_cons, List.length_nil, List.length_take, List.length_drop]; done) | (simp only [List.length_append, List.length_cons, List.length_nil, List.length_take, List.length_drop]; omega) | fail) only [bif_t, bif_f, bif_n, bif_a, callB_ok, callI_ok, callS_ok, callL_ok, callF_ok, callT_ok, tupB_ok, tupI_ok, tupS_ok, tupL_ok, tupF_ok, atNil_ok, wrap1, wrapM, wrapP, Int.toNat_natCast, svs_len, ivs_len, bvs_len, str_size, svs_mid, ivs_mid, str_dec, str_ext, str_byte, mid_byte, mid_cut, List.length_nil, List.length_singleton, svs_snoc, ivs_snoc, svs_take, svs_drop, str_app, List.take_length, List.drop_zero, List.nil_append, cond_true, cond_false, Option.bind_some, Bool.not_true, Bool.not_false, Bool.true_and, Bool.and_true, bys_len, prs_len, its_len, cells_pair, cells_time, cells_head, cells_item, fold_pair, fold_time, fold_head, fold_ihead, fold_item, prs_mid, its_mid, bys_mid, byte_c, callG_pair, callG_time, callG_head, callG_item, tupG_pair, tupG_time, tupG_head, tupG_item, h_0, i_0, h_1, i_1, h_2, i_2, h_3, i_3, h_4, i_4, h_5, i_5, h_6, i_6, h_7, i_7, h_8, i_8, h_9, i_9, h_10, i_10, h_11, i_11, h_12, i_12, h_13, i_13, i_14, p_0, p_1, t_0, t_1, e1, e2, e3, e4]
  rw [in_clean]
  unfold leanH
  by_cases a1 : cleanL x.name = cleanL y.name
  · simp [a1]
  · by_cases a2 : y.kind = 6
    · simp [a1, a2]
    · by_cases a3 : y.kind = 1
      · by_cases a4 : x.kind = 2 <;> simp [a1, a2, a3, a4]
      · simp [a1, a2, a3]
/-- Names that are few enough. -/
def Short (l : List Item) : Prop := ∀ x ∈ l, x.head.name.length + x.head.link.length ≤ 300
theorem short_at {l : List Item} (h : Short l) (i : Nat) (hi : i < l.length) : (l[i]).head.name.length + (l[i]).head.link.length ≤ 300 := h _ (List.getElem_mem hi)
def leanAt (l : List Item) (i j : Int) : Bool := if h : 0 ≤ i ∧ 0 ≤ j ∧ i < l.length ∧ j < l.length ∧ i ≠ j then leanH (l[i.toNat]'(by omega)).head (l[j.toNat]'(by omega)).head else false
theorem Leans_k (l : List Item) (i j : Int) (hs : Short l) (hk : 10000 < k) (hl : l.length ≤ 1000000) : kp E k (n + 7) order_Leans [.list 15 (its l), .int .i64 i, .int .i64 j] = some (.bool (leanAt l i j)) := by
  rw [order_Leans_eq]
  unfold leanAt
  by_cases h : 0 ≤ i ∧ 0 ≤ j ∧ i < l.length ∧ j < l.length ∧ i ≠ j
  · rw [dif_pos h]
    obtain ⟨h1, h2, h3, h4, h5⟩ := h
    have e := leans_k (E := E) (k := k) (n := n) (l[i.toNat]'(by omega)).head (l[j.toNat]'(by omega)).head (short_at hs _ _) (short_at hs _ _) hk
    simp (disch := first | omega | (simp only [List.length_append, List.length_cons, List.length_nil, List.length_take, List.length_drop]; done) | (simp only [List.length_append, List.length_cons, List.length_nil, List.length_take, List.length_drop]; omega) | fail) only [bif_t, bif_f, bif_n, bif_a, callB_ok, callI_ok, callS_ok, callL_ok, callF_ok, callT_ok, tupB_ok, tupI_ok, tupS_ok, tupL_ok, tupF_ok, atNil_ok, wrap1, wrapM, wrapP, Int.toNat_natCast, svs_len, ivs_len, bvs_len, str_size, svs_mid, ivs_mid, str_dec, str_ext, str_byte, mid_byte, mid_cut, List.length_nil, List.length_singleton, svs_snoc, ivs_snoc, svs_take, svs_drop, str_app, List.take_length, List.drop_zero, List.nil_append, cond_true, cond_false, Option.bind_some, Bool.not_true, Bool.not_false, Bool.true_and, Bool.and_true, bys_len, prs_len, its_len, cells_pair, cells_time, cells_head, cells_item, fold_pair, fold_time, fold_head, fold_ihead, fold_item, prs_mid, its_mid, bys_mid, byte_c, callG_pair, callG_time, callG_head, callG_item, tupG_pair, tupG_time, tupG_head, tupG_item, h_0, i_0, h_1, i_1, h_2, i_2, h_3, i_3, h_4, i_4, h_5, i_5, h_6, i_6, h_7, i_7, h_8, i_8, h_9, i_9, h_10, i_10, h_11, i_11, h_12, i_12, h_13, i_13, i_14, p_0, p_1, t_0, t_1, its_at, e]
  · rw [dif_neg h]
    by_cases h1 : i < 0
    · simp (disch := first | omega | (simp only [List.length_append, List.length_cons, List.length_nil, List.length_take, List.length_drop]; done) | (simp only [List.length_append, List.length_cons, List.length_nil, List.length_take, List.length_drop]; omega) | fail) only [bif_t, bif_f, bif_n, bif_a, callB_ok, callI_ok, callS_ok, callL_ok, callF_ok, callT_ok, tupB_ok, tupI_ok, tupS_ok, tupL_ok, tupF_ok, atNil_ok, wrap1, wrapM, wrapP, Int.toNat_natCast, svs_len, ivs_len, bvs_len, str_size, svs_mid, ivs_mid, str_dec, str_ext, str_byte, mid_byte, mid_cut, List.length_nil, List.length_singleton, svs_snoc, ivs_snoc, svs_take, svs_drop, str_app, List.take_length, List.drop_zero, List.nil_append, cond_true, cond_false, Option.bind_some, Bool.not_true, Bool.not_false, Bool.true_and, Bool.and_true, bys_len, prs_len, its_len, cells_pair, cells_time, cells_head, cells_item, fold_pair, fold_time, fold_head, fold_ihead, fold_item, prs_mid, its_mid, bys_mid, byte_c, callG_pair, callG_time, callG_head, callG_item, tupG_pair, tupG_time, tupG_head, tupG_item, h_0, i_0, h_1, i_1, h_2, i_2, h_3, i_3, h_4, i_4, h_5, i_5, h_6, i_6, h_7, i_7, h_8, i_8, h_9, i_9, h_10, i_10, h_11, i_11, h_12, i_12, h_13, i_13, i_14, p_0, p_1, t_0, t_1]
    by_cases h2 : j < 0
    · simp (disch := first | omega | (simp only [List.length_append, List.length_cons, List.length_nil, List.length_take, List.length_drop]; done) | (simp only [List.length_append, List.length_cons, List.length_nil, List.length_take, List.length_drop]; omega) | fail) only [bif_t, bif_f, bif_n, bif_a, callB_ok, callI_ok, callS_ok, callL_ok, callF_ok, callT_ok, tupB_ok, tupI_ok, tupS_ok, tupL_ok, tupF_ok, atNil_ok, wrap1, wrapM, wrapP, Int.toNat_natCast, svs_len, ivs_len, bvs_len, str_size, svs_mid, ivs_mid, str_dec, str_ext, str_byte, mid_byte, mid_cut, List.length_nil, List.length_singleton, svs_snoc, ivs_snoc, svs_take, svs_drop, str_app, List.take_length, List.drop_zero, List.nil_append, cond_true, cond_false, Option.bind_some, Bool.not_true, Bool.not_false, Bool.true_and, Bool.and_true, bys_len, prs_len, its_len, cells_pair, cells_time, cells_head, cells_item, fold_pair, fold_time, fold_head, fold_ihead, fold_item, prs_mid, its_mid, bys_mid, byte_c, callG_pair, callG_time, callG_head, callG_item, tupG_pair, tupG_time, tupG_head, tupG_item, h_0, i_0, h_1, i_1, h_2, i_2, h_3, i_3, h_4, i_4, h_5, i_5, h_6, i_6, h_7, i_7, h_8, i_8, h_9, i_9, h_10, i_10, h_11, i_11, h_12, i_12, h_13, i_13, i_14, p_0, p_1, t_0, t_1]
    by_cases h3 : i ≥ l.length
    · simp (disch := first | omega | (simp only [List.length_append, List.length_cons, List.length_nil, List.length_take, List.length_drop]; done) | (simp only [List.length_append, List.length_cons, List.length_nil, List.length_take, List.length_drop]; omega) | fail) only [bif_t, bif_f, bif_n, bif_a, callB_ok, callI_ok, callS_ok, callL_ok, callF_ok, callT_ok, tupB_ok, tupI_ok, tupS_ok, tupL_ok, tupF_ok, atNil_ok, wrap1, wrapM, wrapP, Int.toNat_natCast, svs_len, ivs_len, bvs_len, str_size, svs_mid, ivs_mid, str_dec, str_ext, str_byte, mid_byte, mid_cut, List.length_nil, List.length_singleton, svs_snoc, ivs_snoc, svs_take, svs_drop, str_app, List.take_length, List.drop_zero, List.nil_append, cond_true, cond_false, Option.bind_some, Bool.not_true, Bool.not_false, Bool.true_and, Bool.and_true, bys_len, prs_len, its_len, cells_pair, cells_time, cells_head, cells_item, fold_pair, fold_time, fold_head, fold_ihead, fold_item, prs_mid, its_mid, bys_mid, byte_c, callG_pair, callG_time, callG_head, callG_item, tupG_pair, tupG_time, tupG_head, tupG_item, h_0, i_0, h_1, i_1, h_2, i_2, h_3, i_3, h_4, i_4, h_5, i_5, h_6, i_6, h_7, i_7, h_8, i_8, h_9, i_9, h_10, i_10, h_11, i_11, h_12, i_12, h_13, i_13, i_14, p_0, p_1, t_0, t_1]
    by_cases h4 : j ≥ l.length
    · simp (disch := first | omega | (simp only [List.length_append, List.length_cons, List.length_nil, List.length_take, List.length_drop]; done) | (simp only [List.length_append, List.length_cons, List.length_nil, List.length_take, List.length_drop]; omega) | fail) only [bif_t, bif_f, bif_n, bif_a, callB_ok, callI_ok, callS_ok, callL_ok, callF_ok, callT_ok, tupB_ok, tupI_ok, tupS_ok, tupL_ok, tupF_ok, atNil_ok, wrap1, wrapM, wrapP, Int.toNat_natCast, svs_len, ivs_len, bvs_len, str_size, svs_mid, ivs_mid, str_dec, str_ext, str_byte, mid_byte, mid_cut, List.length_nil, List.length_singleton, svs_snoc, ivs_snoc, svs_take, svs_drop, str_app, List.take_length, List.drop_zero, List.nil_append, cond_true, cond_false, Option.bind_some, Bool.not_true, Bool.not_false, Bool.true_and, Bool.and_true, bys_len, prs_len, its_len, cells_pair, cells_time, cells_head, cells_item, fold_pair, fold_time, fold_head, fold_ihead, fold_item, prs_mid, its_mid, bys_mid, byte_c, callG_pair, callG_time, callG_head, callG_item, tupG_pair, tupG_time, tupG_head, tupG_item, h_0, i_0, h_1, i_1, h_2, i_2, h_3, i_3, h_4, i_4, h_5, i_5, h_6, i_6, h_7, i_7, h_8, i_8, h_9, i_9, h_10, i_10, h_11, i_11, h_12, i_12, h_13, i_13, i_14, p_0, p_1, t_0, t_1]
    have h5 : i = j := by omega
    simp (disch := first | omega | (simp only [List.length_append, List.length_cons, List.length_nil, List.length_take, List.length_drop]; done) | (simp only [List.length_append, List.length_cons, List.length_nil, List.length_take, List.length_drop]; omega) | fail) only [bif_t, bif_f, bif_n, bif_a, callB_ok, callI_ok, callS_ok, callL_ok, callF_ok, callT_ok, tupB_ok, tupI_ok, tupS_ok, tupL_ok, tupF_ok, atNil_ok, wrap1, wrapM, wrapP, Int.toNat_natCast, svs_len, ivs_len, bvs_len, str_size, svs_mid, ivs_mid, str_dec, str_ext, str_byte, mid_byte, mid_cut, List.length_nil, List.length_singleton, svs_snoc, ivs_snoc, svs_take, svs_drop, str_app, List.take_length, List.drop_zero, List.nil_append, cond_true, cond_false, Option.bind_some, Bool.not_true, Bool.not_false, Bool.true_and, Bool.and_true, bys_len, prs_len, its_len, cells_pair, cells_time, cells_head, cells_item, fold_pair, fold_time, fold_head, fold_ihead, fold_item, prs_mid, its_mid, bys_mid, byte_c, callG_pair, callG_time, callG_head, callG_item, tupG_pair, tupG_time, tupG_head, tupG_item, h_0, i_0, h_1, i_1, h_2, i_2, h_3, i_3, h_4, i_4, h_5, i_5, h_6, i_6, h_7, i_7, h_8, i_8, h_9, i_9, h_10, i_10, h_11, i_11, h_12, i_12, h_13, i_13, i_14, p_0, p_1, t_0, t_1]
/-- What leans on what, by places. -/
def rel (l : List Item) (i j : Nat) : Bool := leanAt l i j
/-- What is taken, as flags. -/
def flags (m : Nat) (out : List Nat) : List Bool := (List.range m).map out.contains
def nats (out : List Nat) : List Int := out.map fun i : Nat => ((i : Nat) : Int)
theorem flags_len (m : Nat) (out : List Nat) : (flags m out).length = m := by simp [flags]
theorem flags_at {m : Nat} {out : List Nat} {i : Nat} (h : i < m) {β : Type} (K : Bool → Option β) : (((bvs (flags m out))[i]?).bind fun y => cellB (AV.cells y) 0 K) = K (out.contains i) := by
  rw [bvs_at _ _ (by rw [flags_len]; exact h)]
  congr 1
  simp [flags]
theorem flags_get {m : Nat} {out : List Nat} {i : Nat} (h : i < m) {β : Type} (F : AV → Option β) : ((bvs (flags m out))[i]?).bind F = F (bv (out.contains i)) := by
  unfold bvs flags
  rw [List.getElem?_map, List.getElem?_map, List.getElem?_range h]
  rfl
theorem flags_set {m : Nat} {out : List Nat} {i : Nat} (h : i < m) : (bvs (flags m out)).set i (mkElem 1 (splice (AV.cells (bv (out.contains i))) 0 [(.bool true)]) (bv (out.contains i))) = bvs (flags m (out ++ [i])) := by
  apply List.ext_getElem?
  intro j
  rw [List.getElem?_set]
  unfold bvs flags
  by_cases hij : i = j
  · subst hij
    rw [if_pos rfl]
    simp [h, bv, mkElem, splice, AV.cells]
  · rw [if_neg hij]
    simp only [List.getElem?_map]
    by_cases hj : j < m
    · rw [List.getElem?_range hj]
      simp only [Option.map_some, Option.some.injEq, bv, AV.bool.injEq]
      rw [Bool.eq_iff_iff]
      simp [hij, eq_comm]
    · rw [List.getElem?_eq_none (by simp; omega)]
      rfl
theorem nats_snoc (out : List Nat) (i : Nat) : nats out ++ [((i : Nat) : Int)] = nats (out ++ [i]) := by simp [nats]
theorem nats_len (out : List Nat) : (nats out).length = out.length := by simp [nats]
section
variable (l : List Item) (hs : Short l) (hk : 10000 < k) (hl : l.length ≤ 12)
/-- What a choice leads to. -/
noncomputable def led (E : Ext) (k n : Nat) (l : List Item) (k0 : Nat) (s14 : Nat) (out : List Nat) (c : Nat) : Option AV := order_Sorted_L0 (kp E k (n + 7)) k k0 (its l) ((l.length : Nat) : Int) ((s14 + 1 : Nat) : Int) (bvs (flags l.length (out ++ [c]))) (ivs (nats (out ++ [c])))
include hs hk hl in
theorem sorted2 (k0 k1 s14 : Nat) (out : List Nat) (i : Nat) (s5 : Int) (hi : i < l.length) (ho : out.length ≤ 12) (h14 : s14 ≤ 12) : ∀ (m j : Nat) (w : Bool) (k2 : Nat), j + m = l.length → m < k2 →
    order_Sorted_L2 (kp E k (n + 7)) k k1 k0 k2 (its l) s5 ((i : Nat) : Int) w ((l.length : Nat) : Int) ((s14 : Nat) : Int) ((l.length : Nat) : Int) ((i : Nat) : Int) ((l.length : Nat) : Int) ((j : Nat) : Int) (bvs (flags l.length out)) (ivs (nats out)) =
    if w = false ∧ (List.range' j m).all (fun q => out.contains q || !rel l i q) then led E k n l k0 s14 out i
    else order_Sorted_L1 (kp E k (n + 7)) k k0 k1 (its l) s5 ((l.length : Nat) : Int) ((s14 : Nat) : Int) ((l.length : Nat) : Int) ((i + 1 : Nat) : Int) (bvs (flags l.length out)) (ivs (nats out))
  | 0, j, w, k2 + 1, hj, hk2 => by
    rw [order_Sorted_L2_s]
    simp (disch := first | omega | (simp only [List.length_append, List.length_cons, List.length_nil, List.length_take, List.length_drop]; done) | (simp only [List.length_append, List.length_cons, List.length_nil, List.length_take, List.length_drop]; omega) | fail) only [bif_t, bif_f, bif_n, bif_a, callB_ok, callI_ok, callS_ok, callL_ok, callF_ok, callT_ok, tupB_ok, tupI_ok, tupS_ok, tupL_ok, tupF_ok, atNil_ok, wrap1, wrapM, wrapP, Int.toNat_natCast, svs_len, ivs_len, bvs_len, str_size, svs_mid, ivs_mid, str_dec, str_ext, str_byte, mid_byte, mid_cut, List.length_nil, List.length_singleton, svs_snoc, ivs_snoc, svs_take, svs_drop, str_app, List.take_length, List.drop_zero, List.nil_append, cond_true, cond_false, Option.bind_some, Bool.not_true, Bool.not_false, Bool.true_and, Bool.and_true, bys_len, prs_len, its_len, cells_pair, cells_time, cells_head, cells_item, fold_pair, fold_time, fold_head, fold_ihead, fold_item, prs_mid, its_mid, bys_mid, byte_c, callG_pair, callG_time, callG_head, callG_item, tupG_pair, tupG_time, tupG_head, tupG_item, h_0, i_0, h_1, i_1, h_2, i_2, h_3, i_3, h_4, i_4, h_5, i_5, h_6, i_6, h_7, i_7, h_8, i_8, h_9, i_9, h_10, i_10, h_11, i_11, h_12, i_12, h_13, i_13, i_14, p_0, p_1, t_0, t_1, flags_len, flags_get, flags_set, nats_snoc, nats_len]
    cases w with
    | true => rw [if_neg (by simp)]; rfl
    | false => rw [if_pos ⟨rfl, rfl⟩]; rfl
  | m + 1, j, w, k2 + 1, hj, hk2 => by
    have ih := sorted2 k0 k1 s14 out i s5 hi ho h14 m (j + 1)
    have hL := Leans_k (E := E) (k := k) (n := n) l ((i : Nat) : Int) ((j : Nat) : Int) hs hk (by omega)
    rw [order_Sorted_L2_s]
    simp (disch := first | omega | (simp only [List.length_append, List.length_cons, List.length_nil, List.length_take, List.length_drop]; done) | (simp only [List.length_append, List.length_cons, List.length_nil, List.length_take, List.length_drop]; omega) | fail) only [bif_t, bif_f, bif_n, bif_a, callB_ok, callI_ok, callS_ok, callL_ok, callF_ok, callT_ok, tupB_ok, tupI_ok, tupS_ok, tupL_ok, tupF_ok, atNil_ok, wrap1, wrapM, wrapP, Int.toNat_natCast, svs_len, ivs_len, bvs_len, str_size, svs_mid, ivs_mid, str_dec, str_ext, str_byte, mid_byte, mid_cut, List.length_nil, List.length_singleton, svs_snoc, ivs_snoc, svs_take, svs_drop, str_app, List.take_length, List.drop_zero, List.nil_append, cond_true, cond_false, Option.bind_some, Bool.not_true, Bool.not_false, Bool.true_and, Bool.and_true, bys_len, prs_len, its_len, cells_pair, cells_time, cells_head, cells_item, fold_pair, fold_time, fold_head, fold_ihead, fold_item, prs_mid, its_mid, bys_mid, byte_c, callG_pair, callG_time, callG_head, callG_item, tupG_pair, tupG_time, tupG_head, tupG_item, h_0, i_0, h_1, i_1, h_2, i_2, h_3, i_3, h_4, i_4, h_5, i_5, h_6, i_6, h_7, i_7, h_8, i_8, h_9, i_9, h_10, i_10, h_11, i_11, h_12, i_12, h_13, i_13, i_14, p_0, p_1, t_0, t_1, flags_len, flags_at, hL, ih]
    rw [List.range'_succ, List.all_cons]
    cases w with
    | true => simp only [cond_true, reduceCtorEq, false_and, if_false]
    | false =>
      cases hc : out.contains j with
      | true => simp only [cond_true, cond_false, Bool.true_or, Bool.true_and, true_and]
      | false =>
        have hr : rel l i j = leanAt l ((i : Nat) : Int) ((j : Nat) : Int) := rfl
        rw [hr]
        cases leanAt l ((i : Nat) : Int) ((j : Nat) : Int) with
        | true => simp only [cond_false, reduceCtorEq, false_and, if_false, Bool.not_true, Bool.false_or, Bool.false_and, Bool.false_eq_true, and_false]
        | false => simp only [cond_false, Bool.false_or, Bool.not_false, Bool.true_and, true_and]
include hs hk hl in
theorem sorted1 (k0 s14 : Nat) (out : List Nat) (ho : out.length ≤ 12) (h14 : s14 ≤ 12) (hleft : ∃ c, P40.choose l.length (rel l) out.contains (List.range l.length) none = some c) : ∀ (m i : Nat) (nx : Option Nat) (k1 : Nat), i + m = l.length → m < k1 → (∀ c, nx = some c → c < l.length) →
    ∀ c, P40.choose l.length (rel l) out.contains (List.range' i m) nx = some c →
    order_Sorted_L1 (kp E k (n + 7)) k k0 k1 (its l) (match nx with | some c => ((c : Nat) : Int) | none => -1) ((l.length : Nat) : Int) ((s14 : Nat) : Int) ((l.length : Nat) : Int) ((i : Nat) : Int) (bvs (flags l.length out)) (ivs (nats out)) = led E k n l k0 s14 out c
  | 0, i, nx, k1 + 1, hi, hk1, hnx, c, hc => by
    have hc : nx = some c := hc
    subst hc
    have := hnx c rfl
    rw [order_Sorted_L1_s]
    simp (disch := first | omega | (simp only [List.length_append, List.length_cons, List.length_nil, List.length_take, List.length_drop]; done) | (simp only [List.length_append, List.length_cons, List.length_nil, List.length_take, List.length_drop]; omega) | fail) only [bif_t, bif_f, bif_n, bif_a, callB_ok, callI_ok, callS_ok, callL_ok, callF_ok, callT_ok, tupB_ok, tupI_ok, tupS_ok, tupL_ok, tupF_ok, atNil_ok, wrap1, wrapM, wrapP, Int.toNat_natCast, svs_len, ivs_len, bvs_len, str_size, svs_mid, ivs_mid, str_dec, str_ext, str_byte, mid_byte, mid_cut, List.length_nil, List.length_singleton, svs_snoc, ivs_snoc, svs_take, svs_drop, str_app, List.take_length, List.drop_zero, List.nil_append, cond_true, cond_false, Option.bind_some, Bool.not_true, Bool.not_false, Bool.true_and, Bool.and_true, bys_len, prs_len, its_len, cells_pair, cells_time, cells_head, cells_item, fold_pair, fold_time, fold_head, fold_ihead, fold_item, prs_mid, its_mid, bys_mid, byte_c, callG_pair, callG_time, callG_head, callG_item, tupG_pair, tupG_time, tupG_head, tupG_item, h_0, i_0, h_1, i_1, h_2, i_2, h_3, i_3, h_4, i_4, h_5, i_5, h_6, i_6, h_7, i_7, h_8, i_8, h_9, i_9, h_10, i_10, h_11, i_11, h_12, i_12, h_13, i_13, i_14, p_0, p_1, t_0, t_1, flags_len, flags_get, flags_set, nats_snoc, nats_len]
    rfl
  | m + 1, i, nx, k1 + 1, hi, hk1, hnx, c, hc => by
    rw [List.range'_succ, P40.choose] at hc
    have hall : (List.range l.length).all (fun q => out.contains q || !rel l i q) = (List.range' 0 l.length).all (fun q => out.contains q || !rel l i q) := by rw [List.range_eq_range']
    have e2 := fun s5 => sorted2 (E := E) (k := k) (n := n) l hs hk hl k0 k1 s14 out i s5 (by omega) ho h14 l.length 0 false k (by omega) (by omega)
    simp only [true_and] at e2
    rw [show (((0 : Nat) : Int)) = (0 : Int) from rfl] at e2
    rw [order_Sorted_L1_s]
    cases ht : out.contains i with
    | true =>
      rw [if_pos ht] at hc
      have := sorted1 k0 s14 out ho h14 hleft m (i + 1) nx k1 (by omega) (by omega) hnx c hc
      simp (disch := first | omega | (simp only [List.length_append, List.length_cons, List.length_nil, List.length_take, List.length_drop]; done) | (simp only [List.length_append, List.length_cons, List.length_nil, List.length_take, List.length_drop]; omega) | fail) only [bif_t, bif_f, bif_n, bif_a, callB_ok, callI_ok, callS_ok, callL_ok, callF_ok, callT_ok, tupB_ok, tupI_ok, tupS_ok, tupL_ok, tupF_ok, atNil_ok, wrap1, wrapM, wrapP, Int.toNat_natCast, svs_len, ivs_len, bvs_len, str_size, svs_mid, ivs_mid, str_dec, str_ext, str_byte, mid_byte, mid_cut, List.length_nil, List.length_singleton, svs_snoc, ivs_snoc, svs_take, svs_drop, str_app, List.take_length, List.drop_zero, List.nil_append, cond_true, cond_false, Option.bind_some, Bool.not_true, Bool.not_false, Bool.true_and, Bool.and_true, bys_len, prs_len, its_len, cells_pair, cells_time, cells_head, cells_item, fold_pair, fold_time, fold_head, fold_ihead, fold_item, prs_mid, its_mid, bys_mid, byte_c, callG_pair, callG_time, callG_head, callG_item, tupG_pair, tupG_time, tupG_head, tupG_item, h_0, i_0, h_1, i_1, h_2, i_2, h_3, i_3, h_4, i_4, h_5, i_5, h_6, i_6, h_7, i_7, h_8, i_8, h_9, i_9, h_10, i_10, h_11, i_11, h_12, i_12, h_13, i_13, i_14, p_0, p_1, t_0, t_1, flags_len, flags_at, ht, this]
    | false =>
      rw [if_neg (by rw [ht]; simp)] at hc
      rw [hall] at hc
      have hno : ∀ x : Option Nat, (match x.or (some i) with | some c => ((c : Nat) : Int) | none => -1) = (match x with | some c => ((c : Nat) : Int) | none => ((i : Nat) : Int)) := by intro x; cases x <;> rfl
      have step : ∀ s5 : Int, s5 = (match nx.or (some i) with | some c => ((c : Nat) : Int) | none => -1) → order_Sorted_L2 (kp E k (n + 7)) k k1 k0 k (its l) s5 ((i : Nat) : Int) false ((l.length : Nat) : Int) ((s14 : Nat) : Int) ((l.length : Nat) : Int) ((i : Nat) : Int) ((l.length : Nat) : Int) 0 (bvs (flags l.length out)) (ivs (nats out)) = led E k n l k0 s14 out c := by
        rintro s5 rfl
        rw [e2]
        split
        · rename_i ha
          rw [if_pos ha] at hc
          cases hc
          rfl
        · rename_i ha
          rw [if_neg ha] at hc
          exact sorted1 k0 s14 out ho h14 hleft m (i + 1) (nx.or (some i)) k1 (by omega) (by omega) (fun c' hc' => by
            cases nx with
            | none => cases hc'; omega
            | some x => cases hc'; exact hnx _ rfl) c hc
      cases nx with
      | none =>
        simp (disch := first | omega | (simp only [List.length_append, List.length_cons, List.length_nil, List.length_take, List.length_drop]; done) | (simp only [List.length_append, List.length_cons, List.length_nil, List.length_take, List.length_drop]; omega) | fail) only [bif_t, bif_f, bif_n, bif_a, callB_ok, callI_ok, callS_ok, callL_ok, callF_ok, callT_ok, tupB_ok, tupI_ok, tupS_ok, tupL_ok, tupF_ok, atNil_ok, wrap1, wrapM, wrapP, Int.toNat_natCast, svs_len, ivs_len, bvs_len, str_size, svs_mid, ivs_mid, str_dec, str_ext, str_byte, mid_byte, mid_cut, List.length_nil, List.length_singleton, svs_snoc, ivs_snoc, svs_take, svs_drop, str_app, List.take_length, List.drop_zero, List.nil_append, cond_true, cond_false, Option.bind_some, Bool.not_true, Bool.not_false, Bool.true_and, Bool.and_true, bys_len, prs_len, its_len, cells_pair, cells_time, cells_head, cells_item, fold_pair, fold_time, fold_head, fold_ihead, fold_item, prs_mid, its_mid, bys_mid, byte_c, callG_pair, callG_time, callG_head, callG_item, tupG_pair, tupG_time, tupG_head, tupG_item, h_0, i_0, h_1, i_1, h_2, i_2, h_3, i_3, h_4, i_4, h_5, i_5, h_6, i_6, h_7, i_7, h_8, i_8, h_9, i_9, h_10, i_10, h_11, i_11, h_12, i_12, h_13, i_13, i_14, p_0, p_1, t_0, t_1, flags_len, flags_at, ht, step]
        exact step _ rfl
      | some x =>
        simp (disch := first | omega | (simp only [List.length_append, List.length_cons, List.length_nil, List.length_take, List.length_drop]; done) | (simp only [List.length_append, List.length_cons, List.length_nil, List.length_take, List.length_drop]; omega) | fail) only [bif_t, bif_f, bif_n, bif_a, callB_ok, callI_ok, callS_ok, callL_ok, callF_ok, callT_ok, tupB_ok, tupI_ok, tupS_ok, tupL_ok, tupF_ok, atNil_ok, wrap1, wrapM, wrapP, Int.toNat_natCast, svs_len, ivs_len, bvs_len, str_size, svs_mid, ivs_mid, str_dec, str_ext, str_byte, mid_byte, mid_cut, List.length_nil, List.length_singleton, svs_snoc, ivs_snoc, svs_take, svs_drop, str_app, List.take_length, List.drop_zero, List.nil_append, cond_true, cond_false, Option.bind_some, Bool.not_true, Bool.not_false, Bool.true_and, Bool.and_true, bys_len, prs_len, its_len, cells_pair, cells_time, cells_head, cells_item, fold_pair, fold_time, fold_head, fold_ihead, fold_item, prs_mid, its_mid, bys_mid, byte_c, callG_pair, callG_time, callG_head, callG_item, tupG_pair, tupG_time, tupG_head, tupG_item, h_0, i_0, h_1, i_1, h_2, i_2, h_3, i_3, h_4, i_4, h_5, i_5, h_6, i_6, h_7, i_7, h_8, i_8, h_9, i_9, h_10, i_10, h_11, i_11, h_12, i_12, h_13, i_13, i_14, p_0, p_1, t_0, t_1, flags_len, flags_at, ht]
        exact step _ rfl
end
end Go.Proofs.YteamddaglbleeaaDoor.Eng.U


/- slices.Clone, walked: at pairs and at bytes. -/
set_option linter.unusedVariables false
set_option linter.unusedSimpArgs false
set_option linter.unusedSectionVars false
namespace Go.Proofs.YteamddaglbleeaaDoor.S40
open Go Go.RowKit Go.Shelf Go.Proofs Go.Proofs.YteamddaglbleeaaDoor.Eng Go.Proofs.YteamddaglbleeaaDoor.Eng.U

theorem infoP : (Tryd.prog.info? 58).map (fun i => (i.zero, i.size, i.bytes)) = some (some (.agg #[.string ⟨#[]⟩, .string ⟨#[]⟩]), 2, 32) := by kernel_rfl
theorem infoB : (Tryd.prog.info? 5).map (fun i => (i.zero, i.size, i.bytes)) = some (some (.int .u8 0), 1, 1) := by kernel_rfl
theorem cell_alloc {w : World} {o : Obj} {x : Addr} {u : Value} (h : w.cell? x = some u) : (w.alloc o).cell? x = some u :=
  (World.cell?_of_block (Below.heap_alloc w o x.block (World.block_lt_of_cell? w x h))).trans h
set_option maxHeartbeats 2000000 in
set_option maxRecDepth 100000 in
theorem pairs_nil (w : World) : Calls Tryd.prog 31 #[.slice none 0 0] w fun e w' => e = .returned (.slice none 0 0) ∧ w' = w := by
  have hnil := fun (W : World) (a : Option Addr) (n c : Nat) => Go.Lib.run_eql_slice_nil (P := Tryd.prog) W 29 58 a n c 0 0 Tryd.underlying29
  go_enter Tryd.func31, Tryd.ntmps31
  go_wp2
  go_ret
  exact ⟨rfl, rfl⟩
set_option maxHeartbeats 2000000 in
set_option maxRecDepth 100000 in
theorem bytes_nil (w : World) : Calls Tryd.prog 32 #[.slice none 0 0] w fun e w' => e = .returned (.slice none 0 0) ∧ w' = w := by
  have hnil := fun (W : World) (a : Option Addr) (n c : Nat) => Go.Lib.run_eql_slice_nil (P := Tryd.prog) W 32 5 a n c 0 0 Tryd.underlying32
  go_enter Tryd.func32, Tryd.ntmps32
  go_wp2
  go_ret
  exact ⟨rfl, rfl⟩
set_option maxHeartbeats 2000000 in
set_option maxRecDepth 100000 in
theorem pairs_some (a : Addr) (m c : Nat) (news : List Value) (w : World) (hl : news.length = m * 2) (hnews : ∀ j u, news[j]? = some u → w.cell? (a.add j) = some u) (h1 : ∀ u ∈ news, u.oneCell' = true) (hm : m ≤ 1000000000) :
    Calls Tryd.prog 31 #[.slice (some a) m c] w fun e w' => ∃ v, e = .returned v ∧ w'.ownsRow w.heap.size 58 2 v m news ∧ Below w.heap.size w w' := by
  have hnil := fun (W : World) (a : Option Addr) (n c : Nat) => Go.Lib.run_eql_slice_nil (P := Tryd.prog) W 29 58 a n c 0 0 Tryd.underlying29
  obtain ⟨i0, hi, hz0, hz1, hz2⟩ := info_parts infoP
  refine (callsIn_wide (n := 3)).1 ?_
  refine callsIn_of_wp Tryd.func31 rfl trivial ?_ rfl
  simp only [Tryd.ntmps31, List.size_toArray, List.length_cons, List.length_nil, Nat.reduceAdd, Nat.reduceSub, Array.replicate_succ, Array.replicate_zero, List.push_toArray, List.append_toArray, List.nil_append, List.cons_append]
  have hrow : (w.alloc (.cells #[] 58)).ownsRow w.heap.size 58 2 (.slice (some ⟨w.heap.size, 0, none⟩) 0 0) 0 [] := World.ownsRow_made w #[] 0 (Nat.le_refl _) (Nat.zero_le _) rfl
  gi_wp2_with (gi_at_builtin; refine wpListIn_append_own _ rfl _ _ 29 rfl w.heap.size 58 i0 (.agg #[.string ⟨#[]⟩, .string ⟨#[]⟩]) 2 32 Tryd.underlying29 hi hz0 hz1 hz2 rfl (by decide) _ _ _ rfl hrow a m c news rfl hl (fun j u h => cell_alloc (hnews j u h)) h1 (by simp only [maxLen]; omega) (by omega) (by simp) ?_; intro v' w1 hown' hgrow _)
  refine bodyPost_ret (results_tmp rfl _ _ _) rfl ?_
  refine ⟨_, rfl, by simpa using hown', ((Below.refl _ w).alloc (Nat.le_refl _) _).grown hgrow (by simp) fun k e => ?_⟩
  have e : some w.heap.size = some k := e
  cases e
  exact Nat.le_refl _
set_option maxHeartbeats 2000000 in
set_option maxRecDepth 100000 in
theorem bytes_some (a : Addr) (m c : Nat) (news : List Value) (w : World) (hl : news.length = m * 1) (hnews : ∀ j u, news[j]? = some u → w.cell? (a.add j) = some u) (h1 : ∀ u ∈ news, u.oneCell' = true) (hm : m ≤ 1000000000) :
    Calls Tryd.prog 32 #[.slice (some a) m c] w fun e w' => ∃ v, e = .returned v ∧ w'.ownsRow w.heap.size 5 1 v m news ∧ Below w.heap.size w w' := by
  have hnil := fun (W : World) (a : Option Addr) (n c : Nat) => Go.Lib.run_eql_slice_nil (P := Tryd.prog) W 32 5 a n c 0 0 Tryd.underlying32
  obtain ⟨i0, hi, hz0, hz1, hz2⟩ := info_parts infoB
  refine (callsIn_wide (n := 3)).1 ?_
  refine callsIn_of_wp Tryd.func32 rfl trivial ?_ rfl
  simp only [Tryd.ntmps32, List.size_toArray, List.length_cons, List.length_nil, Nat.reduceAdd, Nat.reduceSub, Array.replicate_succ, Array.replicate_zero, List.push_toArray, List.append_toArray, List.nil_append, List.cons_append]
  have hrow : (w.alloc (.cells #[] 5)).ownsRow w.heap.size 5 1 (.slice (some ⟨w.heap.size, 0, none⟩) 0 0) 0 [] := World.ownsRow_made w #[] 0 (Nat.le_refl _) (Nat.zero_le _) rfl
  gi_wp2_with (gi_at_builtin; refine wpListIn_append_own _ rfl _ _ 32 rfl w.heap.size 5 i0 (.int .u8 0) 1 1 Tryd.underlying32 hi hz0 hz1 hz2 rfl (by decide) _ _ _ rfl hrow a m c news rfl hl (fun j u h => cell_alloc (hnews j u h)) h1 (by simp only [maxLen]; omega) (by omega) (by simp) ?_; intro v' w1 hown' hgrow _)
  refine bodyPost_ret (results_tmp rfl _ _ _) rfl ?_
  refine ⟨_, rfl, by simpa using hown', ((Below.refl _ w).alloc (Nat.le_refl _) _).grown hgrow (by simp) fun k e => ?_⟩
  have e : some w.heap.size = some k := e
  cases e
  exact Nat.le_refl _
end Go.Proofs.YteamddaglbleeaaDoor.S40


/- path.Parts, walked: what it answers is a new row of the texts between slashes that are neither empty nor a point. The iterator (strings.SplitSeq's) keeps its place in a box of its own: the law for a range over such a function stands here too. After the library's worked callers of range-over-func. -/
set_option linter.unusedVariables false
set_option linter.unusedSectionVars false
set_option linter.unusedSimpArgs false
namespace Go.Proofs.YteamddaglbleeaaDoor.S24
open Go Go.RowKit Go.Shelf Go.Proofs Go.Proofs.YteamddaglbleeaaDoor.P24 Go.Proofs.YteamddaglbleeaaDoor.Eng
attribute [local go_sem] Oper.semAt_some

theorem index_cut : ∀ l, Lib.indexByte l 47 = match cutAt l with | none => -1 | some (a, b) => (a.length : Int)
  | [] => rfl
  | c :: l => by
    rw [cutAt_cons]
    unfold Lib.indexByte
    by_cases h : c = 47
    · subst h; simp
    · rw [if_neg h, if_neg (by simpa using h), index_cut l]
      cases hc : cutAt l with
      | none => simp
      | some p =>
        simp only [Option.map_some, List.length_cons]
        rw [if_neg (by simp)]
        rfl
theorem str_cut0 (x y : List UInt8) : (str (x ++ 47 :: y)).extract 0 x.length = str x := by
  rw [str_ext, List.drop_zero, List.take_left' rfl]
theorem str_cut1 (x y : List UInt8) : (str (x ++ 47 :: y)).extract (x.length + 1) (x.length + y.length + 1) = str y := by
  rw [str_ext, List.take_of_length_le (by simp; omega), show x ++ 47 :: y = (x ++ [47]) ++ y from by simp, List.drop_left' (by simp)]
theorem str_toList (l : List UInt8) : (str l).data.toList = l := rfl

/-- What an iterator with boxes of its own gives to a body that never leaves. -/
def Gives (P : Program) (n : Nat) (g : Nat) (lb : Array Value) (bx : Nat → Prop) (Nn : Nat) (out : List (List UInt8)) (w : World) : Prop :=
  ∀ (l : Nat) (J : List (List UInt8) → World → Prop) (W : World), (∀ b, bx b → W.heap[b]? = w.heap[b]?) →
    (∀ pre W v b, bx b → J pre W → J pre (W.setCell ⟨b, 0, none⟩ v)) →
    (∀ pre x W1, J pre W1 → x.length < Nn → pre.length < Nn → YieldAt Fence.wide (n - 1) P l #[.string (str x)] W1 fun e W' => e = .returned (.bool true) ∧ J (pre ++ [x]) W' ∧ ∀ b, bx b → W'.heap[b]? = W1.heap[b]?) →
    J [] W → CallsIn Fence.wide n P g (#[.func (.yield l) #[] #[]] ++ lb) W fun e W' => (∃ v, e = .returned v) ∧ J out W'
theorem wpIn_rangeFunc_gives {P : Program} {n : Nat} {g : Operand} {ps : Array Tmp} {assign body : Code} {Q : Exit → Act → World → Prop} {a : Act} {w : World}
    {gf : Nat} {lb : Array Value} (hg : a.eval g = .func (.func gf) #[] lb) (eg : ∀ args w, (callFunc gf args).run P w = .ok (.enter gf args) w)
    {bx : Nat → Prop} {Nn : Nat} {out : List (List UInt8)} (hseq : Gives P (n - 1) gf lb bx Nn out w) (hps : ps.size = 1) (hbx : ∀ b, bx b → b < w.heap.size)
    (I : List (List UInt8) → World → Prop) (hI : OwnFrom w.heap.size I) (hIb : ∀ pre W v b, bx b → I pre W → I pre (W.setCell ⟨b, 0, none⟩ v)) (h0 : I [] w) (a₁ : List UInt8 → Act)
    (hassign : ∀ (l : Nat) (x : List UInt8) (W : World) (K : Act → World → Prop), K (a₁ x) W →
      assign.wpIn (Fence.wide.inRound l) (n - 1 - 1) P (Exit.then K (fun _ _ _ => False)) { tmps := (ps.zip #[Value.string (str x)]).foldl (fun t (p, v) => t.setIfInBounds p v) a.tmps, defers := [] } W)
    (hbody : ∀ (l : Nat) (pre : List (List UInt8)) (x : List UInt8) (W : World), I pre W → x.length < Nn → pre.length < Nn → body.wpIn (Fence.wide.inRound l) (n - 1 - 1) P (fun e _ W3 => e = .normal ∧ KeepsOthers W W3 ∧ (∀ b, bx b → W3.heap[b]? = W.heap[b]?) ∧ I (pre ++ [x]) W3) (a₁ x) W)
    (hdone : ∀ (D : Nat) (W : World), w.heap.size ≤ D → I out W → W.heap[D]? = some (.deferred (some [])) → Q .normal { a with defers := { target := .collected D, args := #[] } :: a.defers } W) :
    (Code.rangeFunc g ps assign body).wpIn Fence.wide n P Q a w := by
  refine wpIn_rangeFunc ?_
  intro fn hfn
  rw [show Fence.wide.round = none from rfl]
  obtain ⟨rec, hrec⟩ : ∃ rec : LoopState → Option Code → Loop, rec = fun st pe => { state := st, pending := pe, fn, tmps := a.tmps, params := ps, assign, body, defers := w.heap.size } := ⟨_, rfl⟩
  obtain ⟨W1, hW1⟩ : ∃ W1, (w.alloc (.deferred (some []))).alloc (.loop (rec .ready none)) = W1 := ⟨_, rfl⟩
  have hL1 : W1.heap[w.heap.size + 1]? = some (.loop (rec .ready none)) := by
    rw [← hW1]; have := World.alloc_heap_new (w.alloc (.deferred (some []))) (.loop (rec .ready none)); rwa [World.size_alloc] at this
  have hK1 : W1.heap[w.heap.size]? = some (.deferred (some [])) := by
    rw [← hW1]; exact (Below.heap_alloc _ _ _ (by simp)).trans (World.alloc_heap_new w _)
  have hI1 : I [] W1 := by rw [← hW1]; exact hI.alloc _ (hI.alloc _ h0)
  have hB1 : ∀ b, bx b → W1.heap[b]? = w.heap[b]? := fun b hb => by
    have := hbx b hb
    rw [← hW1]
    exact (Below.heap_alloc _ _ _ (by simp; omega)).trans (Below.heap_alloc _ _ _ this)
  refine ⟨w.heap.size + 1, [{ target := .collected w.heap.size, args := #[] }], W1, { target := .fn (.func gf) lb, args := #[.func (.yield (w.heap.size + 1)) #[] #[]] }, W1, gf,
    #[.func (.yield (w.heap.size + 1)) #[] #[]] ++ lb, W1, ?_, ?_, ?_, ?_, fun h => (by cases h), ?_⟩
  · rw [← hW1, hrec]; exact run_enterLoop_outer _ _ _ _ _
  · simp only [resolve, hg]
    simp [go_sem]
  · intro f' hf'; trivial
  · simp [invoke, go_sem, eg]
  · refine (hseq (w.heap.size + 1)
      (fun pre W => I pre W ∧ W.heap[w.heap.size + 1]? = some (.loop (rec .ready none)) ∧ W.heap[w.heap.size]? = some (.deferred (some [])))
      W1 hB1 (fun pre W v b hb hs => by
        have := hbx b hb
        exact ⟨hIb pre W v b hb hs.1, (Below.heap_setCell _ _ _ _ (by simp; omega)).trans hs.2.1, (Below.heap_setCell _ _ _ _ (by simp; omega)).trans hs.2.2⟩) ?_ ⟨hI1, hL1, hK1⟩).mono ?_
    · rintro pre x W ⟨hi, hl, hk⟩ hx hp
      have hlt : w.heap.size + 1 < W.heap.size := (Array.getElem?_eq_some_iff.1 hl).1
      have hy := run_yield (P := P) (args := #[.string (str x)]) hl (by rw [hrec]; exact hps.symm)
      rw [hrec] at hy
      refine ⟨fn, _, assign, body, hy, roundIn_of_wpIn hfn (hassign _ x W _ ⟨_, run_beginRound hl (by rw [hrec]), ?_⟩)⟩
      have hl2 : (W.putObj (w.heap.size + 1) (.loop { rec .ready none with state := .busy })).heap[w.heap.size + 1]? = some (.loop { rec .ready none with state := .busy }) := World.putObj_heap_same hlt
      have hk2 : (W.putObj (w.heap.size + 1) (.loop { rec .ready none with state := .busy })).heap[w.heap.size]? = some (.deferred (some [])) := (World.putObj_heap_other (by omega)).trans hk
      refine wpIn_mono (hbody _ pre x _ (hI.putObj _ hi (by omega) hl rfl) hx hp) ?_
      rintro e a3 W3 ⟨rfl, hk3, hb3, hi3⟩
      have hl3 := hk3.same _ _ hl2 rfl
      have hr := run_endRound (P := P) none hl3
      rw [hrec] at hr hl3
      refine ⟨_, _, hr, rfl, ⟨hI.putObj _ hi3 (by omega) hl3 rfl, ?_, (World.putObj_heap_other (by omega)).trans (hk3.same _ _ hk2 rfl)⟩, fun b hb => ?_⟩
      · rw [hrec]; exact World.putObj_heap_same (Array.getElem?_eq_some_iff.1 hl3).1
      · have := hbx b hb
        exact (World.putObj_heap_other (by omega)).trans ((hb3 b hb).trans (World.putObj_heap_other (by omega)))
    · rintro e W2 ⟨⟨v, rfl⟩, hi, hl, hk⟩
      exact ⟨none, _, by have := run_endLoop (P := P) hl (by rw [hrec]; simp); rw [hrec] at this; exact this, hdone _ _ (Nat.le_refl _) (hI.putObj _ hi (by omega) hl rfl) ((World.putObj_heap_other (by omega)).trans hk)⟩

/-- The text that a box holds. -/
def boxLen (b : Nat) (W : World) : Nat := match W.cell? ⟨b, 0, none⟩ with | some (.string s) => s.size | _ => 0

set_option maxHeartbeats 1000000 in
theorem split_seq (s sep : ByteArray) (w : World) : Calls Tryd.prog 67 #[.string s, .string sep, .int .i64 0] w fun e w' =>
    e = .returned (.func (.func 70) #[] #[.pointer (some ⟨w.heap.size + 1, 0, none⟩), .pointer (some ⟨w.heap.size, 0, none⟩), .pointer (some ⟨w.heap.size + 2, 0, none⟩)]) ∧
    w' = ((w.alloc (.cells #[.string s] 9)).alloc (.cells #[.string sep] 9)).alloc (.cells #[.int .i64 0] 3) := by
  go_enter Tryd.func67, Tryd.ntmps67
  go_wp2
  go_ret
  exact ⟨rfl, rfl⟩
set_option maxHeartbeats 1000000 in
theorem SplitSeq (s sep : ByteArray) (w : World) : Calls Tryd.prog 62 #[.string s, .string sep] w fun e w' =>
    e = .returned (.func (.func 70) #[] #[.pointer (some ⟨w.heap.size + 1, 0, none⟩), .pointer (some ⟨w.heap.size, 0, none⟩), .pointer (some ⟨w.heap.size + 2, 0, none⟩)]) ∧
    w' = ((w.alloc (.cells #[.string s] 9)).alloc (.cells #[.string sep] 9)).alloc (.cells #[.int .i64 0] 3) := by
  go_enter Tryd.func62, Tryd.ntmps62
  go_wp2_with (go_at_call 67; refine (split_seq _ _ _).mono ?_)
  rintro e w' ⟨rfl, rfl⟩
  go_wp2
  go_ret
  exact ⟨rfl, rfl⟩

/-- The iterator: every piece of the text, one after the other. -/
theorem iter_gives (b0 b1 b2 : Nat) (s : List UInt8) (Nn : Nat) (w : World) (h0 : Boxed w b0 9 (.string (str s))) (h1 : Boxed w b1 9 (.string ⟨#[47]⟩)) (h2 : Boxed w b2 3 (.int .i64 0)) (hn : b0 ≠ b1 ∧ b0 ≠ b2 ∧ b1 ≠ b2) (hN : s.length + 1 < Nn) (hN2 : s.length < 1000000) :
    Gives Tryd.prog 2 70 #[.pointer (some ⟨b1, 0, none⟩), .pointer (some ⟨b0, 0, none⟩), .pointer (some ⟨b2, 0, none⟩)] (fun b => b = b0 ∨ b = b1 ∨ b = b2) Nn (pieces s) w := by
  intro l J W hW hJ hY hJ0
  have h0 : Boxed W b0 9 (.string (str s)) := (hW b0 (.inl rfl)).trans h0
  have h1 : Boxed W b1 9 (.string ⟨#[47]⟩) := (hW b1 (.inr (.inl rfl))).trans h1
  have h2 : Boxed W b2 3 (.int .i64 0) := (hW b2 (.inr (.inr rfl))).trans h2
  have c0 := h0.cell
  have c1 := h1.cell
  have c2 := h2.cell
  refine callsIn_of_wp Tryd.func70 rfl trivial ?_ rfl
  simp only [Tryd.ntmps70, List.size_toArray, List.length_cons, List.length_nil, Nat.reduceAdd, Nat.reduceSub, Array.replicate_succ, Array.replicate_zero, List.push_toArray, List.append_toArray, List.nil_append, List.cons_append]
  gi_wp2
  gi_loopw [] (fun wr => ∃ (pre : List (List UInt8)) (rest : List UInt8), J pre wr ∧ pre ++ pieces rest = pieces s ∧ rest.length + pre.length ≤ s.length ∧ Boxed wr b0 9 (.string (str rest)) ∧ Boxed wr b1 9 (.string ⟨#[47]⟩) ∧ Boxed wr b2 3 (.int .i64 0)) (fun wr => boxLen b0 wr)
  case atStart => exact ⟨[], s, hJ0, rfl, by simp, h0, h1, h2⟩
  case round =>
    obtain ⟨pre, rest, hj, hps, hlen, k0, k1, k2⟩ := hrel
    have d0 := k0.cell
    have d1 := k1.cell
    have d2 := k2.cell
    have hix := index_cut rest
    gi_wp2_with (refine ⟨trivial, ?_⟩; gi_at_call 72; refine (callsIn_wide.2 (Tryd.strings_Index_one (str rest) 47 _)).mono ?_)
    rintro e w' ⟨rfl, rfl⟩
    rw [str_toList] at *
    cases hc : cutAt rest with
    | none =>
      rw [hc] at hix
      simp only at hix
      rw [hix]
      have hpc : pieces rest = [rest] := by rw [pieces_cut, hc]
      obtain ⟨fn, tmps, assign, body, hy, hR⟩ := hY pre rest _ hj (by omega) (by omega)
      gi_wp2
      refine hR.mono ?_
      rintro e W3 ⟨rfl, hJ3, hk3⟩
      gi_wp2
      go_end0
      refine ⟨⟨_, rfl⟩, ?_⟩
      rw [← hps, hpc]
      exact hJ3
    | some ab =>
      obtain ⟨x, y⟩ := ab
      rw [hc] at hix
      simp only at hix
      rw [hix]
      have hr := cutAt_eq hc
      have hpc : pieces rest = x :: pieces y := by rw [pieces_cut, hc]
      have hrl : rest.length = x.length + y.length + 1 := by rw [hr]; simp; omega
      have hsz : (str rest).size = x.length + y.length + 1 := hrl
      have e0 : (str rest).extract 0 x.length = str x := by rw [hr]; exact str_cut0 x y
      have e1 : (str rest).extract (x.length + 1) (x.length + y.length + 1) = str y := by rw [hr]; exact str_cut1 x y
      clear hr hc hix
      obtain ⟨fn, tmps, assign, body, hy, hR⟩ := hY pre x _ hj (by omega) (by omega)
      gi_wp2
      refine hR.mono ?_
      rintro e W3 ⟨rfl, hJ3, hk3⟩
      have q0 : Boxed W3 b0 9 (.string (str rest)) := (hk3 b0 (.inl rfl)).trans k0
      have q1 : Boxed W3 b1 9 (.string ⟨#[47]⟩) := (hk3 b1 (.inr (.inl rfl))).trans k1
      have q2 : Boxed W3 b2 3 (.int .i64 0) := (hk3 b2 (.inr (.inr rfl))).trans k2
      have g0 := q0.cell
      have g1 := q1.cell
      have f0 := q0.frozen
      gi_wp2
      go_roundw
      case rel =>
        refine ⟨pre ++ [x], y, hJ _ _ _ _ (.inl rfl) hJ3, by rw [← hps, hpc]; simp, by simp; omega, ?_, ?_, ?_⟩
        · rw [← e1]; exact q0.set _
        · exact (Below.heap_setCell _ _ _ _ (fun e => hn.1 e.symm)).trans q1
        · exact (Below.heap_setCell _ _ _ _ (fun e => hn.2.1 e.symm)).trans q2
      case measure =>
        have m1 : boxLen b0 (W3.setCell ⟨b0, 0, none⟩ (.string (str y))) = y.length := by
          unfold boxLen
          rw [(q0.set (.string (str y))).cell]
          rfl
        have m0 : ∀ W', W'.cell? ⟨b0, 0, none⟩ = some (.string (str rest)) → boxLen b0 W' = x.length + y.length + 1 := fun W' h => by unfold boxLen; rw [h]; exact hsz
        rw [m1, m0 _ d0]
        omega

theorem info9 : (Tryd.prog.info? 9).map (fun i => (i.zero, i.size, i.bytes)) = some (some (.string ⟨#[]⟩), 1, 16) := by kernel_rfl
theorem ownsRow_low {w : World} {b b' : Nat} {e : TypeId} {size : Nat} {v : Value} {n : Nat} {xs : List Value} (h : w.ownsRow b e size v n xs) (hb : b' ≤ b) : w.ownsRow b' e size v n xs := by
  refine ⟨h.1, ?_⟩
  rcases h.2 with h | ⟨g, cap, cur, hv, hg, r⟩
  · exact .inl h
  · exact .inr ⟨g, cap, cur, hv, by omega, r⟩
/-- 'out = append(out, ..)' with a row that lies beyond n₁, a box beyond n₀. -/
theorem appended2 {W w1 : World} {n₀ n₁ B : Nat} {t e : TypeId} {size : Nat} {v v' : Value} {k m : Nat} {xs ys : List Value} {tmp : Obj}
    (hv : Boxed W B t v) (hte : t ≠ e) (hrow : W.ownsRow n₁ e size v k xs) (h01 : n₀ ≤ n₁) (hn₁ : n₁ ≤ W.heap.size) (hB : n₀ ≤ B) (hB1 : B < n₁)
    (hown' : w1.ownsRow n₁ e size v' m ys) (hgrow : (W.alloc tmp).grownBy w1 v.ownBlock) :
    Boxed w1 B t v ∧ Boxed (w1.setCell ⟨B, 0, none⟩ v') B t v' ∧ (w1.setCell ⟨B, 0, none⟩ v').ownsRow n₁ e size v' m ys ∧ KeepsOthers W (w1.setCell ⟨B, 0, none⟩ v') ∧ Below n₀ W (w1.setCell ⟨B, 0, none⟩ v') ∧ ∀ b, b < n₁ → b ≠ B → (w1.setCell ⟨B, 0, none⟩ v').heap[b]? = W.heap[b]? := by
  have hv1 : Boxed w1 B t v := (hv.alloc tmp).kept hgrow (hv.not_row hte hrow)
  have hbk : ∀ j, v.ownBlock = some j → n₁ ≤ j := fun j ej => by
    rcases hrow.2 with ⟨rfl, _⟩ | ⟨g, cap, cur, rfl, hb, _, _⟩
    · simp [Value.ownBlock] at ej
    · obtain rfl : g = j := by simpa [Value.ownBlock] using ej
      exact hb
  refine ⟨hv1, hv1.set v', hown'.kept (grownBy_setCell' w1 B v') (.inr (hv1.not_row hte hown').symm), ?_, ?_, fun b hb hbB => ?_⟩
  · refine ((KeepsOthers.alloc W tmp).trans (KeepsOthers.of_grownBy hgrow fun j o ej hj => ?_)).trans (KeepsOthers.setCell _ _ _)
    rcases (hrow.alloc tmp).2 with ⟨rfl, _⟩ | ⟨g, cap, cur, rfl, _, hgb, _⟩
    · simp [Value.ownBlock] at ej
    · obtain rfl : g = j := by simpa [Value.ownBlock] using ej
      rw [hgb] at hj; cases hj; rfl
  · exact (((Below.refl n₀ W).alloc (by omega) tmp).grown hgrow (by simp; omega) fun j ej => by have := hbk j ej; omega).setCell (p := ⟨B, 0, none⟩) hB v'
  · refine (Below.heap_setCell _ _ _ _ hbB).trans ((hgrow.block b (by simp; omega) fun e => ?_).trans (Below.heap_alloc _ _ _ (by omega)))
    have := hbk b e.symm
    omega
theorem str_toList' (x : List UInt8) : (str x).toList = x := by rw [ByteArray.toList_eq]; rfl
theorem holdsRow_own' (B n₁ : Nat) : Own (fun (pre : List (List UInt8)) W => ∃ v, Boxed W B 74 v ∧ W.ownsRow n₁ 9 1 v (flt pre).length ((flt pre).map fun p => Value.string (str p))) := by
  intro pre X Y row ⟨v, hv, hr⟩ hg hrow
  obtain ⟨v', h1, h2, _⟩ := holdsRow_own (β := List (List UInt8)) n₁ B 74 9 1 (fun pre => (flt pre).length) (fun pre => (flt pre).map fun p => Value.string (str p)) (fun _ _ => True) pre X Y row ⟨v, hv, hr, trivial⟩ hg hrow
  exact ⟨v', h1, h2⟩
set_option maxHeartbeats 2000000 in
set_option maxRecDepth 100000 in
theorem Parts_walk (s : List UInt8) (w : World) (hN2 : s.length < 1000000) : Calls Tryd.prog 53 #[.string (str s)] w fun e W' =>
    ∃ v, e = .returned v ∧ W'.ownsRow w.heap.size 9 1 v (partsL s).length ((partsL s).map fun p => Value.string (str p)) ∧ Below w.heap.size w W' := by
  obtain ⟨i0, hi, hz0, hz1, hz2⟩ := info_parts info9
  refine (callsIn_wide (n := 3)).1 ?_
  refine callsIn_of_wp_marks Tryd.func53 rfl trivial ?_ rfl
  simp only [Tryd.ntmps53, List.size_toArray, List.length_cons, List.length_nil, Nat.reduceAdd, Nat.reduceSub, Array.replicate_succ, Array.replicate_zero, List.push_toArray, List.append_toArray, List.nil_append, List.cons_append]
  gi_wp2_with (refine ⟨trivial, ?_⟩; gi_at_call 62; refine (callsIn_wide.2 (SplitSeq (str s) ⟨#[47]⟩ _)).mono ?_; rintro e w' ⟨rfl, rfl⟩)
  generalize hw0 : w.alloc (.cells #[.slice none 0 0] 74) = w0
  have hs0 : w0.heap.size = w.heap.size + 1 := by rw [← hw0]; simp
  have b0 : Boxed w0 w.heap.size 74 (.slice none 0 0) := by rw [← hw0]; exact Boxed.new w _ _
  have hB0 : Below w.heap.size w w0 := by rw [← hw0]; exact (Below.refl _ w).alloc (Nat.le_refl _) _
  have s0 := Boxed.new w0 9 (.string (str s))
  have s1 := Boxed.new (w0.alloc (.cells #[.string (str s)] 9)) 9 (.string ⟨#[47]⟩)
  have s2 := Boxed.new ((w0.alloc (.cells #[.string (str s)] 9)).alloc (.cells #[.string ⟨#[47]⟩] 9)) 3 (.int .i64 0)
  have B0 := ((hB0.alloc (by omega) (.cells #[.string (str s)] 9)).alloc (by simp; omega) (.cells #[.string ⟨#[47]⟩] 9)).alloc (by simp; omega) (.cells #[.int .i64 0] 3)
  rw [World.size_alloc] at s1
  rw [World.size_alloc, World.size_alloc] at s2
  generalize hw1 : ((w0.alloc (.cells #[.string (str s)] 9)).alloc (.cells #[.string ⟨#[47]⟩] 9)).alloc (.cells #[.int .i64 0] 3) = w1 at *
  have hs1 : w1.heap.size = w.heap.size + 4 := by rw [← hw1]; simp; omega
  have t0 : Boxed w1 (w.heap.size + 1) 9 (.string (str s)) := by rw [← hw1, ← hs0]; exact (s0.alloc _).alloc _
  have t1 : Boxed w1 (w.heap.size + 2) 9 (.string ⟨#[47]⟩) := by rw [← hw1, show w.heap.size + 2 = w0.heap.size + 1 from by omega]; exact s1.alloc _
  have t2 : Boxed w1 (w.heap.size + 3) 3 (.int .i64 0) := by rw [show w.heap.size + 3 = w0.heap.size + 1 + 1 from by omega]; exact s2
  have tb : Boxed w1 w.heap.size 74 (.slice none 0 0) := by rw [← hw1]; exact ((b0.alloc _).alloc _).alloc _
  refine wpIn_rangeFunc_gives (gf := 70) (lb := #[.pointer (some ⟨w.heap.size + 2, 0, none⟩), .pointer (some ⟨w.heap.size + 1, 0, none⟩), .pointer (some ⟨w.heap.size + 3, 0, none⟩)]) ?hg (enters_of Tryd.func70 (by kernel_rfl) rfl)
    (iter_gives (w.heap.size + 1) (w.heap.size + 2) (w.heap.size + 3) s (s.length + 2) w1 t0 t1 t2 (by omega) (by omega) (by omega)) rfl (by rintro b (rfl | rfl | rfl) <;> omega)
    (fun pre W => (∃ v, Boxed W w.heap.size 74 v ∧ W.ownsRow (w.heap.size + 4) 9 1 v (flt pre).length ((flt pre).map fun p => Value.string (str p))) ∧ Below w.heap.size w W ∧ w.heap.size + 4 ≤ W.heap.size)
    ?hI ?hIb ⟨⟨_, tb, World.ownsRow_nil _ _ _ _⟩, B0, by omega⟩
    (fun x => { tmps := #[.string (str s), undef, .slice none 0 0, .pointer (some ⟨w.heap.size, 0, none⟩), .string (str x), .string (str s), .func (.func 70) #[] #[.pointer (some ⟨w.heap.size + 2, 0, none⟩), .pointer (some ⟨w.heap.size + 1, 0, none⟩), .pointer (some ⟨w.heap.size + 3, 0, none⟩)], .string (str x), undef, undef, undef, undef, undef, undef, undef, undef, undef, undef, undef], defers := [] }) ?assign ?body ?done
  case hI =>
    exact OwnFrom.and (Own.from (holdsRow_own' w.heap.size (w.heap.size + 4)) _) (OwnFrom.and (ownFrom_below (by omega) (by omega)) (fun _ _ _ _ hs hg _ => Nat.le_trans hs hg.size))
  case hIb =>
    rintro pre W v b hb ⟨⟨u, hu, hr⟩, hB, hsz⟩
    have hne : b ≠ w.heap.size ∧ b < w.heap.size + 4 ∧ w.heap.size ≤ b := by rcases hb with rfl | rfl | rfl <;> omega
    refine ⟨⟨u, hu.kept (grownBy_setCell' W b v) (fun e => hne.1 (by cases e; rfl)), hr.kept (grownBy_setCell' W b v) ?_⟩, hB.setCell (p := ⟨b, 0, none⟩) hne.2.2 v, by simpa [World.setCell] using hsz⟩
    rcases hr.2 with ⟨rfl, _⟩ | ⟨g, cap, cur, rfl, hg, _, _⟩
    · exact .inl rfl
    · refine .inr fun e => ?_
      obtain rfl : g = b := by simpa [Value.ownBlock] using e
      omega
  case hg =>
    rfl
  case assign =>
    intro l x W K hK
    gi_wp2
    exact hK
  case body =>
    rintro l pre x W ⟨⟨v, hv, hr⟩, hB, hsz⟩ hx hp
    have hc := hv.cell
    have hpl : (flt pre).length ≤ pre.length := flt_len pre
    gi_wp2_with (gi_at_builtin; refine wpListIn_append_own _ rfl _ _ 74 rfl (w.heap.size + 4) 9 i0 (.string ⟨#[]⟩) 1 16 Tryd.underlying74 hi hz0 hz1 hz2 rfl (by decide) _ _ _ rfl (hr.alloc _) ⟨W.heap.size, 0, none⟩ 1 1 [.string (str x)] rfl rfl (cell_one_new _ _ _) (by simp [Value.oneCell']) (by simp only [maxLen]; omega) (by omega) (by simp; omega) ?_; intro v' w1 hown' hgrow _; obtain ⟨g', cap', rfl⟩ := ownsRow_succ hown'; obtain ⟨hv1, hv2, hr2, hk2, hb2, hx2⟩ := appended2 hv (by decide) hr (by omega) hsz (Nat.le_refl _) (by omega) hown' hgrow; have hc1 := hv1.cell; have hf1 := hv1.frozen)
    · rename_i h
      have hg : good x = false := by rw [str_toList'] at h; subst h; rfl
      have e : flt (pre ++ [x]) = flt pre := by rw [flt_snoc, hg]; rfl
      refine ⟨KeepsOthers.refl _, ?_⟩
      rw [e]
      exact ⟨v, hv, hr⟩
    · rename_i h1 h2 _
      have hg : good x = true := by
        rw [str_toList'] at h1 h2
        unfold good
        simp only [Bool.and_eq_true, bne_iff_ne, ne_eq]
        refine ⟨h1, ?_⟩
        have := h2.2
        simpa using this
      have e : flt (pre ++ [x]) = flt pre ++ [x] := by rw [flt_snoc, hg]; rfl
      rw [e]
      refine ⟨⟨_, hv2, by simpa using hr2⟩, hB.trans hb2, ?_⟩
      have := hk2.size
      simp [World.setCell] at this
      omega
    · rename_i h1 h2
      have hg : good x = false := by
        rw [str_toList'] at h1 h2
        rcases h2 with h2 | h2
        · simp at h2; exact absurd h2 h1
        · have : x = [46] := by simpa using h2
          subst this
          rfl
      have e : flt (pre ++ [x]) = flt pre := by rw [flt_snoc, hg]; rfl
      refine ⟨KeepsOthers.refl _, ?_⟩
      rw [e]
      exact ⟨v, hv, hr⟩
  case done =>
    rintro D W hD ⟨⟨v, hv, hr⟩, hB, hsz⟩ hK
    have hc := hv.cell
    gi_wp2
    refine ⟨by simp, .inl ⟨_, _, rfl, run_takeDeferred hK, ?_⟩⟩
    exact ⟨_, results_tmp rfl _ _ _, v, rfl, ownsRow_low (ownsRow_putObj hr _ hK rfl) (by omega), hB.trans (belowK_b (w := w) (Nat.le_refl _) W D _ _ (by omega) hK rfl rfl)⟩
end Go.Proofs.YteamddaglbleeaaDoor.S24


/- The Path laws in plain words: each answers true. -/
set_option linter.unusedVariables false
set_option linter.unusedSimpArgs false
set_option linter.unusedSectionVars false
namespace Go.Proofs.YteamddaglbleeaaDoor.Eng.U
open Go Go.Proofs Go.Proofs.YteamddaglbleeaaDoor.Eng Go.Proofs.YteamddaglbleeaaDoor.P24
variable {E : Ext} [Core E] [HasParts E] [HasJoin E] {k n : Nat}

end Go.Proofs.YteamddaglbleeaaDoor.Eng.U


/- What the Path functions take as given: path.Parts (its iterator), strings.Join. -/
set_option linter.unusedVariables false
set_option linter.unusedSectionVars false
set_option linter.unusedSimpArgs false
namespace Go.Proofs.YteamddaglbleeaaDoor.Eng.U
open Go Go.Proofs Go.Proofs.YteamddaglbleeaaDoor.Eng Go.RowKit Go.Proofs.YteamddaglbleeaaDoor.P24

def pParts : Piece := { f := path_Parts, ans := fun args => match args with
  | [.str s] => bif decide (s.size < 1000000) then some (.list 1 (svs (partsL s.data.toList))) else none
  | _ => none }
def pJoin : Piece := { f := strings_Join, ans := fun args => match args with
  | [.list sz xs, .str sep] => (toStrs xs).bind fun l => bif (sz == 1) && decide (l.length ≤ 1000000) && decide ((sep.data.toList.intercalate l).length ≤ 1000000000) then some (.str (str (sep.data.toList.intercalate l))) else none
  | _ => none }
theorem str_self (s : ByteArray) : str s.data.toList = s := by cases s; simp [str]
theorem svs_cells {S : Stab} (l : List (List UInt8)) (i : Nat) (x : AV) (hx : (svs l)[i]? = some x) : x.cells.length = 1 ∧ ∀ (j : Nat) (c : AV), x.cells[j]? = some c → c.leaf = true ∧ ∀ u, (l.map fun p => Value.string (str p))[i * 1 + j]? = some u → V S c u := by
  unfold svs at hx
  rw [List.getElem?_map] at hx
  obtain ⟨p, hp, rfl⟩ := Option.map_eq_some_iff.1 hx
  refine ⟨rfl, fun j c hc => ?_⟩
  cases j with
  | zero =>
    obtain rfl : AV.str (str p) = c := by simpa [sv, AV.cells] using hc
    refine ⟨rfl, fun u hu => ?_⟩
    rw [Nat.mul_one, Nat.add_zero, List.getElem?_map, hp] at hu
    cases hu
    exact .str _
  | succ j => simp [sv, AV.cells] at hc
theorem parts_right : pParts.Right := by
  refine ⟨⟨Tryd.f53, Tryd.func53, by kernel_rfl, by kernel_rfl⟩, fun args res h => ?_⟩
  unfold pParts at h
  dsimp only at h
  split at h
  · rename_i s
    obtain ⟨hs, h⟩ := some_of_bif h
    have hs := of_decide_eq_true hs
    cases h
    refine ok_row (e := 9) fun S w vals hag hG hV => ?_
    obtain ⟨v, rfl, hv⟩ := VL_1 hV
    obtain rfl := V_str hv
    have := S24.Parts_walk s.data.toList w hs
    rw [str_self] at this
    refine this.mono ?_
    rintro e w' ⟨v, rfl, ho, hb⟩
    exact ⟨v, _, rfl, by rw [svs_len]; exact ho, svs_cells _, hb⟩
  · cases h
theorem join_right : pJoin.Right := by
  refine ⟨⟨Tryd.f51, Tryd.func51, by kernel_rfl, by kernel_rfl⟩, fun args res h => ?_⟩
  unfold pJoin at h
  dsimp only at h
  split at h
  · rename_i sz xs sep
    obtain ⟨l, hl, h⟩ := Option.bind_eq_some_iff.1 h
    obtain ⟨hc, h'⟩ := some_of_bif h
    clear h
    simp only [Bool.and_eq_true, beq_iff_eq, decide_eq_true_eq] at hc
    obtain ⟨⟨rfl, h1⟩, h2⟩ := hc
    obtain rfl := Option.some.inj h'
    obtain rfl := toStrs_some hl
    refine ok_pure ⟨rfl, rfl⟩ fun S w vals hag hG hV => ?_
    obtain ⟨v, u, rfl, hv, hu⟩ := VL_2 hV
    obtain rfl := V_str hu
    have key : ∀ (l : List (List UInt8)), (l.map str).map (fun s => s.data.toList) = l := by
      intro l
      rw [List.map_map]
      conv => rhs; rw [← List.map_id l]
      rfl
    have none_case : ∀ (a : Option Addr) (c : Nat), Calls Tryd.prog strings_Join #[.slice a 0 c, .string sep] w fun e w' => ∃ v, e = .returned v ∧ (∀ S', V S' (.str (str (sep.data.toList.intercalate ([] : List (List UInt8))))) v) ∧ Below w.heap.size w w' := by
      intro a c
      refine (Tryd.strings_Join_none a c sep w).mono ?_
      rintro e w' ⟨rfl, rfl⟩
      exact ⟨_, rfl, fun S' => V.str _, Below.refl _ _⟩
    cases l with
    | nil =>
      cases hv with
      | list0 _ a c => exact none_case _ _
      | listn _ => exact none_case _ _
      | list _ _ a c f => exact none_case _ _
    | cons p l =>
      have hv : V S (.list 1 (svs (p :: l))) v := hv
      generalize hxs : svs (p :: l) = xs at hv
      cases hv with
      | list0 _ a c => simp [svs] at hxs
      | listn _ => simp [svs] at hxs
      | list _ _ a c f g0 g1 g2 g3 g4 =>
        subst hxs
        have hcell : ∀ (j : Nat) (x : List UInt8), (p :: l)[j]? = some x → w.cell? (a.add (j * 1 + 0)) = some (.string (str x)) := by
          intro j x hx
          have hsx : (svs (p :: l))[j]? = some (sv x) := by unfold svs; rw [List.getElem?_map, hx]; rfl
          have h3 := g3 j (sv x) 0 (.str (str x)) hsx rfl
          have h4 := g4 j (sv x) 0 (.str (str x)) hsx rfl
          rw [V_str h4] at h3
          exact hag _ _ h3
        have ha : a.spot = none := by
          have := hcell 0 p rfl
          apply Classical.byContradiction
          intro hs
          obtain ⟨b, o, s⟩ := a
          cases s with
          | none => exact hs rfl
          | some s =>
            simp [Addr.add, World.cell?] at this
            split at this <;> cases this
        obtain ⟨b, o, s⟩ := a
        obtain rfl : s = none := ha
        have hlen : ((p :: l).map str).length = (svs (p :: l)).length := by simp [svs]
        have hlt : b < w.heap.size := by
          have := World.block_lt_of_cell? w _ (hcell 0 p rfl)
          simpa [Addr.add] using this
        have := Tryd.strings_Join b o c ((p :: l).map str) sep w (fun j x hx => by
          rw [List.getElem?_map] at hx
          obtain ⟨y, hy, rfl⟩ := Option.map_eq_some_iff.1 hx
          have := hcell j y hy
          rwa [add_lit', show o + (j * 1 + 0) = o + j from by omega] at this) hlt (by rw [hlen, svs_len]; omega) (by rw [hlen]; exact g0) (by rw [key]; unfold Lib.join; omega)
        rw [hlen, key] at this
        refine this.mono ?_
        rintro e w' ⟨rfl, hb⟩
        exact ⟨_, rfl, fun S' => V.str _, hb⟩
  · cases h
/-- The pieces of the Path laws. -/
def ps24 : List Piece := [pParts, pJoin]
def ext24 : Ext := extOf ps24
instance core24 : Core ext24 := core_of (by kernel_rfl)
instance parts24 : HasParts ext24 := ⟨fun k n s hs => by
  have := kp_piece (ps := ps24) (p := pParts) (k := k) (n := n) (args := [.str (str s)]) rfl
  refine this.trans ?_
  show (bif decide ((str s).size < 1000000) then _ else none) = _
  rw [str_size, decide_eq_true hs]
  rfl⟩
instance join24 : HasJoin ext24 := ⟨fun k n l sep h1 h2 => by
  have := kp_piece (ps := ps24) (p := pJoin) (k := k) (n := n) (args := [.list 1 (svs l), .str (str sep)]) rfl
  refine this.trans ?_
  show (toStrs (svs l)).bind _ = _
  rw [toStrs_svs]
  show (bif (1 == 1) && decide (l.length ≤ 1000000) && decide ((sep.intercalate l).length ≤ 1000000000) then _ else none) = _
  rw [decide_eq_true h1, decide_eq_true h2]
  rfl⟩
end Go.Proofs.YteamddaglbleeaaDoor.Eng.U


/- The functions of the Order laws in plain words, part 3: the reference's order, whether items are in order, the items in order. -/
set_option linter.unusedVariables false
set_option linter.unusedSimpArgs false
set_option linter.unusedSectionVars false
namespace Go.Proofs.YteamddaglbleeaaDoor.Eng.U
open Go Go.Proofs Go.Proofs.YteamddaglbleeaaDoor.Eng Go.Proofs.YteamddaglbleeaaDoor.P24 Go.Proofs.YteamddaglbleeaaDoor.P40
variable {E : Ext} [Core E] [HasParts E] [HasJoin E] [HasClone E] {k n : Nat}

theorem choose_pick {m : Nat} {R : Nat → Nat → Bool} {out : List Nat} (hl : out.length < m) : P40.choose m R out.contains (List.range m) none = some (pick m R out.contains) := by
  rw [choose_eq]
  unfold pick
  cases (List.range m).find? (free m R out.contains) with
  | some i => rfl
  | none =>
    obtain ⟨i, hi, hc⟩ := any_left hl
    cases hg : (List.range m).find? (fun i => !out.contains i) with
    | none =>
      have := find_none.1 hg i hi
      rw [hc] at this
      cases this
    | some j => rfl
theorem sorted0 (l : List Item) (hs : Short l) (hk : 10000 < k) (hl : l.length ≤ 12) : ∀ (m k0 : Nat) (out : List Nat), out.length + m = l.length → m < k0 →
    order_Sorted_L0 (kp E k (n + 7)) k k0 (its l) ((l.length : Nat) : Int) ((out.length : Nat) : Int) (bvs (flags l.length out)) (ivs (nats out)) = some (.list 1 (ivs (nats (sortGo l.length (rel l) m out))))
  | 0, k0 + 1, out, ho, hk0 => by
    rw [order_Sorted_L0_s]
    simp (disch := first | omega | (simp only [List.length_append, List.length_cons, List.length_nil, List.length_take, List.length_drop]; done) | (simp only [List.length_append, List.length_cons, List.length_nil, List.length_take, List.length_drop]; omega) | fail) only [bif_t, bif_f, bif_n, bif_a, callB_ok, callI_ok, callS_ok, callL_ok, callF_ok, callT_ok, tupB_ok, tupI_ok, tupS_ok, tupL_ok, tupF_ok, atNil_ok, wrap1, wrapM, wrapP, Int.toNat_natCast, svs_len, ivs_len, bvs_len, str_size, svs_mid, ivs_mid, str_dec, str_ext, str_byte, mid_byte, mid_cut, List.length_nil, List.length_singleton, svs_snoc, ivs_snoc, svs_take, svs_drop, str_app, List.take_length, List.drop_zero, List.nil_append, cond_true, cond_false, Option.bind_some, Bool.not_true, Bool.not_false, Bool.true_and, Bool.and_true, bys_len, prs_len, its_len, cells_pair, cells_time, cells_head, cells_item, fold_pair, fold_time, fold_head, fold_ihead, fold_item, prs_mid, its_mid, bys_mid, byte_c, callG_pair, callG_time, callG_head, callG_item, tupG_pair, tupG_time, tupG_head, tupG_item, h_0, i_0, h_1, i_1, h_2, i_2, h_3, i_3, h_4, i_4, h_5, i_5, h_6, i_6, h_7, i_7, h_8, i_8, h_9, i_9, h_10, i_10, h_11, i_11, h_12, i_12, h_13, i_13, i_14, p_0, p_1, t_0, t_1]
    rfl
  | m + 1, k0 + 1, out, ho, hk0 => by
    have hc := choose_pick (R := rel l) (out := out) (m := l.length) (by omega)
    have e1 := sorted1 (E := E) (k := k) (n := n) l hs hk hl k0 out.length out (by omega) (by omega) ⟨_, hc⟩ l.length 0 none k (by omega) (by omega) (fun _ h => by cases h) _ (by rw [← List.range_eq_range']; exact hc)
    have ih := sorted0 l hs hk hl m k0 (out ++ [pick l.length (rel l) out.contains]) (by simp; omega) (by omega)
    rw [List.length_append, List.length_singleton] at ih
    rw [order_Sorted_L0_s]
    simp (disch := first | omega | (simp only [List.length_append, List.length_cons, List.length_nil, List.length_take, List.length_drop]; done) | (simp only [List.length_append, List.length_cons, List.length_nil, List.length_take, List.length_drop]; omega) | fail) only [bif_t, bif_f, bif_n, bif_a, callB_ok, callI_ok, callS_ok, callL_ok, callF_ok, callT_ok, tupB_ok, tupI_ok, tupS_ok, tupL_ok, tupF_ok, atNil_ok, wrap1, wrapM, wrapP, Int.toNat_natCast, svs_len, ivs_len, bvs_len, str_size, svs_mid, ivs_mid, str_dec, str_ext, str_byte, mid_byte, mid_cut, List.length_nil, List.length_singleton, svs_snoc, ivs_snoc, svs_take, svs_drop, str_app, List.take_length, List.drop_zero, List.nil_append, cond_true, cond_false, Option.bind_some, Bool.not_true, Bool.not_false, Bool.true_and, Bool.and_true, bys_len, prs_len, its_len, cells_pair, cells_time, cells_head, cells_item, fold_pair, fold_time, fold_head, fold_ihead, fold_item, prs_mid, its_mid, bys_mid, byte_c, callG_pair, callG_time, callG_head, callG_item, tupG_pair, tupG_time, tupG_head, tupG_item, h_0, i_0, h_1, i_1, h_2, i_2, h_3, i_3, h_4, i_4, h_5, i_5, h_6, i_6, h_7, i_7, h_8, i_8, h_9, i_9, h_10, i_10, h_11, i_11, h_12, i_12, h_13, i_13, i_14, p_0, p_1, t_0, t_1]
    exact e1.trans ih
theorem Sorted_k (l : List Item) (hs : Short l) (hk : 10000 < k) (hl : l.length ≤ 12) : kp E k (n + 8) order_Sorted [.list 15 (its l)] = some (.list 1 (ivs (nats (sorted l.length (rel l))))) := by
  rw [order_Sorted_eq]
  have e := sorted0 (E := E) (k := k) (n := n) l hs hk hl l.length k [] (by simp) (by omega)
  have hf : List.replicate l.length (AV.bool false) = bvs (flags l.length []) := by
    apply List.ext_getElem?
    intro j
    unfold bvs flags
    rw [List.getElem?_replicate, List.getElem?_map, List.getElem?_map]
    by_cases hj : j < l.length
    · rw [if_pos hj, List.getElem?_range hj]; rfl
    · rw [if_neg hj, List.getElem?_eq_none (by simp; omega)]; rfl
  simp (disch := first | omega | (simp only [List.length_append, List.length_cons, List.length_nil, List.length_take, List.length_drop]; done) | (simp only [List.length_append, List.length_cons, List.length_nil, List.length_take, List.length_drop]; omega) | fail) only [bif_t, bif_f, bif_n, bif_a, callB_ok, callI_ok, callS_ok, callL_ok, callF_ok, callT_ok, tupB_ok, tupI_ok, tupS_ok, tupL_ok, tupF_ok, atNil_ok, wrap1, wrapM, wrapP, Int.toNat_natCast, svs_len, ivs_len, bvs_len, str_size, svs_mid, ivs_mid, str_dec, str_ext, str_byte, mid_byte, mid_cut, List.length_nil, List.length_singleton, svs_snoc, ivs_snoc, svs_take, svs_drop, str_app, List.take_length, List.drop_zero, List.nil_append, cond_true, cond_false, Option.bind_some, Bool.not_true, Bool.not_false, Bool.true_and, Bool.and_true, bys_len, prs_len, its_len, cells_pair, cells_time, cells_head, cells_item, fold_pair, fold_time, fold_head, fold_ihead, fold_item, prs_mid, its_mid, bys_mid, byte_c, callG_pair, callG_time, callG_head, callG_item, tupG_pair, tupG_time, tupG_head, tupG_item, h_0, i_0, h_1, i_1, h_2, i_2, h_3, i_3, h_4, i_4, h_5, i_5, h_6, i_6, h_7, i_7, h_8, i_8, h_9, i_9, h_10, i_10, h_11, i_11, h_12, i_12, h_13, i_13, i_14, p_0, p_1, t_0, t_1, hf]
  exact e

/-! The reference's. -/
section
variable (l : List Item) (hs : Short l) (hk : 10000 < k) (hl : l.length ≤ 12)
include hs hk hl in
include hs hk hl in
include hs hk hl in
include hs hk hl in
include hs hk hl in
include hs hk hl in
include hs hk hl in
include hs hk hl in
include hs hk hl in
/-! Is it in order? -/
def isOrd (l : List Item) : Bool := (List.range l.length).all fun a => (List.range' (a + 1) (l.length - a - 1)).all fun b => !rel l a b
include hs hk hl in
theorem is1 (k0 a : Nat) : ∀ (m j k1 : Nat), j + m = l.length → m < k1 →
    order_Is_L1 (kp E k (n + 7)) k k0 k1 (its l) ((a : Nat) : Int) ((j : Nat) : Int) ((l.length : Nat) : Int) ((a : Nat) : Int) = if (List.range' j m).all (fun b => !rel l a b) then order_Is_L0 (kp E k (n + 7)) k k0 (its l) ((l.length : Nat) : Int) (IntKind.wrap .i64 (((a : Nat) : Int) + 1)) else some (.bool false)
  | 0, j, k1 + 1, hj, hk1 => by
    rw [order_Is_L1_s, its_len, bif_f (by omega)]
    rfl
  | m + 1, j, k1 + 1, hj, hk1 => by
    have h1 := Leans_k (E := E) (k := k) (n := n) l ((a : Nat) : Int) ((j : Nat) : Int) hs hk (by omega)
    have ih := is1 k0 a m (j + 1) k1 (by omega) (by omega)
    have hr : rel l a j = leanAt l ((a : Nat) : Int) ((j : Nat) : Int) := rfl
    rw [order_Is_L1_s, its_len, bif_t (by omega), h1, callB_ok, wrap1 (by omega), ih, List.range'_succ, List.all_cons, hr]
    cases leanAt l ((a : Nat) : Int) ((j : Nat) : Int) with
    | true => rfl
    | false => simp only [cond_false, Bool.not_false, Bool.true_and]
include hs hk hl in
theorem is0 : ∀ (m a k0 : Nat), a + m = l.length → m < k0 →
    order_Is_L0 (kp E k (n + 7)) k k0 (its l) ((l.length : Nat) : Int) ((a : Nat) : Int) = some (.bool ((List.range' a m).all fun a => (List.range' (a + 1) (l.length - a - 1)).all fun b => !rel l a b))
  | 0, a, k0 + 1, ha, hk0 => by
    rw [order_Is_L0_s, bif_f (by omega)]
    rfl
  | m + 1, a, k0 + 1, ha, hk0 => by
    have e1 := is1 (E := E) (k := k) (n := n) l hs hk hl k0 a (l.length - a - 1) (a + 1) k (by omega) (by omega)
    have ih := is0 m (a + 1) k0 (by omega) (by omega)
    rw [order_Is_L0_s, bif_t (by omega), wrap1 (by omega), e1, wrap1 (by omega), ih, List.range'_succ, List.all_cons]
    cases (List.range' (a + 1) (l.length - a - 1)).all (fun b => !rel l a b) with
    | true => simp
    | false => simp
include hs hk hl in
theorem is_k : kp E k (n + 8) order_Is [.list 15 (its l)] = some (.bool (isOrd l)) := by
  rw [order_Is_eq]
  have := is0 (E := E) (k := k) (n := n) l hs hk hl l.length 0 k (by omega) (by omega)
  rw [← List.range_eq_range'] at this
  simp (disch := first | omega | (simp only [List.length_append, List.length_cons, List.length_nil, List.length_take, List.length_drop]; done) | (simp only [List.length_append, List.length_cons, List.length_nil, List.length_take, List.length_drop]; omega) | fail) only [bif_t, bif_f, bif_n, bif_a, callB_ok, callI_ok, callS_ok, callL_ok, callF_ok, callT_ok, tupB_ok, tupI_ok, tupS_ok, tupL_ok, tupF_ok, atNil_ok, wrap1, wrapM, wrapP, Int.toNat_natCast, svs_len, ivs_len, bvs_len, str_size, svs_mid, ivs_mid, str_dec, str_ext, str_byte, mid_byte, mid_cut, List.length_nil, List.length_singleton, svs_snoc, ivs_snoc, svs_take, svs_drop, str_app, List.take_length, List.drop_zero, List.nil_append, cond_true, cond_false, Option.bind_some, Bool.not_true, Bool.not_false, Bool.true_and, Bool.and_true, bys_len, prs_len, its_len, cells_pair, cells_time, cells_head, cells_item, fold_pair, fold_time, fold_head, fold_ihead, fold_item, prs_mid, its_mid, bys_mid, byte_c, callG_pair, callG_time, callG_head, callG_item, tupG_pair, tupG_time, tupG_head, tupG_item, h_0, i_0, h_1, i_1, h_2, i_2, h_3, i_3, h_4, i_4, h_5, i_5, h_6, i_6, h_7, i_7, h_8, i_8, h_9, i_9, h_10, i_10, h_11, i_11, h_12, i_12, h_13, i_13, i_14, p_0, p_1, t_0, t_1]
  exact this
/-- Items that aren't too large. -/
def Small (l : List Item) : Prop := ∀ x ∈ l, x.head.extra.length ≤ 1000000000 ∧ x.data.length ≤ 1000000000
include hk hl in
include hs hk hl in
end
end Go.Proofs.YteamddaglbleeaaDoor.Eng.U


/- The statements' own bounds: how many items, and how much text in them, are gone through. -/
set_option linter.unusedVariables false
set_option linter.unusedSimpArgs false
set_option linter.unusedSectionVars false
namespace Go.Proofs.YteamddaglbleeaaDoor.Eng.U
open Go Go.Proofs Go.Proofs.YteamddaglbleeaaDoor.Eng
variable {E : Ext} [Core E] {k n : Nat}
abbrev W64 (x : Int) : Int := IntKind.wrap .i64 x
theorem W64_in {x : Int} (h : -9223372036854775808 ≤ x ∧ x ≤ 9223372036854775807) : W64 x = x := i64w h
theorem W64_1 {i : Nat} (h : i < 9223372036854775807) : W64 (((i : Nat) : Int) + 1) = ((i + 1 : Nat) : Int) := wrap1 h
/-- How much text pairs have, on top of a number. -/
def pairsW (s : Int) (l : List Pair) : Int := l.foldl (fun s p => W64 (W64 (s + ((p.key.length : Nat) : Int)) + ((p.val.length : Nat) : Int))) s
def headW (s : Int) (x : Item) : Int := W64 (W64 (W64 (W64 (W64 (s + ((x.head.name.length : Nat) : Int)) + ((x.head.link.length : Nat) : Int)) + ((x.head.user.length : Nat) : Int)) + ((x.head.group.length : Nat) : Int)) + ((x.data.length : Nat) : Int))
def manyGo (m : Nat) : Int → List Item → Bool
  | s, [] => decide (m > 12)
  | s, x :: l => if x.head.extra.length > 30 then true else if pairsW (headW s x) x.head.extra > 300000 then true else manyGo m (pairsW (headW s x) x.head.extra) l
theorem many1 (kap : FuncId → List AV → Option AV) (h : Head) (k0 : Nat) (s0 : List AV) (s4 : Int) : ∀ (suf pre : List Pair) (k1 : Nat) (s3 : Int), suf.length < k1 → (pre ++ suf).length < 1000000000000000 → h.extra = pre ++ suf →
    law17_Many_L1 kap k k0 k1 s0 s3 s4 ((pre.length : Nat) : Int) h.kind (str h.name) (str h.link) h.mode h.uid h.gid h.size h.sec h.nano (str h.user) (str h.group) h.major h.minor (prs h.extra) =
      if h.extra.length > 30 then some (.bool true) else if pairsW s3 suf > 300000 then some (.bool true) else law17_Many_L0 kap k k0 s0 (pairsW s3 suf) (W64 (s4 + 1))
  | [], pre, k1 + 1, s3, hk, hb, he => by
    rw [List.append_nil] at he
    rw [law17_Many_L1_s, he]
    simp (disch := first | omega | (simp only [List.length_append, List.length_cons, List.length_nil, List.length_take, List.length_drop]; done) | (simp only [List.length_append, List.length_cons, List.length_nil, List.length_take, List.length_drop]; omega) | fail) only [bif_t, bif_f, bif_n, bif_a, callB_ok, callI_ok, callS_ok, callL_ok, callF_ok, callT_ok, tupB_ok, tupI_ok, tupS_ok, tupL_ok, tupF_ok, atNil_ok, wrap1, wrapM, wrapP, Int.toNat_natCast, svs_len, ivs_len, bvs_len, str_size, svs_mid, ivs_mid, str_dec, str_ext, str_byte, mid_byte, mid_cut, List.length_nil, List.length_singleton, svs_snoc, ivs_snoc, svs_take, svs_drop, str_app, List.take_length, List.drop_zero, List.nil_append, cond_true, cond_false, Option.bind_some, Bool.not_true, Bool.not_false, Bool.true_and, Bool.and_true, bys_len, prs_len, its_len, cells_pair, cells_time, cells_head, cells_item, fold_pair, fold_time, fold_head, fold_ihead, fold_item, prs_mid, its_mid, bys_mid, byte_c, callG_pair, callG_time, callG_head, callG_item, tupG_pair, tupG_time, tupG_head, tupG_item, h_0, i_0, h_1, i_1, h_2, i_2, h_3, i_3, h_4, i_4, h_5, i_5, h_6, i_6, h_7, i_7, h_8, i_8, h_9, i_9, h_10, i_10, h_11, i_11, h_12, i_12, h_13, i_13, i_14, p_0, p_1, t_0, t_1, bif_dec]
    by_cases h1 : pre.length > 30
    · rw [if_pos h1, if_pos (by omega)]
    · rw [if_neg h1, if_neg (by omega)]
      rfl
  | p :: suf, pre, k1 + 1, s3, hk, hb, he => by
    have hm := mid_len pre suf p
    have ih := many1 kap h k0 s0 s4 suf (pre ++ [p]) k1 (W64 (W64 (s3 + ((p.key.length : Nat) : Int)) + ((p.val.length : Nat) : Int))) (by simpa using hk) (by simpa using hb) (by rw [he]; simp)
    rw [List.length_append, List.length_singleton, he] at ih
    rw [law17_Many_L1_s, he]
    simp (disch := first | omega | (simp only [List.length_append, List.length_cons, List.length_nil, List.length_take, List.length_drop]; done) | (simp only [List.length_append, List.length_cons, List.length_nil, List.length_take, List.length_drop]; omega) | fail) only [bif_t, bif_f, bif_n, bif_a, callB_ok, callI_ok, callS_ok, callL_ok, callF_ok, callT_ok, tupB_ok, tupI_ok, tupS_ok, tupL_ok, tupF_ok, atNil_ok, wrap1, wrapM, wrapP, Int.toNat_natCast, svs_len, ivs_len, bvs_len, str_size, svs_mid, ivs_mid, str_dec, str_ext, str_byte, mid_byte, mid_cut, List.length_nil, List.length_singleton, svs_snoc, ivs_snoc, svs_take, svs_drop, str_app, List.take_length, List.drop_zero, List.nil_append, cond_true, cond_false, Option.bind_some, Bool.not_true, Bool.not_false, Bool.true_and, Bool.and_true, bys_len, prs_len, its_len, cells_pair, cells_time, cells_head, cells_item, fold_pair, fold_time, fold_head, fold_ihead, fold_item, prs_mid, its_mid, bys_mid, byte_c, callG_pair, callG_time, callG_head, callG_item, tupG_pair, tupG_time, tupG_head, tupG_item, h_0, i_0, h_1, i_1, h_2, i_2, h_3, i_3, h_4, i_4, h_5, i_5, h_6, i_6, h_7, i_7, h_8, i_8, h_9, i_9, h_10, i_10, h_11, i_11, h_12, i_12, h_13, i_13, i_14, p_0, p_1, t_0, t_1, hm, ih]
    rfl
theorem many0 (l : List Item) (hl : l.length < 1000000000000) : ∀ (suf pre : List Item) (k0 : Nat) (s3 : Int), suf.length < k0 → l = pre ++ suf → (∀ x ∈ suf, x.head.extra.length < k ∧ x.head.extra.length < 1000000000000000) →
    law17_Many_L0 (kp E k n) k k0 (its l) s3 ((pre.length : Nat) : Int) = some (.bool (manyGo l.length s3 suf))
  | [], pre, k0 + 1, s3, hk, he, hx => by
    rw [List.append_nil] at he
    subst he
    rw [law17_Many_L0_s]
    simp (disch := first | omega | (simp only [List.length_append, List.length_cons, List.length_nil, List.length_take, List.length_drop]; done) | (simp only [List.length_append, List.length_cons, List.length_nil, List.length_take, List.length_drop]; omega) | fail) only [bif_t, bif_f, bif_n, bif_a, callB_ok, callI_ok, callS_ok, callL_ok, callF_ok, callT_ok, tupB_ok, tupI_ok, tupS_ok, tupL_ok, tupF_ok, atNil_ok, wrap1, wrapM, wrapP, Int.toNat_natCast, svs_len, ivs_len, bvs_len, str_size, svs_mid, ivs_mid, str_dec, str_ext, str_byte, mid_byte, mid_cut, List.length_nil, List.length_singleton, svs_snoc, ivs_snoc, svs_take, svs_drop, str_app, List.take_length, List.drop_zero, List.nil_append, cond_true, cond_false, Option.bind_some, Bool.not_true, Bool.not_false, Bool.true_and, Bool.and_true, bys_len, prs_len, its_len, cells_pair, cells_time, cells_head, cells_item, fold_pair, fold_time, fold_head, fold_ihead, fold_item, prs_mid, its_mid, bys_mid, byte_c, callG_pair, callG_time, callG_head, callG_item, tupG_pair, tupG_time, tupG_head, tupG_item, h_0, i_0, h_1, i_1, h_2, i_2, h_3, i_3, h_4, i_4, h_5, i_5, h_6, i_6, h_7, i_7, h_8, i_8, h_9, i_9, h_10, i_10, h_11, i_11, h_12, i_12, h_13, i_13, i_14, p_0, p_1, t_0, t_1]
    rw [manyGo]
    congr 2
    rw [decide_eq_decide]
    omega
  | x :: suf, pre, k0 + 1, s3, hk, he, hx => by
    obtain ⟨h1, h2⟩ := hx x (by simp)
    have hm := mid_len pre suf x
    have e1 := fun s => many1 (k := k) (kp E k n) x.head k0 (its l) ((pre.length : Nat) : Int) x.head.extra [] k s h1 (by simpa using h2) rfl
    have ih := fun s => many0 l hl suf (pre ++ [x]) k0 s (by simpa using hk) (by rw [he]; simp) (fun y hy => hx y (by simp [hy]))
    simp only [List.length_append, List.length_singleton] at ih
    rw [List.length_nil] at e1
    have hg : ∀ F : AV → Option AV, ((its l)[pre.length]?).bind F = F (elItem x) := fun F => by rw [he]; exact its_mid _ _ _ _
    have hll : l.length = pre.length + suf.length + 1 := by rw [he]; exact hm
    rw [law17_Many_L0_s]
    simp (disch := first | omega | (simp only [List.length_append, List.length_cons, List.length_nil, List.length_take, List.length_drop]; done) | (simp only [List.length_append, List.length_cons, List.length_nil, List.length_take, List.length_drop]; omega) | fail) only [bif_t, bif_f, bif_n, bif_a, callB_ok, callI_ok, callS_ok, callL_ok, callF_ok, callT_ok, tupB_ok, tupI_ok, tupS_ok, tupL_ok, tupF_ok, atNil_ok, wrap1, wrapM, wrapP, Int.toNat_natCast, svs_len, ivs_len, bvs_len, str_size, svs_mid, ivs_mid, str_dec, str_ext, str_byte, mid_byte, mid_cut, List.length_nil, List.length_singleton, svs_snoc, ivs_snoc, svs_take, svs_drop, str_app, List.take_length, List.drop_zero, List.nil_append, cond_true, cond_false, Option.bind_some, Bool.not_true, Bool.not_false, Bool.true_and, Bool.and_true, bys_len, prs_len, its_len, cells_pair, cells_time, cells_head, cells_item, fold_pair, fold_time, fold_head, fold_ihead, fold_item, prs_mid, its_mid, bys_mid, byte_c, callG_pair, callG_time, callG_head, callG_item, tupG_pair, tupG_time, tupG_head, tupG_item, h_0, i_0, h_1, i_1, h_2, i_2, h_3, i_3, h_4, i_4, h_5, i_5, h_6, i_6, h_7, i_7, h_8, i_8, h_9, i_9, h_10, i_10, h_11, i_11, h_12, i_12, h_13, i_13, i_14, p_0, p_1, t_0, t_1, hg, hll]
    rw [show ((0 : Int)) = ((0 : Nat) : Int) from rfl, e1, W64_1 (by omega), ih]
    rw [manyGo]
    unfold headW
    rw [hll]
    split
    · rfl
    · split <;> rfl
theorem many_k (l : List Item) (hl : l.length < 1000000000000) (hlk : l.length < k) (hx : ∀ x ∈ l, x.head.extra.length < k ∧ x.head.extra.length < 1000000000000000) : kp E k (n + 1) law17_Many [.list 15 (its l)] = some (.bool (manyGo l.length 0 l)) := by
  rw [law17_Many_eq]
  exact many0 l hl l [] k 0 hlk rfl hx
/-- What a row knows of its items. -/
def BdP (p : Pair) : Prop := p.key.length ≤ 140737488351232 ∧ p.val.length ≤ 140737488351232
def BdI (x : Item) : Prop := x.head.name.length ≤ 140737488351232 ∧ x.head.link.length ≤ 140737488351232 ∧ x.head.user.length ≤ 140737488351232 ∧ x.head.group.length ≤ 140737488351232 ∧ x.data.length ≤ 140737488351232 ∧ ∀ p ∈ x.head.extra, BdP p
theorem pairsW_eq : ∀ (l : List Pair) (s : Int), (∀ p ∈ l, BdP p) → 0 ≤ s → l.length ≤ 30 → s + ((l.length : Nat) : Int) * 281474976702464 ≤ 9223372036854775807 → s ≤ pairsW s l ∧ pairsW s l ≤ s + ((l.length : Nat) : Int) * 281474976702464
  | [], s, _, h0, _, _ => by simp [pairsW]
  | p :: l, s, hb, h0, hl, hs => by
    obtain ⟨h1, h2⟩ := hb p (by simp)
    have hlen : ((p :: l).length : Nat) = l.length + 1 := rfl
    rw [hlen] at hs hl ⊢
    have e : pairsW s (p :: l) = pairsW (s + ((p.key.length : Nat) : Int) + ((p.val.length : Nat) : Int)) l := by
      show pairsW (W64 (W64 (s + _) + _)) l = _
      rw [W64_in (x := s + ((p.key.length : Nat) : Int)) (by omega), W64_in (by omega)]
    rw [e]
    have := pairsW_eq l (s + ((p.key.length : Nat) : Int) + ((p.val.length : Nat) : Int)) (fun q hq => hb q (by simp [hq])) (by omega) (by omega) (by omega)
    omega
theorem headW_eq (x : Item) (h : BdI x) (s : Int) (h0 : 0 ≤ s) (h1 : s ≤ 300000) : headW s x = s + ((x.head.name.length : Nat) : Int) + ((x.head.link.length : Nat) : Int) + ((x.head.user.length : Nat) : Int) + ((x.head.group.length : Nat) : Int) + ((x.data.length : Nat) : Int) := by
  obtain ⟨a1, a2, a3, a4, a5, _⟩ := h
  unfold headW
  rw [W64_in (x := s + ((x.head.name.length : Nat) : Int)) (by omega), W64_in (x := s + ((x.head.name.length : Nat) : Int) + ((x.head.link.length : Nat) : Int)) (by omega), W64_in (x := s + ((x.head.name.length : Nat) : Int) + ((x.head.link.length : Nat) : Int) + ((x.head.user.length : Nat) : Int)) (by omega), W64_in (x := s + ((x.head.name.length : Nat) : Int) + ((x.head.link.length : Nat) : Int) + ((x.head.user.length : Nat) : Int) + ((x.head.group.length : Nat) : Int)) (by omega), W64_in (by omega)]
/-- What few items are. -/
def FewI (x : Item) : Prop := x.head.name.length ≤ 300000 ∧ x.head.link.length ≤ 300000 ∧ x.head.user.length ≤ 300000 ∧ x.head.group.length ≤ 300000 ∧ x.data.length ≤ 300000 ∧ x.head.extra.length ≤ 30
theorem many_few (m : Nat) : ∀ (l : List Item) (s : Int), (∀ x ∈ l, BdI x) → 0 ≤ s → s ≤ 300000 → manyGo m s l = false → m ≤ 12 ∧ ∀ x ∈ l, FewI x
  | [], s, _, _, _, h => by
    simp only [manyGo, decide_eq_false_iff_not] at h
    exact ⟨by omega, fun x hx => by cases hx⟩
  | x :: l, s, hb, h0, h1, h => by
    rw [manyGo] at h
    have hx := hb x (by simp)
    split at h
    · cases h
    · rename_i h30
      split at h
      · cases h
      · rename_i hsum
        have e := headW_eq x hx s h0 h1
        have hxx := hx
        obtain ⟨a1, a2, a3, a4, a5, a6⟩ := hxx
        have hw := pairsW_eq x.head.extra (headW s x) a6 (by omega) (by omega) (by omega)
        have ih := many_few m l _ (fun y hy => hb y (by simp [hy])) (by omega) (by omega) h
        refine ⟨ih.1, fun y hy => ?_⟩
        rcases List.mem_cons.1 hy with rfl | hy
        · unfold FewI; omega
        · exact ih.2 y hy
end Go.Proofs.YteamddaglbleeaaDoor.Eng.U

