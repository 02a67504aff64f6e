/- Several texts of this proof in one file: R09, Q02, Api, S02, Ext, R04, Q04, U04, U04b, U04c, V04, ApiR, B04, B02, U02, U02b, U02c, U09, U09b, RS, U09c, U09e, Z05a, Z05b, Z05c. -/
import Derived.Test.YtogfcfgfkggmlaaGreatDoorMTaleHeads0
import Derived.Test.YtogfcfgfkggmlaaGreatDoorMETaleHeads2
import Derived.Test.YtogfcfgfkggmlaaGreatDoorProg
import Derived.WalkKit
import Derived.BigCall
import Derived.WalkSmall
import Derived.Lib.OthersKept
import Derived.Lib.FrozenHead2
import Derived.Shelf.Strings.BuilderK
import Derived.Lib.ItoaNum
import Derived.Lib.ParseIntB
import Derived.Lib.Bytealg
import Derived.Lib.TrimByte
import Derived.Lib.Strings
import Derived.Lib.Repeat
import Derived.Lib.ItoaMem
import Derived.Lib.ItoaLen
import Derived.Lib.SmallJoins
import Derived.Lib.DecodeN
import Derived.IntWalk
import Derived.Lib.RuneCountTail
/- What functions answer, as the engine evaluates their code. Printed by gen2.py. -/
set_option linter.unusedVariables false
namespace Go.Proofs.YtogfcfgfkggmlaaGreatDoor.Eng.U
open Go Go.Proofs Go.Proofs.YtogfcfgfkggmlaaGreatDoor.Eng
/- oakum/over.Lay -/
/- oakum/over.Right -/
noncomputable def over_Right_bd : Code := Tryz.f20.body.getD .skip
noncomputable def over_Right_L0 (kap : FuncId → List AV → Option AV) (k : Nat) (k0 : Nat) (s0 : List AV) (s5 : List AV) (s6 : Int) (s7 : Int) : Option AV :=
  loop (fun fr K => code ((bs E0 k).cfg kap over_Right) (sel over_Right_bd [1, 0, 1, 0, 0]) fr K) (canon ((bs E0 k).cfg kap over_Right) (firstReg (sel over_Right_bd [1, 0, 1, 0, 0]))) k0 (mkFr 36 [(0, (.list 2 s0)), (5, (.list 2 s5)), (6, (.int .i64 s6)), (7, (.int .i64 s7))] []) (plug ((bs E0 k).cfg kap over_Right) (retK ((bs E0 k).cfg kap over_Right) [] Tryz.f20 [] some) [.blk 0, .seqR (sel over_Right_bd [1, 1])])
theorem over_Right_L0_s (kap : FuncId → List AV → Option AV) (k : Nat) (k0 : Nat) (s0 : List AV) (s5 : List AV) (s6 : Int) (s7 : Int) : over_Right_L0 kap k (k0 + 1) s0 s5 s6 s7 =
  (bif (decide (s7 < s6)) then (bif ((decide ((0 : Int) ≤ s7)) && (decide (s7 < (((List.length s5) : Nat) : Int)))) then ((s5[(Int.toNat s7)]?).bind fun vy1 => (cellS (AV.cells vy1) 0 fun vs2 => (cellS (AV.cells vy1) 1 fun vs3 => (bif (decide (vs3 = (str []))) then (some (.bool false)) else (callB (kap pax_Right [(.agg [(.str vs2), (.str vs3)])]) fun vq5 => (bif (!vq5) then (some (.bool false)) else (bif (decide (s7 > (0 : Int))) then (bif ((decide ((0 : Int) ≤ (IntKind.wrap .i64 (s7 - (1 : Int))))) && (decide ((IntKind.wrap .i64 (s7 - (1 : Int))) < (((List.length s0) : Nat) : Int)))) then ((s0[(Int.toNat (IntKind.wrap .i64 (s7 - (1 : Int))))]?).bind fun vy6 => (cellS (AV.cells vy6) 0 fun vs7 => (bif (!(Op.bytesLess (ByteArray.toList vs7) (ByteArray.toList vs2))) then (some (.bool false)) else (over_Right_L0 kap k k0 s0 s5 s6 (IntKind.wrap .i64 (s7 + (1 : Int))))))) else none) else (over_Right_L0 kap k k0 s0 s5 s6 (IntKind.wrap .i64 (s7 + (1 : Int))))))))))) else none) else (some (.bool true))) := by kernel_rfl
theorem over_Right_eq {E : Ext} [Core E] (k n : Nat) (a0 : List AV) : kp E k (n + 1) over_Right [(.list 2 a0)] =
  (over_Right_L0 (kp E k n) k k a0 a0 (((List.length a0) : Nat) : Int) (0 : Int)) := (kp_at (by kernel_rfl)).trans (by kernel_rfl)
/- oakum/over.Bytes -/
/- oakum/over.Apply -/
/- oakum/over.lay -/
/- oakum/pax.Right -/
theorem pax_Right_eq {E : Ext} [Core E] (k n : Nat) (a0_0 : ByteArray) (a0_1 : ByteArray) : kp E k (n + 1) pax_Right [(.agg [(.str a0_0), (.str a0_1)])] =
  (bif (!(decide (a0_0 = (str [])))) then (callB (kp E k n utf_Right [(.str a0_0)]) fun vq2 => (bif vq2 then (callB (kp E k n strings_ContainsAny [(.str a0_0), (.str (str [61, 0]))]) fun vq4 => (bif (!vq4) then (callB (kp E k n pax_value [(.str a0_0), (.str a0_1)]) fun vq6 => (some (.bool vq6))) else (some (.bool false)))) else (some (.bool false)))) else (some (.bool false))) := (kp_at (by kernel_rfl)).trans (by kernel_rfl)
/- slices.IndexFunc[[]oakum/api.Pair,oakum/api.Pair] -/
noncomputable def slices_IndexFunc_api_Pair_bd : Code := Tryz.f69.body.getD .skip
noncomputable def slices_IndexFunc_api_Pair_L0 (kap : FuncId → List AV → Option AV) (k : Nat) (k0 : Nat) (s0 : List AV) (s7 : Int) (s8 : Int) : Option AV :=
  loop (fun fr K => code ((bs E0 k).cfg kap slices_IndexFunc_api_Pair) (sel slices_IndexFunc_api_Pair_bd [1, 0, 1, 0, 0]) fr K) (canon ((bs E0 k).cfg kap slices_IndexFunc_api_Pair) (firstReg (sel slices_IndexFunc_api_Pair_bd [1, 0, 1, 0, 0]))) k0 (mkFr 19 [(0, (.list 2 s0)), (1, (.func (.func item_extra_1) [] [])), (7, (.int .i64 s7)), (8, (.int .i64 s8))] []) (plug ((bs E0 k).cfg kap slices_IndexFunc_api_Pair) (retK ((bs E0 k).cfg kap slices_IndexFunc_api_Pair) [] Tryz.f69 [] some) [.blk 0, .seqR (sel slices_IndexFunc_api_Pair_bd [1, 1])])
theorem slices_IndexFunc_api_Pair_L0_s (kap : FuncId → List AV → Option AV) (k : Nat) (k0 : Nat) (s0 : List AV) (s7 : Int) (s8 : Int) : slices_IndexFunc_api_Pair_L0 kap k (k0 + 1) s0 s7 s8 =
  (bif (decide (s8 < s7)) then (bif ((decide ((0 : Int) ≤ s8)) && (decide (s8 < (((List.length s0) : Nat) : Int)))) then ((s0[(Int.toNat s8)]?).bind fun vy1 => (cellS (AV.cells vy1) 0 fun vs2 => (cellS (AV.cells vy1) 1 fun vs3 => (callB (kap item_extra_1 [(.agg [(.str vs2), (.str vs3)])]) fun vq5 => (bif vq5 then (some (.int .i64 s8)) else (slices_IndexFunc_api_Pair_L0 kap k k0 s0 s7 (IntKind.wrap .i64 (s8 + (1 : Int))))))))) else none) else (some (.int .i64 (-1 : Int)))) := by kernel_rfl
theorem slices_IndexFunc_api_Pair_eq {E : Ext} [Core E] (k n : Nat) (a0 : List AV) : kp E k (n + 1) slices_IndexFunc_api_Pair [(.list 2 a0), (.func (.func item_extra_1) [] [])] =
  (slices_IndexFunc_api_Pair_L0 (kp E k n) k k a0 (((List.length a0) : Nat) : Int) (0 : Int)) := (kp_at (by kernel_rfl)).trans (by kernel_rfl)
/- oakum/over.Get$1 -/
/- oakum/item.Right -/
/- slices.Contains[[]int,int] -/
/- oakum/item.Copy -/
/- slices.Index[[]string,string] -/
noncomputable def slices_Index_string_bd : Code := Tryz.f96.body.getD .skip
noncomputable def slices_Index_string_L0 (kap : FuncId → List AV → Option AV) (k : Nat) (k0 : Nat) (s0 : List AV) (s1 : ByteArray) (s7 : Int) (s8 : Int) : Option AV :=
  loop (fun fr K => code ((bs E0 k).cfg kap slices_Index_string) (sel slices_Index_string_bd [1, 0, 1, 0, 0]) fr K) (canon ((bs E0 k).cfg kap slices_Index_string) (firstReg (sel slices_Index_string_bd [1, 0, 1, 0, 0]))) k0 (mkFr 19 [(0, (.list 1 s0)), (1, (.str s1)), (7, (.int .i64 s7)), (8, (.int .i64 s8))] []) (plug ((bs E0 k).cfg kap slices_Index_string) (retK ((bs E0 k).cfg kap slices_Index_string) [] Tryz.f96 [] some) [.blk 0, .seqR (sel slices_Index_string_bd [1, 1])])
theorem slices_Index_string_L0_s (kap : FuncId → List AV → Option AV) (k : Nat) (k0 : Nat) (s0 : List AV) (s1 : ByteArray) (s7 : Int) (s8 : Int) : slices_Index_string_L0 kap k (k0 + 1) s0 s1 s7 s8 =
  (bif (decide (s8 < s7)) then (bif ((decide ((0 : Int) ≤ s8)) && (decide (s8 < (((List.length s0) : Nat) : Int)))) then ((s0[(Int.toNat s8)]?).bind fun vy1 => (cellS (AV.cells vy1) 0 fun vs2 => (bif (decide (s1 = vs2)) then (some (.int .i64 s8)) else (slices_Index_string_L0 kap k k0 s0 s1 s7 (IntKind.wrap .i64 (s8 + (1 : Int))))))) else none) else (some (.int .i64 (-1 : Int)))) := by kernel_rfl
theorem slices_Index_string_eq {E : Ext} [Core E] (k n : Nat) (a0 : List AV) (a1 : ByteArray) : kp E k (n + 1) slices_Index_string [(.list 1 a0), (.str a1)] =
  (slices_Index_string_L0 (kp E k n) k k a0 a1 (((List.length a0) : Nat) : Int) (0 : Int)) := (kp_at (by kernel_rfl)).trans (by kernel_rfl)
/- oakum/item.Wrong -/
theorem item_Wrong_eq {E : Ext} [Core E] (k n : Nat) (a0_0 : Int) (a0_1 : ByteArray) (a0_2 : ByteArray) (a0_3 : Int) (a0_4 : Int) (a0_5 : Int) (a0_6 : Int) (a0_7 : Int) (a0_8 : Int) (a0_9 : ByteArray) (a0_10 : ByteArray) (a0_11 : Int) (a0_12 : Int) (a0_13 : List AV) : kp E k (n + 1) item_Wrong [(.agg [(.int .i64 a0_0), (.str a0_1), (.str a0_2), (.int .i64 a0_3), (.int .i64 a0_4), (.int .i64 a0_5), (.int .i64 a0_6), (.int .i64 a0_7), (.int .i64 a0_8), (.str a0_9), (.str a0_10), (.int .i64 a0_11), (.int .i64 a0_12), (.list 2 a0_13)])] =
  (callI .u8 (kp E k n item_Flag [(.int .i64 a0_0)]) fun vn2 => (bif (decide (vn2 = (0 : Int))) then (some (.int .i64 (1 : Int))) else (callB (kp E k n item_named [(.str a0_1)]) fun vq4 => (bif (!vq4) then (some (.int .i64 (2 : Int))) else (bif (decide (a0_0 = (1 : Int))) then (callB (kp E k n strings_HasSuffix [(.str a0_1), (.str (str [47]))]) fun vq6 => (bif vq6 then (some (.int .i64 (2 : Int))) else (callB (kp E k n item_link [(.agg [(.int .i64 a0_0), (.str a0_1), (.str a0_2), (.int .i64 a0_3), (.int .i64 a0_4), (.int .i64 a0_5), (.int .i64 a0_6), (.int .i64 a0_7), (.int .i64 a0_8), (.str a0_9), (.str a0_10), (.int .i64 a0_11), (.int .i64 a0_12), (.list 2 a0_13)])]) fun vq8 => (bif (!vq8) then (some (.int .i64 (3 : Int))) else (bif (decide (a0_3 < (0 : Int))) then (some (.int .i64 (4 : Int))) else (bif (decide (a0_4 < (0 : Int))) then (some (.int .i64 (5 : Int))) else (bif (decide (a0_5 < (0 : Int))) then (some (.int .i64 (6 : Int))) else (bif (decide (a0_6 < (0 : Int))) then (some (.int .i64 (7 : Int))) else (bif (decide (a0_6 > (0 : Int))) then (bif (!(decide (a0_0 = (1 : Int)))) then (some (.int .i64 (7 : Int))) else (callB (kp E k n dec_Right [(.agg [(.int .i64 a0_7), (.int .i64 a0_8)])]) fun vq10 => (bif (!vq10) then (some (.int .i64 (8 : Int))) else (callB (kp E k n item_plain [(.str a0_9)]) fun vq12 => (bif (!vq12) then (some (.int .i64 (9 : Int))) else (callB (kp E k n item_plain [(.str a0_10)]) fun vq14 => (bif (!vq14) then (some (.int .i64 (10 : Int))) else (callB (kp E k n item_device [(.agg [(.int .i64 a0_0), (.str a0_1), (.str a0_2), (.int .i64 a0_3), (.int .i64 a0_4), (.int .i64 a0_5), (.int .i64 a0_6), (.int .i64 a0_7), (.int .i64 a0_8), (.str a0_9), (.str a0_10), (.int .i64 a0_11), (.int .i64 a0_12), (.list 2 a0_13)]), (.int .i64 a0_11)]) fun vq16 => (bif (!vq16) then (some (.int .i64 (11 : Int))) else (callB (kp E k n item_device [(.agg [(.int .i64 a0_0), (.str a0_1), (.str a0_2), (.int .i64 a0_3), (.int .i64 a0_4), (.int .i64 a0_5), (.int .i64 a0_6), (.int .i64 a0_7), (.int .i64 a0_8), (.str a0_9), (.str a0_10), (.int .i64 a0_11), (.int .i64 a0_12), (.list 2 a0_13)]), (.int .i64 a0_12)]) fun vq18 => (bif (!vq18) then (some (.int .i64 (12 : Int))) else (callB (kp E k n item_extra [(.list 2 a0_13)]) fun vq20 => (bif (!vq20) then (some (.int .i64 (13 : Int))) else (some (.int .i64 (0 : Int)))))))))))))))) else (callB (kp E k n dec_Right [(.agg [(.int .i64 a0_7), (.int .i64 a0_8)])]) fun vq22 => (bif (!vq22) then (some (.int .i64 (8 : Int))) else (callB (kp E k n item_plain [(.str a0_9)]) fun vq24 => (bif (!vq24) then (some (.int .i64 (9 : Int))) else (callB (kp E k n item_plain [(.str a0_10)]) fun vq26 => (bif (!vq26) then (some (.int .i64 (10 : Int))) else (callB (kp E k n item_device [(.agg [(.int .i64 a0_0), (.str a0_1), (.str a0_2), (.int .i64 a0_3), (.int .i64 a0_4), (.int .i64 a0_5), (.int .i64 a0_6), (.int .i64 a0_7), (.int .i64 a0_8), (.str a0_9), (.str a0_10), (.int .i64 a0_11), (.int .i64 a0_12), (.list 2 a0_13)]), (.int .i64 a0_11)]) fun vq28 => (bif (!vq28) then (some (.int .i64 (11 : Int))) else (callB (kp E k n item_device [(.agg [(.int .i64 a0_0), (.str a0_1), (.str a0_2), (.int .i64 a0_3), (.int .i64 a0_4), (.int .i64 a0_5), (.int .i64 a0_6), (.int .i64 a0_7), (.int .i64 a0_8), (.str a0_9), (.str a0_10), (.int .i64 a0_11), (.int .i64 a0_12), (.list 2 a0_13)]), (.int .i64 a0_12)]) fun vq30 => (bif (!vq30) then (some (.int .i64 (12 : Int))) else (callB (kp E k n item_extra [(.list 2 a0_13)]) fun vq32 => (bif (!vq32) then (some (.int .i64 (13 : Int))) else (some (.int .i64 (0 : Int)))))))))))))))))))))))) else (callB (kp E k n item_link [(.agg [(.int .i64 a0_0), (.str a0_1), (.str a0_2), (.int .i64 a0_3), (.int .i64 a0_4), (.int .i64 a0_5), (.int .i64 a0_6), (.int .i64 a0_7), (.int .i64 a0_8), (.str a0_9), (.str a0_10), (.int .i64 a0_11), (.int .i64 a0_12), (.list 2 a0_13)])]) fun vq34 => (bif (!vq34) then (some (.int .i64 (3 : Int))) else (bif (decide (a0_3 < (0 : Int))) then (some (.int .i64 (4 : Int))) else (bif (decide (a0_4 < (0 : Int))) then (some (.int .i64 (5 : Int))) else (bif (decide (a0_5 < (0 : Int))) then (some (.int .i64 (6 : Int))) else (bif (decide (a0_6 < (0 : Int))) then (some (.int .i64 (7 : Int))) else (bif (decide (a0_6 > (0 : Int))) then (bif (!(decide (a0_0 = (1 : Int)))) then (some (.int .i64 (7 : Int))) else (callB (kp E k n dec_Right [(.agg [(.int .i64 a0_7), (.int .i64 a0_8)])]) fun vq36 => (bif (!vq36) then (some (.int .i64 (8 : Int))) else (callB (kp E k n item_plain [(.str a0_9)]) fun vq38 => (bif (!vq38) then (some (.int .i64 (9 : Int))) else (callB (kp E k n item_plain [(.str a0_10)]) fun vq40 => (bif (!vq40) then (some (.int .i64 (10 : Int))) else (callB (kp E k n item_device [(.agg [(.int .i64 a0_0), (.str a0_1), (.str a0_2), (.int .i64 a0_3), (.int .i64 a0_4), (.int .i64 a0_5), (.int .i64 a0_6), (.int .i64 a0_7), (.int .i64 a0_8), (.str a0_9), (.str a0_10), (.int .i64 a0_11), (.int .i64 a0_12), (.list 2 a0_13)]), (.int .i64 a0_11)]) fun vq42 => (bif (!vq42) then (some (.int .i64 (11 : Int))) else (callB (kp E k n item_device [(.agg [(.int .i64 a0_0), (.str a0_1), (.str a0_2), (.int .i64 a0_3), (.int .i64 a0_4), (.int .i64 a0_5), (.int .i64 a0_6), (.int .i64 a0_7), (.int .i64 a0_8), (.str a0_9), (.str a0_10), (.int .i64 a0_11), (.int .i64 a0_12), (.list 2 a0_13)]), (.int .i64 a0_12)]) fun vq44 => (bif (!vq44) then (some (.int .i64 (12 : Int))) else (callB (kp E k n item_extra [(.list 2 a0_13)]) fun vq46 => (bif (!vq46) then (some (.int .i64 (13 : Int))) else (some (.int .i64 (0 : Int)))))))))))))))) else (callB (kp E k n dec_Right [(.agg [(.int .i64 a0_7), (.int .i64 a0_8)])]) fun vq48 => (bif (!vq48) then (some (.int .i64 (8 : Int))) else (callB (kp E k n item_plain [(.str a0_9)]) fun vq50 => (bif (!vq50) then (some (.int .i64 (9 : Int))) else (callB (kp E k n item_plain [(.str a0_10)]) fun vq52 => (bif (!vq52) then (some (.int .i64 (10 : Int))) else (callB (kp E k n item_device [(.agg [(.int .i64 a0_0), (.str a0_1), (.str a0_2), (.int .i64 a0_3), (.int .i64 a0_4), (.int .i64 a0_5), (.int .i64 a0_6), (.int .i64 a0_7), (.int .i64 a0_8), (.str a0_9), (.str a0_10), (.int .i64 a0_11), (.int .i64 a0_12), (.list 2 a0_13)]), (.int .i64 a0_11)]) fun vq54 => (bif (!vq54) then (some (.int .i64 (11 : Int))) else (callB (kp E k n item_device [(.agg [(.int .i64 a0_0), (.str a0_1), (.str a0_2), (.int .i64 a0_3), (.int .i64 a0_4), (.int .i64 a0_5), (.int .i64 a0_6), (.int .i64 a0_7), (.int .i64 a0_8), (.str a0_9), (.str a0_10), (.int .i64 a0_11), (.int .i64 a0_12), (.list 2 a0_13)]), (.int .i64 a0_12)]) fun vq56 => (bif (!vq56) then (some (.int .i64 (12 : Int))) else (callB (kp E k n item_extra [(.list 2 a0_13)]) fun vq58 => (bif (!vq58) then (some (.int .i64 (13 : Int))) else (some (.int .i64 (0 : Int))))))))))))))))))))))))))) := (kp_at (by kernel_rfl)).trans (by kernel_rfl)
/- oakum/pax.Known -/
theorem pax_Known_eq {E : Ext} [Core E] (k n : Nat) (a0 : ByteArray) : kp E k (n + 1) pax_Known [(.str a0)] =
  (bif (decide (a0 = (str [112, 97, 116, 104]))) then (bif (decide (a0 = (str [112, 97, 116, 104]))) then (some (.bool true)) else (some (.bool false))) else (bif (decide (a0 = (str [108, 105, 110, 107, 112, 97, 116, 104]))) then (bif (decide (a0 = (str [108, 105, 110, 107, 112, 97, 116, 104]))) then (some (.bool true)) else (some (.bool false))) else (bif (decide (a0 = (str [117, 110, 97, 109, 101]))) then (bif (decide (a0 = (str [117, 110, 97, 109, 101]))) then (some (.bool true)) else (some (.bool false))) else (bif (decide (a0 = (str [103, 110, 97, 109, 101]))) then (bif (decide (a0 = (str [103, 110, 97, 109, 101]))) then (some (.bool true)) else (some (.bool false))) else (bif (decide (a0 = (str [117, 105, 100]))) then (bif (decide (a0 = (str [117, 105, 100]))) then (some (.bool true)) else (some (.bool false))) else (bif (decide (a0 = (str [103, 105, 100]))) then (bif (decide (a0 = (str [103, 105, 100]))) then (some (.bool true)) else (some (.bool false))) else (bif (decide (a0 = (str [115, 105, 122, 101]))) then (bif (decide (a0 = (str [115, 105, 122, 101]))) then (some (.bool true)) else (some (.bool false))) else (bif (decide (a0 = (str [109, 116, 105, 109, 101]))) then (some (.bool true)) else (some (.bool false)))))))))) := (kp_at (by kernel_rfl)).trans (by kernel_rfl)
/- oakum/over.say -/
/- oakum/over.byKey -/
/- oakum/utf.Right -/
theorem utf_Right_eq {E : Ext} [Core E] (k n : Nat) (a0 : ByteArray) : kp E k (n + 1) utf_Right [(.str a0)] =
  (callI .i64 (kp E k n utf_First [(.str a0)]) fun vn2 => (some (.bool (decide (vn2 < (0 : Int)))))) := (kp_at (by kernel_rfl)).trans (by kernel_rfl)
/- oakum/pax.value -/
theorem pax_value_eq {E : Ext} [Core E] (k n : Nat) (a0 : ByteArray) (a1 : ByteArray) : kp E k (n + 1) pax_value [(.str a0), (.str a1)] =
  (callB (kp E k n utf_Right [(.str a1)]) fun vq2 => (bif (!vq2) then (some (.bool false)) else (bif (decide (a1 = (str []))) then (some (.bool true)) else (bif (decide (a0 = (str [112, 97, 116, 104]))) then (bif (decide (a0 = (str [112, 97, 116, 104]))) then (callB (kp E k n pax_clean [(.str a1)]) fun vq4 => (some (.bool vq4))) else (bif (decide (a0 = (str [117, 105, 100]))) then (bif (decide (a0 = (str [117, 105, 100]))) then (callT (kp E k n dec_Number [(.str a1)]) fun vt6 => (tupI .i64 vt6 fun vn7 vt8 => (tupI .u8 vt8 fun vn9 vt10 => (atNil vt10 (some (.bool (decide (vn9 = (0 : Int))))))))) else (bif (decide (a0 = (str [109, 116, 105, 109, 101]))) then (callT (kp E k n dec_Time [(.str a1)]) fun vt12 => (tupG 2 vt12 fun vg13 vt14 => (cellI .i64 vg13 0 fun vn15 => (cellI .i64 vg13 1 fun vn16 => (tupI .u8 vt14 fun vn17 vt18 => (atNil vt18 (some (.bool (decide (vn17 = (0 : Int))))))))))) else (some (.bool true)))) else (bif (decide (a0 = (str [103, 105, 100]))) then (bif (decide (a0 = (str [103, 105, 100]))) then (callT (kp E k n dec_Number [(.str a1)]) fun vt20 => (tupI .i64 vt20 fun vn21 vt22 => (tupI .u8 vt22 fun vn23 vt24 => (atNil vt24 (some (.bool (decide (vn23 = (0 : Int))))))))) else (bif (decide (a0 = (str [109, 116, 105, 109, 101]))) then (callT (kp E k n dec_Time [(.str a1)]) fun vt26 => (tupG 2 vt26 fun vg27 vt28 => (cellI .i64 vg27 0 fun vn29 => (cellI .i64 vg27 1 fun vn30 => (tupI .u8 vt28 fun vn31 vt32 => (atNil vt32 (some (.bool (decide (vn31 = (0 : Int))))))))))) else (some (.bool true)))) else (bif (decide (a0 = (str [115, 105, 122, 101]))) then (callT (kp E k n dec_Number [(.str a1)]) fun vt34 => (tupI .i64 vt34 fun vn35 vt36 => (tupI .u8 vt36 fun vn37 vt38 => (atNil vt38 (some (.bool (decide (vn37 = (0 : Int))))))))) else (bif (decide (a0 = (str [109, 116, 105, 109, 101]))) then (callT (kp E k n dec_Time [(.str a1)]) fun vt40 => (tupG 2 vt40 fun vg41 vt42 => (cellI .i64 vg41 0 fun vn43 => (cellI .i64 vg41 1 fun vn44 => (tupI .u8 vt42 fun vn45 vt46 => (atNil vt46 (some (.bool (decide (vn45 = (0 : Int))))))))))) else (some (.bool true))))))) else (bif (decide (a0 = (str [108, 105, 110, 107, 112, 97, 116, 104]))) then (bif (decide (a0 = (str [108, 105, 110, 107, 112, 97, 116, 104]))) then (callB (kp E k n pax_clean [(.str a1)]) fun vq48 => (some (.bool vq48))) else (bif (decide (a0 = (str [117, 105, 100]))) then (bif (decide (a0 = (str [117, 105, 100]))) then (callT (kp E k n dec_Number [(.str a1)]) fun vt50 => (tupI .i64 vt50 fun vn51 vt52 => (tupI .u8 vt52 fun vn53 vt54 => (atNil vt54 (some (.bool (decide (vn53 = (0 : Int))))))))) else (bif (decide (a0 = (str [109, 116, 105, 109, 101]))) then (callT (kp E k n dec_Time [(.str a1)]) fun vt56 => (tupG 2 vt56 fun vg57 vt58 => (cellI .i64 vg57 0 fun vn59 => (cellI .i64 vg57 1 fun vn60 => (tupI .u8 vt58 fun vn61 vt62 => (atNil vt62 (some (.bool (decide (vn61 = (0 : Int))))))))))) else (some (.bool true)))) else (bif (decide (a0 = (str [103, 105, 100]))) then (bif (decide (a0 = (str [103, 105, 100]))) then (callT (kp E k n dec_Number [(.str a1)]) fun vt64 => (tupI .i64 vt64 fun vn65 vt66 => (tupI .u8 vt66 fun vn67 vt68 => (atNil vt68 (some (.bool (decide (vn67 = (0 : Int))))))))) else (bif (decide (a0 = (str [109, 116, 105, 109, 101]))) then (callT (kp E k n dec_Time [(.str a1)]) fun vt70 => (tupG 2 vt70 fun vg71 vt72 => (cellI .i64 vg71 0 fun vn73 => (cellI .i64 vg71 1 fun vn74 => (tupI .u8 vt72 fun vn75 vt76 => (atNil vt76 (some (.bool (decide (vn75 = (0 : Int))))))))))) else (some (.bool true)))) else (bif (decide (a0 = (str [115, 105, 122, 101]))) then (callT (kp E k n dec_Number [(.str a1)]) fun vt78 => (tupI .i64 vt78 fun vn79 vt80 => (tupI .u8 vt80 fun vn81 vt82 => (atNil vt82 (some (.bool (decide (vn81 = (0 : Int))))))))) else (bif (decide (a0 = (str [109, 116, 105, 109, 101]))) then (callT (kp E k n dec_Time [(.str a1)]) fun vt84 => (tupG 2 vt84 fun vg85 vt86 => (cellI .i64 vg85 0 fun vn87 => (cellI .i64 vg85 1 fun vn88 => (tupI .u8 vt86 fun vn89 vt90 => (atNil vt90 (some (.bool (decide (vn89 = (0 : Int))))))))))) else (some (.bool true))))))) else (bif (decide (a0 = (str [117, 110, 97, 109, 101]))) then (bif (decide (a0 = (str [117, 110, 97, 109, 101]))) then (callB (kp E k n pax_clean [(.str a1)]) fun vq92 => (some (.bool vq92))) else (bif (decide (a0 = (str [117, 105, 100]))) then (bif (decide (a0 = (str [117, 105, 100]))) then (callT (kp E k n dec_Number [(.str a1)]) fun vt94 => (tupI .i64 vt94 fun vn95 vt96 => (tupI .u8 vt96 fun vn97 vt98 => (atNil vt98 (some (.bool (decide (vn97 = (0 : Int))))))))) else (bif (decide (a0 = (str [109, 116, 105, 109, 101]))) then (callT (kp E k n dec_Time [(.str a1)]) fun vt100 => (tupG 2 vt100 fun vg101 vt102 => (cellI .i64 vg101 0 fun vn103 => (cellI .i64 vg101 1 fun vn104 => (tupI .u8 vt102 fun vn105 vt106 => (atNil vt106 (some (.bool (decide (vn105 = (0 : Int))))))))))) else (some (.bool true)))) else (bif (decide (a0 = (str [103, 105, 100]))) then (bif (decide (a0 = (str [103, 105, 100]))) then (callT (kp E k n dec_Number [(.str a1)]) fun vt108 => (tupI .i64 vt108 fun vn109 vt110 => (tupI .u8 vt110 fun vn111 vt112 => (atNil vt112 (some (.bool (decide (vn111 = (0 : Int))))))))) else (bif (decide (a0 = (str [109, 116, 105, 109, 101]))) then (callT (kp E k n dec_Time [(.str a1)]) fun vt114 => (tupG 2 vt114 fun vg115 vt116 => (cellI .i64 vg115 0 fun vn117 => (cellI .i64 vg115 1 fun vn118 => (tupI .u8 vt116 fun vn119 vt120 => (atNil vt120 (some (.bool (decide (vn119 = (0 : Int))))))))))) else (some (.bool true)))) else (bif (decide (a0 = (str [115, 105, 122, 101]))) then (callT (kp E k n dec_Number [(.str a1)]) fun vt122 => (tupI .i64 vt122 fun vn123 vt124 => (tupI .u8 vt124 fun vn125 vt126 => (atNil vt126 (some (.bool (decide (vn125 = (0 : Int))))))))) else (bif (decide (a0 = (str [109, 116, 105, 109, 101]))) then (callT (kp E k n dec_Time [(.str a1)]) fun vt128 => (tupG 2 vt128 fun vg129 vt130 => (cellI .i64 vg129 0 fun vn131 => (cellI .i64 vg129 1 fun vn132 => (tupI .u8 vt130 fun vn133 vt134 => (atNil vt134 (some (.bool (decide (vn133 = (0 : Int))))))))))) else (some (.bool true))))))) else (bif (decide (a0 = (str [103, 110, 97, 109, 101]))) then (callB (kp E k n pax_clean [(.str a1)]) fun vq136 => (some (.bool vq136))) else (bif (decide (a0 = (str [117, 105, 100]))) then (bif (decide (a0 = (str [117, 105, 100]))) then (callT (kp E k n dec_Number [(.str a1)]) fun vt138 => (tupI .i64 vt138 fun vn139 vt140 => (tupI .u8 vt140 fun vn141 vt142 => (atNil vt142 (some (.bool (decide (vn141 = (0 : Int))))))))) else (bif (decide (a0 = (str [109, 116, 105, 109, 101]))) then (callT (kp E k n dec_Time [(.str a1)]) fun vt144 => (tupG 2 vt144 fun vg145 vt146 => (cellI .i64 vg145 0 fun vn147 => (cellI .i64 vg145 1 fun vn148 => (tupI .u8 vt146 fun vn149 vt150 => (atNil vt150 (some (.bool (decide (vn149 = (0 : Int))))))))))) else (some (.bool true)))) else (bif (decide (a0 = (str [103, 105, 100]))) then (bif (decide (a0 = (str [103, 105, 100]))) then (callT (kp E k n dec_Number [(.str a1)]) fun vt152 => (tupI .i64 vt152 fun vn153 vt154 => (tupI .u8 vt154 fun vn155 vt156 => (atNil vt156 (some (.bool (decide (vn155 = (0 : Int))))))))) else (bif (decide (a0 = (str [109, 116, 105, 109, 101]))) then (callT (kp E k n dec_Time [(.str a1)]) fun vt158 => (tupG 2 vt158 fun vg159 vt160 => (cellI .i64 vg159 0 fun vn161 => (cellI .i64 vg159 1 fun vn162 => (tupI .u8 vt160 fun vn163 vt164 => (atNil vt164 (some (.bool (decide (vn163 = (0 : Int))))))))))) else (some (.bool true)))) else (bif (decide (a0 = (str [115, 105, 122, 101]))) then (callT (kp E k n dec_Number [(.str a1)]) fun vt166 => (tupI .i64 vt166 fun vn167 vt168 => (tupI .u8 vt168 fun vn169 vt170 => (atNil vt170 (some (.bool (decide (vn169 = (0 : Int))))))))) else (bif (decide (a0 = (str [109, 116, 105, 109, 101]))) then (callT (kp E k n dec_Time [(.str a1)]) fun vt172 => (tupG 2 vt172 fun vg173 vt174 => (cellI .i64 vg173 0 fun vn175 => (cellI .i64 vg173 1 fun vn176 => (tupI .u8 vt174 fun vn177 vt178 => (atNil vt178 (some (.bool (decide (vn177 = (0 : Int))))))))))) else (some (.bool true))))))))))))) := (kp_at (by kernel_rfl)).trans (by kernel_rfl)
/- slices.Index[[]int,int] -/
/- oakum/item.Flag -/
theorem item_Flag_eq {E : Ext} [Core E] (k n : Nat) (a0 : Int) : kp E k (n + 1) item_Flag [(.int .i64 a0)] =
  (bif (decide (a0 < (1 : Int))) then (some (.int .u8 (0 : Int))) else (bif (decide (a0 > (7 : Int))) then (some (.int .u8 (0 : Int))) else (some (.int .u8 (IntKind.wrap .u8 ((48 : Int) + (IntKind.wrap .u8 (IntKind.wrap .i64 (a0 - (1 : Int)))))))))) := (kp_at (by kernel_rfl)).trans (by kernel_rfl)
/- oakum/item.named -/
theorem item_named_eq {E : Ext} [Core E] (k n : Nat) (a0 : ByteArray) : kp E k (n + 1) item_named [(.str a0)] =
  (bif (!(decide (a0 = (str [])))) then (bif (decide ((((ByteArray.size a0) : Nat) : Int) ≤ (65536 : Int))) then (callB (kp E k n text_Clean [(.str a0)]) fun vq2 => (some (.bool vq2))) else (some (.bool false))) else (some (.bool false))) := (kp_at (by kernel_rfl)).trans (by kernel_rfl)
/- strings.HasSuffix -/
theorem strings_HasSuffix_eq {E : Ext} [Core E] (k n : Nat) (a0 : ByteArray) (a1 : ByteArray) : kp E k (n + 1) strings_HasSuffix [(.str a0), (.str a1)] =
  (callB (kp E k n stringslite_HasSuffix [(.str a0), (.str a1)]) fun vq2 => (some (.bool vq2))) := (kp_at (by kernel_rfl)).trans (by kernel_rfl)
/- oakum/item.link -/
theorem item_link_eq {E : Ext} [Core E] (k n : Nat) (a0_0 : Int) (a0_1 : ByteArray) (a0_2 : ByteArray) (a0_3 : Int) (a0_4 : Int) (a0_5 : Int) (a0_6 : Int) (a0_7 : Int) (a0_8 : Int) (a0_9 : ByteArray) (a0_10 : ByteArray) (a0_11 : Int) (a0_12 : Int) (a0_13 : List AV) : kp E k (n + 1) item_link [(.agg [(.int .i64 a0_0), (.str a0_1), (.str a0_2), (.int .i64 a0_3), (.int .i64 a0_4), (.int .i64 a0_5), (.int .i64 a0_6), (.int .i64 a0_7), (.int .i64 a0_8), (.str a0_9), (.str a0_10), (.int .i64 a0_11), (.int .i64 a0_12), (.list 2 a0_13)])] =
  (bif (decide (a0_0 = (2 : Int))) then (callB (kp E k n item_named [(.str a0_2)]) fun vq2 => (some (.bool vq2))) else (bif (decide (a0_0 = (3 : Int))) then (callB (kp E k n item_named [(.str a0_2)]) fun vq4 => (some (.bool vq4))) else (some (.bool (decide (a0_2 = (str []))))))) := (kp_at (by kernel_rfl)).trans (by kernel_rfl)
/- oakum/item.plain -/
theorem item_plain_eq {E : Ext} [Core E] (k n : Nat) (a0 : ByteArray) : kp E k (n + 1) item_plain [(.str a0)] =
  (bif (decide ((((ByteArray.size a0) : Nat) : Int) ≤ (65536 : Int))) then (callB (kp E k n text_Clean [(.str a0)]) fun vq2 => (some (.bool vq2))) else (some (.bool false))) := (kp_at (by kernel_rfl)).trans (by kernel_rfl)
/- oakum/item.device -/
theorem item_device_eq {E : Ext} [Core E] (k n : Nat) (a0_0 : Int) (a0_1 : ByteArray) (a0_2 : ByteArray) (a0_3 : Int) (a0_4 : Int) (a0_5 : Int) (a0_6 : Int) (a0_7 : Int) (a0_8 : Int) (a0_9 : ByteArray) (a0_10 : ByteArray) (a0_11 : Int) (a0_12 : Int) (a0_13 : List AV) (a1 : Int) : kp E k (n + 1) item_device [(.agg [(.int .i64 a0_0), (.str a0_1), (.str a0_2), (.int .i64 a0_3), (.int .i64 a0_4), (.int .i64 a0_5), (.int .i64 a0_6), (.int .i64 a0_7), (.int .i64 a0_8), (.str a0_9), (.str a0_10), (.int .i64 a0_11), (.int .i64 a0_12), (.list 2 a0_13)]), (.int .i64 a1)] =
  (bif (decide (a1 = (0 : Int))) then (some (.bool true)) else (bif (decide (a1 > (0 : Int))) then (bif (decide (a0_0 = (4 : Int))) then (some (.bool true)) else (some (.bool (decide (a0_0 = (5 : Int)))))) else (some (.bool false)))) := (kp_at (by kernel_rfl)).trans (by kernel_rfl)
/- oakum/item.extra -/
theorem item_extra_eq {E : Ext} [Core E] (k n : Nat) (a0 : List AV) : kp E k (n + 1) item_extra [(.list 2 a0)] =
  (callB (kp E k n over_Right [(.list 2 a0)]) fun vq2 => (bif vq2 then (callB (kp E k n slices_ContainsFunc_api_Pair [(.list 2 a0), (.func (.func item_extra_1) [] [])]) fun vq4 => (some (.bool (!vq4)))) else (some (.bool false)))) := (kp_at (by kernel_rfl)).trans (by kernel_rfl)
/- slices.ContainsFunc[[]oakum/api.Pair,oakum/api.Pair] -/
theorem slices_ContainsFunc_api_Pair_eq {E : Ext} [Core E] (k n : Nat) (a0 : List AV) : kp E k (n + 1) slices_ContainsFunc_api_Pair [(.list 2 a0), (.func (.func item_extra_1) [] [])] =
  (callI .i64 (kp E k n slices_IndexFunc_api_Pair [(.list 2 a0), (.func (.func item_extra_1) [] [])]) fun vn2 => (some (.bool (decide (vn2 ≥ (0 : Int)))))) := (kp_at (by kernel_rfl)).trans (by kernel_rfl)
/- slices.BinarySearchFunc[[]oakum/api.Pair,oakum/api.Pair,string] -/
/- oakum/over.byKey$1 -/
/- slices.rotateRight[oakum/api.Pair] -/
/- oakum/utf.First -/
noncomputable def utf_First_bd : Code := Tryz.f209.body.getD .skip
noncomputable def utf_First_L0 (kap : FuncId → List AV → Option AV) (k : Nat) (k0 : Nat) (s0 : ByteArray) (i6s : ByteArray) (i6p : Nat) : Option AV :=
  loop (fun fr K => code ((bs E0 k).cfg kap utf_First) (sel utf_First_bd [1, 0, 1, 0, 0]) fr K) (canon ((bs E0 k).cfg kap utf_First) (firstReg (sel utf_First_bd [1, 0, 1, 0, 0]))) k0 (mkFr 16 [(0, (.str s0)), (6, (.itr 6))] [(6, (.it i6s i6p))]) (plug ((bs E0 k).cfg kap utf_First) (retK ((bs E0 k).cfg kap utf_First) [] Tryz.f209 [] some) [.blk 0, .seqR (sel utf_First_bd [1, 1])])
theorem utf_First_L0_s (kap : FuncId → List AV → Option AV) (k : Nat) (k0 : Nat) (s0 : ByteArray) (i6s : ByteArray) (i6p : Nat) : utf_First_L0 kap k (k0 + 1) s0 i6s i6p =
  (bif (decide (i6p < (ByteArray.size i6s))) then (callB (kap utf_wrong [(.str s0), (.int .i64 ((i6p : Nat) : Int)), (.int .i32 (((Utf8.decode i6s i6p).1 : Nat) : Int))]) fun vq2 => (bif vq2 then (some (.int .i64 ((i6p : Nat) : Int))) else (utf_First_L0 kap k k0 s0 i6s (i6p + (Utf8.decode i6s i6p).2)))) else (some (.int .i64 (-1 : Int)))) := by kernel_rfl
theorem utf_First_eq {E : Ext} [Core E] (k n : Nat) (a0 : ByteArray) : kp E k (n + 1) utf_First [(.str a0)] =
  (utf_First_L0 (kp E k n) k k a0 a0 0) := (kp_at (by kernel_rfl)).trans (by kernel_rfl)
/- oakum/pax.clean -/
theorem pax_clean_eq {E : Ext} [Core E] (k n : Nat) (a0 : ByteArray) : kp E k (n + 1) pax_clean [(.str a0)] =
  (callI .i64 (kp E k n strings_IndexByte [(.str a0), (.int .u8 (0 : Int))]) fun vn2 => (some (.bool (decide (vn2 < (0 : Int)))))) := (kp_at (by kernel_rfl)).trans (by kernel_rfl)
/- slices.Contains[[]string,string] -/
/- oakum/text.Clean -/
theorem text_Clean_eq {E : Ext} [Core E] (k n : Nat) (a0 : ByteArray) : kp E k (n + 1) text_Clean [(.str a0)] =
  (callI .i64 (kp E k n strings_IndexByte [(.str a0), (.int .u8 (0 : Int))]) fun vn2 => (some (.bool (decide (vn2 < (0 : Int)))))) := (kp_at (by kernel_rfl)).trans (by kernel_rfl)
/- internal/stringslite.HasSuffix -/
theorem stringslite_HasSuffix_eq {E : Ext} [Core E] (k n : Nat) (a0 : ByteArray) (a1 : ByteArray) : kp E k (n + 1) stringslite_HasSuffix [(.str a0), (.str a1)] =
  (bif (decide ((((ByteArray.size a0) : Nat) : Int) ≥ (((ByteArray.size a1) : Nat) : Int))) then (bif ((decide ((0 : Int) ≤ (IntKind.wrap .i64 ((((ByteArray.size a0) : Nat) : Int) - (((ByteArray.size a1) : Nat) : Int))))) && (decide ((IntKind.wrap .i64 ((((ByteArray.size a0) : Nat) : Int) - (((ByteArray.size a1) : Nat) : Int))) ≤ (((ByteArray.size a0) : Nat) : Int)))) then (some (.bool (decide ((ByteArray.extract a0 (Int.toNat (IntKind.wrap .i64 ((((ByteArray.size a0) : Nat) : Int) - (((ByteArray.size a1) : Nat) : Int)))) (ByteArray.size a0)) = a1)))) else none) else (some (.bool false))) := (kp_at (by kernel_rfl)).trans (by kernel_rfl)
/- oakum/item.extra$1 -/
theorem item_extra_1_eq {E : Ext} [Core E] (k n : Nat) (a0_0 : ByteArray) (a0_1 : ByteArray) : kp E k (n + 1) item_extra_1 [(.agg [(.str a0_0), (.str a0_1)])] =
  (callB (kp E k n pax_Known [(.str a0_0)]) fun vq2 => (some (.bool vq2))) := (kp_at (by kernel_rfl)).trans (by kernel_rfl)
/- slices.rotateLeft[oakum/api.Pair] -/
/- oakum/utf.wrong -/
theorem utf_wrong_eq {E : Ext} [Core E] (k n : Nat) (a0 : ByteArray) (a1 : Int) (a2 : Int) : kp E k (n + 1) utf_wrong [(.str a0), (.int .i64 a1), (.int .i32 a2)] =
  (bif (!(decide (a2 = (65533 : Int)))) then (some (.bool false)) else (bif ((decide ((0 : Int) ≤ a1)) && (decide (a1 ≤ (((ByteArray.size a0) : Nat) : Int)))) then (callT (kp E k n unicode_utf8_DecodeRuneInString [(.str (ByteArray.extract a0 (Int.toNat a1) (ByteArray.size a0)))]) fun vt2 => (tupI .i32 vt2 fun vn3 vt4 => (tupI .i64 vt4 fun vn5 vt6 => (atNil vt6 (some (.bool (decide (vn5 = (1 : Int))))))))) else none)) := (kp_at (by kernel_rfl)).trans (by kernel_rfl)
/- slices.Equal[[]string,string] -/
end Go.Proofs.YtogfcfgfkggmlaaGreatDoor.Eng.U


/- Texts quoted and unquoted, in plain words. No program. -/
set_option linter.unusedVariables false
set_option linter.unusedSimpArgs false
namespace Go.Proofs.YtogfcfgfkggmlaaGreatDoor.Eng.U
open Go Go.Proofs Go.Proofs.YtogfcfgfkggmlaaGreatDoor.Eng

/-- May a byte stand as it is? -/
def openB (c : UInt8) : Bool := decide (32 < c.toNat) && decide (c.toNat < 127) && decide (c ≠ 92)
def qByte (c : UInt8) : List UInt8 := if openB c = true then [c] else [92, UInt8.ofNat (48 + c.toNat / 64), UInt8.ofNat (48 + c.toNat / 8 % 8), UInt8.ofNat (48 + c.toNat % 8)]
def quoteL (l : List UInt8) : List UInt8 := l.flatMap qByte
theorem quote_cons (c : UInt8) (l : List UInt8) : quoteL (c :: l) = qByte c ++ quoteL l := rfl
theorem quote_snoc (l : List UInt8) (i : Nat) (h : i < l.length) : quoteL (l.take (i + 1)) = quoteL (l.take i) ++ qByte l[i] := by
  unfold quoteL
  rw [List.take_add_one, List.getElem?_eq_getElem h, List.flatMap_append]
  show _ ++ List.flatMap qByte [l[i]] = _
  rw [List.flatMap_singleton]
theorem quote_len : ∀ l : List UInt8, (quoteL l).length ≤ 4 * l.length
  | [] => by simp [quoteL]
  | c :: l => by
    have ih := quote_len l
    have h : (qByte c).length ≤ 4 := by unfold qByte; split <;> simp
    rw [quote_cons, List.length_append, List.length_cons]
    omega
theorem ofNat_oct (d : Nat) (h : d < 8) : (UInt8.ofNat (48 + d)).toNat = 48 + d := by rw [UInt8.toNat_ofNat']; omega
def octB (c : UInt8) : Bool := decide (48 ≤ c.toNat) && decide (c.toNat ≤ 55)
def octV (a b d : UInt8) : Nat := (a.toNat - 48) * 64 + (b.toNat - 48) * 8 + (d.toNat - 48)
/-- The byte that three digits stand for, if it wants to be told so. -/
def octQ (a b d : UInt8) : Option UInt8 := if (decide (a.toNat ≤ 51) && octB a && octB b && octB d && !openB (UInt8.ofNat (octV a b d))) = true then some (UInt8.ofNat (octV a b d)) else none
def unq1 : List UInt8 → Option UInt8
  | c :: a :: b :: d :: _ => if c = 92 then octQ a b d else none
  | _ => none
def unqL : Nat → List UInt8 → Option (List UInt8)
  | _, [] => some []
  | 0, _ :: _ => none
  | f + 1, c :: r => if openB c = true then (unqL f r).map (c :: ·) else match unq1 (c :: r) with
    | none => none
    | some x => (unqL f (r.drop 3)).map (x :: ·)
theorem octQ_some {a b d x : UInt8} (h : octQ a b d = some x) : openB x = false ∧ qByte x = [92, a, b, d] := by
  unfold octQ at h
  split at h
  · rename_i hc
    obtain rfl := Option.some.inj h
    simp only [Bool.and_eq_true, decide_eq_true_eq, Bool.not_eq_true', octB] at hc
    obtain ⟨⟨⟨⟨h1, h2⟩, h3⟩, h4⟩, h5⟩ := hc
    refine ⟨h5, ?_⟩
    unfold qByte
    rw [if_neg (by rw [h5]; simp)]
    have hv : (UInt8.ofNat (octV a b d)).toNat = octV a b d := by rw [UInt8.toNat_ofNat']; unfold octV; omega
    rw [hv]
    have e1 : UInt8.ofNat (48 + octV a b d / 64) = a := UInt8.toNat_inj.1 (by rw [UInt8.toNat_ofNat']; unfold octV; omega)
    have e2 : UInt8.ofNat (48 + octV a b d / 8 % 8) = b := UInt8.toNat_inj.1 (by rw [UInt8.toNat_ofNat']; unfold octV; omega)
    have e3 : UInt8.ofNat (48 + octV a b d % 8) = d := UInt8.toNat_inj.1 (by rw [UInt8.toNat_ofNat']; unfold octV; omega)
    rw [e1, e2, e3]
  · cases h
theorem octQ_code {c : UInt8} (h : openB c = false) : octQ (UInt8.ofNat (48 + c.toNat / 64)) (UInt8.ofNat (48 + c.toNat / 8 % 8)) (UInt8.ofNat (48 + c.toNat % 8)) = some c := by
  have hc : c.toNat < 256 := c.toNat_lt
  have e1 := ofNat_oct (c.toNat / 64) (by omega)
  have e2 := ofNat_oct (c.toNat / 8 % 8) (by omega)
  have e3 := ofNat_oct (c.toNat % 8) (by omega)
  have hv : octV (UInt8.ofNat (48 + c.toNat / 64)) (UInt8.ofNat (48 + c.toNat / 8 % 8)) (UInt8.ofNat (48 + c.toNat % 8)) = c.toNat := by unfold octV; rw [e1, e2, e3]; omega
  unfold octQ
  rw [hv, UInt8.ofNat_toNat, if_pos]
  simp only [Bool.and_eq_true, decide_eq_true_eq, Bool.not_eq_true', octB, e1, e2, e3]
  refine ⟨?_, h⟩
  omega
theorem qByte_shut {c : UInt8} (h : openB c = false) : qByte c = [92, UInt8.ofNat (48 + c.toNat / 64), UInt8.ofNat (48 + c.toNat / 8 % 8), UInt8.ofNat (48 + c.toNat % 8)] := by unfold qByte; rw [if_neg (by rw [h]; simp)]
theorem qByte_open {c : UInt8} (h : openB c = true) : qByte c = [c] := by unfold qByte; rw [if_pos h]
theorem unq_quote : ∀ (s : List UInt8) (f : Nat), s.length ≤ f → unqL f (quoteL s) = some s
  | [], f, _ => by cases f <;> rfl
  | c :: s, f, hf => by
    obtain ⟨f, rfl⟩ : ∃ m, f = m + 1 := ⟨f - 1, by rw [List.length_cons] at hf; omega⟩
    have ih := unq_quote s f (by rw [List.length_cons] at hf; omega)
    rw [quote_cons]
    cases h : openB c with
    | true =>
      rw [qByte_open h, List.singleton_append]
      unfold unqL
      rw [if_pos h, ih]; rfl
    | false =>
      rw [qByte_shut h]
      have e : ∀ (a b d : UInt8) (r : List UInt8), [92, a, b, d] ++ r = 92 :: a :: b :: d :: r := fun a b d r => rfl
      rw [e]
      unfold unqL
      rw [if_neg (by decide)]
      have e2 : ∀ (a b d : UInt8) (r : List UInt8), unq1 (92 :: a :: b :: d :: r) = octQ a b d := fun a b d r => by simp [unq1]
      rw [e2, octQ_code h]
      dsimp only
      rw [show ∀ (a b d : UInt8) (r : List UInt8), (a :: b :: d :: r).drop 3 = r from fun a b d r => rfl, ih]; rfl
theorem quote_unq : ∀ (f : Nat) (t s : List UInt8), unqL f t = some s → quoteL s = t
  | f, [], s, h => by
    have : s = [] := by cases f <;> (cases h; rfl)
    subst this; rfl
  | 0, c :: r, s, h => by cases h
  | f + 1, c :: r, s, h => by
    unfold unqL at h
    split at h
    · rename_i hc
      obtain ⟨m, hm, rfl⟩ := Option.map_eq_some_iff.1 h
      rw [quote_cons, qByte_open hc, quote_unq f r m hm]; rfl
    · cases hq : unq1 (c :: r) with
      | none => rw [hq] at h; cases h
      | some x =>
        rw [hq] at h
        obtain ⟨m, hm, rfl⟩ := Option.map_eq_some_iff.1 h
        unfold unq1 at hq
        split at hq
        · rename_i c' a b d r' e
          cases e
          split at hq
          · rename_i h92
            subst h92
            have h1 := (octQ_some hq).2
            have h2 := quote_unq f _ m hm
            rw [quote_cons, h1, h2]
            rfl
          · cases hq
        · cases hq
end Go.Proofs.YtogfcfgfkggmlaaGreatDoor.Eng.U


/- The program's own data: pairs, times, heads, items: as structures, as abstract values, as a row hands them in. Printed by apigen.py. -/
set_option linter.unusedVariables false
namespace Go.Proofs.YtogfcfgfkggmlaaGreatDoor.Eng.U
open Go Go.Proofs Go.Proofs.YtogfcfgfkggmlaaGreatDoor.Eng
abbrev Tx := List UInt8
structure Pair where
  key : Tx
  val : Tx
  deriving DecidableEq, Inhabited
structure Time where
  sec : Int
  nano : Int
  deriving DecidableEq, Inhabited
structure Head where
  kind : Int
  name : Tx
  link : Tx
  mode : Int
  uid : Int
  gid : Int
  size : Int
  sec : Int
  nano : Int
  user : Tx
  group : Tx
  major : Int
  minor : Int
  extra : List Pair
  deriving DecidableEq, Inhabited
structure Item where
  head : Head
  data : Tx
  deriving DecidableEq, Inhabited
def bys (l : Tx) : List AV := l.map byteAV
def encPair (p : Pair) : List AV := [.str (str p.key), .str (str p.val)]
def elPair (p : Pair) : AV := .agg (encPair p)
def prs (l : List Pair) : List AV := l.map elPair
def encHead (h : Head) : List AV := [.int .i64 h.kind, .str (str h.name), .str (str h.link), .int .i64 h.mode, .int .i64 h.uid, .int .i64 h.gid, .int .i64 h.size, .int .i64 h.sec, .int .i64 h.nano, .str (str h.user), .str (str h.group), .int .i64 h.major, .int .i64 h.minor, .list 2 (prs h.extra)]
def encItem (x : Item) : List AV := [.int .i64 x.head.kind, .str (str x.head.name), .str (str x.head.link), .int .i64 x.head.mode, .int .i64 x.head.uid, .int .i64 x.head.gid, .int .i64 x.head.size, .int .i64 x.head.sec, .int .i64 x.head.nano, .str (str x.head.user), .str (str x.head.group), .int .i64 x.head.major, .int .i64 x.head.minor, .list 2 (prs x.head.extra), .list 1 (bys x.data)]
def elItem (x : Item) : AV := .agg (encItem x)
def its (l : List Item) : List AV := l.map elItem
theorem bys_len (l : Tx) : (bys l).length = l.length := by simp [bys]
theorem prs_len (l : List Pair) : (prs l).length = l.length := by simp [prs]
theorem cells_pair (p : Pair) : AV.cells (elPair p) = encPair p := (rfl)
section
variable {β : Type}
theorem prs_at (l : List Pair) (i : Nat) (h : i < l.length) (F : AV → Option β) : ((prs l)[i]?).bind F = F (elPair l[i]) := by unfold prs; rw [List.getElem?_map, List.getElem?_eq_getElem h]; rfl
theorem bys_at (l : Tx) (i : Nat) (h : i < l.length) (F : AV → Option β) : ((bys l)[i]?).bind F = F (byteAV l[i]) := by unfold bys; rw [List.getElem?_map, List.getElem?_eq_getElem h]; rfl
theorem prs_mid (a b : List Pair) (x : Pair) (F : AV → Option β) : ((prs (a ++ x :: b))[a.length]?).bind F = F (elPair x) := by rw [prs_at _ _ (by simp)]; simp
theorem bys_mid (a b : Tx) (x : UInt8) (F : AV → Option β) : ((bys (a ++ x :: b))[a.length]?).bind F = F (byteAV x) := by rw [bys_at _ _ (by simp)]; simp
theorem byte_c (c : UInt8) (K : Int → Option β) : cellI .u8 (AV.cells (byteAV c)) 0 K = K ((c.toNat : Nat) : Int) := cellI_0 _ _ _
theorem h_2 (x : Head) (K : ByteArray → Option β) : cellS (encHead x) 2 K = K (str x.link) := by first | exact (rfl) | (show cellS (encHead x) 2 K = _; simp [encHead, cellI, cellL, cellAt, atInt, atList])
theorem p_0 (x : Pair) (K : ByteArray → Option β) : cellS (encPair x) 0 K = K (str x.key) := by first | exact (rfl) | (show cellS (encPair x) 0 K = _; simp [encPair, cellI, cellL, cellAt, atInt, atList])
theorem p_1 (x : Pair) (K : ByteArray → Option β) : cellS (encPair x) 1 K = K (str x.val) := by first | exact (rfl) | (show cellS (encPair x) 1 K = _; simp [encPair, cellI, cellL, cellAt, atInt, atList])
end
end Go.Proofs.YtogfcfgfkggmlaaGreatDoor.Eng.U


/- strings.Builder's WriteByte, and text.Quote, walked. After the library's own contracts (BuilderK). -/
set_option linter.unusedVariables false
set_option linter.unusedSimpArgs false
namespace Go.Proofs.YtogfcfgfkggmlaaGreatDoor.S02
open Go Go.RowKit Go.Proofs Go.Shelf Go.Proofs.YtogfcfgfkggmlaaGreatDoor.Eng Go.Proofs.YtogfcfgfkggmlaaGreatDoor.Eng.U

theorem size63 : (Tryz.prog.info? 215).map (·.size) = some 2 := by kernel_rfl
theorem lies63 : liesAt Tryz.prog Tryz.prog.depth 215 (2 / Tryz.prog.cellsOf 215) 0 215 1 = true := by kernel_rfl

set_option maxHeartbeats 1000000 in
set_option maxRecDepth 100000 in
theorem copyCheck_used (b : Nat) (w : World) (h0 : w.cell? ⟨b, 0, none⟩ = some (.pointer (some ⟨b, 0, none⟩))) :
    Calls Tryz.prog 248 #[.pointer (some ⟨b, 0, none⟩)] w fun e w' => e = .returned (.tuple #[]) ∧ w' = w := by
  obtain ⟨j, hj, _⟩ := Option.map_eq_some_iff.1 size63
  go_enter Tryz.func248, Tryz.ntmps248
  go_wp2
  rw [Lib.run_neq_ptr_same w _ Tryz.underlying213 hj]
  go_wp2
  go_end0
  exact ⟨rfl, rfl⟩
set_option maxHeartbeats 1000000 in
set_option maxRecDepth 100000 in
theorem copyCheck_fresh (b : Nat) (w : World) (h0 : w.cell? ⟨b, 0, none⟩ = some (.pointer none)) (hsh : w.shape? b = some (215, 2)) (hfz : w.frozen? ⟨b, 0, none⟩ = false) :
    Calls Tryz.prog 248 #[.pointer (some ⟨b, 0, none⟩)] w fun e w' => e = .returned (.tuple #[]) ∧ w' = w.setCell ⟨b, 0, none⟩ (.pointer (some ⟨b, 0, none⟩)) := by
  obtain ⟨j, hj, hjs⟩ := Option.map_eq_some_iff.1 size63
  go_enter Tryz.func248, Tryz.ntmps248
  go_wp2
  rw [Lib.run_to_unsafe w ⟨b, 0, none⟩ Tryz.underlying213 Tryz.underlying284 hj (by rw [hjs]; decide) hsh (Nat.zero_lt_succ 1)]
  simp only [Result.andThen]
  rw [Oper.upon_value]
  go_wp2
  rw [run_callFunc_extern Tryz.func282 (by kernel_rfl) (by kernel_rfl) (by kernel_rfl) (e := Extern.AbiNoEscape.same) (by kernel_rfl)]
  rw [Lib.run_noEscape]
  simp only [Result.andThen]
  rw [Oper.upon_value]
  go_wp2
  rw [Lib.run_from_unsafe w ⟨b, 0, none⟩ Tryz.underlying284 Tryz.underlying213 hj hsh lies63]
  simp only [Result.andThen]
  rw [Oper.upon_value]
  go_wp2
  go_end0
  exact ⟨rfl, rfl⟩
theorem copyCheck_k (B b : Nat) (bs : List Value) (w : World) (h : Lib.IsBuilderF 215 5 B b bs w) :
    Calls Tryz.prog 248 #[.pointer (some ⟨b, 0, none⟩)] w fun e w' => e = .returned (.tuple #[]) ∧ (Lib.BuilderAtF 215 5 B b (.pointer (some ⟨b, 0, none⟩)) bs w' ∧ Below B w w' ∧ Lib.OthersKept 5 (some b) w w') := by
  rcases h with h | h
  · refine (copyCheck_fresh b w h.cell0 h.shape h.frozen0).mono ?_
    rintro e w' ⟨rfl, rfl⟩
    exact ⟨rfl, h.used _, (Below.refl B w).setCell (p := ⟨b, 0, none⟩) h.1 _, (Lib.OthersKept.refl _ _ w).setCell ⟨b, 0, none⟩ rfl _⟩
  · refine (copyCheck_used b w h.cell0).mono ?_
    rintro e w' ⟨rfl, rfl⟩
    exact ⟨rfl, h, Below.refl B _, Lib.OthersKept.refl _ _ _⟩


theorem infoB : (Tryz.prog.info? 5).map (fun i => (i.zero, i.size, i.bytes)) = some (some (.int .u8 0), 1, 1) := by kernel_rfl
set_option maxHeartbeats 2000000 in
set_option maxRecDepth 100000 in
theorem WriteByte_k (B b : Nat) (bs : List Value) (c : Int) (w : World) (h : Lib.IsBuilderF 215 5 B b bs w) (hlen : bs.length + 1 ≤ 140737488355328) (hBw : B ≤ w.heap.size) :
    Calls Tryz.prog 215 #[.pointer (some ⟨b, 0, none⟩), .int .u8 c] w fun e w' => e = .returned .nilIface ∧ (Lib.BuilderAtF 215 5 B b (.pointer (some ⟨b, 0, none⟩)) (bs ++ [.int .u8 c]) w' ∧ Below B w w' ∧ Lib.OthersKept 5 (some b) w w') := by
  obtain ⟨i0, hi, hz0, hz1, hz2⟩ := info_parts infoB
  go_enter Tryz.func215, Tryz.ntmps215
  go_wp2_with (go_at_call 248; refine (copyCheck_k B b bs _ h).mono ?_)
  rintro e w1 ⟨rfl, h1, hb1, hk1⟩
  obtain ⟨hB, v, hbk, hown, hne⟩ := h1
  have c0 : w1.cell? ⟨b, 0, none⟩ = some (.pointer (some ⟨b, 0, none⟩)) := by rw [Lib.cell_of_heap hbk]; rfl
  have c1 : w1.cell? ⟨b, 1, none⟩ = some v := by rw [Lib.cell_of_heap hbk]; rfl
  go_wp2_with (at_builtin; refine wpList_append_ownF _ rfl _ _ 40 rfl B 5 i0 (.int .u8 0) 1 1 Tryz.underlying40 hi hz0 hz1 hz2 rfl (by decide) _ _ _ rfl (hown.alloc _) ⟨w1.heap.size, 0, none⟩ 1 1 [.int .u8 c] rfl rfl ?c1 ?c2 ?c3 ?c4 ?c5 ?_)
  case c1 =>
    intro j u hj
    match j, hj with
    | 0, hj => simp at hj; subst hj; simp [Addr.add]
  case c2 => intro u hu; simp at hu; subst hu; rfl
  case c3 => unfold maxLen; omega
  case c4 => omega
  case c5 => have := hb1.size; simp; omega
  intro v' w2 hown' hgrow _
  have hlt : b < w1.heap.size := by
    rcases Nat.lt_or_ge b w1.heap.size with h' | h'
    · exact h'
    · simp [Array.getElem?_eq_none h'] at hbk
  have hb2 : w2.heap[b]? = some (.cells #[.pointer (some ⟨b, 0, none⟩), v] 215 (0, 0)) := by
    rw [hgrow.block b (by simp; omega) (fun e => hne e.symm), Lib.alloc_old w1 _ b hlt]
    exact hbk
  have d0 : w2.cell? ⟨b, 0, none⟩ = some (.pointer (some ⟨b, 0, none⟩)) := by rw [Lib.cell_of_heap hb2]; rfl
  have d1 : w2.cell? ⟨b, 1, none⟩ = some v := by rw [Lib.cell_of_heap hb2]; rfl
  have f1 : w2.frozen? ⟨b, 1, none⟩ = false := Lib.frozen_of_heap hb2 1
  obtain ⟨g, cap, rfl⟩ : ∃ g cap, v' = .slice (some ⟨g, 0, none⟩) (bs.length + 1) cap := by
    rcases hown'.2 with ⟨_, h0⟩ | ⟨g, cap, cur, fz, hv, _⟩
    · omega
    · exact ⟨g, cap, hv⟩
  go_wp2
  go_ret
  refine ⟨rfl, ?_, ?_, ((hk1.alloc _).grown hgrow (Lib.ownsRowF_kind (hown.alloc _))).setCell ⟨b, 1, none⟩ rfl _⟩
  · exact Lib.BuilderAtF.put (T := 215) (e := 5) hB hb2 (bs' := bs ++ [.int .u8 c]) (by simpa using hown') (by decide)
  · exact ((hb1.alloc (by have := hb1.size; omega) _).grown hgrow (by have := hb1.size; simp; omega) (fun k hk => (hown.lt k hk).1)).setCell (p := ⟨b, 1, none⟩) hB _
set_option maxHeartbeats 2000000 in
set_option maxRecDepth 100000 in
theorem open_calls (c : UInt8) (w : World) : Calls Tryz.prog 214 #[.int .u8 (c.toNat : Int)] w fun e w' => e = .returned (.bool (openB c)) ∧ w' = w := by
  go_enter Tryz.func214, Tryz.ntmps214
  go_wp2
  all_goals (go_ret; refine ⟨?_, rfl⟩; refine congrArg Ending.returned ?_)
  · show Value.bool (((c.toNat : Nat) : Int) != 92) = Value.bool (openB c)
    unfold openB
    rw [decide_eq_true (by omega), decide_eq_true (by omega), Bool.true_and, Bool.true_and]
    have e : (((c.toNat : Nat) : Int) != 92) = decide (c ≠ 92) := by
      rw [Bool.eq_iff_iff, bne_iff_ne, decide_eq_true_eq]
      constructor
      · rintro h rfl; exact h rfl
      · intro h h2; exact h (UInt8.toNat_inj.1 (by show c.toNat = 92; omega))
    rw [e]
  · show Value.bool false = Value.bool (openB c)
    unfold openB
    rw [decide_eq_false (show ¬ c.toNat < 127 by omega)]; simp
  · show Value.bool false = Value.bool (openB c)
    unfold openB
    rw [decide_eq_false (show ¬ 32 < c.toNat by omega)]; simp
theorem bits_hi : ∀ r : _root_.Fin 256, bits BinOp.and IntKind.u8 ((r.1 : Int) / 8) 7 = ((r.1 / 8 % 8 : Nat) : Int) := by decide +kernel
theorem bits_lo : ∀ r : _root_.Fin 256, bits BinOp.and IntKind.u8 ((r.1 : Nat) : Int) 7 = ((r.1 % 8 : Nat) : Int) := by decide +kernel
set_option maxHeartbeats 4000000 in
set_option maxRecDepth 1000000 in
theorem Quote_walk (l : List UInt8) (w : World) (hs : l.length ≤ 1000000000) :
    Calls Tryz.prog 144 #[.string (str l)] w fun e w' => e = .returned (.string (str (quoteL l))) ∧ Below w.heap.size w w' := by
  go_enter Tryz.func144, Tryz.ntmps144
  go_wp2
  go_loopw [8] (fun s8 wr => ∃ i : Nat, s8 = .int .i64 (i : Int) ∧ i ≤ l.length ∧ Lib.IsBuilderF 215 5 w.heap.size w.heap.size (Lib.byteCells (quoteL (l.take i))) wr ∧ Below w.heap.size w wr) (fun s8 wr => l.length - (intOf s8).toNat)
  case atStart =>
    exact ⟨0, rfl, by omega, Lib.IsBuilderF.of (Lib.fresh_isBuilder 215 5 w), (Below.refl _ w).alloc (Nat.le_refl _) _⟩
  case round =>
    obtain ⟨i, rfl, hi, hI, hbw⟩ := hrel
    by_cases hlt : i < l.length
    · have hlt2 : i < (str l).size := hlt
      go_wp2_with (go_at_call 214; refine (open_calls _ _).mono ?_)
      rintro e w1 ⟨rfl, rfl⟩
      have hq := World.size_alloc
      have hbs : w.heap.size ≤ w1.heap.size := hbw.size
      have hll : (quoteL (l.take i)).length ≤ 4 * i := by have := quote_len (l.take i); rw [List.length_take] at this; omega
      have hbi : (str l)[i] = l[i]'hlt := rfl
      cases ho : openB (str l)[i] with
      | true =>
        go_wp2_with (go_at_call 215; refine (WriteByte_k w.heap.size w.heap.size _ _ _ hI (by rw [Lib.byteCells_length]; omega) hbs).mono ?_)
        rintro e w2 ⟨rfl, h1, b1, k1⟩
        go_wp2
        go_roundw
        case rel =>
          refine ⟨i + 1, by simp, by omega, ?_, hbw.trans b1⟩
          rw [quote_snoc l i hlt, Lib.byteCells_append]
          have e : qByte (l[i]'hlt) = [l[i]'hlt] := by unfold qByte; rw [if_pos (by rw [← hbi]; exact ho)]
          rw [e]
          exact Or.inr h1
        case measure =>
          show l.length - (intOf (.int .i64 ((i : Int) + 1))).toNat < l.length - (intOf (.int .i64 (i : Int))).toNat
          show l.length - ((i : Int) + 1).toNat < l.length - (i : Int).toNat
          omega
      | false =>
        go_wp2_with (go_at_call 215; refine (WriteByte_k w.heap.size w.heap.size _ _ _ hI (by rw [Lib.byteCells_length]; omega) hbs).mono ?_)
        rintro e w2 ⟨rfl, h2, b2, k2⟩
        have hs2 := b2.size
        go_wp2_with (go_at_call 215; refine (WriteByte_k w.heap.size w.heap.size _ _ _ (Or.inr h2) (by simp only [List.length_append, Lib.byteCells_length, List.length_singleton]; omega) (by omega)).mono ?_)
        rintro e w3 ⟨rfl, h3, b3, k3⟩
        have hs3 := b3.size
        go_wp2_with (go_at_call 215; refine (WriteByte_k w.heap.size w.heap.size _ _ _ (Or.inr h3) (by simp only [List.length_append, Lib.byteCells_length, List.length_singleton]; omega) (by omega)).mono ?_)
        rintro e w4 ⟨rfl, h4, b4, k4⟩
        have hs4 := b4.size
        go_wp2_with (go_at_call 215; refine (WriteByte_k w.heap.size w.heap.size _ _ _ (Or.inr h4) (by simp only [List.length_append, Lib.byteCells_length, List.length_singleton]; omega) (by omega)).mono ?_)
        rintro e w5 ⟨rfl, h5, b5, k5⟩
        go_wp2
        go_roundw
        case rel =>
          refine ⟨i + 1, by simp, by omega, ?_, (((hbw.trans b2).trans b3).trans b4).trans b5⟩
          rw [quote_snoc l i hlt, Lib.byteCells_append]
          have e : qByte (l[i]'hlt) = [92, UInt8.ofNat (48 + (l[i]'hlt).toNat / 64), UInt8.ofNat (48 + (l[i]'hlt).toNat / 8 % 8), UInt8.ofNat (48 + (l[i]'hlt).toNat % 8)] := by unfold qByte; rw [if_neg (by rw [← hbi, ho]; simp)]
          have h256 : (l[i]'hlt).toNat < 256 := (l[i]'hlt).toNat_lt
          have q2 : bits BinOp.and IntKind.u8 (((l[i]'hlt).toNat : Int) / 8) 7 = (((l[i]'hlt).toNat / 8 % 8 : Nat) : Int) := bits_hi ⟨(l[i]'hlt).toNat, h256⟩
          have q3 : bits BinOp.and IntKind.u8 ((l[i]'hlt).toNat : Int) 7 = (((l[i]'hlt).toNat % 8 : Nat) : Int) := bits_lo ⟨(l[i]'hlt).toNat, h256⟩
          have e1 : ((48 : Int) + ((l[i]'hlt).toNat : Int) / 64) % 256 = (((UInt8.ofNat (48 + (l[i]'hlt).toNat / 64)).toNat : Nat) : Int) := by
            rw [ofNat_oct _ (by omega)]; omega
          have e2 : ((48 : Int) + bits BinOp.and IntKind.u8 (((l[i]'hlt).toNat : Int) / 8) 7) % 256 = (((UInt8.ofNat (48 + (l[i]'hlt).toNat / 8 % 8)).toNat : Nat) : Int) := by
            rw [ofNat_oct _ (by omega), q2]; omega
          have e3 : ((48 : Int) + bits BinOp.and IntKind.u8 ((l[i]'hlt).toNat : Int) 7) % 256 = (((UInt8.ofNat (48 + (l[i]'hlt).toNat % 8)).toNat : Nat) : Int) := by
            rw [ofNat_oct _ (by omega), q3]; omega
          rw [e1, e2, e3] at h5
          rw [e]
          refine Or.inr ?_
          have e4 : ∀ (X : List Value), X ++ Lib.byteCells [92, UInt8.ofNat (48 + (l[i]'hlt).toNat / 64), UInt8.ofNat (48 + (l[i]'hlt).toNat / 8 % 8), UInt8.ofNat (48 + (l[i]'hlt).toNat % 8)] = X ++ [.int .u8 92] ++ [.int .u8 (((UInt8.ofNat (48 + (l[i]'hlt).toNat / 64)).toNat : Nat) : Int)] ++ [.int .u8 (((UInt8.ofNat (48 + (l[i]'hlt).toNat / 8 % 8)).toNat : Nat) : Int)] ++ [.int .u8 (((UInt8.ofNat (48 + (l[i]'hlt).toNat % 8)).toNat : Nat) : Int)] := fun X => by
            simp [Lib.byteCells]
          rw [e4]
          exact h5
        case measure =>
          show l.length - (intOf (.int .i64 ((i : Int) + 1))).toNat < l.length - (intOf (.int .i64 (i : Int))).toNat
          show l.length - ((i : Int) + 1).toNat < l.length - (i : Int).toNat
          omega
    · obtain rfl : i = l.length := by omega
      rw [List.take_length] at hI
      have hlt2 : ¬ ((l.length : Int) < ((str l).size : Int)) := by rw [str_size]; omega
      go_wp2_with (go_at_call 186; refine (Tryz.Builder_String_any_k w.heap.size w.heap.size _ _ hI hbw.size).mono ?_)
      rintro e w1 rfl h1 b1 k1
      go_wp2
      go_ret
      exact ⟨rfl, hbw.trans b1⟩
end Go.Proofs.YtogfcfgfkggmlaaGreatDoor.S02


/- Given functions in pieces: each with what it answers, and that it does. -/
set_option linter.unusedVariables false
set_option linter.unusedSectionVars false
set_option linter.unusedSimpArgs false
namespace Go.Proofs.YtogfcfgfkggmlaaGreatDoor.Eng.U
open Go Go.Proofs Go.Proofs.YtogfcfgfkggmlaaGreatDoor.Eng Go.RowKit

structure Piece where
  f : FuncId
  ans : List AV → Option AV
def extOf (ps : List Piece) : Ext := { fs := coreFs, isBase := fun f => ps.any fun p => p.f == f, base := fun f args => (ps.find? fun p => p.f == f).bind fun p => p.ans args }
def Piece.Right (p : Piece) : Prop := Enters Tryz.prog p.f ∧ ∀ args res, p.ans args = some res → Ok Tryz.prog glob p.f args res
theorem core_of {ps : List Piece} (h : coreFs.all (fun f => !ps.any fun p => p.f == f) = true) : Core (extOf ps) where
  isB f hf := by
    have := List.all_eq_true.1 h f (List.contains_iff_mem.1 hf)
    simpa [extOf] using this
  has f hf := hf
theorem good_of {ps : List Piece} (h : ∀ p ∈ ps, p.Right) (hn : coreFs.all (namedOk Tryz.prog) = true) (k : Nat) : (bs (extOf ps) k).Good where
  mixed := by kernel_rfl
  names := hn
  base f args res hb hr := by
    change ((ps.find? fun p => p.f == f).bind fun p => p.ans args) = some res at hr
    obtain ⟨p, hp, ha⟩ := Option.bind_eq_some_iff.1 hr
    have hm := List.mem_of_find?_eq_some hp
    have hf : (p.f == f) = true := List.find?_some (p := fun q : Piece => q.f == f) hp
    have hf : p.f = f := by simpa using hf
    obtain ⟨h1, h2⟩ := h p hm
    rw [hf] at h1 h2
    exact ⟨h1, h2 args res ha⟩
theorem names_ok : coreFs.all (namedOk Tryz.prog) = true := by kernel_rfl
theorem kp_piece {ps : List Piece} {p : Piece} {k n : Nat} {args : List AV} (hp : ps.find? (fun q => q.f == p.f) = some p) : kp (extOf ps) k n p.f args = p.ans args := by
  rw [kp_base (by
    show (ps.any fun q => q.f == p.f) = true
    have := List.find?_some (p := fun q : Piece => q.f == p.f) hp
    exact List.any_eq_true.2 ⟨p, List.mem_of_find?_eq_some hp, this⟩)]
  show ((ps.find? fun q => q.f == p.f).bind fun q => q.ans args) = _
  rw [hp]
  rfl
theorem VL_1 {S : Stab} {x : AV} {vals : List Value} (h : VL S [x] vals) : ∃ v, vals = [v] ∧ V S x v := by
  obtain ⟨h1, h2⟩ := h
  match vals, h1 with
  | [v], _ => exact ⟨v, rfl, h2 0 _ _ rfl rfl⟩
theorem VL_2 {S : Stab} {x y : AV} {vals : List Value} (h : VL S [x, y] vals) : ∃ v u, vals = [v, u] ∧ V S x v ∧ V S y u := by
  obtain ⟨h1, h2⟩ := h
  match vals, h1 with
  | [v, u], _ => exact ⟨v, u, rfl, h2 0 _ _ rfl rfl, h2 1 _ _ rfl rfl⟩
theorem VL_3 {S : Stab} {x y z : AV} {vals : List Value} (h : VL S [x, y, z] vals) : ∃ v u t, vals = [v, u, t] ∧ V S x v ∧ V S y u ∧ V S z t := by
  obtain ⟨h1, h2⟩ := h
  match vals, h1 with
  | [v, u, t], _ => exact ⟨v, u, t, rfl, h2 0 _ _ rfl rfl, h2 1 _ _ rfl rfl, h2 2 _ _ rfl rfl⟩
theorem V_str {S : Stab} {s : ByteArray} {v : Value} (h : V S (.str s) v) : v = .string s := by cases h; rfl
theorem V_int {S : Stab} {k : IntKind} {n : Int} {v : Value} (h : V S (.int k n) v) : v = .int k n := by cases h; rfl
theorem agree_below {S : Stab} {w w' : World} (h : Agree S w) (hb : Below w.heap.size w w') : Agree S w' := fun x v hx =>
  (World.cell?_of_block (hb.block _ (World.block_lt_of_cell? w x (h x v hx)))).trans (h x v hx)
/-- A result that is pure, and nothing that lay has turned. -/
theorem ok_pure {f : FuncId} {args : List AV} {res : AV} (hres : res.isTup = false ∧ res.isFresh = false) (h : ∀ (S : Stab) (w : World) (vals : List Value), Agree S w → GlobOk glob S w → VL S args vals → Calls Tryz.prog f vals.toArray w fun e w' => ∃ v, e = .returned v ∧ (∀ S', V S' res v) ∧ Below w.heap.size w w') (hr : (args.all fun c => !c.isRes) = true := by rfl) : Ok Tryz.prog glob f args res := by
  refine Ok.of_plain (fun c hc => by simpa using List.all_eq_true.1 hr c hc) fun S w vals hag hG hV => ?_
  refine (h S w vals hag hG hV).mono ?_
  rintro e w' ⟨v, rfl, hv, hb⟩
  refine ⟨v, S, rfl, fun _ _ h => h, agree_below hag hb, fun _ _ h => .inl h, hb, ?_⟩
  have := hv S
  cases res <;> first | (cases hres.1; done) | (cases hres.2; done) | exact this
/-- Texts out of abstract values. -/
def toStrs : List AV → Option (List (List UInt8))
  | [] => some []
  | .str s :: l => (toStrs l).bind fun r => some (s.data.toList :: r)
  | _ => none
theorem toStrs_svs : ∀ l : List (List UInt8), toStrs (svs l) = some l
  | [] => rfl
  | p :: l => by
    show (toStrs (svs l)).bind (fun r => some (p :: r)) = _
    rw [toStrs_svs l]
    rfl
theorem toStrs_some : ∀ {xs : List AV} {l : List (List UInt8)}, toStrs xs = some l → xs = svs l
  | [], l, h => by cases h; rfl
  | x :: xs, l, h => by
    unfold toStrs at h
    split at h
    · rename_i e; cases e
    · rename_i s l' e
      cases e
      obtain ⟨r, hr, he⟩ := Option.bind_eq_some_iff.1 h
      cases he
      rw [toStrs_some hr]
      have : AV.str s = sv s.data.toList := by
        show AV.str s = AV.str _
        congr 1
      rw [this]; rfl
    · cases h
end Go.Proofs.YtogfcfgfkggmlaaGreatDoor.Eng.U


/- What functions answer, as the engine evaluates their code. Printed by gen2.py. -/
set_option linter.unusedVariables false
namespace Go.Proofs.YtogfcfgfkggmlaaGreatDoor.Eng.U
open Go Go.Proofs Go.Proofs.YtogfcfgfkggmlaaGreatDoor.Eng
/- oakum/oakumref04.Number -/
theorem ref04_Number_eq {E : Ext} [Core E] (k n : Nat) (a0 : ByteArray) : kp E k (n + 1) ref04_Number [(.str a0)] =
  (callT (kp E k n ref04_Below [(.str a0)]) fun vt2 => (tupI .i64 vt2 fun vn3 vt4 => (tupB vt4 fun vq5 vt6 => (atNil vt6 (bif (!vq5) then (some (.tup [(.int .i64 (0 : Int)), (.bool false)])) else (bif (decide (vn3 < (-9223372036854775807 : Int))) then (some (.tup [(.int .i64 (0 : Int)), (.bool false)])) else (some (.tup [(.int .i64 (IntKind.wrap .i64 (0 - vn3))), (.bool true)])))))))) := (kp_at (by kernel_rfl)).trans (by kernel_rfl)
/- oakum/oakumref04.Time -/
noncomputable def ref04_Time_bd : Code := Tryz.f67.body.getD .skip
noncomputable def ref04_Time_L0 (kap : FuncId → List AV → Option AV) (k : Nat) (k0 : Nat) (s0 : ByteArray) (s4 : Bool) (s5 : Int) (s6 : Int) (b2_0 : Int) (b2_1 : Int) : Option AV :=
  loop (fun fr K => code ((bs E0 k).cfg kap ref04_Time) (sel ref04_Time_bd [1, 1, 1, 1, 0, 1, 0, 0]) fr K) (canon ((bs E0 k).cfg kap ref04_Time) (firstReg (sel ref04_Time_bd [1, 1, 1, 1, 0, 1, 0, 0]))) k0 (mkFr 116 [(0, (.str s0)), (2, (.loc 2 0)), (4, (.bool s4)), (5, (.int .i64 s5)), (6, (.int .i64 s6))] [(2, (.box [(.int .i64 b2_0), (.int .i64 b2_1)]))]) (plug ((bs E0 k).cfg kap ref04_Time) (retK ((bs E0 k).cfg kap ref04_Time) [] Tryz.f67 [] some) [.blk 0, .seqR (sel ref04_Time_bd [1, 1, 1, 1, 1])])
noncomputable def ref04_Time_L1 (kap : FuncId → List AV → Option AV) (k : Nat) (k1 : Nat) (s4 : Bool) (s7 : Int) (s8 : Bool) (s9 : Int) (s10 : ByteArray) (s11 : Int) (b2_0 : Int) (b2_1 : Int) : Option AV :=
  loop (fun fr K => code ((bs E0 k).cfg kap ref04_Time) (sel ref04_Time_bd [1, 1, 1, 1, 1, 1, 1, 0, 1, 0, 1, 1, 1, 0, 0]) fr K) (canon ((bs E0 k).cfg kap ref04_Time) (firstReg (sel ref04_Time_bd [1, 1, 1, 1, 1, 1, 1, 0, 1, 0, 1, 1, 1, 0, 0]))) k1 (mkFr 116 [(2, (.loc 2 0)), (4, (.bool s4)), (7, (.int .i64 s7)), (8, (.bool s8)), (9, (.int .i64 s9)), (10, (.str s10)), (11, (.int .i64 s11))] [(2, (.box [(.int .i64 b2_0), (.int .i64 b2_1)]))]) (plug ((bs E0 k).cfg kap ref04_Time) (retK ((bs E0 k).cfg kap ref04_Time) [] Tryz.f67 [] some) [.blk 2, .seqR (sel ref04_Time_bd [1, 1, 1, 1, 1, 1, 1, 1])])
theorem ref04_Time_L0_s (kap : FuncId → List AV → Option AV) (k : Nat) (k0 : Nat) (s0 : ByteArray) (s4 : Bool) (s5 : Int) (s6 : Int) (b2_0 : Int) (b2_1 : Int) : ref04_Time_L0 kap k (k0 + 1) s0 s4 s5 s6 b2_0 b2_1 =
  (bif (decide (s6 ≥ (0 : Int))) then (bif ((decide ((0 : Int) ≤ s6)) && (decide (s6 < (((ByteArray.size s0) : Nat) : Int)))) then (bif (decide ((byteAt s0 (Int.toNat s6)) = (46 : Int))) then (ref04_Time_L0 kap k k0 s0 s4 s6 (IntKind.wrap .i64 (s6 - (1 : Int))) b2_0 b2_1) else (ref04_Time_L0 kap k k0 s0 s4 s5 (IntKind.wrap .i64 (s6 - (1 : Int))) b2_0 b2_1)) else none) else (bif ((decide ((0 : Int) ≤ s5)) && (decide (s5 ≤ (((ByteArray.size s0) : Nat) : Int)))) then (callT (kap ref04_Below [(.str (ByteArray.extract s0 0 (Int.toNat s5)))]) fun vt2 => (tupI .i64 vt2 fun vn3 vt4 => (tupB vt4 fun vq5 vt6 => (atNil vt6 (bif (decide (s5 < (((ByteArray.size s0) : Nat) : Int))) then (bif ((decide ((0 : Int) ≤ (IntKind.wrap .i64 (s5 + (1 : Int))))) && (decide ((IntKind.wrap .i64 (s5 + (1 : Int))) ≤ (((ByteArray.size s0) : Nat) : Int)))) then (callB (kap ref04_only [(.str (ByteArray.extract s0 (Int.toNat (IntKind.wrap .i64 (s5 + (1 : Int)))) (ByteArray.size s0)))]) fun vq8 => (bif (!vq8) then (some (.tup [(.agg [(.int .i64 (0 : Int)), (.int .i64 (0 : Int))]), (.bool false)])) else (bif (decide ((((ByteArray.size (ByteArray.extract s0 (Int.toNat (IntKind.wrap .i64 (s5 + (1 : Int)))) (ByteArray.size s0))) : Nat) : Int) > (9 : Int))) then (some (.tup [(.agg [(.int .i64 (0 : Int)), (.int .i64 (0 : Int))]), (.bool false)])) else (ref04_Time_L1 kap k k s4 vn3 vq5 (0 : Int) (ByteArray.extract s0 (Int.toNat (IntKind.wrap .i64 (s5 + (1 : Int)))) (ByteArray.size s0)) (0 : Int) b2_0 b2_1)))) else none) else (bif (!vq5) then (some (.tup [(.agg [(.int .i64 (0 : Int)), (.int .i64 (0 : Int))]), (.bool false)])) else (bif (!s4) then (bif (decide (vn3 = (-9223372036854775808 : Int))) then (some (.tup [(.agg [(.int .i64 (0 : Int)), (.int .i64 (0 : Int))]), (.bool false)])) else (bif s4 then (bif (decide (vn3 = (-9223372036854775808 : Int))) then (bif (!s4) then (some (.tup [(.agg [(.int .i64 (IntKind.wrap .i64 (0 - vn3))), (.int .i64 (0 : Int))]), (.bool true)])) else (some (.tup [(.agg [(.int .i64 vn3), (.int .i64 (0 : Int))]), (.bool true)]))) else (bif (!s4) then (some (.tup [(.agg [(.int .i64 (IntKind.wrap .i64 (0 - vn3))), (.int .i64 (0 : Int))]), (.bool true)])) else (some (.tup [(.agg [(.int .i64 vn3), (.int .i64 (0 : Int))]), (.bool true)])))) else (bif (!s4) then (some (.tup [(.agg [(.int .i64 (IntKind.wrap .i64 (0 - vn3))), (.int .i64 (0 : Int))]), (.bool true)])) else (some (.tup [(.agg [(.int .i64 vn3), (.int .i64 (0 : Int))]), (.bool true)]))))) else (bif s4 then (bif (decide (vn3 = (-9223372036854775808 : Int))) then (bif (!s4) then (some (.tup [(.agg [(.int .i64 (IntKind.wrap .i64 (0 - vn3))), (.int .i64 (0 : Int))]), (.bool true)])) else (some (.tup [(.agg [(.int .i64 vn3), (.int .i64 (0 : Int))]), (.bool true)]))) else (bif (!s4) then (some (.tup [(.agg [(.int .i64 (IntKind.wrap .i64 (0 - vn3))), (.int .i64 (0 : Int))]), (.bool true)])) else (some (.tup [(.agg [(.int .i64 vn3), (.int .i64 (0 : Int))]), (.bool true)])))) else (bif (!s4) then (some (.tup [(.agg [(.int .i64 (IntKind.wrap .i64 (0 - vn3))), (.int .i64 (0 : Int))]), (.bool true)])) else (some (.tup [(.agg [(.int .i64 vn3), (.int .i64 (0 : Int))]), (.bool true)]))))))))))) else none)) := by kernel_rfl
theorem ref04_Time_L1_s (kap : FuncId → List AV → Option AV) (k : Nat) (k1 : Nat) (s4 : Bool) (s7 : Int) (s8 : Bool) (s9 : Int) (s10 : ByteArray) (s11 : Int) (b2_0 : Int) (b2_1 : Int) : ref04_Time_L1 kap k (k1 + 1) s4 s7 s8 s9 s10 s11 b2_0 b2_1 =
  (bif (decide (s11 < (9 : Int))) then (bif (decide (s11 < (((ByteArray.size s10) : Nat) : Int))) then (bif ((decide ((0 : Int) ≤ s11)) && (decide (s11 < (((ByteArray.size s10) : Nat) : Int)))) then (ref04_Time_L1 kap k k1 s4 s7 s8 (IntKind.wrap .i64 ((IntKind.wrap .i64 ((IntKind.wrap .i64 ((10 : Int) * s9)) + (IntKind.wrap .i64 (byteAt s10 (Int.toNat s11))))) - (48 : Int))) s10 (IntKind.wrap .i64 (s11 + (1 : Int))) b2_0 b2_1) else none) else (ref04_Time_L1 kap k k1 s4 s7 s8 (IntKind.wrap .i64 ((10 : Int) * s9)) s10 (IntKind.wrap .i64 (s11 + (1 : Int))) b2_0 b2_1)) else (bif (!s8) then (some (.tup [(.agg [(.int .i64 (0 : Int)), (.int .i64 (0 : Int))]), (.bool false)])) else (bif (!s4) then (bif (decide (s7 = (-9223372036854775808 : Int))) then (some (.tup [(.agg [(.int .i64 (0 : Int)), (.int .i64 (0 : Int))]), (.bool false)])) else (bif s4 then (bif (decide (s7 = (-9223372036854775808 : Int))) then (bif (decide (s9 > (0 : Int))) then (some (.tup [(.agg [(.int .i64 (0 : Int)), (.int .i64 (0 : Int))]), (.bool false)])) else (bif (!s4) then (some (.tup [(.agg [(.int .i64 (IntKind.wrap .i64 (0 - s7))), (.int .i64 s9)]), (.bool true)])) else (bif (decide (s9 = (0 : Int))) then (some (.tup [(.agg [(.int .i64 s7), (.int .i64 (0 : Int))]), (.bool true)])) else (some (.tup [(.agg [(.int .i64 (IntKind.wrap .i64 (s7 - (1 : Int)))), (.int .i64 (IntKind.wrap .i64 ((1000000000 : Int) - s9)))]), (.bool true)]))))) else (bif (!s4) then (some (.tup [(.agg [(.int .i64 (IntKind.wrap .i64 (0 - s7))), (.int .i64 s9)]), (.bool true)])) else (bif (decide (s9 = (0 : Int))) then (some (.tup [(.agg [(.int .i64 s7), (.int .i64 (0 : Int))]), (.bool true)])) else (some (.tup [(.agg [(.int .i64 (IntKind.wrap .i64 (s7 - (1 : Int)))), (.int .i64 (IntKind.wrap .i64 ((1000000000 : Int) - s9)))]), (.bool true)]))))) else (bif (!s4) then (some (.tup [(.agg [(.int .i64 (IntKind.wrap .i64 (0 - s7))), (.int .i64 s9)]), (.bool true)])) else (bif (decide (s9 = (0 : Int))) then (some (.tup [(.agg [(.int .i64 s7), (.int .i64 (0 : Int))]), (.bool true)])) else (some (.tup [(.agg [(.int .i64 (IntKind.wrap .i64 (s7 - (1 : Int)))), (.int .i64 (IntKind.wrap .i64 ((1000000000 : Int) - s9)))]), (.bool true)])))))) else (bif s4 then (bif (decide (s7 = (-9223372036854775808 : Int))) then (bif (decide (s9 > (0 : Int))) then (some (.tup [(.agg [(.int .i64 (0 : Int)), (.int .i64 (0 : Int))]), (.bool false)])) else (bif (!s4) then (some (.tup [(.agg [(.int .i64 (IntKind.wrap .i64 (0 - s7))), (.int .i64 s9)]), (.bool true)])) else (bif (decide (s9 = (0 : Int))) then (some (.tup [(.agg [(.int .i64 s7), (.int .i64 (0 : Int))]), (.bool true)])) else (some (.tup [(.agg [(.int .i64 (IntKind.wrap .i64 (s7 - (1 : Int)))), (.int .i64 (IntKind.wrap .i64 ((1000000000 : Int) - s9)))]), (.bool true)]))))) else (bif (!s4) then (some (.tup [(.agg [(.int .i64 (IntKind.wrap .i64 (0 - s7))), (.int .i64 s9)]), (.bool true)])) else (bif (decide (s9 = (0 : Int))) then (some (.tup [(.agg [(.int .i64 s7), (.int .i64 (0 : Int))]), (.bool true)])) else (some (.tup [(.agg [(.int .i64 (IntKind.wrap .i64 (s7 - (1 : Int)))), (.int .i64 (IntKind.wrap .i64 ((1000000000 : Int) - s9)))]), (.bool true)]))))) else (bif (!s4) then (some (.tup [(.agg [(.int .i64 (IntKind.wrap .i64 (0 - s7))), (.int .i64 s9)]), (.bool true)])) else (bif (decide (s9 = (0 : Int))) then (some (.tup [(.agg [(.int .i64 s7), (.int .i64 (0 : Int))]), (.bool true)])) else (some (.tup [(.agg [(.int .i64 (IntKind.wrap .i64 (s7 - (1 : Int)))), (.int .i64 (IntKind.wrap .i64 ((1000000000 : Int) - s9)))]), (.bool true)])))))))) := by kernel_rfl
theorem ref04_Time_eq {E : Ext} [Core E] (k n : Nat) (a0 : ByteArray) : kp E k (n + 1) ref04_Time [(.str a0)] =
  (bif (decide ((((ByteArray.size a0) : Nat) : Int) > (0 : Int))) then (bif (decide ((0 : Int) < (((ByteArray.size a0) : Nat) : Int))) then (bif (decide ((byteAt a0 0) = (45 : Int))) then (bif (decide ((1 : Int) ≤ (((ByteArray.size a0) : Nat) : Int))) then (ref04_Time_L0 (kp E k n) k k (ByteArray.extract a0 1 (ByteArray.size a0)) (decide ((byteAt a0 0) = (45 : Int))) (((ByteArray.size (ByteArray.extract a0 1 (ByteArray.size a0))) : Nat) : Int) (IntKind.wrap .i64 ((((ByteArray.size (ByteArray.extract a0 1 (ByteArray.size a0))) : Nat) : Int) - (1 : Int))) (0 : Int) (0 : Int)) else none) else (ref04_Time_L0 (kp E k n) k k a0 (decide ((byteAt a0 0) = (45 : Int))) (((ByteArray.size a0) : Nat) : Int) (IntKind.wrap .i64 ((((ByteArray.size a0) : Nat) : Int) - (1 : Int))) (0 : Int) (0 : Int))) else none) else (ref04_Time_L0 (kp E k n) k k a0 false (((ByteArray.size a0) : Nat) : Int) (IntKind.wrap .i64 ((((ByteArray.size a0) : Nat) : Int) - (1 : Int))) (0 : Int) (0 : Int))) := (kp_at (by kernel_rfl)).trans (by kernel_rfl)
/- oakum/dec.Time -/
theorem dec_Time_eq {E : Ext} [Core E] (k n : Nat) (a0 : ByteArray) : kp E k (n + 1) dec_Time [(.str a0)] =
  (callT (kp E k n strings_CutPrefix [(.str a0), (.str (str [45]))]) fun vt2 => (tupS vt2 fun vs3 vt4 => (tupB vt4 fun vq5 vt6 => (atNil vt6 (callT (kp E k n strings_Cut [(.str vs3), (.str (str [46]))]) fun vt8 => (tupS vt8 fun vs9 vt10 => (tupS vt10 fun vs11 vt12 => (tupB vt12 fun vq13 vt14 => (atNil vt14 (callT (kp E k n dec_natural [(.str vs9)]) fun vt16 => (tupI .u64 vt16 fun vn17 vt18 => (tupB vt18 fun vq19 vt20 => (atNil vt20 (bif (!vq19) then (some (.tup [(.agg [(.int .i64 (0 : Int)), (.int .i64 (0 : Int))]), (.int .u8 (15 : Int))])) else (bif vq13 then (callB (kp E k n dec_digits [(.str vs11)]) fun vq22 => (bif (!vq22) then (some (.tup [(.agg [(.int .i64 (0 : Int)), (.int .i64 (0 : Int))]), (.int .u8 (15 : Int))])) else (bif (decide ((((ByteArray.size vs11) : Nat) : Int) > (9 : Int))) then (some (.tup [(.agg [(.int .i64 (0 : Int)), (.int .i64 (0 : Int))]), (.int .u8 (15 : Int))])) else (bif vq13 then (callS (kp E k n strings_Repeat [(.str (str [48])), (.int .i64 (IntKind.wrap .i64 ((9 : Int) - (((ByteArray.size vs11) : Nat) : Int))))]) fun vs24 => (bif (decide ((ByteArray.size vs11) + (ByteArray.size vs24) ≤ 9223372036854775807)) then (callT (kp E k n strconv_ParseInt [(.str (vs11 ++ vs24)), (.int .i64 (10 : Int)), (.int .i64 (64 : Int))]) fun vt26 => (tupI .i64 vt26 fun vn27 vt28 => (tupV vt28 fun vr29 vt30 => (atNil vt30 (bif (!vq5) then (bif (decide ((Int.fdiv vn17 (2 ^ (min (Int.toNat (63 : Int)) (IntKind.bits .u64)))) > (0 : Int))) then (some (.tup [(.agg [(.int .i64 (0 : Int)), (.int .i64 (0 : Int))]), (.int .u8 (15 : Int))])) else (bif (!vq5) then (some (.tup [(.agg [(.int .i64 (IntKind.wrap .i64 vn17)), (.int .i64 vn27)]), (.int .u8 (0 : Int))])) else (bif (decide (vn27 = (0 : Int))) then (some (.tup [(.agg [(.int .i64 (IntKind.wrap .i64 (IntKind.wrap .u64 (0 - vn17)))), (.int .i64 vn27)]), (.int .u8 (0 : Int))])) else (bif (decide ((Int.fdiv vn17 (2 ^ (min (Int.toNat (63 : Int)) (IntKind.bits .u64)))) > (0 : Int))) then (some (.tup [(.agg [(.int .i64 (0 : Int)), (.int .i64 (0 : Int))]), (.int .u8 (15 : Int))])) else (some (.tup [(.agg [(.int .i64 (IntKind.wrap .i64 ((IntKind.wrap .i64 (0 - (IntKind.wrap .i64 vn17))) - (1 : Int)))), (.int .i64 (IntKind.wrap .i64 ((1000000000 : Int) - vn27)))]), (.int .u8 (0 : Int))])))))) else (bif (!vq5) then (some (.tup [(.agg [(.int .i64 (IntKind.wrap .i64 vn17)), (.int .i64 vn27)]), (.int .u8 (0 : Int))])) else (bif (decide (vn27 = (0 : Int))) then (some (.tup [(.agg [(.int .i64 (IntKind.wrap .i64 (IntKind.wrap .u64 (0 - vn17)))), (.int .i64 vn27)]), (.int .u8 (0 : Int))])) else (bif (decide ((Int.fdiv vn17 (2 ^ (min (Int.toNat (63 : Int)) (IntKind.bits .u64)))) > (0 : Int))) then (some (.tup [(.agg [(.int .i64 (0 : Int)), (.int .i64 (0 : Int))]), (.int .u8 (15 : Int))])) else (some (.tup [(.agg [(.int .i64 (IntKind.wrap .i64 ((IntKind.wrap .i64 (0 - (IntKind.wrap .i64 vn17))) - (1 : Int)))), (.int .i64 (IntKind.wrap .i64 ((1000000000 : Int) - vn27)))]), (.int .u8 (0 : Int))])))))))))) else none)) else (bif (!vq5) then (bif (decide ((Int.fdiv vn17 (2 ^ (min (Int.toNat (63 : Int)) (IntKind.bits .u64)))) > (0 : Int))) then (some (.tup [(.agg [(.int .i64 (0 : Int)), (.int .i64 (0 : Int))]), (.int .u8 (15 : Int))])) else (bif (!vq5) then (some (.tup [(.agg [(.int .i64 (IntKind.wrap .i64 vn17)), (.int .i64 (0 : Int))]), (.int .u8 (0 : Int))])) else (some (.tup [(.agg [(.int .i64 (IntKind.wrap .i64 (IntKind.wrap .u64 (0 - vn17)))), (.int .i64 (0 : Int))]), (.int .u8 (0 : Int))])))) else (bif (!vq5) then (some (.tup [(.agg [(.int .i64 (IntKind.wrap .i64 vn17)), (.int .i64 (0 : Int))]), (.int .u8 (0 : Int))])) else (some (.tup [(.agg [(.int .i64 (IntKind.wrap .i64 (IntKind.wrap .u64 (0 - vn17)))), (.int .i64 (0 : Int))]), (.int .u8 (0 : Int))])))))))) else (bif vq13 then (callS (kp E k n strings_Repeat [(.str (str [48])), (.int .i64 (IntKind.wrap .i64 ((9 : Int) - (((ByteArray.size vs11) : Nat) : Int))))]) fun vs32 => (bif (decide ((ByteArray.size vs11) + (ByteArray.size vs32) ≤ 9223372036854775807)) then (callT (kp E k n strconv_ParseInt [(.str (vs11 ++ vs32)), (.int .i64 (10 : Int)), (.int .i64 (64 : Int))]) fun vt34 => (tupI .i64 vt34 fun vn35 vt36 => (tupV vt36 fun vr37 vt38 => (atNil vt38 (bif (!vq5) then (bif (decide ((Int.fdiv vn17 (2 ^ (min (Int.toNat (63 : Int)) (IntKind.bits .u64)))) > (0 : Int))) then (some (.tup [(.agg [(.int .i64 (0 : Int)), (.int .i64 (0 : Int))]), (.int .u8 (15 : Int))])) else (bif (!vq5) then (some (.tup [(.agg [(.int .i64 (IntKind.wrap .i64 vn17)), (.int .i64 vn35)]), (.int .u8 (0 : Int))])) else (bif (decide (vn35 = (0 : Int))) then (some (.tup [(.agg [(.int .i64 (IntKind.wrap .i64 (IntKind.wrap .u64 (0 - vn17)))), (.int .i64 vn35)]), (.int .u8 (0 : Int))])) else (bif (decide ((Int.fdiv vn17 (2 ^ (min (Int.toNat (63 : Int)) (IntKind.bits .u64)))) > (0 : Int))) then (some (.tup [(.agg [(.int .i64 (0 : Int)), (.int .i64 (0 : Int))]), (.int .u8 (15 : Int))])) else (some (.tup [(.agg [(.int .i64 (IntKind.wrap .i64 ((IntKind.wrap .i64 (0 - (IntKind.wrap .i64 vn17))) - (1 : Int)))), (.int .i64 (IntKind.wrap .i64 ((1000000000 : Int) - vn35)))]), (.int .u8 (0 : Int))])))))) else (bif (!vq5) then (some (.tup [(.agg [(.int .i64 (IntKind.wrap .i64 vn17)), (.int .i64 vn35)]), (.int .u8 (0 : Int))])) else (bif (decide (vn35 = (0 : Int))) then (some (.tup [(.agg [(.int .i64 (IntKind.wrap .i64 (IntKind.wrap .u64 (0 - vn17)))), (.int .i64 vn35)]), (.int .u8 (0 : Int))])) else (bif (decide ((Int.fdiv vn17 (2 ^ (min (Int.toNat (63 : Int)) (IntKind.bits .u64)))) > (0 : Int))) then (some (.tup [(.agg [(.int .i64 (0 : Int)), (.int .i64 (0 : Int))]), (.int .u8 (15 : Int))])) else (some (.tup [(.agg [(.int .i64 (IntKind.wrap .i64 ((IntKind.wrap .i64 (0 - (IntKind.wrap .i64 vn17))) - (1 : Int)))), (.int .i64 (IntKind.wrap .i64 ((1000000000 : Int) - vn35)))]), (.int .u8 (0 : Int))])))))))))) else none)) else (bif (!vq5) then (bif (decide ((Int.fdiv vn17 (2 ^ (min (Int.toNat (63 : Int)) (IntKind.bits .u64)))) > (0 : Int))) then (some (.tup [(.agg [(.int .i64 (0 : Int)), (.int .i64 (0 : Int))]), (.int .u8 (15 : Int))])) else (bif (!vq5) then (some (.tup [(.agg [(.int .i64 (IntKind.wrap .i64 vn17)), (.int .i64 (0 : Int))]), (.int .u8 (0 : Int))])) else (some (.tup [(.agg [(.int .i64 (IntKind.wrap .i64 (IntKind.wrap .u64 (0 - vn17)))), (.int .i64 (0 : Int))]), (.int .u8 (0 : Int))])))) else (bif (!vq5) then (some (.tup [(.agg [(.int .i64 (IntKind.wrap .i64 vn17)), (.int .i64 (0 : Int))]), (.int .u8 (0 : Int))])) else (some (.tup [(.agg [(.int .i64 (IntKind.wrap .i64 (IntKind.wrap .u64 (0 - vn17)))), (.int .i64 (0 : Int))]), (.int .u8 (0 : Int))])))))))))))))))))))) := (kp_at (by kernel_rfl)).trans (by kernel_rfl)
/- oakum/dec.Print -/
theorem dec_Print_eq {E : Ext} [Core E] (k n : Nat) (a0_0 : Int) (a0_1 : Int) : kp E k (n + 1) dec_Print [(.agg [(.int .i64 a0_0), (.int .i64 a0_1)])] =
  (callB (kp E k n dec_Right [(.agg [(.int .i64 a0_0), (.int .i64 a0_1)])]) fun vq2 => (bif (!vq2) then (some (.tup [(.str (str [])), (.int .u8 (15 : Int))])) else (bif (decide (a0_1 = (0 : Int))) then (callS (kp E k n dec_Text [(.int .i64 a0_0)]) fun vs4 => (some (.tup [(.str vs4), (.int .u8 (0 : Int))]))) else (bif (decide (a0_0 < (0 : Int))) then (callS (kp E k n strconv_FormatInt [(.int .i64 (IntKind.wrap .i64 ((1000000000 : Int) + (IntKind.wrap .i64 ((1000000000 : Int) - a0_1))))), (.int .i64 (10 : Int))]) fun vs6 => (bif (decide ((1 : Int) ≤ (((ByteArray.size vs6) : Nat) : Int))) then (callS (kp E k n dec_Text [(.int .i64 (IntKind.wrap .i64 (0 - (IntKind.wrap .i64 (a0_0 + (1 : Int))))))]) fun vs8 => (bif (decide (1 + (ByteArray.size vs8) ≤ 9223372036854775807)) then (bif (decide ((ByteArray.size ((str [45]) ++ vs8)) + 1 ≤ 9223372036854775807)) then (callS (kp E k n strings_TrimRight [(.str (ByteArray.extract vs6 1 (ByteArray.size vs6))), (.str (str [48]))]) fun vs10 => (bif (decide ((ByteArray.size (((str [45]) ++ vs8) ++ (str [46]))) + (ByteArray.size vs10) ≤ 9223372036854775807)) then (some (.tup [(.str ((((str [45]) ++ vs8) ++ (str [46])) ++ vs10)), (.int .u8 (0 : Int))])) else none)) else none) else none)) else none)) else (callS (kp E k n strconv_FormatInt [(.int .i64 (IntKind.wrap .i64 ((1000000000 : Int) + a0_1))), (.int .i64 (10 : Int))]) fun vs12 => (bif (decide ((1 : Int) ≤ (((ByteArray.size vs12) : Nat) : Int))) then (callS (kp E k n dec_Text [(.int .i64 a0_0)]) fun vs14 => (bif (decide (0 + (ByteArray.size vs14) ≤ 9223372036854775807)) then (bif (decide ((ByteArray.size ((str []) ++ vs14)) + 1 ≤ 9223372036854775807)) then (callS (kp E k n strings_TrimRight [(.str (ByteArray.extract vs12 1 (ByteArray.size vs12))), (.str (str [48]))]) fun vs16 => (bif (decide ((ByteArray.size (((str []) ++ vs14) ++ (str [46]))) + (ByteArray.size vs16) ≤ 9223372036854775807)) then (some (.tup [(.str ((((str []) ++ vs14) ++ (str [46])) ++ vs16)), (.int .u8 (0 : Int))])) else none)) else none) else none)) else none)))))) := (kp_at (by kernel_rfl)).trans (by kernel_rfl)
/- oakum/dec.Text -/
theorem dec_Text_eq {E : Ext} [Core E] (k n : Nat) (a0 : Int) : kp E k (n + 1) dec_Text [(.int .i64 a0)] =
  (callS (kp E k n strconv_FormatInt [(.int .i64 a0), (.int .i64 (10 : Int))]) fun vs2 => (some (.str vs2))) := (kp_at (by kernel_rfl)).trans (by kernel_rfl)
/- oakum/oakumref04.Print -/
noncomputable def ref04_Print_bd : Code := Tryz.f112.body.getD .skip
noncomputable def ref04_Print_L0 (kap : FuncId → List AV → Option AV) (k : Nat) (k0 : Nat) (s4 : Int) (s5 : ByteArray) : Option AV :=
  loop (fun fr K => code ((bs E0 k).cfg kap ref04_Print) (sel ref04_Print_bd [1, 1, 1, 1, 1, 0, 0, 0]) fr K) (canon ((bs E0 k).cfg kap ref04_Print) (firstReg (sel ref04_Print_bd [1, 1, 1, 1, 1, 0, 0, 0]))) k0 (mkFr 39 [(4, (.int .i64 s4)), (5, (.str s5))] []) (plug ((bs E0 k).cfg kap ref04_Print) (retK ((bs E0 k).cfg kap ref04_Print) [] Tryz.f112 [] some) [.blk 0, .seqR (sel ref04_Print_bd [1, 1, 1, 1, 1, 1])])
theorem ref04_Print_L0_s (kap : FuncId → List AV → Option AV) (k : Nat) (k0 : Nat) (s4 : Int) (s5 : ByteArray) : ref04_Print_L0 kap k (k0 + 1) s4 s5 =
  (bif (decide (s4 > (0 : Int))) then (callS (kap ref04_Digits [(.int .i64 (IntKind.wrap .i64 (Int.tdiv s4 (100000000 : Int))))]) fun vs6 => (bif (decide ((ByteArray.size s5) + (ByteArray.size vs6) ≤ 9223372036854775807)) then (ref04_Print_L0 kap k k0 (IntKind.wrap .i64 ((Int.tmod s4 (100000000 : Int)) * (10 : Int))) (s5 ++ vs6)) else none)) else (some (.str s5))) := by kernel_rfl
theorem ref04_Print_eq {E : Ext} [Core E] (k n : Nat) (a0_0 : Int) (a0_1 : Int) : kp E k (n + 1) ref04_Print [(.agg [(.int .i64 a0_0), (.int .i64 a0_1)])] =
  (bif (decide (a0_1 = (0 : Int))) then (callS (kp E k n ref04_Text [(.int .i64 a0_0)]) fun vs2 => (some (.str vs2))) else (bif (decide (a0_0 < (0 : Int))) then (callS (kp E k n ref04_Digits [(.int .i64 (IntKind.wrap .i64 (0 - (IntKind.wrap .i64 (a0_0 + (1 : Int))))))]) fun vs4 => (bif (decide (1 + (ByteArray.size vs4) ≤ 9223372036854775807)) then (bif (decide ((ByteArray.size ((str [45]) ++ vs4)) + 1 ≤ 9223372036854775807)) then (ref04_Print_L0 (kp E k n) k k (IntKind.wrap .i64 ((1000000000 : Int) - a0_1)) (((str [45]) ++ vs4) ++ (str [46]))) else none) else none)) else (callS (kp E k n ref04_Digits [(.int .i64 a0_0)]) fun vs8 => (bif (decide (0 + (ByteArray.size vs8) ≤ 9223372036854775807)) then (bif (decide ((ByteArray.size ((str []) ++ vs8)) + 1 ≤ 9223372036854775807)) then (ref04_Print_L0 (kp E k n) k k a0_1 (((str []) ++ vs8) ++ (str [46]))) else none) else none)))) := (kp_at (by kernel_rfl)).trans (by kernel_rfl)
/- oakum/oakumref04.Text -/
theorem ref04_Text_eq {E : Ext} [Core E] (k n : Nat) (a0 : Int) : kp E k (n + 1) ref04_Text [(.int .i64 a0)] =
  (bif (decide (a0 ≥ (0 : Int))) then (callS (kp E k n ref04_Digits [(.int .i64 a0)]) fun vs2 => (some (.str vs2))) else (bif (decide (a0 > (-10 : Int))) then (callS (kp E k n ref04_Digits [(.int .i64 (IntKind.wrap .i64 (0 - a0)))]) fun vs4 => (bif (decide (1 + (ByteArray.size vs4) ≤ 9223372036854775807)) then (some (.str ((str [45]) ++ vs4))) else none)) else (callS (kp E k n ref04_Digits [(.int .i64 (IntKind.wrap .i64 (0 - (IntKind.wrap .i64 (Int.tdiv a0 (10 : Int))))))]) fun vs6 => (bif (decide (1 + (ByteArray.size vs6) ≤ 9223372036854775807)) then (callS (kp E k n ref04_Digits [(.int .i64 (IntKind.wrap .i64 (0 - (Int.tmod a0 (10 : Int)))))]) fun vs8 => (bif (decide ((ByteArray.size ((str [45]) ++ vs6)) + (ByteArray.size vs8) ≤ 9223372036854775807)) then (some (.str (((str [45]) ++ vs6) ++ vs8))) else none)) else none)))) := (kp_at (by kernel_rfl)).trans (by kernel_rfl)
/- oakum/oakumref04.Below -/
noncomputable def ref04_Below_bd : Code := Tryz.f137.body.getD .skip
noncomputable def ref04_Below_L0 (kap : FuncId → List AV → Option AV) (k : Nat) (k0 : Nat) (s0 : ByteArray) (s4 : Int) (s5 : Int) : Option AV :=
  loop (fun fr K => code ((bs E0 k).cfg kap ref04_Below) (sel ref04_Below_bd [1, 1, 1, 0, 1, 0, 0]) fr K) (canon ((bs E0 k).cfg kap ref04_Below) (firstReg (sel ref04_Below_bd [1, 1, 1, 0, 1, 0, 0]))) k0 (mkFr 46 [(0, (.str s0)), (4, (.int .i64 s4)), (5, (.int .i64 s5))] []) (plug ((bs E0 k).cfg kap ref04_Below) (retK ((bs E0 k).cfg kap ref04_Below) [] Tryz.f137 [] some) [.blk 0, .seqR (sel ref04_Below_bd [1, 1, 1, 1])])
theorem ref04_Below_L0_s (kap : FuncId → List AV → Option AV) (k : Nat) (k0 : Nat) (s0 : ByteArray) (s4 : Int) (s5 : Int) : ref04_Below_L0 kap k (k0 + 1) s0 s4 s5 =
  (bif (decide (s5 < (((ByteArray.size s0) : Nat) : Int))) then (bif ((decide ((0 : Int) ≤ s5)) && (decide (s5 < (((ByteArray.size s0) : Nat) : Int)))) then (bif (decide (s4 < (-922337203685477580 : Int))) then (some (.tup [(.int .i64 (0 : Int)), (.bool false)])) else (bif (decide (s4 = (-922337203685477580 : Int))) then (bif (decide ((IntKind.wrap .i64 ((IntKind.wrap .i64 (byteAt s0 (Int.toNat s5))) - (48 : Int))) > (8 : Int))) then (some (.tup [(.int .i64 (0 : Int)), (.bool false)])) else (ref04_Below_L0 kap k k0 s0 (IntKind.wrap .i64 ((IntKind.wrap .i64 ((10 : Int) * s4)) - (IntKind.wrap .i64 ((IntKind.wrap .i64 (byteAt s0 (Int.toNat s5))) - (48 : Int))))) (IntKind.wrap .i64 (s5 + (1 : Int))))) else (ref04_Below_L0 kap k k0 s0 (IntKind.wrap .i64 ((IntKind.wrap .i64 ((10 : Int) * s4)) - (IntKind.wrap .i64 ((IntKind.wrap .i64 (byteAt s0 (Int.toNat s5))) - (48 : Int))))) (IntKind.wrap .i64 (s5 + (1 : Int)))))) else none) else (some (.tup [(.int .i64 s4), (.bool true)]))) := by kernel_rfl
theorem ref04_Below_eq {E : Ext} [Core E] (k n : Nat) (a0 : ByteArray) : kp E k (n + 1) ref04_Below [(.str a0)] =
  (callB (kp E k n ref04_only [(.str a0)]) fun vq2 => (bif (!vq2) then (some (.tup [(.int .i64 (0 : Int)), (.bool false)])) else (bif (decide ((0 : Int) < (((ByteArray.size a0) : Nat) : Int))) then (bif (decide ((byteAt a0 0) = (48 : Int))) then (bif (decide ((((ByteArray.size a0) : Nat) : Int) > (1 : Int))) then (some (.tup [(.int .i64 (0 : Int)), (.bool false)])) else (ref04_Below_L0 (kp E k n) k k a0 (0 : Int) (0 : Int))) else (ref04_Below_L0 (kp E k n) k k a0 (0 : Int) (0 : Int))) else none))) := (kp_at (by kernel_rfl)).trans (by kernel_rfl)
/- oakum/oakumref04.only -/
noncomputable def ref04_only_bd : Code := Tryz.f138.body.getD .skip
noncomputable def ref04_only_L0 (kap : FuncId → List AV → Option AV) (k : Nat) (k0 : Nat) (s0 : ByteArray) (s3 : Int) : Option AV :=
  loop (fun fr K => code ((bs E0 k).cfg kap ref04_only) (sel ref04_only_bd [1, 0, 1, 0, 0]) fr K) (canon ((bs E0 k).cfg kap ref04_only) (firstReg (sel ref04_only_bd [1, 0, 1, 0, 0]))) k0 (mkFr 23 [(0, (.str s0)), (3, (.int .i64 s3))] []) (plug ((bs E0 k).cfg kap ref04_only) (retK ((bs E0 k).cfg kap ref04_only) [] Tryz.f138 [] some) [.blk 0, .seqR (sel ref04_only_bd [1, 1])])
theorem ref04_only_L0_s (kap : FuncId → List AV → Option AV) (k : Nat) (k0 : Nat) (s0 : ByteArray) (s3 : Int) : ref04_only_L0 kap k (k0 + 1) s0 s3 =
  (bif (decide (s3 < (((ByteArray.size s0) : Nat) : Int))) then (bif ((decide ((0 : Int) ≤ s3)) && (decide (s3 < (((ByteArray.size s0) : Nat) : Int)))) then (bif (decide ((byteAt s0 (Int.toNat s3)) < (48 : Int))) then (some (.bool false)) else (bif ((decide ((0 : Int) ≤ s3)) && (decide (s3 < (((ByteArray.size s0) : Nat) : Int)))) then (bif (decide ((byteAt s0 (Int.toNat s3)) > (57 : Int))) then (some (.bool false)) else (ref04_only_L0 kap k k0 s0 (IntKind.wrap .i64 (s3 + (1 : Int))))) else none)) else none) else (some (.bool (decide ((((ByteArray.size s0) : Nat) : Int) > (0 : Int)))))) := by kernel_rfl
theorem ref04_only_eq {E : Ext} [Core E] (k n : Nat) (a0 : ByteArray) : kp E k (n + 1) ref04_only [(.str a0)] =
  (ref04_only_L0 (kp E k n) k k a0 (0 : Int)) := (kp_at (by kernel_rfl)).trans (by kernel_rfl)
/- oakum/dec.Number -/
theorem dec_Number_eq {E : Ext} [Core E] (k n : Nat) (a0 : ByteArray) : kp E k (n + 1) dec_Number [(.str a0)] =
  (callT (kp E k n dec_natural [(.str a0)]) fun vt2 => (tupI .u64 vt2 fun vn3 vt4 => (tupB vt4 fun vq5 vt6 => (atNil vt6 (bif (!vq5) then (some (.tup [(.int .i64 (0 : Int)), (.int .u8 (15 : Int))])) else (bif (decide ((Int.fdiv vn3 (2 ^ (min (Int.toNat (63 : Int)) (IntKind.bits .u64)))) > (0 : Int))) then (some (.tup [(.int .i64 (0 : Int)), (.int .u8 (15 : Int))])) else (some (.tup [(.int .i64 (IntKind.wrap .i64 vn3)), (.int .u8 (0 : Int))])))))))) := (kp_at (by kernel_rfl)).trans (by kernel_rfl)
/- strings.Cut -/
theorem strings_Cut_eq {E : Ext} [Core E] (k n : Nat) (a0 : ByteArray) (a1 : ByteArray) : kp E k (n + 1) strings_Cut [(.str a0), (.str a1)] =
  (callT (kp E k n stringslite_Cut [(.str a0), (.str a1)]) fun vt2 => (tupS vt2 fun vs3 vt4 => (tupS vt4 fun vs5 vt6 => (tupB vt6 fun vq7 vt8 => (atNil vt8 (some (.tup [(.str vs3), (.str vs5), (.bool vq7)]))))))) := (kp_at (by kernel_rfl)).trans (by kernel_rfl)
/- oakum/dec.natural -/
theorem dec_natural_eq {E : Ext} [Core E] (k n : Nat) (a0 : ByteArray) : kp E k (n + 1) dec_natural [(.str a0)] =
  (callB (kp E k n dec_digits [(.str a0)]) fun vq2 => (bif (!vq2) then (some (.tup [(.int .u64 (0 : Int)), (.bool false)])) else (bif (decide ((0 : Int) < (((ByteArray.size a0) : Nat) : Int))) then (bif (decide ((byteAt a0 0) = (48 : Int))) then (bif (decide ((((ByteArray.size a0) : Nat) : Int) > (1 : Int))) then (some (.tup [(.int .u64 (0 : Int)), (.bool false)])) else (callT (kp E k n strconv_ParseUint [(.str a0), (.int .i64 (10 : Int)), (.int .i64 (64 : Int))]) fun vt4 => (tupI .u64 vt4 fun vn5 vt6 => (tupV vt6 fun vr7 vt8 => (atNil vt8 (nilB vr7 fun q9 => (bif q9 then (some (.tup [(.int .u64 vn5), (.bool (decide (vn5 ≤ (9223372036854775808 : Int))))])) else (some (.tup [(.int .u64 vn5), (.bool false)]))))))))) else (callT (kp E k n strconv_ParseUint [(.str a0), (.int .i64 (10 : Int)), (.int .i64 (64 : Int))]) fun vt11 => (tupI .u64 vt11 fun vn12 vt13 => (tupV vt13 fun vr14 vt15 => (atNil vt15 (nilB vr14 fun q16 => (bif q16 then (some (.tup [(.int .u64 vn12), (.bool (decide (vn12 ≤ (9223372036854775808 : Int))))])) else (some (.tup [(.int .u64 vn12), (.bool false)]))))))))) else none))) := (kp_at (by kernel_rfl)).trans (by kernel_rfl)
/- oakum/dec.digits -/
noncomputable def dec_digits_bd : Code := Tryz.f170.body.getD .skip
noncomputable def dec_digits_L0 (kap : FuncId → List AV → Option AV) (k : Nat) (k0 : Nat) (s0 : ByteArray) (s5 : Int) (s6 : Int) : Option AV :=
  loop (fun fr K => code ((bs E0 k).cfg kap dec_digits) (sel dec_digits_bd [1, 0, 1, 0, 0]) fr K) (canon ((bs E0 k).cfg kap dec_digits) (firstReg (sel dec_digits_bd [1, 0, 1, 0, 0]))) k0 (mkFr 22 [(0, (.str s0)), (5, (.int .i64 s5)), (6, (.int .i64 s6))] []) (plug ((bs E0 k).cfg kap dec_digits) (retK ((bs E0 k).cfg kap dec_digits) [] Tryz.f170 [] some) [.blk 0, .seqR (sel dec_digits_bd [1, 1])])
theorem dec_digits_L0_s (kap : FuncId → List AV → Option AV) (k : Nat) (k0 : Nat) (s0 : ByteArray) (s5 : Int) (s6 : Int) : dec_digits_L0 kap k (k0 + 1) s0 s5 s6 =
  (bif (decide (s6 < s5)) then (bif ((decide ((0 : Int) ≤ s6)) && (decide (s6 < (((ByteArray.size s0) : Nat) : Int)))) then (bif (decide ((byteAt s0 (Int.toNat s6)) < (48 : Int))) then (some (.bool false)) else (bif ((decide ((0 : Int) ≤ s6)) && (decide (s6 < (((ByteArray.size s0) : Nat) : Int)))) then (bif (decide ((byteAt s0 (Int.toNat s6)) > (57 : Int))) then (some (.bool false)) else (dec_digits_L0 kap k k0 s0 s5 (IntKind.wrap .i64 (s6 + (1 : Int))))) else none)) else none) else (some (.bool (!(decide (s0 = (str []))))))) := by kernel_rfl
theorem dec_digits_eq {E : Ext} [Core E] (k n : Nat) (a0 : ByteArray) : kp E k (n + 1) dec_digits [(.str a0)] =
  (dec_digits_L0 (kp E k n) k k a0 (((ByteArray.size a0) : Nat) : Int) (0 : Int)) := (kp_at (by kernel_rfl)).trans (by kernel_rfl)
/- oakum/dec.Right -/
theorem dec_Right_eq {E : Ext} [Core E] (k n : Nat) (a0_0 : Int) (a0_1 : Int) : kp E k (n + 1) dec_Right [(.agg [(.int .i64 a0_0), (.int .i64 a0_1)])] =
  (bif (decide (a0_1 ≥ (0 : Int))) then (some (.bool (decide (a0_1 < (1000000000 : Int))))) else (some (.bool false))) := (kp_at (by kernel_rfl)).trans (by kernel_rfl)
/- oakum/oakumref04.Right -/
theorem ref04_Right_eq {E : Ext} [Core E] (k n : Nat) (a0_0 : Int) (a0_1 : Int) : kp E k (n + 1) ref04_Right [(.agg [(.int .i64 a0_0), (.int .i64 a0_1)])] =
  (bif (decide (a0_1 ≥ (0 : Int))) then (some (.bool (decide (a0_1 ≤ (999999999 : Int))))) else (some (.bool false))) := (kp_at (by kernel_rfl)).trans (by kernel_rfl)
/- oakum/oakumref04.Digits -/
theorem ref04_Digits_eq {E : Ext} [Core E] (k n : Nat) (a0 : Int) : kp E k (n + 1) ref04_Digits [(.int .i64 a0)] =
  (bif (decide (a0 < (10 : Int))) then ((toBytes [(.int .u8 (IntKind.wrap .u8 (IntKind.wrap .i64 ((48 : Int) + a0))))]).bind fun vl1 => (some (.str (str vl1)))) else (callS (kp E k n ref04_Digits [(.int .i64 (IntKind.wrap .i64 (Int.tdiv a0 (10 : Int))))]) fun vs3 => ((toBytes [(.int .u8 (IntKind.wrap .u8 (IntKind.wrap .i64 ((48 : Int) + (Int.tmod a0 (10 : Int))))))]).bind fun vl4 => (bif (decide ((ByteArray.size vs3) + (ByteArray.size (str vl4)) ≤ 9223372036854775807)) then (some (.str (vs3 ++ (str vl4)))) else none)))) := (kp_at (by kernel_rfl)).trans (by kernel_rfl)
/- internal/stringslite.CutPrefix -/
/- internal/stringslite.Cut -/
theorem stringslite_Cut_eq {E : Ext} [Core E] (k n : Nat) (a0 : ByteArray) (a1 : ByteArray) : kp E k (n + 1) stringslite_Cut [(.str a0), (.str a1)] =
  (callI .i64 (kp E k n stringslite_Index [(.str a0), (.str a1)]) fun vn2 => (bif (decide (vn2 ≥ (0 : Int))) then (bif ((decide ((0 : Int) ≤ vn2)) && (decide (vn2 ≤ (((ByteArray.size a0) : Nat) : Int)))) then (bif ((decide ((0 : Int) ≤ (IntKind.wrap .i64 (vn2 + (((ByteArray.size a1) : Nat) : Int))))) && (decide ((IntKind.wrap .i64 (vn2 + (((ByteArray.size a1) : Nat) : Int))) ≤ (((ByteArray.size a0) : Nat) : Int)))) then (some (.tup [(.str (ByteArray.extract a0 0 (Int.toNat vn2))), (.str (ByteArray.extract a0 (Int.toNat (IntKind.wrap .i64 (vn2 + (((ByteArray.size a1) : Nat) : Int)))) (ByteArray.size a0))), (.bool true)])) else none) else none) else (some (.tup [(.str a0), (.str (str [])), (.bool false)])))) := (kp_at (by kernel_rfl)).trans (by kernel_rfl)
end Go.Proofs.YtogfcfgfkggmlaaGreatDoor.Eng.U


/- Numbers as texts, in plain Lean. -/
set_option linter.unusedVariables false
set_option linter.unusedSimpArgs false
namespace Go.Proofs.YtogfcfgfkggmlaaGreatDoor.P04
open Go

def isDig (c : UInt8) : Bool := decide (48 ≤ c.toNat) && decide (c.toNat ≤ 57)
def digs (l : List UInt8) : Bool := l.all isDig && !l.isEmpty
def valA (acc : Nat) (l : List UInt8) : Nat := l.foldl (fun a c => a * 10 + (c.toNat - 48)) acc
def lead (l : List UInt8) : Bool := decide (l.headD 0 = 48) && decide (1 < l.length)
def natOk (l : List UInt8) : Bool := digs l && !lead l && decide (valA 0 l ≤ 9223372036854775808)
theorem valA_ge : ∀ (l : List UInt8) (acc : Nat), acc ≤ valA acc l
  | [], acc => Nat.le_refl _
  | c :: l, acc => by
    have := valA_ge l (acc * 10 + (c.toNat - 48))
    simp only [valA, List.foldl_cons] at this ⊢
    omega
theorem valA_cons (c : UInt8) (l : List UInt8) (acc : Nat) : valA acc (c :: l) = valA (acc * 10 + (c.toNat - 48)) l := by
  unfold valA
  rw [List.foldl_cons]
theorem dig_iff {c : UInt8} : isDig c = true ↔ 48 ≤ c.toNat ∧ c.toNat ≤ 57 := by simp [isDig]
theorem parse_eq {M : Nat} (hM : M = 18446744073709551615) (l : List UInt8) : ∀ (acc : Nat), l.all isDig = true → acc ≤ M → Lib.parseUintM M acc l = if valA acc l ≤ M then .ok (valA acc l) else .range := by
  induction l with
  | nil =>
    intro acc _ h
    have e : valA acc [] = acc := rfl
    rw [e, if_pos h]
    rfl
  | cons c l ih =>
    intro acc hd h
    rw [List.all_cons, Bool.and_eq_true] at hd
    have hc := dig_iff.1 hd.1
    have hg := valA_ge l (acc * 10 + (c.toNat - 48))
    have e : Lib.parseUintM M acc (c :: l) = if 48 ≤ c.toNat ∧ c.toNat ≤ 57 then (if 1844674407370955162 ≤ acc then .range else if M < acc * 10 + (c.toNat - 48) then .range else Lib.parseUintM M (acc * 10 + (c.toNat - 48)) l) else Lib.parseUintM M 0 [47] := rfl
    rw [e, if_pos hc, valA_cons]
    by_cases h1 : 1844674407370955162 ≤ acc
    · rw [if_pos h1, if_neg (by omega)]
    · rw [if_neg h1]
      by_cases h2 : M < acc * 10 + (c.toNat - 48)
      · rw [if_pos h2, if_neg (by omega)]
      · rw [if_neg h2, ih _ hd.2 (by omega)]
theorem parseB_eq {l : List UInt8} (hd : digs l = true) : Lib.parseUintB 64 l = if valA 0 l ≤ 18446744073709551615 then .ok (valA 0 l) else .range := by
  simp only [digs, Bool.and_eq_true, Bool.not_eq_true', List.isEmpty_eq_false_iff] at hd
  rw [Lib.parseUintB, if_neg hd.2]
  exact parse_eq (by decide) l 0 hd.1 (by omega)
/-- Where the first point stands; the length, where there is none. -/
def dot (l : List UInt8) : Nat := l.findIdx (· == 46)
theorem index_dot : ∀ l : List UInt8, Lib.indexByte l 46 = if dot l < l.length then (dot l : Int) else -1
  | [] => rfl
  | c :: l => by
    have ih := index_dot l
    unfold Lib.indexByte dot
    rw [List.findIdx_cons]
    by_cases hc : (c == 46) = true
    · simp [hc]
    · rw [if_neg hc, Bool.eq_false_iff.2 hc, cond_false, ih]
      unfold dot
      have : List.findIdx (· == 46) l ≤ l.length := List.findIdx_le_length
      simp only [List.length_cons]
      by_cases h : List.findIdx (· == 46) l < l.length
      · rw [if_pos h, if_pos (show List.findIdx (· == 46) l + 1 < l.length + 1 by omega)]
        rw [if_neg (by simp)]
        omega
      · rw [if_neg h, if_neg (show ¬ List.findIdx (· == 46) l + 1 < l.length + 1 by omega)]
        rfl
/-- The time that a text is, behind its sign. -/
def timeB (minus : Bool) (t : List UInt8) : Option (Int × Int) :=
  let a := t.take (dot t)
  let b := t.drop (dot t + 1)
  let nano := if dot t < t.length then valA 0 (b ++ List.replicate (9 - b.length) 48) else 0
  let v := valA 0 a
  if natOk a = false then none
  else if dot t < t.length ∧ ¬ (digs b = true ∧ b.length ≤ 9) then none
  else if minus = false then (if 9223372036854775807 < v then none else some ((v : Int), (nano : Int)))
  else if nano = 0 then some (-(v : Int), 0)
  else if 9223372036854775807 < v then none
  else some (-(v : Int) - 1, 1000000000 - (nano : Int))
def timeL (s : List UInt8) : Option (Int × Int) := timeB (decide (s.head? = some 45)) (if s.head? = some 45 then s.drop 1 else s)
theorem valA_lt : ∀ (l : List UInt8) (acc m : Nat), l.all isDig = true → acc < 10 ^ m → valA acc l < 10 ^ (m + l.length)
  | [], acc, m, _, h => h
  | c :: l, acc, m, hd, h => by
    rw [List.all_cons, Bool.and_eq_true] at hd
    have hc := dig_iff.1 hd.1
    have := valA_lt l (acc * 10 + (c.toNat - 48)) (m + 1) hd.2 (by rw [Nat.pow_succ]; omega)
    rw [valA_cons, List.length_cons, show m + (l.length + 1) = m + 1 + l.length from by omega]
    exact this
theorem valA_app (a b : List UInt8) (acc : Nat) : valA acc (a ++ b) = valA (valA acc a) b := by simp [valA, List.foldl_append]
/-! Printing. -/
theorem decDigits_rec {u : Nat} (h : ¬ u < 10) : Lib.decDigits u = Lib.decDigits (u / 10) ++ [UInt8.ofNat (48 + u % 10)] := by rw [Lib.decDigits, dif_neg h]
/-- k digits of a number below 10 ^ 9, the first ahead. -/
def frac : Nat → Nat → List UInt8
  | 0, _ => []
  | k + 1, n => UInt8.ofNat (48 + n / 100000000) :: frac k (n % 100000000 * 10)
/-- The digits of a number below 10 ^ 9 as long as some are left. -/
def loopP : Nat → Nat → List UInt8
  | 0, _ => []
  | k + 1, n => if n = 0 then [] else UInt8.ofNat (48 + n / 100000000) :: loopP k (n % 100000000 * 10)
theorem trim_cons (c : UInt8) (l : List UInt8) (x : UInt8) : Lib.trimRightB (c :: l) x = if Lib.trimRightB l x = [] then (if c = x then [] else [c]) else c :: Lib.trimRightB l x := by
  unfold Lib.trimRightB
  rw [List.reverse_cons, List.dropWhile_append]
  by_cases h : (l.reverse.dropWhile (· == x)).isEmpty = true
  · rw [if_pos h]
    have h' : l.reverse.dropWhile (· == x) = [] := by simpa using h
    rw [h', List.reverse_nil, if_pos rfl]
    by_cases hc : c = x
    · subst hc; simp
    · rw [if_neg hc]; simp [List.dropWhile_cons, hc]
  · rw [if_neg h]
    have h' : l.reverse.dropWhile (· == x) ≠ [] := by simpa using h
    rw [if_neg (by simpa using h')]
    simp
theorem frac_zero : ∀ k, Lib.trimRightB (frac k 0) 48 = []
  | 0 => rfl
  | k + 1 => by
    show Lib.trimRightB (UInt8.ofNat (48 + 0 / 100000000) :: frac k 0) 48 = []
    rw [trim_cons, frac_zero k, if_pos rfl, if_pos (by decide)]
theorem trim_frac : ∀ (k n : Nat), n < 1000000000 → n % 10 ^ (9 - k) = 0 → k ≤ 9 → Lib.trimRightB (frac k n) 48 = loopP k n
  | 0, n, h, hm, _ => rfl
  | k + 1, n, h, hm, hk => by
    unfold frac loopP
    by_cases hn : n = 0
    · rw [if_pos hn]
      subst hn
      exact frac_zero (k + 1)
    · rw [if_neg hn]
      have hm' : (n % 100000000 * 10) % 10 ^ (9 - k) = 0 := by
        have e : 10 ^ (9 - k) = 10 ^ (9 - (k + 1)) * 10 := by rw [← Nat.pow_succ]; congr 1; omega
        rw [e, Nat.mul_mod_mul_right]
        have hd : (10 : Nat) ^ (9 - (k + 1)) ∣ 100000000 := by
          have : (100000000 : Nat) = 10 ^ 8 := rfl
          rw [this]
          exact Nat.pow_dvd_pow 10 (by omega)
        rw [Nat.mod_mod_of_dvd _ hd, hm]
      have ih := trim_frac k (n % 100000000 * 10) (by omega) hm' (by omega)
      rw [trim_cons, ih]
      by_cases he : loopP k (n % 100000000 * 10) = []
      · rw [if_pos he, he]
        cases k with
        | zero =>
          have : n / 100000000 ≠ 0 := by
            simp at hm
            omega
          rw [if_neg]
          intro e
          have := congrArg UInt8.toNat e
          rw [UInt8.toNat_ofNat'] at this
          simp at this
          omega
        | succ k =>
          unfold loopP at he
          split at he
          · rename_i h0
            rw [if_neg]
            intro e
            have := congrArg UInt8.toNat e
            rw [UInt8.toNat_ofNat'] at this
            simp at this
            omega
          · cases he
      · rw [if_neg he]
theorem frac_eq (m : Nat) : ∀ (k j : Nat), k + j ≤ 9 → frac k (m * 10 ^ j % 1000000000) = (List.range k).map fun i => UInt8.ofNat (48 + m / 10 ^ (8 - (j + i)) % 10)
  | 0, j, _ => rfl
  | k + 1, j, h => by
    unfold frac
    have e1 : m * 10 ^ j % 1000000000 / 100000000 = m / 10 ^ (8 - j) % 10 := by
      rw [show (1000000000 : Nat) = 100000000 * 10 from rfl, Nat.mod_mul_right_div_self]
      congr 1
      rw [show (100000000 : Nat) = 10 ^ (8 - j) * 10 ^ j from by rw [← Nat.pow_add, show 8 - j + j = 8 from by omega]]
      exact Nat.mul_div_mul_right _ _ (Nat.pow_pos (by omega))
    have e2 : m * 10 ^ j % 1000000000 % 100000000 * 10 = m * 10 ^ (j + 1) % 1000000000 := by
      rw [Nat.mod_mod_of_dvd _ (by decide), show (1000000000 : Nat) = 100000000 * 10 from rfl, Nat.pow_succ, ← Nat.mul_assoc, Nat.mul_mod_mul_right]
    rw [e1, e2, frac_eq m k (j + 1) (by omega), List.range_succ_eq_map, List.map_cons, List.map_map]
    congr 1
    refine List.map_congr_left fun i _ => ?_
    show UInt8.ofNat (48 + m / 10 ^ (8 - (j + 1 + i)) % 10) = UInt8.ofNat (48 + m / 10 ^ (8 - (j + (i + 1))) % 10)
    rw [show j + 1 + i = j + (i + 1) from by omega]
theorem digits_frac (m : Nat) (h : m < 1000000000) : Lib.decDigits (1000000000 + m) = 49 :: frac 9 m := by
  have hf := frac_eq m 9 0 (by omega)
  rw [Nat.pow_zero, Nat.mul_one, Nat.mod_eq_of_lt h] at hf
  rw [hf, Lib.decDigits_eq, Lib.nDigits_unique 9 _ (by omega) (by omega), List.range_succ_eq_map, List.map_cons, List.map_map]
  congr 1
  · show Lib.dg (1000000000 + m) 9 = 49
    unfold Lib.dg
    rw [show (1000000000 + m) / 10 ^ 9 % 10 = 1 from by omega]
    rfl
  · refine List.map_congr_left fun i hi => ?_
    rw [List.mem_range] at hi
    show Lib.dg (1000000000 + m) (10 - 1 - (i + 1)) = _
    unfold Lib.dg
    rw [show 10 - 1 - (i + 1) = 8 - i from by omega, Nat.zero_add]
    congr 2
    have : (1000000000 : Nat) = 10 ^ (8 - i) * (10 ^ i * 10) := by rw [← Nat.pow_succ, ← Nat.pow_add, show 8 - i + (i + 1) = 9 from by omega]
    rw [this, Nat.mul_add_div (Nat.pow_pos (by omega)), Nat.add_mod, Nat.mul_mod_left, Nat.zero_add, Nat.mod_mod]
/-- The text of a time. -/
def printL (s t : Int) : List UInt8 :=
  if t = 0 then Lib.itoa s
  else if s < 0 then 45 :: Lib.decDigits (-(s + 1)).toNat ++ [46] ++ loopP 9 (1000000000 - t).toNat
  else Lib.decDigits s.toNat ++ [46] ++ loopP 9 t.toNat
end Go.Proofs.YtogfcfgfkggmlaaGreatDoor.P04


/- The functions of the Dec laws in plain words. -/
set_option linter.unusedVariables false
set_option linter.unusedSectionVars false
set_option linter.unusedSimpArgs false
namespace Go.Proofs.YtogfcfgfkggmlaaGreatDoor.Eng.U
open Go Go.Proofs Go.Proofs.YtogfcfgfkggmlaaGreatDoor.Eng Go.Proofs.YtogfcfgfkggmlaaGreatDoor.P04
variable {E : Ext} [Core E] {k n : Nat}

def endI : Lib.NumEnd Int → Int → AV
  | .ok v, _ => .tup [.int .i64 v, .nili]
  | .range, d => .tup [.int .i64 d, .ifc]
  | _, _ => .tup [.int .i64 0, .ifc]
def endU : Lib.NumEnd Nat → AV
  | .ok v => .tup [.int .u64 v, .nili]
  | .range => .tup [.int .u64 18446744073709551615, .ifc]
  | _ => .tup [.int .u64 0, .ifc]
class HasNum (E : Ext) : Prop where
  fmt : ∀ (k n : Nat) (v : Int), -9223372036854775808 ≤ v → v ≤ 9223372036854775807 → kp E k n strconv_FormatInt [.int .i64 v, .int .i64 10] = some (.str (str (Lib.itoa v)))
  itoa : ∀ (k n : Nat) (v : Int), -9223372036854775808 ≤ v → v ≤ 9223372036854775807 → kp E k n strconv_Itoa [.int .i64 v] = some (.str (str (Lib.itoa v)))
  cutP : ∀ (k n : Nat) (s p : List UInt8), kp E k n strings_CutPrefix [.str (str s), .str (str p)] = some (.tup [.str (str (Lib.trimPrefix s p)), .bool (Lib.hasPrefix s p)])
  trimR : ∀ (k n : Nat) (s : List UInt8) (x : UInt8), x.toNat < 128 → s.length ≤ 9223372036854775807 → kp E k n strings_TrimRight [.str (str s), .str (str [x])] = some (.str (str (Lib.trimRightB s x)))
  index : ∀ (k n : Nat) (s : List UInt8) (x : UInt8), kp E k n stringslite_Index [.str (str s), .str (str [x])] = some (.int .i64 (Lib.indexByte s x))
  indexB : ∀ (k n : Nat) (s : List UInt8) (c : Int), kp E k n strings_IndexByte [.str (str s), .int .u8 c] = some (.int .i64 (Lib.indexByte s c.toNat.toUInt8))
  rep : ∀ (k n : Nat) (s : List UInt8) (c : Nat), c ≤ 9223372036854775807 → s.length * c ≤ 140737488355328 → kp E k n strings_Repeat [.str (str s), .int .i64 c] = some (.str (str (Lib.repeatL s c)))
  pint : ∀ (k n : Nat) (s : List UInt8), s.length ≤ 281474976710656 → kp E k n strconv_ParseInt [.str (str s), .int .i64 10, .int .i64 64] = some (endI (Lib.parseIntB 64 s) (Lib.intSat 64 s))
  puint : ∀ (k n : Nat) (s : List UInt8), s.length ≤ 281474976710656 → kp E k n strconv_ParseUint [.str (str s), .int .i64 10, .int .i64 64] = some (endU (Lib.parseUintB 64 s))

theorem digits_loop (kap : FuncId → List AV → Option AV) : ∀ (suf pre : List UInt8) (k0 : Nat), suf.length < k0 → (pre ++ suf).length < 1000000000000000 →
    dec_digits_L0 kap k k0 (str (pre ++ suf)) (((pre ++ suf).length : Nat) : Int) ((pre.length : Nat) : Int) = some (.bool (suf.all isDig && !(pre ++ suf).isEmpty))
  | [], pre, k0 + 1, h, hb => by
    rw [dec_digits_L0_s, nlt, decide_eq_false (by simp), cond_false, str_dec]
    cases pre <;> simp
  | c :: suf, pre, k0 + 1, h, hb => by
    rw [dec_digits_L0_s]
    rw [mid_len] at hb
    have hg : (pre ++ c :: suf).getD pre.length 0 = c := mid_byte _ _ _
    rw [str_size, mid_len, dec0, nlt, decide_eq_true (by omega), Bool.true_and, cond_true, cond_true, cond_true, Int.toNat_natCast, str_byte, hg, List.all_cons]
    by_cases h1 : 48 ≤ c.toNat
    · rw [bif_f (by omega)]
      by_cases h2 : c.toNat ≤ 57
      · rw [bif_f (by omega), wrap1 (by omega)]
        have := digits_loop kap suf (pre ++ [c]) k0 (by simpa using h) (by simp; omega)
        rw [List.append_assoc, List.singleton_append, mid_len, List.length_append, List.length_singleton] at this
        rw [this, dig_iff.2 ⟨h1, h2⟩, Bool.true_and]
      · rw [bif_t (by omega), show isDig c = false from by simp [isDig]; omega]
        rfl
    · rw [bif_t (by omega), show isDig c = false from by simp [isDig]; omega]
      rfl
theorem digits_k (l : List UInt8) (hb : l.length < 1000000000000000) (hk : l.length < k) : kp E k (n + 1) dec_digits [.str (str l)] = some (.bool (digs l)) := by
  rw [dec_digits_eq, str_size]
  exact digits_loop _ l [] k hk hb
theorem only_loop (kap : FuncId → List AV → Option AV) : ∀ (suf pre : List UInt8) (k0 : Nat), suf.length < k0 → (pre ++ suf).length < 1000000000000000 →
    ref04_only_L0 kap k k0 (str (pre ++ suf)) ((pre.length : Nat) : Int) = some (.bool (suf.all isDig && !(pre ++ suf).isEmpty))
  | [], pre, k0 + 1, h, hb => by
    rw [ref04_only_L0_s, str_size, nlt, decide_eq_false (by simp), cond_false]
    cases pre with
    | nil => rfl
    | cons c l => rw [decide_eq_true (by simp)]; simp
  | c :: suf, pre, k0 + 1, h, hb => by
    rw [ref04_only_L0_s]
    rw [mid_len] at hb
    have hg : (pre ++ c :: suf).getD pre.length 0 = c := mid_byte _ _ _
    rw [str_size, mid_len, dec0, nlt, decide_eq_true (by omega), Bool.true_and, cond_true, cond_true, cond_true, Int.toNat_natCast, str_byte, hg, List.all_cons]
    by_cases h1 : 48 ≤ c.toNat
    · rw [bif_f (by omega)]
      by_cases h2 : c.toNat ≤ 57
      · rw [bif_f (by omega), wrap1 (by omega)]
        have := only_loop kap suf (pre ++ [c]) k0 (by simpa using h) (by simp; omega)
        rw [List.append_assoc, List.singleton_append, List.length_append, List.length_singleton] at this
        rw [this, dig_iff.2 ⟨h1, h2⟩, Bool.true_and]
      · rw [bif_t (by omega), show isDig c = false from by simp [isDig]; omega]
        rfl
    · rw [bif_t (by omega), show isDig c = false from by simp [isDig]; omega]
      rfl
theorem only_k (l : List UInt8) (hb : l.length < 1000000000000000) (hk : l.length < k) : kp E k (n + 1) ref04_only [.str (str l)] = some (.bool (digs l)) := by
  rw [ref04_only_eq]
  exact only_loop _ l [] k hk hb
theorem below_loop (kap : FuncId → List AV → Option AV) : ∀ (suf pre : List UInt8) (k0 acc : Nat), suf.length < k0 → (pre ++ suf).length < 1000000000000000 → suf.all isDig = true → acc ≤ 9223372036854775808 →
    ref04_Below_L0 kap k k0 (str (pre ++ suf)) (-(acc : Int)) ((pre.length : Nat) : Int) = some (if valA acc suf ≤ 9223372036854775808 then .tup [.int .i64 (-(valA acc suf : Int)), .bool true] else .tup [.int .i64 0, .bool false])
  | [], pre, k0 + 1, acc, h, hb, hd, ha => by
    rw [ref04_Below_L0_s, str_size, nlt, decide_eq_false (by simp), cond_false]
    have e : valA acc [] = acc := rfl
    rw [e, if_pos ha]
  | c :: suf, pre, k0 + 1, acc, h, hb, hd, ha => by
    rw [ref04_Below_L0_s]
    rw [mid_len] at hb
    rw [List.all_cons, Bool.and_eq_true] at hd
    have hc := dig_iff.1 hd.1
    have hg : (pre ++ c :: suf).getD pre.length 0 = c := mid_byte _ _ _
    rw [str_size, mid_len, dec0, nlt, decide_eq_true (by omega), Bool.true_and, cond_true, cond_true, Int.toNat_natCast, str_byte, hg, i64w (x := ((c.toNat : Nat) : Int)) (by omega), i64w (x := ((c.toNat : Nat) : Int) - 48) (by omega), valA_cons]
    have hge := valA_ge suf (acc * 10 + (c.toNat - 48))
    have next : acc * 10 + (c.toNat - 48) ≤ 9223372036854775808 → ref04_Below_L0 kap k k0 (str (pre ++ c :: suf)) (IntKind.wrap .i64 ((IntKind.wrap .i64 ((10 : Int) * -(acc : Int))) - (((c.toNat : Nat) : Int) - 48))) (IntKind.wrap .i64 (((pre.length : Nat) : Int) + 1)) = some (if valA (acc * 10 + (c.toNat - 48)) suf ≤ 9223372036854775808 then .tup [.int .i64 (-(valA (acc * 10 + (c.toNat - 48)) suf : Int)), .bool true] else .tup [.int .i64 0, .bool false]) := by
      intro hle
      have := below_loop kap suf (pre ++ [c]) k0 (acc * 10 + (c.toNat - 48)) (by simpa using h) (by simp; omega) hd.2 hle
      rw [List.append_assoc, List.singleton_append, List.length_append, List.length_singleton] at this
      rw [← this, wrap1 (by omega), i64w (x := 10 * -(acc : Int)) (by omega), i64w (by omega)]
      congr 1
      omega
    by_cases h1 : 922337203685477580 < acc
    · rw [bif_t (by omega), if_neg (by omega)]
    · rw [bif_f (by omega)]
      by_cases h2 : acc = 922337203685477580
      · rw [bif_t (by omega)]
        by_cases h3 : 8 < c.toNat - 48
        · rw [bif_t (by omega), if_neg (by omega)]
        · rw [bif_f (by omega)]
          exact next (by omega)
      · rw [bif_f (by omega)]
        exact next (by omega)
theorem head_lead (l : List UInt8) (hl : l ≠ []) : decide (l.getD 0 0 = 48) = decide (l.headD 0 = 48) := by cases l <;> simp at hl ⊢
theorem digs_ne {l : List UInt8} (h : digs l = true) : l ≠ [] := by
  intro e
  subst e
  simp [digs] at h
theorem digs_all {l : List UInt8} (h : digs l = true) : l.all isDig = true := by
  unfold digs at h
  rw [Bool.and_eq_true] at h
  exact h.1
theorem byte48 (c : UInt8) : decide (((c.toNat : Nat) : Int) = (48 : Int)) = decide (c = 48) := byte_is c 48 (by omega)
theorem below_k (l : List UInt8) (hb : l.length < 1000000000000000) (hk : l.length < k) : kp E k (n + 2) ref04_Below [.str (str l)] = some (.tup [.int .i64 (if natOk l then -(valA 0 l : Int) else 0), .bool (natOk l)]) := by
  rw [ref04_Below_eq, only_k l hb hk, callB_ok]
  unfold natOk
  cases hd : digs l with
  | false => rfl
  | true =>
    have hne := digs_ne hd
    have hpos : 0 < l.length := List.length_pos_iff.2 hne
    have hloop := below_loop (k := k) (kp E k (n + 1)) l [] k 0 hk hb (digs_all hd) (by omega)
    rw [List.nil_append] at hloop
    have e0 : (-((0 : Nat) : Int)) = 0 := rfl
    have e1 : ((([] : List UInt8).length : Nat) : Int) = 0 := rfl
    rw [e0, e1] at hloop
    rw [Bool.not_true, cond_false, str_size, bif_t (by omega), str_byte, byte48, head_lead l hne, hloop]
    unfold lead
    by_cases h1 : l.headD 0 = 48
    · rw [decide_eq_true h1, cond_true]
      by_cases h2 : 1 < l.length
      · rw [bif_t (by omega), decide_eq_true h2]
        rfl
      · rw [bif_f (by omega), decide_eq_false h2]
        simp only [Bool.and_false, Bool.not_false, Bool.and_true, Bool.true_and]
        by_cases h3 : valA 0 l ≤ 9223372036854775808
        · rw [if_pos h3, decide_eq_true h3]; rfl
        · rw [if_neg h3, decide_eq_false h3]; rfl
    · rw [decide_eq_false h1, cond_false]
      simp only [Bool.false_and, Bool.not_false, Bool.and_true, Bool.true_and]
      by_cases h3 : valA 0 l ≤ 9223372036854775808
      · rw [if_pos h3, decide_eq_true h3]; rfl
      · rw [if_neg h3, decide_eq_false h3]; rfl
theorem natural_k [HasNum E] (l : List UInt8) (hb : l.length < 100000000000000) (hk : l.length < k) : ∃ m : Int, kp E k (n + 2) dec_natural [.str (str l)] = some (.tup [.int .u64 m, .bool (natOk l)]) ∧ (natOk l = true → m = (valA 0 l : Int)) := by
  rw [dec_natural_eq, digits_k l (by omega) hk, callB_ok]
  unfold natOk
  cases hd : digs l with
  | false => exact ⟨0, rfl, fun h => by cases h⟩
  | true =>
    have hne := digs_ne hd
    have hpos : 0 < l.length := List.length_pos_iff.2 hne
    rw [Bool.not_true, cond_false, str_size, bif_t (by omega), str_byte, byte48, head_lead l hne, HasNum.puint k (n + 1) l (by omega), parseB_eq hd]
    have go : ∃ m : Int, (callT (β := AV) (some (endU (if valA 0 l ≤ 18446744073709551615 then Lib.NumEnd.ok (valA 0 l) else .range))) fun vt11 => (tupI .u64 vt11 fun vn12 vt13 => (tupV vt13 fun vr14 vt15 => (atNil vt15 (nilB vr14 fun q16 => (bif q16 then (some (.tup [(.int .u64 vn12), (.bool (decide (vn12 ≤ (9223372036854775808 : Int))))])) else (some (.tup [(.int .u64 vn12), (.bool false)])))))))) = some (.tup [.int .u64 m, .bool (decide (valA 0 l ≤ 9223372036854775808))]) ∧ (valA 0 l ≤ 9223372036854775808 → m = (valA 0 l : Int)) := by
      by_cases h3 : valA 0 l ≤ 18446744073709551615
      · rw [if_pos h3]
        refine ⟨(valA 0 l : Int), ?_, fun _ => rfl⟩
        have : decide (((valA 0 l : Nat) : Int) ≤ 9223372036854775808) = decide (valA 0 l ≤ 9223372036854775808) := by rw [decide_eq_decide]; omega
        rw [← this]
        rfl
      · rw [if_neg h3]
        refine ⟨18446744073709551615, ?_, fun h => by omega⟩
        rw [decide_eq_false (by omega)]
        rfl
    obtain ⟨m, g1, g2⟩ := go
    unfold lead
    by_cases h1 : l.headD 0 = 48
    · rw [decide_eq_true h1, cond_true]
      by_cases h2 : 1 < l.length
      · rw [bif_t (by omega), decide_eq_true h2]
        exact ⟨0, rfl, fun h => by simp at h⟩
      · rw [bif_f (by omega), decide_eq_false h2, g1]
        exact ⟨m, by simp, fun h => g2 (by simpa using h)⟩
    · rw [decide_eq_false h1, cond_false, g1]
      exact ⟨m, by simp, fun h => g2 (by simpa using h)⟩
theorem ofInt_u8 (d : Nat) (h : d < 10) : (IntKind.wrap .u8 (IntKind.wrap .i64 ((48 : Int) + (d : Int)))) = ((48 + d : Nat) : Int) := by
  rw [i64w (by omega)]
  match d, h with
  | 0, _ | 1, _ | 2, _ | 3, _ | 4, _ | 5, _ | 6, _ | 7, _ | 8, _ | 9, _ => rfl
theorem digits_ref (m : Nat) : ∀ (u : Nat), u < 10 ^ (m + 1) → u ≤ 9223372036854775807 → kp E k (n + m + 1) ref04_Digits [.int .i64 (u : Int)] = some (.str (str (Lib.decDigits u))) := by
  induction m with
  | zero =>
    intro u hu _
    rw [ref04_Digits_eq, bif_t (by omega), ofInt_u8 u (by omega), Lib.decDigits_one (by omega)]
    rfl
  | succ m ih =>
    intro u hu hm
    by_cases h : u < 10
    · rw [ref04_Digits_eq, bif_t (by omega), ofInt_u8 u (by omega), Lib.decDigits_one h]
      rfl
    · have hu' : u < 10 ^ (m + 1) * 10 := by rw [← Nat.pow_succ]; exact hu
      have e1 : Int.tdiv (u : Int) 10 = ((u / 10 : Nat) : Int) := rfl
      have e2 : Int.tmod (u : Int) 10 = ((u % 10 : Nat) : Int) := rfl
      rw [show n + (m + 1) + 1 = (n + m + 1) + 1 from rfl, ref04_Digits_eq, bif_f (by omega), e1, e2, i64w (x := ((u / 10 : Nat) : Int)) (by omega), ih (u / 10) (by omega) (by omega), callS_ok, ofInt_u8 _ (by omega)]
      have hlen : (Lib.decDigits (u / 10)).length ≤ 21 := by
        have := Lib.itoa_length_le ((u / 10 : Nat) : Int) (by omega) (by omega)
        rwa [Lib.itoa_nonneg] at this
      show (bif decide ((str (Lib.decDigits (u / 10))).size + (str [UInt8.ofNat (48 + u % 10)]).size ≤ 9223372036854775807) then _ else _) = _
      rw [str_size, str_size, bif_t (by simp; omega), decDigits_rec h]
      rw [str_app, Int.toNat_natCast]
end Go.Proofs.YtogfcfgfkggmlaaGreatDoor.Eng.U


/- The functions of the Dec laws in plain words, part 2: printing. -/
set_option linter.unusedVariables false
set_option linter.unusedSectionVars false
set_option linter.unusedSimpArgs false
namespace Go.Proofs.YtogfcfgfkggmlaaGreatDoor.Eng.U
open Go Go.Proofs Go.Proofs.YtogfcfgfkggmlaaGreatDoor.Eng Go.Proofs.YtogfcfgfkggmlaaGreatDoor.P04
variable {E : Ext} [Core E] [HasNum E] {k n : Nat}

theorem text_k (v : Int) (h0 : -9223372036854775808 ≤ v) (h1 : v ≤ 9223372036854775807) : kp E k (n + 1) dec_Text [.int .i64 v] = some (.str (str (Lib.itoa v))) := by
  rw [dec_Text_eq, HasNum.fmt k n v h0 h1, callS_ok]
theorem dig_len (u : Nat) (h : u ≤ 9223372036854775808) : (Lib.decDigits u).length ≤ 21 := by
  rw [Lib.decDigits_length]
  cases u with
  | zero => rw [Lib.nDigits_small (by omega)]; omega
  | succ u =>
    by_cases h2 : u + 1 < 9223372036854775808
    · have := Lib.itoa_length_le ((u + 1 : Nat) : Int) (by omega) (by omega)
      rwa [Lib.itoa_nonneg, Lib.decDigits_length] at this
    · rw [Lib.nDigits_unique 18 (u + 1) (by omega) (by omega)]; omega
theorem digits20 (u : Nat) (hu : u ≤ 9223372036854775807) : kp E k (n + 19) ref04_Digits [.int .i64 (u : Int)] = some (.str (str (Lib.decDigits u))) :=
  digits_ref (n := n) 18 u (by omega) hu
theorem refText_k (v : Int) (h0 : -9223372036854775808 ≤ v) (h1 : v ≤ 9223372036854775807) : kp E k (n + 20) ref04_Text [.int .i64 v] = some (.str (str (Lib.itoa v))) := by
  rw [ref04_Text_eq]
  by_cases hv : 0 ≤ v
  · obtain ⟨u, rfl⟩ := Int.eq_ofNat_of_zero_le hv
    rw [bif_t (by omega), digits20 u (by omega), callS_ok, Lib.itoa_nonneg]
  · obtain ⟨u, rfl⟩ : ∃ u : Nat, v = -(u : Int) := ⟨v.natAbs, by omega⟩
    have e1 : Int.tdiv (-(u : Int)) 10 = -((u / 10 : Nat) : Int) := by rw [Int.neg_tdiv]; rfl
    have e2 : Int.tmod (-(u : Int)) 10 = -((u % 10 : Nat) : Int) := by rw [Int.neg_tmod]; rfl
    rw [bif_f (by omega), Lib.itoa_neg u (by omega)]
    by_cases hs : u < 10
    · have := dig_len u (by omega)
      rw [bif_t (by omega), i64w (by omega), show (0 : Int) - -(u : Int) = (u : Int) from by omega, digits20 u (by omega), callS_ok, str_size, bif_t (by omega), str_app]
      rfl
    · have g1 := dig_len (u / 10) (by omega)
      have g2 := dig_len (u % 10) (by omega)
      rw [bif_f (by omega), e1, e2, i64w (x := -((u / 10 : Nat) : Int)) (by omega), i64w (x := 0 - -((u / 10 : Nat) : Int)) (by omega), show (0 : Int) - -((u / 10 : Nat) : Int) = ((u / 10 : Nat) : Int) from by omega, digits20 (u / 10) (by omega), callS_ok, str_size, bif_t (by omega), i64w (by omega), show (0 : Int) - -((u % 10 : Nat) : Int) = ((u % 10 : Nat) : Int) from by omega, digits20 (u % 10) (by omega), callS_ok, str_app, str_size, str_size, bif_t (by simp; omega), str_app, decDigits_rec hs, Lib.decDigits_one (i := u % 10) (by omega)]
      rfl
def rightT (t : Int) : Bool := decide (0 ≤ t) && decide (t < 1000000000)
theorem right_k (s t : Int) : kp E k (n + 1) dec_Right [.agg [.int .i64 s, .int .i64 t]] = some (.bool (rightT t)) := by
  rw [dec_Right_eq]
  unfold rightT
  by_cases h : 0 ≤ t
  · rw [bif_t (by omega), decide_eq_true h, Bool.true_and]
  · rw [bif_f (by omega), decide_eq_false h, Bool.false_and]
theorem refRight_k (s t : Int) : kp E k (n + 1) ref04_Right [.agg [.int .i64 s, .int .i64 t]] = some (.bool (rightT t)) := by
  rw [ref04_Right_eq]
  unfold rightT
  by_cases h : 0 ≤ t
  · rw [bif_t (by omega), decide_eq_true h, Bool.true_and]
    congr 2
    rw [decide_eq_decide]
    omega
  · rw [bif_f (by omega), decide_eq_false h, Bool.false_and]
theorem frac_len : ∀ k n, (frac k n).length = k
  | 0, _ => rfl
  | k + 1, n => by unfold frac; rw [List.length_cons, frac_len k]
theorem loopP_len : ∀ k n, (loopP k n).length ≤ k
  | 0, _ => Nat.le_refl _
  | k + 1, n => by
    unfold loopP
    split
    · simp
    · rw [List.length_cons]
      have := loopP_len k (n % 100000000 * 10)
      omega
theorem fmt_frac (m : Nat) (h : m < 1000000000) : kp E k n strconv_FormatInt [.int .i64 ((1000000000 + m : Nat) : Int), .int .i64 10] = some (.str (str (49 :: frac 9 m))) := by
  rw [HasNum.fmt k n _ (by omega) (by omega), Lib.itoa_nonneg, digits_frac m h]
theorem ext_one (c : UInt8) (l : List UInt8) : ByteArray.extract (str (c :: l)) 1 (l.length + 1) = str l := by
  rw [str_ext]
  simp
theorem print_k (s t : Int) (h0 : -9223372036854775808 ≤ s) (h1 : s ≤ 9223372036854775807) : kp E k (n + 3) dec_Print [.agg [.int .i64 s, .int .i64 t]] = some (bif rightT t then .tup [.str (str (printL s t)), .int .u8 0] else .tup [.str (str []), .int .u8 15]) := by
  rw [dec_Print_eq, right_k, callB_ok]
  cases hr : rightT t with
  | false => rfl
  | true =>
    unfold rightT at hr
    rw [Bool.and_eq_true, decide_eq_true_eq, decide_eq_true_eq] at hr
    rw [Bool.not_true, cond_false, cond_true]
    unfold printL
    by_cases ht : t = 0
    · rw [bif_t ht, if_pos ht, text_k s h0 h1, callS_ok]
    · rw [bif_f ht, if_neg ht]
      have tail : ∀ (pre u : List UInt8) (m : Nat), 0 < m → m < 1000000000 → u.length ≤ 21 → pre.length ≤ 1 → (bif (decide ((1 : Int) ≤ (((ByteArray.size (str (49 :: frac 9 m))) : Nat) : Int))) then (callS (some (.str (str u))) fun vs8 => (bif (decide (pre.length + (ByteArray.size vs8) ≤ 9223372036854775807)) then (bif (decide ((ByteArray.size ((str pre) ++ vs8)) + 1 ≤ 9223372036854775807)) then (callS (kp E k (n + 2) strings_TrimRight [(.str (ByteArray.extract (str (49 :: frac 9 m)) 1 (ByteArray.size (str (49 :: frac 9 m))))), (.str (str [48]))]) fun vs10 => (bif (decide ((ByteArray.size (((str pre) ++ vs8) ++ (str [46]))) + (ByteArray.size vs10) ≤ 9223372036854775807)) then (some (AV.tup [(.str ((((str pre) ++ vs8) ++ (str [46])) ++ vs10)), (.int .u8 (0 : Int))])) else none)) else none) else none)) else none)
          = some (.tup [.str (str (pre ++ u ++ [46] ++ loopP 9 m)), .int .u8 0]) := by
        intro pre u m hm0 hm hu hp
        have hf := frac_len 9 m
        have hl := loopP_len 9 m
        rw [str_size, List.length_cons, bif_t (by omega), callS_ok, str_size, bif_t (by omega), str_app, str_size, bif_t (by simp; omega), ext_one, HasNum.trimR k (n + 2) _ 48 (by decide) (by omega), callS_ok, trim_frac 9 m hm (by simp [Nat.mod_one]) (by omega), str_app, str_size, str_size, bif_t (by simp; omega), str_app]
      by_cases hs : s < 0
      · obtain ⟨m, hm⟩ := Int.eq_ofNat_of_zero_le (show 0 ≤ 1000000000 - t by omega)
        obtain ⟨u, hu⟩ := Int.eq_ofNat_of_zero_le (show 0 ≤ -(s + 1) by omega)
        rw [bif_t hs, if_pos hs, i64w (x := 1000000000 - t) (by omega), hm, i64w (by omega), show (1000000000 : Int) + (m : Int) = ((1000000000 + m : Nat) : Int) from by omega, fmt_frac m (by omega), callS_ok, i64w (x := s + 1) (by omega), i64w (x := 0 - (s + 1)) (by omega), show (0 : Int) - (s + 1) = (u : Int) from by omega, hu, text_k _ (by omega) (by omega), Lib.itoa_nonneg]
        exact tail [45] _ m (by omega) (by omega) (dig_len u (by omega)) (by simp)
      · obtain ⟨m, rfl⟩ := Int.eq_ofNat_of_zero_le hr.1
        obtain ⟨u, rfl⟩ := Int.eq_ofNat_of_zero_le (show 0 ≤ s by omega)
        rw [bif_f hs, if_neg hs, i64w (by omega), show (1000000000 : Int) + (m : Int) = ((1000000000 + m : Nat) : Int) from by omega, fmt_frac m (by omega), callS_ok, text_k _ (by omega) (by omega), Lib.itoa_nonneg]
        exact tail [] _ m (by omega) (by omega) (dig_len u (by omega)) (by simp)
theorem printLoop (kap : FuncId → List AV → Option AV) (hk : ∀ d : Nat, d < 10 → kap ref04_Digits [.int .i64 (d : Int)] = some (.str (str [UInt8.ofNat (48 + d)]))) : ∀ (j k0 m : Nat) (pre : List UInt8), j < k0 → m < 1000000000 → m % 10 ^ (9 - j) = 0 → j ≤ 9 → pre.length + j ≤ 1000 → ref04_Print_L0 kap k k0 (m : Int) (str pre) = some (.str (str (pre ++ loopP j m)))
  | 0, k0 + 1, m, pre, _, hm, hd, _, hp => by
    rw [ref04_Print_L0_s]
    have : m = 0 := by simp at hd; omega
    subst this
    rw [bif_f (by omega)]
    simp [loopP]
  | j + 1, k0 + 1, m, pre, h, hm, hd, hj, hp => by
    rw [ref04_Print_L0_s]
    unfold loopP
    by_cases h0 : m = 0
    · subst h0
      rw [bif_f (by omega), if_pos rfl, List.append_nil]
    · have e1 : Int.tdiv (m : Int) 100000000 = ((m / 100000000 : Nat) : Int) := rfl
      have e2 : Int.tmod (m : Int) 100000000 = ((m % 100000000 : Nat) : Int) := rfl
      have hm' : (m % 100000000 * 10) % 10 ^ (9 - j) = 0 := by
        have e : 10 ^ (9 - j) = 10 ^ (9 - (j + 1)) * 10 := by rw [← Nat.pow_succ]; congr 1; omega
        rw [e, Nat.mul_mod_mul_right]
        have hd' : (10 : Nat) ^ (9 - (j + 1)) ∣ 100000000 := by
          have : (100000000 : Nat) = 10 ^ 8 := rfl
          rw [this]
          exact Nat.pow_dvd_pow 10 (by omega)
        rw [Nat.mod_mod_of_dvd _ hd', hd]
      rw [bif_t (by omega), if_neg h0, e1, e2, i64w (x := ((m / 100000000 : Nat) : Int)) (by omega), hk _ (by omega), callS_ok, str_size, str_size, bif_t (by simp; omega), str_app, i64w (x := ((m % 100000000 : Nat) : Int) * 10) (by omega), show (((m % 100000000 : Nat) : Int) * 10) = ((m % 100000000 * 10 : Nat) : Int) from by rw [Int.natCast_mul]; rfl, printLoop kap hk j k0 (m % 100000000 * 10) (pre ++ [UInt8.ofNat (48 + m / 100000000)]) (by omega) (by omega) hm' (by omega) (by rw [List.length_append, List.length_singleton]; omega)]
      simp
theorem refPrint_k (s t : Int) (h0 : -9223372036854775808 ≤ s) (h1 : s ≤ 9223372036854775807) (hr : rightT t = true) (hk : 10 < k) : kp E k (n + 21) ref04_Print [.agg [.int .i64 s, .int .i64 t]] = some (.str (str (printL s t))) := by
  unfold rightT at hr
  rw [Bool.and_eq_true, decide_eq_true_eq, decide_eq_true_eq] at hr
  have hD : ∀ d : Nat, d < 10 → kp E k (n + 20) ref04_Digits [.int .i64 (d : Int)] = some (.str (str [UInt8.ofNat (48 + d)])) := fun d hd => by
    rw [show n + 20 = (n + 1) + 19 from rfl, digits20 d (by omega), Lib.decDigits_one hd]
  rw [ref04_Print_eq]
  unfold printL
  by_cases ht : t = 0
  · rw [bif_t ht, if_pos ht, refText_k s h0 h1, callS_ok]
  · rw [bif_f ht, if_neg ht]
    by_cases hs : s < 0
    · obtain ⟨m, hm⟩ := Int.eq_ofNat_of_zero_le (show 0 ≤ 1000000000 - t by omega)
      obtain ⟨u, hu⟩ := Int.eq_ofNat_of_zero_le (show 0 ≤ -(s + 1) by omega)
      have g := dig_len u (by omega)
      rw [bif_t hs, if_pos hs, i64w (x := s + 1) (by omega), i64w (x := 0 - (s + 1)) (by omega), show (0 : Int) - (s + 1) = (u : Int) from by omega, show n + 20 = (n + 1) + 19 from rfl, digits20 u (by omega), callS_ok, str_size, bif_t (by omega), str_app, str_size, bif_t (by simp; omega), str_app, i64w (by omega), hm, hu]
      exact printLoop _ hD 9 k m _ (by omega) (by omega) (by simp [Nat.mod_one]) (by omega) (by simp; omega)
    · obtain ⟨m, rfl⟩ := Int.eq_ofNat_of_zero_le hr.1
      obtain ⟨u, rfl⟩ := Int.eq_ofNat_of_zero_le (show 0 ≤ s by omega)
      have g := dig_len u (by omega)
      rw [bif_f hs, if_neg hs, show n + 20 = (n + 1) + 19 from rfl, digits20 u (by omega), callS_ok, str_size, bif_t (by omega), str_app, str_size, bif_t (by simp; omega), str_app]
      exact printLoop _ hD 9 k m _ (by omega) (by omega) (by simp [Nat.mod_one]) (by omega) (by simp; omega)
end Go.Proofs.YtogfcfgfkggmlaaGreatDoor.Eng.U


/- The functions of the Dec laws in plain words, part 3: reading. -/
set_option linter.unusedVariables false
set_option linter.unusedSectionVars false
set_option linter.unusedSimpArgs false
namespace Go.Proofs.YtogfcfgfkggmlaaGreatDoor.Eng.U
open Go Go.Proofs Go.Proofs.YtogfcfgfkggmlaaGreatDoor.Eng Go.Proofs.YtogfcfgfkggmlaaGreatDoor.P04
variable {E : Ext} [Core E] [HasNum E] {k n : Nat}

theorem dot_le (t : List UInt8) : dot t ≤ t.length := List.findIdx_le_length
theorem cut_k (t : List UInt8) (ht : t.length < 1000000000000) : kp E k (n + 2) strings_Cut [.str (str t), .str (str [46])] = some (.tup [.str (str (t.take (dot t))), .str (str (t.drop (dot t + 1))), .bool (decide (dot t < t.length))]) := by
  have hd := dot_le t
  rw [strings_Cut_eq, stringslite_Cut_eq, HasNum.index k n t 46, callI_ok, index_dot]
  by_cases h : dot t < t.length
  · rw [if_pos h, decide_eq_true h, bif_t (by omega), str_size, str_size, List.length_singleton, wrapP (by omega) (by omega), bif_a, bif_t (by omega), bif_t (by omega), bif_a, bif_t (by omega), bif_t (by omega), Int.toNat_natCast, Int.toNat_natCast, str_ext, str_ext, List.take_length, List.drop_zero]
    rfl
  · rw [if_neg h, decide_eq_false h, bif_f (by omega), List.take_of_length_le (by omega), List.drop_of_length_le (by omega)]
    rfl
theorem trim_minus (s : List UInt8) : Lib.trimPrefix s [45] = (if s.head? = some 45 then s.drop 1 else s) ∧ Lib.hasPrefix s [45] = decide (s.head? = some 45) := by
  have h : Lib.hasPrefix s [45] = decide (s.head? = some 45) := by
    unfold Lib.hasPrefix
    cases s with
    | nil => rfl
    | cons c s =>
      simp only [List.isPrefixOf, List.head?_cons, Option.some.injEq, Bool.and_true]
      rw [Bool.eq_iff_iff, beq_iff_eq, decide_eq_true_eq]
      exact eq_comm
  refine ⟨?_, h⟩
  unfold Lib.trimPrefix
  rw [h]
  by_cases hs : s.head? = some 45
  · rw [if_pos hs, if_pos (decide_eq_true hs)]; rfl
  · rw [if_neg hs, if_neg (by simpa using hs)]
theorem repeat48 : ∀ c, Lib.repeatL [48] c = List.replicate c (48 : UInt8)
  | 0 => rfl
  | c + 1 => by rw [Lib.repeatL, repeat48 c]; rfl
theorem zeros_dig (c : Nat) : (List.replicate c (48 : UInt8)).all isDig = true := by
  rw [List.all_eq_true]
  intro x hx
  rw [List.eq_of_mem_replicate hx]
  rfl
theorem parseI_eq {l : List UInt8} (hd : digs l = true) (h9 : l.length ≤ 9) : Lib.parseIntB 64 l = .ok (valA 0 l : Int) ∧ valA 0 l < 1000000000 := by
  have hall := digs_all hd
  have hv : valA 0 l < 10 ^ (0 + l.length) := valA_lt l 0 0 hall (by omega)
  have hp : 10 ^ (0 + l.length) ≤ 10 ^ 9 := Nat.pow_le_pow_right (by omega) (by omega)
  have hlt : valA 0 l < 1000000000 := by omega
  refine ⟨?_, hlt⟩
  have hB := parseB_eq hd
  rw [if_pos (by omega)] at hB
  cases l with
  | nil => simp [digs] at hd
  | cons c r =>
    rw [List.all_cons, Bool.and_eq_true] at hall
    have hc := dig_iff.1 hall.1
    unfold Lib.parseIntB
    dsimp only
    rw [if_neg (show ¬ (c.toNat = 43 ∨ c.toNat = 45) by omega), hB]
    dsimp only
    have h1 : ¬ (2 : Nat) ^ (64 - 1) ≤ valA 0 (c :: r) := by
      have : (2 : Nat) ^ (64 - 1) = 9223372036854775808 := rfl
      omega
    rw [if_neg (fun h => h1 h.2), if_neg (fun h => by omega), if_neg (by omega)]
theorem nano_digs {b : List UInt8} (hd : digs b = true) (h9 : b.length ≤ 9) : digs (b ++ List.replicate (9 - b.length) 48) = true ∧ (b ++ List.replicate (9 - b.length) (48 : UInt8)).length = 9 := by
  constructor
  · unfold digs
    rw [List.all_append, digs_all hd, zeros_dig, Bool.true_and, Bool.true_and]
    have := digs_ne hd
    cases b with
    | nil => exact absurd rfl this
    | cons c b => rfl
  · rw [List.length_append, List.length_replicate]; omega
theorem half {v : Nat} : decide (Int.fdiv (v : Int) (2 ^ (min (Int.toNat (63 : Int)) (IntKind.bits .u64))) > (0 : Int)) = decide (9223372036854775807 < v) := by
  have e : ((2 : Int) ^ (min (Int.toNat (63 : Int)) (IntKind.bits .u64))) = 9223372036854775808 := rfl
  rw [e, decide_eq_decide, Int.fdiv_eq_ediv_of_nonneg _ (by omega)]
  omega
theorem negW {v : Nat} (h : v ≤ 9223372036854775808) : IntKind.wrap .i64 (IntKind.wrap .u64 (0 - (v : Int))) = -(v : Int) := by
  rw [IntKind.wrap_u64, IntKind.wrap_i64]
  omega
def timeAV : Option (Int × Int) → AV
  | some (a, b) => .tup [.agg [.int .i64 a, .int .i64 b], .int .u8 0]
  | none => .tup [.agg [.int .i64 0, .int .i64 0], .int .u8 15]
theorem number_k (l : List UInt8) (hb : l.length < 1000000000000) (hk : l.length < k) : kp E k (n + 3) dec_Number [.str (str l)] = some (bif natOk l && decide (valA 0 l ≤ 9223372036854775807) then .tup [.int .i64 (valA 0 l : Int), .int .u8 0] else .tup [.int .i64 0, .int .u8 15]) := by
  obtain ⟨m, h1, h2⟩ := natural_k (E := E) (k := k) (n := n) l (by omega) hk
  rw [dec_Number_eq, h1]
  simp (disch := first | omega | (simp only [List.length_append, List.length_cons, List.length_nil, List.length_take, List.length_drop]; done) | (simp only [List.length_append, List.length_cons, List.length_nil, List.length_take, List.length_drop]; omega) | fail) only [bif_t, bif_f, bif_n, bif_a, callB_ok, callI_ok, callS_ok, callL_ok, callF_ok, callT_ok, tupB_ok, tupI_ok, tupS_ok, tupL_ok, tupF_ok, atNil_ok, wrap1, wrapM, wrapP, Int.toNat_natCast, svs_len, ivs_len, bvs_len, str_size, svs_mid, ivs_mid, str_dec, str_ext, str_byte, mid_byte, mid_cut, List.length_nil, List.length_singleton, svs_snoc, ivs_snoc, svs_take, svs_drop, str_app, List.take_length, List.drop_zero, List.nil_append, cond_true, cond_false, Option.bind_some, Bool.not_true, Bool.not_false, Bool.true_and, Bool.and_true]
  cases ho : natOk l with
  | false => rfl
  | true =>
    rw [h2 ho]
    simp only [Bool.not_true, cond_false, Bool.true_and, half]
    by_cases hv : 9223372036854775807 < valA 0 l
    · rw [bif_t hv, decide_eq_false (by omega)]; rfl
    · rw [bif_f hv, decide_eq_true (by omega), i64w (by omega)]; rfl
theorem refNumber_k (l : List UInt8) (hb : l.length < 1000000000000) (hk : l.length < k) : kp E k (n + 3) ref04_Number [.str (str l)] = some (bif natOk l && decide (valA 0 l ≤ 9223372036854775807) then .tup [.int .i64 (valA 0 l : Int), .bool true] else .tup [.int .i64 0, .bool false]) := by
  rw [ref04_Number_eq, below_k l (by omega) hk]
  simp (disch := first | omega | (simp only [List.length_append, List.length_cons, List.length_nil, List.length_take, List.length_drop]; done) | (simp only [List.length_append, List.length_cons, List.length_nil, List.length_take, List.length_drop]; omega) | fail) only [bif_t, bif_f, bif_n, bif_a, callB_ok, callI_ok, callS_ok, callL_ok, callF_ok, callT_ok, tupB_ok, tupI_ok, tupS_ok, tupL_ok, tupF_ok, atNil_ok, wrap1, wrapM, wrapP, Int.toNat_natCast, svs_len, ivs_len, bvs_len, str_size, svs_mid, ivs_mid, str_dec, str_ext, str_byte, mid_byte, mid_cut, List.length_nil, List.length_singleton, svs_snoc, ivs_snoc, svs_take, svs_drop, str_app, List.take_length, List.drop_zero, List.nil_append, cond_true, cond_false, Option.bind_some, Bool.not_true, Bool.not_false, Bool.true_and, Bool.and_true]
  cases ho : natOk l with
  | false => rfl
  | true =>
    have hv : valA 0 l ≤ 9223372036854775808 := by
      unfold natOk at ho
      rw [Bool.and_eq_true, decide_eq_true_eq] at ho
      exact ho.2
    simp only [if_true, Bool.not_true, cond_false, Bool.true_and]
    by_cases hv : 9223372036854775807 < valA 0 l
    · rw [bif_t (by omega), decide_eq_false (by omega)]; rfl
    · rw [bif_f (by omega), decide_eq_true (by omega), i64w (by omega), show (0 : Int) - -(valA 0 l : Int) = (valA 0 l : Int) from by omega]; rfl
theorem natOk_le {l : List UInt8} (ho : natOk l = true) : valA 0 l ≤ 9223372036854775808 := by
  unfold natOk at ho
  rw [Bool.and_eq_true, decide_eq_true_eq] at ho
  exact ho.2
theorem time_k (s : List UInt8) (hs : s.length < 100000000000) (hk : s.length < k) : kp E k (n + 3) dec_Time [.str (str s)] = some (timeAV (timeL s)) := by
  obtain ⟨t1, t2⟩ := trim_minus s
  rw [dec_Time_eq, HasNum.cutP, t1, t2]
  unfold timeL
  have hle : (if s.head? = some 45 then s.drop 1 else s).length ≤ s.length := by split <;> simp
  generalize (if s.head? = some 45 then s.drop 1 else s) = t at hle
  generalize decide (s.head? = some 45) = minus
  simp (disch := first | omega | (simp only [List.length_append, List.length_cons, List.length_nil, List.length_take, List.length_drop]; done) | (simp only [List.length_append, List.length_cons, List.length_nil, List.length_take, List.length_drop]; omega) | fail) only [bif_t, bif_f, bif_n, bif_a, callB_ok, callI_ok, callS_ok, callL_ok, callF_ok, callT_ok, tupB_ok, tupI_ok, tupS_ok, tupL_ok, tupF_ok, atNil_ok, wrap1, wrapM, wrapP, Int.toNat_natCast, svs_len, ivs_len, bvs_len, str_size, svs_mid, ivs_mid, str_dec, str_ext, str_byte, mid_byte, mid_cut, List.length_nil, List.length_singleton, svs_snoc, ivs_snoc, svs_take, svs_drop, str_app, List.take_length, List.drop_zero, List.nil_append, cond_true, cond_false, Option.bind_some, Bool.not_true, Bool.not_false, Bool.true_and, Bool.and_true]
  rw [cut_k t (by omega)]
  simp (disch := first | omega | (simp only [List.length_append, List.length_cons, List.length_nil, List.length_take, List.length_drop]; done) | (simp only [List.length_append, List.length_cons, List.length_nil, List.length_take, List.length_drop]; omega) | fail) only [bif_t, bif_f, bif_n, bif_a, callB_ok, callI_ok, callS_ok, callL_ok, callF_ok, callT_ok, tupB_ok, tupI_ok, tupS_ok, tupL_ok, tupF_ok, atNil_ok, wrap1, wrapM, wrapP, Int.toNat_natCast, svs_len, ivs_len, bvs_len, str_size, svs_mid, ivs_mid, str_dec, str_ext, str_byte, mid_byte, mid_cut, List.length_nil, List.length_singleton, svs_snoc, ivs_snoc, svs_take, svs_drop, str_app, List.take_length, List.drop_zero, List.nil_append, cond_true, cond_false, Option.bind_some, Bool.not_true, Bool.not_false, Bool.true_and, Bool.and_true]
  obtain ⟨m, h1, h2⟩ := natural_k (E := E) (k := k) (n := n) (t.take (dot t)) (by rw [List.length_take]; omega) (by rw [List.length_take]; omega)
  rw [h1]
  simp (disch := first | omega | (simp only [List.length_append, List.length_cons, List.length_nil, List.length_take, List.length_drop]; done) | (simp only [List.length_append, List.length_cons, List.length_nil, List.length_take, List.length_drop]; omega) | fail) only [bif_t, bif_f, bif_n, bif_a, callB_ok, callI_ok, callS_ok, callL_ok, callF_ok, callT_ok, tupB_ok, tupI_ok, tupS_ok, tupL_ok, tupF_ok, atNil_ok, wrap1, wrapM, wrapP, Int.toNat_natCast, svs_len, ivs_len, bvs_len, str_size, svs_mid, ivs_mid, str_dec, str_ext, str_byte, mid_byte, mid_cut, List.length_nil, List.length_singleton, svs_snoc, ivs_snoc, svs_take, svs_drop, str_app, List.take_length, List.drop_zero, List.nil_append, cond_true, cond_false, Option.bind_some, Bool.not_true, Bool.not_false, Bool.true_and, Bool.and_true]
  unfold timeB
  dsimp only
  cases ho : natOk (t.take (dot t)) with
  | false => rfl
  | true =>
    obtain rfl := h2 ho
    have hv := natOk_le ho
    generalize valA 0 (t.take (dot t)) = v at hv
    rw [if_neg (by simp)]
    simp only [half, cond_true, cond_false, Bool.not_true, Bool.not_false]
    by_cases hp : dot t < t.length
    · have hbl : (t.drop (dot t + 1)).length ≤ t.length := by rw [List.length_drop]; omega
      rw [decide_eq_true hp]
      generalize hbe : t.drop (dot t + 1) = b at hbl
      rw [if_pos hp]
      simp only [cond_true, cond_false, Bool.not_true, Bool.not_false]
      rw [digits_k b (by omega) (by omega)]
      simp (disch := first | omega | (simp only [List.length_append, List.length_cons, List.length_nil, List.length_take, List.length_drop]; done) | (simp only [List.length_append, List.length_cons, List.length_nil, List.length_take, List.length_drop]; omega) | fail) only [bif_t, bif_f, bif_n, bif_a, callB_ok, callI_ok, callS_ok, callL_ok, callF_ok, callT_ok, tupB_ok, tupI_ok, tupS_ok, tupL_ok, tupF_ok, atNil_ok, wrap1, wrapM, wrapP, Int.toNat_natCast, svs_len, ivs_len, bvs_len, str_size, svs_mid, ivs_mid, str_dec, str_ext, str_byte, mid_byte, mid_cut, List.length_nil, List.length_singleton, svs_snoc, ivs_snoc, svs_take, svs_drop, str_app, List.take_length, List.drop_zero, List.nil_append, cond_true, cond_false, Option.bind_some, Bool.not_true, Bool.not_false, Bool.true_and, Bool.and_true]
      cases hd : digs b with
      | false => rw [if_pos ⟨hp, fun h => by simp at h⟩]; rfl
      | true =>
        simp only [cond_true, cond_false, Bool.not_true, Bool.not_false]
        by_cases h9 : b.length ≤ 9
        · obtain ⟨q1, q2⟩ := nano_digs hd h9
          obtain ⟨q3, q4⟩ := parseI_eq q1 (by omega)
          rw [if_neg (fun h => h.2 ⟨trivial, h9⟩), bif_f (by omega), i64w (x := 9 - ((b.length : Nat) : Int)) (by omega), show (9 : Int) - ((b.length : Nat) : Int) = ((9 - b.length : Nat) : Int) from by omega, HasNum.rep k (n + 2) _ _ (by omega) (by rw [List.length_singleton]; omega), repeat48]
          simp (disch := first | omega | (simp only [List.length_append, List.length_cons, List.length_nil, List.length_take, List.length_drop]; done) | (simp only [List.length_append, List.length_cons, List.length_nil, List.length_take, List.length_drop]; omega) | fail) only [bif_t, bif_f, bif_n, bif_a, callB_ok, callI_ok, callS_ok, callL_ok, callF_ok, callT_ok, tupB_ok, tupI_ok, tupS_ok, tupL_ok, tupF_ok, atNil_ok, wrap1, wrapM, wrapP, Int.toNat_natCast, svs_len, ivs_len, bvs_len, str_size, svs_mid, ivs_mid, str_dec, str_ext, str_byte, mid_byte, mid_cut, List.length_nil, List.length_singleton, svs_snoc, ivs_snoc, svs_take, svs_drop, str_app, List.take_length, List.drop_zero, List.nil_append, cond_true, cond_false, Option.bind_some, Bool.not_true, Bool.not_false, Bool.true_and, Bool.and_true]
          rw [List.length_replicate, bif_t (by omega), HasNum.pint k (n + 2) _ (by omega), q3]
          generalize valA 0 (b ++ List.replicate (9 - b.length) 48) = w at q4
          unfold endI
          simp (disch := first | omega | (simp only [List.length_append, List.length_cons, List.length_nil, List.length_take, List.length_drop]; done) | (simp only [List.length_append, List.length_cons, List.length_nil, List.length_take, List.length_drop]; omega) | fail) only [bif_t, bif_f, bif_n, bif_a, callB_ok, callI_ok, callS_ok, callL_ok, callF_ok, callT_ok, tupB_ok, tupI_ok, tupS_ok, tupL_ok, tupF_ok, atNil_ok, wrap1, wrapM, wrapP, Int.toNat_natCast, svs_len, ivs_len, bvs_len, str_size, svs_mid, ivs_mid, str_dec, str_ext, str_byte, mid_byte, mid_cut, List.length_nil, List.length_singleton, svs_snoc, ivs_snoc, svs_take, svs_drop, str_app, List.take_length, List.drop_zero, List.nil_append, cond_true, cond_false, Option.bind_some, Bool.not_true, Bool.not_false, Bool.true_and, Bool.and_true]
          have e0 : ∀ K : AV → List AV → Option AV, tupV [AV.nili] K = K .nili [] := fun K => rfl
          rw [e0]
          simp (disch := first | omega | (simp only [List.length_append, List.length_cons, List.length_nil, List.length_take, List.length_drop]; done) | (simp only [List.length_append, List.length_cons, List.length_nil, List.length_take, List.length_drop]; omega) | fail) only [bif_t, bif_f, bif_n, bif_a, callB_ok, callI_ok, callS_ok, callL_ok, callF_ok, callT_ok, tupB_ok, tupI_ok, tupS_ok, tupL_ok, tupF_ok, atNil_ok, wrap1, wrapM, wrapP, Int.toNat_natCast, svs_len, ivs_len, bvs_len, str_size, svs_mid, ivs_mid, str_dec, str_ext, str_byte, mid_byte, mid_cut, List.length_nil, List.length_singleton, svs_snoc, ivs_snoc, svs_take, svs_drop, str_app, List.take_length, List.drop_zero, List.nil_append, cond_true, cond_false, Option.bind_some, Bool.not_true, Bool.not_false, Bool.true_and, Bool.and_true]
          cases minus with
          | false =>
            simp only [cond_true, cond_false, Bool.not_true, Bool.not_false, if_true]
            by_cases h3 : 9223372036854775807 < v
            · rw [bif_t h3, if_pos h3]; rfl
            · rw [bif_f h3, if_neg h3, i64w (by omega)]; rfl
          | true =>
            simp only [cond_true, cond_false, Bool.not_true, Bool.not_false, if_neg (show ¬ true = false by decide)]
            by_cases h4 : w = 0
            · subst h4
              rw [bif_t (by omega), if_pos rfl, negW (by omega)]; rfl
            · rw [bif_f (by omega), if_neg h4]
              by_cases h3 : 9223372036854775807 < v
              · rw [bif_t h3, if_pos h3]; rfl
              · rw [bif_f h3, if_neg h3, i64w (x := (v : Int)) (by omega), i64w (x := 0 - (v : Int)) (by omega), i64w (x := 0 - (v : Int) - 1) (by omega), i64w (by omega), show (0 : Int) - (v : Int) - 1 = -(v : Int) - 1 from by omega]; rfl
        · rw [if_pos ⟨hp, fun h => h9 h.2⟩, bif_t (by omega)]
          rfl
    · rw [decide_eq_false hp, if_neg (fun h => hp h.1), if_neg hp]
      simp only [cond_true, cond_false, Bool.not_true, Bool.not_false]
      cases minus with
      | false =>
        simp only [cond_true, cond_false, Bool.not_true, Bool.not_false, if_true]
        by_cases h3 : 9223372036854775807 < v
        · rw [bif_t h3, if_pos h3]; rfl
        · rw [bif_f h3, if_neg h3, i64w (by omega)]; rfl
      | true =>
        simp only [cond_true, cond_false, Bool.not_true, Bool.not_false, if_neg (show ¬ true = false by decide), if_true]
        rw [negW (by omega)]; rfl
end Go.Proofs.YtogfcfgfkggmlaaGreatDoor.Eng.U


/- The Dec laws answer true. -/
set_option linter.unusedVariables false
set_option linter.unusedSectionVars false
set_option linter.unusedSimpArgs false
namespace Go.Proofs.YtogfcfgfkggmlaaGreatDoor.Eng.U
open Go Go.Proofs Go.Proofs.YtogfcfgfkggmlaaGreatDoor.Eng Go.Proofs.YtogfcfgfkggmlaaGreatDoor.P04
variable {E : Ext} [Core E] [HasNum E] {k n : Nat}

end Go.Proofs.YtogfcfgfkggmlaaGreatDoor.Eng.U


/- The program's own data as a row hands them in: what is read is some item, with bounds. -/
set_option linter.unusedVariables false
set_option linter.unusedSimpArgs false
namespace Go.Proofs.YtogfcfgfkggmlaaGreatDoor.Eng.U
open Go Go.Proofs Go.Proofs.YtogfcfgfkggmlaaGreatDoor.Eng Go.Proofs.YtogfcfgfkggmlaaGreatDoor.Eng.Rdv

def InR (n : Int) : Prop := -9223372036854775808 ≤ n ∧ n ≤ 9223372036854775807
structure G_apiPair (p : Pair) : Prop where
  key : p.key.length ≤ 140737488351232
  val : p.val.length ≤ 140737488351232
structure G_apiTime (t : Time) : Prop where
  sec : InR t.sec
  nano : InR t.nano
structure G_apiHead (h : Head) : Prop where
  kind : InR h.kind
  name : h.name.length ≤ 140737488351232
  link : h.link.length ≤ 140737488351232
  mode : InR h.mode
  uid : InR h.uid
  gid : InR h.gid
  size : InR h.size
  sec : InR h.sec
  nano : InR h.nano
  user : h.user.length ≤ 140737488351232
  group : h.group.length ≤ 140737488351232
  major : InR h.major
  minor : InR h.minor
  extra : h.extra.length * 32 ≤ 140737488351232
  pairs : ∀ p ∈ h.extra, G_apiPair p
structure G_apiItem (x : Item) : Prop where
  head : G_apiHead x.head
  data : x.data.length ≤ 140737488351232
end Go.Proofs.YtogfcfgfkggmlaaGreatDoor.Eng.U


/- The library's functions that the Dec laws call, in pieces: numbers to text and back, texts cut. -/
set_option linter.unusedVariables false
set_option linter.unusedSectionVars false
set_option linter.unusedSimpArgs false
namespace Go.Proofs.YtogfcfgfkggmlaaGreatDoor.Eng.U
open Go Go.Proofs Go.Proofs.YtogfcfgfkggmlaaGreatDoor.Eng Go.RowKit

theorem str_self (s : ByteArray) : str s.data.toList = s := by cases s; simp [str]
theorem ok_tup {f : FuncId} {args rs : List AV} (hr : rs.all (fun r => !r.isFresh && r.leaf) = true) (h : ∀ (S : Stab) (w : World) (vals : List Value), Agree S w → GlobOk glob S w → VL S args vals → Calls Tryz.prog f vals.toArray w fun e w' => ∃ vs : List Value, e = .returned (.tuple vs.toArray) ∧ rs.length = vs.length ∧ (∀ (S' : Stab) (j : Nat) (c : AV) (u : Value), rs[j]? = some c → vs[j]? = some u → V S' c u) ∧ Below w.heap.size w w') (hr2 : (args.all fun c => !c.isRes) = true := by rfl) : Ok Tryz.prog glob f args (.tup rs) := by
  refine Ok.of_plain (fun c hc => by simpa using List.all_eq_true.1 hr2 c hc) fun S w vals hag hG hV => ?_
  have key : ∀ (j : Nat) (c : AV), rs[j]? = some c → c.isFresh = false ∧ c.leaf = true := by
    intro j c hc
    have := List.all_eq_true.1 hr c (List.mem_of_getElem? hc)
    simpa using this
  refine (h S w vals hag hG hV).mono ?_
  rintro e w' ⟨vs, rfl, hl, hv, hb⟩
  refine ⟨_, S, rfl, fun _ _ h => h, agree_below hag hb, fun _ _ h => .inl h, hb, vs, rfl, hl, fun j c u hc hu => ?_, fun i j c d u v g hc hd hf => ?_⟩
  · have h1 := hv S j c u hc hu
    obtain ⟨h2, h3⟩ := key j c hc
    cases c <;> first | (cases h2; done) | (cases h3; done) | exact h1
  · rw [(key i c hc).1] at hf; cases hf
theorem V2 {S : Stab} {a b : AV} {u v : Value} (ha : V S a u) (hb : V S b v) : ∀ (j : Nat) (c : AV) (x : Value), [a, b][j]? = some c → [u, v][j]? = some x → V S c x := by
  intro j c x hc hx
  match j with
  | 0 => cases hc; cases hx; exact ha
  | 1 => cases hc; cases hx; exact hb
  | j + 2 => simp at hc
theorem eptr_inv {S : Stab} {cs : List AV} {off : Nat} {p : Value} (h : V S (.eptr cs off) p) : ∃ (a : Addr) (f : Nat → Value), p = .pointer (some (a.add off)) ∧ (∀ (j : Nat) (c : AV), cs[j]? = some c → S (a.add j) = some (f j)) ∧ (∀ (j : Nat) (c : AV), cs[j]? = some c → V S c (f j)) := by
  cases h with
  | eptr cs off a f g2 g3 g4 => exact ⟨a, f, rfl, g3, g4⟩
theorem glob_cell {S : Stab} {w : World} {g : Nat} {cs : List AV} (hag : Agree S w) (hG : GlobOk glob S w) (hg : glob g = some cs) (j : Nat) (c : AV) (hj : cs[j]? = some c) : ∃ u, w.cell? ⟨g, j, none⟩ = some u ∧ V S c u := by
  obtain ⟨h1, arr, t, f, h2, h3⟩ := hG g _ hg
  obtain ⟨a, fv, he, g3, g4⟩ := eptr_inv h1
  have ha : a.add j = ⟨g, j, none⟩ := by
    have he' : (⟨g, 0, none⟩ : Addr) = a.add 0 := by injection he with e; injection e
    obtain ⟨b, o, s⟩ := a
    cases s with
    | none => rw [add_lit', Nat.add_zero] at he'; cases he'; rw [add_lit', Nat.zero_add]
    | some s => simp [Addr.add] at he'
  have := hag _ _ (g3 j c hj)
  rw [ha] at this
  exact ⟨_, this, g4 j c hj⟩
theorem tab_of {S : Stab} {w : World} {g : Nat} {name : String} {k : IntKind} {zs : List Int} (hag : Agree S w) (hG : GlobOk glob S w) (hg : glob g = some (zs.map fun z => .int k z)) (hn : Tryz.prog.globalNamed name = some g) : Lib.TabIs Tryz.prog w name k zs := by
  obtain ⟨h1, arr, t, f, h2, h3⟩ := hG g _ hg
  unfold Lib.TabIs World.var?
  rw [hn]
  simp only [Option.bind_some, h2, Option.some.injEq]
  rw [List.length_map] at h3
  refine Array.ext' ?_
  refine List.ext_getElem? fun j => ?_
  by_cases hj : j < zs.length
  · obtain ⟨u, hu, hv⟩ := glob_cell hag hG hg j (.int k zs[j]) (by rw [List.getElem?_map, List.getElem?_eq_getElem hj]; rfl)
    rw [V_int hv] at hu
    have e : w.cell? ⟨g, j, none⟩ = arr[j]? := by simp [World.cell?, h2]
    rw [e] at hu
    rw [List.toList_toArray, List.getElem?_map, List.getElem?_eq_getElem hj]
    simpa using hu
  · rw [List.toList_toArray, List.getElem?_eq_none (by simp; omega), List.getElem?_eq_none (by simp; omega)]
theorem iface_of {S : Stab} {w : World} {g : Nat} (hag : Agree S w) (hG : GlobOk glob S w) (hg : glob g = some [.ifc]) : ∃ t v, w.cell? ⟨g, 0, none⟩ = some (.iface t v) := by
  obtain ⟨u, hu, hv⟩ := glob_cell hag hG hg 0 .ifc rfl
  cases hv
  exact ⟨_, _, hu⟩
theorem below_grow (w : World) (n : Nat) (os : Array Obj) : Below w.heap.size w (Sort.grow (w.drewN n) os) :=
  ⟨rfl, rfl, rfl, by simp [Sort.grow, World.drewN], fun k hk => by
    show (w.heap ++ os)[k]? = _
    rw [Array.getElem?_append_left hk]⟩

def pFmt : Piece := { f := strconv_FormatInt, ans := fun args => match args with
  | [.int .i64 n, .int .i64 b] => bif decide (b = 10) && decide (-9223372036854775808 ≤ n) && decide (n ≤ 9223372036854775807) then some (.str (str (Lib.itoa n))) else none
  | _ => none }
def pItoa : Piece := { f := strconv_Itoa, ans := fun args => match args with
  | [.int .i64 n] => bif decide (-9223372036854775808 ≤ n) && decide (n ≤ 9223372036854775807) then some (.str (str (Lib.itoa n))) else none
  | _ => none }
def pCutP : Piece := { f := strings_CutPrefix, ans := fun args => match args with
  | [.str s, .str p] => some (.tup [.str (str (Lib.trimPrefix s.data.toList p.data.toList)), .bool (Lib.hasPrefix s.data.toList p.data.toList)])
  | _ => none }
def one (c : ByteArray) : Option UInt8 := match c.data.toList with | [x] => some x | _ => none
theorem one_some {c : ByteArray} {x : UInt8} (h : one c = some x) : c = ⟨#[x]⟩ := by
  unfold one at h
  split at h
  · rename_i y e
    cases h
    obtain ⟨⟨l⟩⟩ := c
    simp at e
    rw [e]
  · cases h
def pTrimR : Piece := { f := strings_TrimRight, ans := fun args => match args with
  | [.str s, .str c] => (one c).bind fun x => bif decide (x.toNat < 128) && decide (s.size ≤ 9223372036854775807) then some (.str (str (Lib.trimRightB s.data.toList x))) else none
  | _ => none }
def pIndex : Piece := { f := stringslite_Index, ans := fun args => match args with
  | [.str s, .str c] => (one c).bind fun x => some (.int .i64 (Lib.indexByte s.data.toList x))
  | _ => none }
def pIndexByte : Piece := { f := strings_IndexByte, ans := fun args => match args with
  | [.str s, .int .u8 c] => some (.int .i64 (Lib.indexByte s.data.toList c.toNat.toUInt8))
  | _ => none }
def pRepeat : Piece := { f := strings_Repeat, ans := fun args => match args with
  | [.str s, .int .i64 c] => bif decide (0 ≤ c) && decide (c ≤ 9223372036854775807) && decide (s.size * c.toNat ≤ 140737488355328) then some (.str (str (Lib.repeatL s.data.toList c.toNat))) else none
  | _ => none }
def pPInt : Piece := { f := strconv_ParseInt, ans := fun args => match args with
  | [.str s, .int .i64 b, .int .i64 z] => bif decide (b = 10) && decide (z = 64) && decide (s.size ≤ 281474976710656) then some (endI (Lib.parseIntB 64 s.data.toList) (Lib.intSat 64 s.data.toList)) else none
  | _ => none }
def pPUint : Piece := { f := strconv_ParseUint, ans := fun args => match args with
  | [.str s, .int .i64 b, .int .i64 z] => bif decide (b = 10) && decide (z = 64) && decide (s.size ≤ 281474976710656) then some (endU (Lib.parseUintB 64 s.data.toList)) else none
  | _ => none }
theorem fmt_right : pFmt.Right := by
  refine ⟨⟨Tryz.f182, Tryz.func182, by kernel_rfl, by kernel_rfl⟩, fun args res h => ?_⟩
  unfold pFmt at h
  dsimp only at h
  split at h
  · rename_i n b
    obtain ⟨hc, h'⟩ := some_of_bif h
    clear h
    simp only [Bool.and_eq_true, decide_eq_true_eq] at hc
    obtain ⟨⟨rfl, h1⟩, h2⟩ := hc
    obtain rfl := Option.some.inj h'
    refine ok_pure ⟨rfl, rfl⟩ fun S w vals hag hG hV => ?_
    obtain ⟨v, u, rfl, hv, hu⟩ := VL_2 hV
    obtain rfl := V_int hv
    obtain rfl := V_int hu
    refine (Tryz.strconv_FormatInt_10 n h1 h2 w (tab_of hag hG (g := 4) (zs := Lib.pow10Tab) rfl (by kernel_rfl))).mono ?_
    rintro e w' ⟨rfl, k, os, rfl⟩
    exact ⟨_, rfl, fun S' => V.str _, below_grow _ _ _⟩
  · cases h
theorem itoa_right : pItoa.Right := by
  refine ⟨⟨Tryz.f114, Tryz.func114, by kernel_rfl, by kernel_rfl⟩, fun args res h => ?_⟩
  unfold pItoa at h
  dsimp only at h
  split at h
  · rename_i n
    obtain ⟨hc, h'⟩ := some_of_bif h
    clear h
    simp only [Bool.and_eq_true, decide_eq_true_eq] at hc
    obtain ⟨h1, h2⟩ := hc
    obtain rfl := Option.some.inj h'
    refine ok_pure ⟨rfl, rfl⟩ fun S w vals hag hG hV => ?_
    obtain ⟨v, rfl, hv⟩ := VL_1 hV
    obtain rfl := V_int hv
    refine (Tryz.strconv_Itoa n h1 h2 w (tab_of hag hG (g := 4) (zs := Lib.pow10Tab) rfl (by kernel_rfl))).mono ?_
    rintro e w' ⟨rfl, k, os, rfl⟩
    exact ⟨_, rfl, fun S' => V.str _, below_grow _ _ _⟩
  · cases h
theorem cutP_right : pCutP.Right := by
  refine ⟨⟨Tryz.f167, Tryz.func167, by kernel_rfl, by kernel_rfl⟩, fun args res h => ?_⟩
  unfold pCutP at h
  dsimp only at h
  split at h
  · rename_i s p
    obtain rfl := Option.some.inj h
    refine ok_tup rfl fun S w vals hag hG hV => ?_
    obtain ⟨v, u, rfl, hv, hu⟩ := VL_2 hV
    obtain rfl := V_str hv
    obtain rfl := V_str hu
    refine (Tryz.strings_CutPrefix s p w).mono ?_
    rintro e w' ⟨rfl, rfl⟩
    exact ⟨[_, _], rfl, rfl, fun S' => V2 (V.str _) (V.bool _), Below.refl _ _⟩
  · cases h
theorem trimR_right : pTrimR.Right := by
  refine ⟨⟨Tryz.f183, Tryz.func183, by kernel_rfl, by kernel_rfl⟩, fun args res h => ?_⟩
  unfold pTrimR at h
  dsimp only at h
  split at h
  · rename_i s c
    obtain ⟨x, hx, h⟩ := Option.bind_eq_some_iff.1 h
    obtain rfl := one_some hx
    obtain ⟨hc, h'⟩ := some_of_bif h
    clear h
    simp only [Bool.and_eq_true, decide_eq_true_eq] at hc
    obtain rfl := Option.some.inj h'
    refine ok_pure ⟨rfl, rfl⟩ fun S w vals hag hG hV => ?_
    obtain ⟨v, u, rfl, hv, hu⟩ := VL_2 hV
    obtain rfl := V_str hv
    obtain rfl := V_str hu
    refine (Tryz.strings_TrimRight_one s x hc.1 w hc.2).mono ?_
    rintro e w' ⟨rfl, rfl⟩
    exact ⟨_, rfl, fun S' => V.str _, Below.refl _ _⟩
  · cases h
theorem index_right : pIndex.Right := by
  refine ⟨⟨Tryz.f273, Tryz.func273, by kernel_rfl, by kernel_rfl⟩, fun args res h => ?_⟩
  unfold pIndex at h
  dsimp only at h
  split at h
  · rename_i s c
    obtain ⟨x, hx, h⟩ := Option.bind_eq_some_iff.1 h
    obtain rfl := one_some hx
    obtain rfl := Option.some.inj h
    refine ok_pure ⟨rfl, rfl⟩ fun S w vals hag hG hV => ?_
    obtain ⟨v, u, rfl, hv, hu⟩ := VL_2 hV
    obtain rfl := V_str hv
    obtain rfl := V_str hu
    refine (Tryz.stringslite_Index_one s x w).mono ?_
    rintro e w' ⟨rfl, rfl⟩
    exact ⟨_, rfl, fun S' => V.int _ _, Below.refl _ _⟩
  · cases h
theorem indexByte_right : pIndexByte.Right := by
  refine ⟨⟨Tryz.f258, Tryz.func258, by kernel_rfl, by kernel_rfl⟩, fun args res h => ?_⟩
  unfold pIndexByte at h
  dsimp only at h
  split at h
  · rename_i s c
    obtain rfl := Option.some.inj h
    refine ok_pure ⟨rfl, rfl⟩ fun S w vals hag hG hV => ?_
    obtain ⟨v, u, rfl, hv, hu⟩ := VL_2 hV
    obtain rfl := V_str hv
    obtain rfl := V_int hu
    refine (Tryz.strings_IndexByte s c w).mono ?_
    rintro e w' ⟨rfl, rfl⟩
    exact ⟨_, rfl, fun S' => V.int _ _, Below.refl _ _⟩
  · cases h
theorem repeat_right : pRepeat.Right := by
  refine ⟨⟨Tryz.f172, Tryz.func172, by kernel_rfl, by kernel_rfl⟩, fun args res h => ?_⟩
  unfold pRepeat at h
  dsimp only at h
  split at h
  · rename_i s c
    obtain ⟨hc, h'⟩ := some_of_bif h
    clear h
    simp only [Bool.and_eq_true, decide_eq_true_eq] at hc
    obtain ⟨⟨h1, h2⟩, h3⟩ := hc
    obtain rfl := Option.some.inj h'
    refine ok_pure ⟨rfl, rfl⟩ fun S w vals hag hG hV => ?_
    obtain ⟨v, u, rfl, hv, hu⟩ := VL_2 hV
    obtain rfl := V_str hv
    obtain rfl := V_int hu
    obtain ⟨n, rfl⟩ := Int.eq_ofNat_of_zero_le h1
    rw [Int.toNat_natCast] at h3 ⊢
    refine (Tryz.strings_Repeat s n w (by omega) h3).mono ?_
    rintro e w' ⟨rfl, hb⟩
    exact ⟨_, rfl, fun S' => V.str _, hb⟩
  · cases h
theorem pInt_right : pPInt.Right := by
  refine ⟨⟨Tryz.f171, Tryz.func171, by kernel_rfl, by kernel_rfl⟩, fun args res h => ?_⟩
  unfold pPInt at h
  dsimp only at h
  split at h
  · rename_i s b z
    obtain ⟨hc, h'⟩ := some_of_bif h
    clear h
    simp only [Bool.and_eq_true, decide_eq_true_eq] at hc
    obtain ⟨⟨rfl, rfl⟩, h3⟩ := hc
    obtain rfl := Option.some.inj h'
    cases he : Lib.parseIntB 64 s.data.toList with
    | ok v =>
      refine ok_tup rfl fun S w vals hag hG hV => ?_
      obtain ⟨v1, v2, v3, rfl, g1, g2, g3⟩ := VL_3 hV
      obtain rfl := V_str g1
      obtain rfl := V_int g2
      obtain rfl := V_int g3
      refine (Tryz.strconv_ParseInt_10_at64_ok s (by omega) v he w).mono ?_
      rintro e w' ⟨rfl, hw⟩
      refine ⟨[_, _], rfl, rfl, fun S' => V2 (V.int _ _) V.nili, ?_⟩
      rcases hw with rfl | ⟨t, rfl⟩
      · exact Below.refl _ _
      · exact Lib.bytesWorld_below _ _ _
    | range =>
      refine ok_tup rfl fun S w vals hag hG hV => ?_
      obtain ⟨v1, v2, v3, rfl, g1, g2, g3⟩ := VL_3 hV
      obtain rfl := V_str g1
      obtain rfl := V_int g2
      obtain rfl := V_int g3
      obtain ⟨t, v, hi⟩ := iface_of (g := 3) hag hG rfl
      refine (Tryz.strconv_ParseInt_10_at64_range s h3 he _ w hi (.inr ⟨_, _, rfl⟩)).mono ?_
      rintro e w' ⟨N, rfl, _, _, hb⟩
      exact ⟨[_, _], rfl, rfl, fun S' => V2 (V.int _ _) (V.ifc _ _), hb⟩
    | _ =>
      refine ok_tup rfl fun S w vals hag hG hV => ?_
      obtain ⟨v1, v2, v3, rfl, g1, g2, g3⟩ := VL_3 hV
      obtain rfl := V_str g1
      obtain rfl := V_int g2
      obtain rfl := V_int g3
      obtain ⟨t, v, hi⟩ := iface_of (g := 2) hag hG rfl
      refine (Tryz.strconv_ParseInt_10_at64_syntax s h3 he _ w hi (.inr ⟨_, _, rfl⟩)).mono ?_
      rintro e w' ⟨N, rfl, _, _, hb⟩
      exact ⟨[_, _], rfl, rfl, fun S' => V2 (V.int _ _) (V.ifc _ _), hb⟩
  · cases h
theorem pUint_right : pPUint.Right := by
  refine ⟨⟨Tryz.f146, Tryz.func146, by kernel_rfl, by kernel_rfl⟩, fun args res h => ?_⟩
  unfold pPUint at h
  dsimp only at h
  split at h
  · rename_i s b z
    obtain ⟨hc, h'⟩ := some_of_bif h
    clear h
    simp only [Bool.and_eq_true, decide_eq_true_eq] at hc
    obtain ⟨⟨rfl, rfl⟩, h3⟩ := hc
    obtain rfl := Option.some.inj h'
    cases he : Lib.parseUintB 64 s.data.toList with
    | ok v =>
      refine ok_tup rfl fun S w vals hag hG hV => ?_
      obtain ⟨v1, v2, v3, rfl, g1, g2, g3⟩ := VL_3 hV
      obtain rfl := V_str g1
      obtain rfl := V_int g2
      obtain rfl := V_int g3
      refine (Tryz.strconv_ParseUint_10_at64_ok s (by omega) v he w).mono ?_
      rintro e w' ⟨rfl, hw⟩
      refine ⟨[_, _], rfl, rfl, fun S' => V2 (V.int _ _) V.nili, ?_⟩
      rcases hw with rfl | rfl
      · exact Below.refl _ _
      · exact Lib.bytesWorld_below _ _ _
    | range =>
      refine ok_tup rfl fun S w vals hag hG hV => ?_
      obtain ⟨v1, v2, v3, rfl, g1, g2, g3⟩ := VL_3 hV
      obtain rfl := V_str g1
      obtain rfl := V_int g2
      obtain rfl := V_int g3
      obtain ⟨t, v, hi⟩ := iface_of (g := 3) hag hG rfl
      refine (Tryz.strconv_ParseUint_10_at64_range s h3 he _ w hi (.inr ⟨_, _, rfl⟩)).mono ?_
      rintro e w' ⟨N, rfl, _, _, hb⟩
      exact ⟨[_, _], rfl, rfl, fun S' => V2 (V.int _ _) (V.ifc _ _), hb⟩
    | _ =>
      refine ok_tup rfl fun S w vals hag hG hV => ?_
      obtain ⟨v1, v2, v3, rfl, g1, g2, g3⟩ := VL_3 hV
      obtain rfl := V_str g1
      obtain rfl := V_int g2
      obtain rfl := V_int g3
      obtain ⟨t, v, hi⟩ := iface_of (g := 2) hag hG rfl
      refine (Tryz.strconv_ParseUint_10_at64_syntax s h3 he _ w hi (.inr ⟨_, _, rfl⟩)).mono ?_
      rintro e w' ⟨N, rfl, _, _, hb⟩
      exact ⟨[_, _], rfl, rfl, fun S' => V2 (V.int _ _) (V.ifc _ _), hb⟩
  · cases h
def ps04 : List Piece := [pFmt, pItoa, pCutP, pTrimR, pIndex, pIndexByte, pRepeat, pPInt, pPUint]
def ext04 : Ext := extOf ps04
instance core04 : Core ext04 := core_of (by kernel_rfl)
theorem num_of {ps : List Piece} (h1 : ps.find? (fun q => q.f == pFmt.f) = some pFmt) (h2 : ps.find? (fun q => q.f == pItoa.f) = some pItoa) (h3 : ps.find? (fun q => q.f == pCutP.f) = some pCutP) (h4 : ps.find? (fun q => q.f == pTrimR.f) = some pTrimR) (h5 : ps.find? (fun q => q.f == pIndex.f) = some pIndex) (h6 : ps.find? (fun q => q.f == pIndexByte.f) = some pIndexByte) (h7 : ps.find? (fun q => q.f == pRepeat.f) = some pRepeat) (h8 : ps.find? (fun q => q.f == pPInt.f) = some pPInt) (h9 : ps.find? (fun q => q.f == pPUint.f) = some pPUint) : HasNum (extOf ps) where
  fmt k n v g0 g1 := (kp_piece (k := k) (n := n) h1).trans (by
    show (bif decide ((10 : Int) = 10) && decide (-9223372036854775808 ≤ v) && decide (v ≤ 9223372036854775807) then _ else none) = _
    rw [decide_eq_true g0, decide_eq_true g1]
    rfl)
  itoa k n v g0 g1 := (kp_piece (k := k) (n := n) h2).trans (by
    show (bif decide (-9223372036854775808 ≤ v) && decide (v ≤ 9223372036854775807) then _ else none) = _
    rw [decide_eq_true g0, decide_eq_true g1]
    rfl)
  cutP k n s p := (kp_piece (k := k) (n := n) h3).trans rfl
  trimR k n s x g0 g1 := (kp_piece (k := k) (n := n) h4).trans (by
    show (bif decide (x.toNat < 128) && decide ((str s).size ≤ 9223372036854775807) then _ else none) = _
    rw [str_size, decide_eq_true g0, decide_eq_true g1]
    rfl)
  index k n s x := (kp_piece (k := k) (n := n) h5).trans rfl
  indexB k n s c := (kp_piece (k := k) (n := n) h6).trans rfl
  rep k n s c g0 g1 := (kp_piece (k := k) (n := n) h7).trans (by
    show (bif decide ((0 : Int) ≤ (c : Int)) && decide ((c : Int) ≤ 9223372036854775807) && decide ((str s).size * (Int.toNat (c : Int)) ≤ 140737488355328) then some (AV.str (str (Lib.repeatL s (Int.toNat (c : Int))))) else none) = _
    rw [str_size, Int.toNat_natCast, decide_eq_true (show (0 : Int) ≤ (c : Int) by omega), decide_eq_true (show (c : Int) ≤ 9223372036854775807 by omega), decide_eq_true g1]
    rfl)
  pint k n s g0 := (kp_piece (k := k) (n := n) h8).trans (by
    show (bif decide ((10 : Int) = 10) && decide ((64 : Int) = 64) && decide ((str s).size ≤ 281474976710656) then _ else none) = _
    rw [str_size, decide_eq_true g0]
    rfl)
  puint k n s g0 := (kp_piece (k := k) (n := n) h9).trans (by
    show (bif decide ((10 : Int) = 10) && decide ((64 : Int) = 64) && decide ((str s).size ≤ 281474976710656) then _ else none) = _
    rw [str_size, decide_eq_true g0]
    rfl)
instance num04 : HasNum ext04 := num_of rfl rfl rfl rfl rfl rfl rfl rfl rfl
end Go.Proofs.YtogfcfgfkggmlaaGreatDoor.Eng.U


/- text.Quote as a given function. -/
set_option linter.unusedVariables false
set_option linter.unusedSectionVars false
set_option linter.unusedSimpArgs false
namespace Go.Proofs.YtogfcfgfkggmlaaGreatDoor.Eng.U
open Go Go.RowKit Go.Proofs Go.Proofs.YtogfcfgfkggmlaaGreatDoor.Eng Go.Proofs.YtogfcfgfkggmlaaGreatDoor.S02

noncomputable def pQuote : Piece := { f := text_Quote, ans := fun args => match args with
  | [.str s] => bif decide (s.size ≤ 1000000000) then some (.str (str (quoteL s.data.toList))) else none
  | _ => none }
theorem quote_right : pQuote.Right := by
  refine ⟨⟨Tryz.f144, Tryz.func144, by kernel_rfl, by kernel_rfl⟩, fun args res h => ?_⟩
  unfold pQuote at h
  dsimp only at h
  split at h
  · rename_i s
    obtain ⟨hs, h2⟩ := some_of_bif h
    obtain rfl := Option.some.inj h2
    have hs : s.size ≤ 1000000000 := by simpa using hs
    refine ok_pure ⟨rfl, rfl⟩ fun S w vals hag hG hV => ?_
    obtain ⟨v, rfl, h1⟩ := VL_1 hV
    obtain rfl := V_str h1
    have e : str s.data.toList = s := str_self s
    have hw := Quote_walk s.data.toList w (by rw [← str_size, e]; exact hs)
    rw [e] at hw
    refine hw.mono ?_
    rintro e w' ⟨rfl, hb⟩
    exact ⟨_, rfl, fun S' => V.str _, hb⟩
  · cases h
class HasQuote (E : Ext) : Prop where
  quote : ∀ (k n : Nat) (s : List UInt8), s.length ≤ 1000000000 → kp E k n text_Quote [.str (str s)] = some (.str (str (quoteL s)))
end Go.Proofs.YtogfcfgfkggmlaaGreatDoor.Eng.U


/- Texts quoted: by the definition, in plain words. -/
set_option linter.unusedVariables false
set_option linter.unusedSectionVars false
set_option linter.unusedSimpArgs false
namespace Go.Proofs.YtogfcfgfkggmlaaGreatDoor.Eng.U
open Go Go.Proofs Go.Proofs.YtogfcfgfkggmlaaGreatDoor.Eng
variable {E : Ext} [Core E] {k n : Nat}

theorem u8w {x : Int} (h : 0 ≤ x ∧ x ≤ 255) : IntKind.wrap .u8 x = x := IntWalk.u8_in x h
theorem open_k (c : UInt8) : kp E k (n + 1) text_open [.int .u8 ((c.toNat : Nat) : Int)] = some (.bool (openB c)) := by
  rw [text_open_eq]
  have e : decide (((c.toNat : Nat) : Int) = (92 : Int)) = decide (c = 92) := byte_is c 92 (by omega)
  unfold openB
  by_cases h1 : 32 < c.toNat
  · by_cases h2 : c.toNat < 127
    · rw [bif_t (by omega), bif_t (by omega), e, decide_eq_true h1, decide_eq_true h2, Bool.true_and, Bool.true_and, decide_not]
    · rw [bif_t (by omega), bif_f (by omega), decide_eq_true h1, decide_eq_false h2]; rfl
  · rw [bif_f (by omega), decide_eq_false h1]; rfl
theorem refOpen_k (c : UInt8) : kp E k (n + 1) ref02_open [.int .u8 ((c.toNat : Nat) : Int)] = some (.bool (openB c)) := by
  rw [ref02_open_eq]
  have e : decide (((c.toNat : Nat) : Int) = (92 : Int)) = decide (c = 92) := byte_is c 92 (by omega)
  unfold openB
  by_cases h1 : 32 < c.toNat
  · by_cases h2 : c.toNat < 127
    · rw [bif_t (by omega), bif_t (by omega), e, decide_eq_true h1, decide_eq_true h2, Bool.true_and, Bool.true_and, decide_not]
    · rw [bif_t (by omega), bif_f (by omega), decide_eq_true h1, decide_eq_false h2]; rfl
  · rw [bif_f (by omega), decide_eq_false h1]; rfl
theorem digit_k (c : UInt8) : kp E k (n + 1) text_digit [.int .u8 ((c.toNat : Nat) : Int)] = some (.bool (octB c)) := by
  rw [text_digit_eq]
  unfold octB
  by_cases h1 : 48 ≤ c.toNat
  · rw [bif_t (by omega), decide_eq_true h1, Bool.true_and]
    congr 2
    rw [decide_eq_decide]; omega
  · rw [bif_f (by omega), decide_eq_false h1]; rfl
def code4 (c : UInt8) : List UInt8 := [92, UInt8.ofNat (48 + c.toNat / 64), UInt8.ofNat (48 + c.toNat / 8 % 8), UInt8.ofNat (48 + c.toNat % 8)]
theorem code_k (c : UInt8) : kp E k (n + 1) ref02_code [.int .u8 ((c.toNat : Nat) : Int)] = some (.str (str (code4 c))) := by
  have hc : c.toNat < 256 := c.toNat_lt
  rw [ref02_code_eq]
  have d1 : Int.tdiv ((c.toNat : Nat) : Int) 64 = ((c.toNat / 64 : Nat) : Int) := by rw [Int.tdiv_eq_ediv_of_nonneg (by omega)]; omega
  have d2 : Int.tdiv ((c.toNat : Nat) : Int) 8 = ((c.toNat / 8 : Nat) : Int) := by rw [Int.tdiv_eq_ediv_of_nonneg (by omega)]; omega
  have d3 : Int.tmod ((c.toNat / 8 : Nat) : Int) 8 = ((c.toNat / 8 % 8 : Nat) : Int) := by rw [Int.tmod_eq_emod_of_nonneg (by omega)]; omega
  have d4 : Int.tmod ((c.toNat : Nat) : Int) 8 = ((c.toNat % 8 : Nat) : Int) := by rw [Int.tmod_eq_emod_of_nonneg (by omega)]; omega
  rw [d1, d2, d4, u8w (x := ((c.toNat / 64 : Nat) : Int)) (by omega), u8w (x := ((c.toNat / 8 : Nat) : Int)) (by omega), d3, u8w (by omega), u8w (by omega), u8w (by omega)]
  have e : ([(.int .u8 (92 : Int)), (.int .u8 ((48 : Int) + ((c.toNat / 64 : Nat) : Int))), (.int .u8 ((48 : Int) + ((c.toNat / 8 % 8 : Nat) : Int))), (.int .u8 ((48 : Int) + ((c.toNat % 8 : Nat) : Int)))] : List AV) = (code4 c).map byteAV := by
    have b1 : (((UInt8.ofNat (48 + c.toNat / 64)).toNat : Nat) : Int) = (48 : Int) + ((c.toNat / 64 : Nat) : Int) := by rw [UInt8.toNat_ofNat']; omega
    have b2 : (((UInt8.ofNat (48 + c.toNat / 8 % 8)).toNat : Nat) : Int) = (48 : Int) + ((c.toNat / 8 % 8 : Nat) : Int) := by rw [UInt8.toNat_ofNat']; omega
    have b3 : (((UInt8.ofNat (48 + c.toNat % 8)).toNat : Nat) : Int) = (48 : Int) + ((c.toNat % 8 : Nat) : Int) := by rw [UInt8.toNat_ofNat']; omega
    rw [← b1, ← b2, ← b3]; rfl
  rw [e, toBytes_map]
  rfl
theorem refQuote_loop : ∀ (suf pre : List UInt8) (k0 : Nat), suf.length < k0 → (pre ++ suf).length ≤ 1000000000 →
    ref02_Quote_L0 (kp E k (n + 1)) k k0 (str (pre ++ suf)) (str (quoteL pre)) ((pre.length : Nat) : Int) = some (.str (str (quoteL (pre ++ suf))))
  | [], pre, k0 + 1, h, hb => by
    rw [ref02_Quote_L0_s, str_size, nlt, decide_eq_false (by simp), cond_false, List.append_nil]
  | c :: suf, pre, k0 + 1, h, hb => by
    have hg : (pre ++ c :: suf).getD pre.length 0 = c := mid_byte _ _ _
    have hcut : ((pre ++ c :: suf).take (pre.length + 1)).drop pre.length = [c] := mid_cut _ _ _
    have hq : quoteL (pre ++ [c]) = quoteL pre ++ qByte c := by unfold quoteL; rw [List.flatMap_append]; congr 1; rw [List.flatMap_singleton]
    have hl := quote_len (pre ++ [c])
    rw [hq, List.length_append, List.length_append, List.length_singleton] at hl
    have ih := refQuote_loop suf (pre ++ [c]) k0 (by simpa using h) (by simpa using hb)
    rw [List.append_assoc, List.singleton_append, List.length_append, List.length_singleton, hq] at ih
    rw [mid_len] at hb
    rw [ref02_Quote_L0_s, str_size, mid_len, dec0, nlt, decide_eq_true (by omega), Bool.true_and, cond_true, cond_true, Int.toNat_natCast, str_byte, hg, refOpen_k, callB_ok]
    cases ho : openB c with
    | true =>
      rw [qByte_open ho, List.length_singleton] at hl
      rw [qByte_open ho] at ih
      rw [cond_true, wrap1 (by omega), inbE (by omega), cond_true, Int.toNat_natCast, str_ext, hcut, str_app, Bool.true_and, nle, decide_eq_true (by omega), cond_true, str_size, str_size, List.length_singleton, bif_t (by omega)]
      exact ih
    | false =>
      rw [qByte_shut ho] at hl ih
      rw [cond_false, cond_true, code_k, callS_ok, str_size, str_size, bif_t (by simp only [code4, List.length_cons, List.length_nil] at hl ⊢; omega), wrap1 (by omega), str_app]
      exact ih
theorem refQuote_k (l : List UInt8) (hl : l.length ≤ 1000000000) (hk : l.length < k) : kp E k (n + 2) ref02_Quote [.str (str l)] = some (.str (str (quoteL l))) := by
  rw [ref02_Quote_eq]
  exact refQuote_loop l [] k hk hl
theorem word_k [HasQuote E] (l : List UInt8) (hl : l.length ≤ 1000000000) : kp E k (n + 1) tale_word [.str (str l)] = some (.str (str (61 :: quoteL l))) := by
  have := quote_len l
  rw [tale_word_eq, HasQuote.quote _ _ _ hl, callS_ok, str_size, bif_t (by omega), str_app]
  rfl
end Go.Proofs.YtogfcfgfkggmlaaGreatDoor.Eng.U


/- Texts unquoted: by the program and by the definition, in plain words. -/
set_option linter.unusedVariables false
set_option linter.unusedSectionVars false
set_option linter.unusedSimpArgs false
namespace Go.Proofs.YtogfcfgfkggmlaaGreatDoor.Eng.U
open Go Go.Proofs Go.Proofs.YtogfcfgfkggmlaaGreatDoor.Eng
variable {E : Ext} [Core E] {k n : Nat}

theorem val_all : ∀ (i : _root_.Fin 4) (j l : _root_.Fin 8), (IntKind.wrap .u8 ((BitVec.ofInt (IntKind.bits .u8) (IntKind.wrap .u8 ((BitVec.ofInt (IntKind.bits .u8) (IntKind.wrap .u8 ((IntKind.wrap .u8 ((BitVec.ofInt (IntKind.bits .u8) (((48 + i.val : Nat) : Nat) : Int) &&& BitVec.ofInt (IntKind.bits .u8) (7 : Int)).toNat : Int)) * 2 ^ (min (Int.toNat (6 : Int)) (IntKind.bits .u8)))) ||| BitVec.ofInt (IntKind.bits .u8) (IntKind.wrap .u8 ((IntKind.wrap .u8 ((BitVec.ofInt (IntKind.bits .u8) ((((48 + j.val : Nat) : Nat) : Int)) &&& BitVec.ofInt (IntKind.bits .u8) (7 : Int)).toNat : Int)) * 2 ^ (min (Int.toNat (3 : Int)) (IntKind.bits .u8))))).toNat : Int)) ||| BitVec.ofInt (IntKind.bits .u8) (IntKind.wrap .u8 ((BitVec.ofInt (IntKind.bits .u8) ((((48 + l.val : Nat) : Nat) : Int)) &&& BitVec.ofInt (IntKind.bits .u8) (7 : Int)).toNat : Int))).toNat : Int)) = (((i.val * 64 + j.val * 8 + l.val : Nat) : Nat) : Int) := by decide +kernel
theorem val_eq {a b d : UInt8} (ha : octB a = true) (ha2 : a.toNat ≤ 51) (hb : octB b = true) (hd : octB d = true) : (IntKind.wrap .u8 ((BitVec.ofInt (IntKind.bits .u8) (IntKind.wrap .u8 ((BitVec.ofInt (IntKind.bits .u8) (IntKind.wrap .u8 ((IntKind.wrap .u8 ((BitVec.ofInt (IntKind.bits .u8) ((a.toNat : Nat) : Int) &&& BitVec.ofInt (IntKind.bits .u8) (7 : Int)).toNat : Int)) * 2 ^ (min (Int.toNat (6 : Int)) (IntKind.bits .u8)))) ||| BitVec.ofInt (IntKind.bits .u8) (IntKind.wrap .u8 ((IntKind.wrap .u8 ((BitVec.ofInt (IntKind.bits .u8) (((b.toNat : Nat) : Int)) &&& BitVec.ofInt (IntKind.bits .u8) (7 : Int)).toNat : Int)) * 2 ^ (min (Int.toNat (3 : Int)) (IntKind.bits .u8))))).toNat : Int)) ||| BitVec.ofInt (IntKind.bits .u8) (IntKind.wrap .u8 ((BitVec.ofInt (IntKind.bits .u8) (((d.toNat : Nat) : Int)) &&& BitVec.ofInt (IntKind.bits .u8) (7 : Int)).toNat : Int))).toNat : Int)) = (((UInt8.ofNat (octV a b d)).toNat : Nat) : Int) := by
  simp only [octB, Bool.and_eq_true, decide_eq_true_eq] at ha hb hd
  have h := val_all ⟨a.toNat - 48, by omega⟩ ⟨b.toNat - 48, by omega⟩ ⟨d.toNat - 48, by omega⟩
  dsimp only at h
  rw [show 48 + (a.toNat - 48) = a.toNat by omega, show 48 + (b.toNat - 48) = b.toNat by omega, show 48 + (d.toNat - 48) = d.toNat by omega] at h
  rw [h, UInt8.toNat_ofNat']
  unfold octV
  omega
theorem bytes_snoc (l : List UInt8) (c : UInt8) : l.map byteAV ++ [.int .u8 ((c.toNat : Nat) : Int)] = (l ++ [c]).map byteAV := by simp [byteAV]
def ansU (acc : List UInt8) : Option (List UInt8) → AV
  | some r => .tup [.str (str (acc ++ r)), .int .u8 0]
  | none => .tup [.str (str []), .int .u8 15]
def ansR (acc : List UInt8) : Option (List UInt8) → AV
  | some r => .tup [.str (str (acc ++ r)), .bool true]
  | none => .tup [.str (str []), .bool false]
theorem ansU_map (acc : List UInt8) (c : UInt8) (o : Option (List UInt8)) : ansU acc (o.map (c :: ·)) = ansU (acc ++ [c]) o := by cases o <;> simp [ansU]
theorem ansR_map (acc : List UInt8) (c : UInt8) (o : Option (List UInt8)) : ansR acc (o.map (c :: ·)) = ansR (acc ++ [c]) o := by cases o <;> simp [ansR]
theorem tail_ext (c : UInt8) (r : List UInt8) (m : Nat) : (str (c :: r)).extract (m + 1) ((c :: r).length) = str (r.drop m) := by
  rw [str_ext, List.take_length]; rfl
theorem roomB {m : Nat} (h : m ≤ 1000000000) : (decide (m * 1 ≤ 140737488355328) && decide (m ≤ 9223372036854775807)) = true := by simp; omega
theorem unq_loop : ∀ (f : Nat) (s acc : List UInt8) (k0 : Nat), s.length < k0 → s.length ≤ f → acc.length + s.length < 1000000000 →
    text_Unquote_L0 (kp E k (n + 1)) k k0 (str s) (acc.map byteAV) = some (ansU acc (unqL f s))
  | f, [], acc, k0 + 1, h, hf, hb => by
    rw [text_Unquote_L0_s, str_size, bif_f (by simp), toBytes_map]
    cases f <;> simp [unqL, ansU]
  | f + 1, c :: r, acc, k0 + 1, h, hf, hb => by
    have hz : (str (c :: r)).size = r.length + 1 := rfl
    have b0 : byteAt (str (c :: r)) 0 = ((c.toNat : Nat) : Int) := rfl
    simp only [List.length_cons] at h hf hb
    rw [text_Unquote_L0_s, hz, bif_t (by omega), bif_t (by omega), b0, open_k, callB_ok]
    unfold unqL
    cases ho : openB c with
    | true =>
      rw [cond_true, bif_t (by omega), List.length_map, roomB (by omega), cond_true, bif_t (by omega), if_pos rfl, ansU_map, bytes_snoc]
      rw [show (str (c :: r)).extract 1 (r.length + 1) = str r from tail_ext c r 0]
      exact unq_loop f r (acc ++ [c]) k0 (by omega) (by omega) (by rw [List.length_append, List.length_singleton]; omega)
    | false =>
      have e92 : decide (((c.toNat : Nat) : Int) = (92 : Int)) = decide (c = 92) := byte_is c 92 (by omega)
      rw [cond_false, bif_t (by omega), e92, if_neg (by simp)]
      by_cases hc : c = 92
      · subst hc
        rw [show decide ((92 : UInt8) = 92) = true from rfl, Bool.not_true, cond_false]
        rcases r with _ | ⟨a, _ | ⟨b, _ | ⟨d, r⟩⟩⟩
        · rfl
        · rfl
        · rfl
        simp only [List.length_cons] at h hf hb hz ⊢
        have b1 : byteAt (str (92 :: a :: b :: d :: r)) 1 = ((a.toNat : Nat) : Int) := rfl
        have b2 : byteAt (str (92 :: a :: b :: d :: r)) 2 = ((b.toNat : Nat) : Int) := rfl
        have b3 : byteAt (str (92 :: a :: b :: d :: r)) 3 = ((d.toNat : Nat) : Int) := rfl
        rw [bif_f (by omega), bif_t (by omega), b1, b2, b3]
        show _ = some (ansU acc (match octQ a b d with | none => none | some x => (unqL f r).map (x :: ·)))
        rcases Nat.lt_or_ge 51 a.toNat with h1 | h1
        · rw [bif_t (by omega), show octQ a b d = none from by unfold octQ; rw [decide_eq_false (by omega : ¬ a.toNat ≤ 51)]; rfl]; rfl
        rw [bif_f (by omega), bif_t (by omega), digit_k, callB_ok]
        cases h2 : octB a with
        | false => rw [Bool.not_false, cond_true, show octQ a b d = none from by unfold octQ; rw [h2, Bool.and_false]; rfl]; rfl
        | true =>
        rw [Bool.not_true, cond_false, bif_t (by omega), digit_k, callB_ok]
        cases h3 : octB b with
        | false => rw [Bool.not_false, cond_true, show octQ a b d = none from by unfold octQ; rw [h3, Bool.and_false]; rfl]; rfl
        | true =>
        rw [Bool.not_true, cond_false, bif_t (by omega), digit_k, callB_ok]
        cases h4 : octB d with
        | false => rw [Bool.not_false, cond_true, show octQ a b d = none from by unfold octQ; rw [h4, Bool.and_false]; rfl]; rfl
        | true =>
        rw [Bool.not_true, cond_false, bif_t (by omega), bif_t (by omega), bif_t (by omega), val_eq h2 h1 h3 h4, open_k, callB_ok]
        have hq : octQ a b d = if (!openB (UInt8.ofNat (octV a b d))) = true then some (UInt8.ofNat (octV a b d)) else none := by
          unfold octQ; rw [decide_eq_true h1, h2, h3, h4]; rfl
        rw [hq]
        cases h5 : openB (UInt8.ofNat (octV a b d)) with
        | true => rfl
        | false =>
          rw [cond_false, List.length_map, roomB (by omega), cond_true, bif_t (by omega), Bool.not_false, if_pos rfl]
          rw [show (str (92 :: a :: b :: d :: r)).extract 4 (r.length + 1 + 1 + 1 + 1) = str r from tail_ext 92 (a :: b :: d :: r) 3, bytes_snoc]
          show _ = some (ansU acc ((unqL f r).map (_ :: ·)))
          rw [ansU_map]
          exact unq_loop f r _ k0 (by omega) (by omega) (by rw [List.length_append, List.length_singleton]; omega)
      · rw [decide_eq_false hc, Bool.not_false, cond_true]
        have : unq1 (c :: r) = none := by
          match r with
          | [] => rfl
          | [a] => rfl
          | [a, b] => rfl
          | a :: b :: d :: r => exact if_neg hc
        rw [this]; rfl
theorem unq_k (l : List UInt8) (hl : l.length < 1000000000) (hk : l.length < k) : kp E k (n + 2) text_Unquote [.str (str l)] = some (ansU [] (unqL l.length l)) := by
  rw [text_Unquote_eq]
  exact unq_loop l.length l [] k hk (Nat.le_refl _) (by simpa using hl)
end Go.Proofs.YtogfcfgfkggmlaaGreatDoor.Eng.U


/- Texts unquoted by the definition (it tries all codes), in plain words. -/
set_option linter.unusedVariables false
set_option linter.unusedSectionVars false
set_option linter.unusedSimpArgs false
namespace Go.Proofs.YtogfcfgfkggmlaaGreatDoor.Eng.U
open Go Go.Proofs Go.Proofs.YtogfcfgfkggmlaaGreatDoor.Eng
variable {E : Ext} [Core E] {k n : Nat}

def hitB (w : List UInt8) (x : UInt8) : Bool := !openB x && decide (w.take 4 = code4 x)
theorem unq1_hit {w : List UInt8} {x : UInt8} (h : hitB w x = true) : unq1 w = some x := by
  unfold hitB at h
  rw [Bool.and_eq_true, Bool.not_eq_true', decide_eq_true_eq] at h
  obtain ⟨ho, he⟩ := h
  unfold code4 at he
  rcases w with _ | ⟨c, _ | ⟨a, _ | ⟨b, _ | ⟨d, r⟩⟩⟩⟩
  · cases he
  · simp at he
  · simp at he
  · simp at he
  · simp only [List.take_succ_cons, List.take_zero, List.cons.injEq, and_true] at he
    obtain ⟨rfl, rfl, rfl, rfl⟩ := he
    show (if (92 : UInt8) = 92 then octQ _ _ _ else none) = _
    rw [if_pos rfl]
    exact octQ_code ho
theorem hit_unq1 {w : List UInt8} {x : UInt8} (h : unq1 w = some x) : hitB w x = true ∧ 4 ≤ w.length := by
  rcases w with _ | ⟨c, _ | ⟨a, _ | ⟨b, _ | ⟨d, r⟩⟩⟩⟩
  · cases h
  · cases h
  · cases h
  · cases h
  · have h' : (if c = 92 then octQ a b d else none) = some x := h
    by_cases hc : c = 92
    · subst hc
      rw [if_pos rfl] at h'
      obtain ⟨h1, h2⟩ := octQ_some h'
      rw [qByte_shut h1] at h2
      refine ⟨?_, by simp⟩
      unfold hitB
      rw [h1, Bool.not_false, Bool.true_and, decide_eq_true_eq]
      exact h2.symm
    · rw [if_neg hc] at h'; cases h'
noncomputable def after (pre w acc : List UInt8) (k k0 n : Nat) (E : Ext) : Option AV := match unq1 w with
  | none => some (.tup [.str (str []), .bool false])
  | some x => ref02_Unquote_L0 (kp E k (n + 1)) k k0 (str (pre ++ w)) (((pre.length + 4 : Nat) : Nat) : Int) ((acc ++ [x]).map byteAV)
theorem found_loop (pre w acc : List UInt8) (k0 k1 : Nat) (x : UInt8) (j : Nat) (hj : j ≤ 256) (hp : pre.length ≤ 1000000000) :
    ref02_Unquote_L1 (kp E k (n + 1)) k k0 (k1 + 1) (str (pre ++ w)) ((pre.length : Nat) : Int) true ((j : Nat) : Int) ((acc ++ [x]).map byteAV) = ref02_Unquote_L0 (kp E k (n + 1)) k k0 (str (pre ++ w)) (((pre.length + 4 : Nat) : Nat) : Int) ((acc ++ [x]).map byteAV) := by
  rw [ref02_Unquote_L1_s, i64w (x := ((pre.length : Nat) : Int) + 4) (by omega), show ((pre.length : Nat) : Int) + 4 = (((pre.length + 4 : Nat) : Nat) : Int) by omega]
  simp only [Bool.not_true, cond_false]
  cases decide (((j : Nat) : Int) < 256) <;> cases decide ((((pre.length + 4 : Nat) : Nat) : Int) ≤ ((ByteArray.size (str (pre ++ w)) : Nat) : Int)) <;> rfl
theorem code_loop (pre w acc : List UInt8) (k0 : Nat) (hp : (pre ++ w).length ≤ 1000000000) (ha : acc.length < 1000000000) : ∀ (m j k1 : Nat), m = 256 - j → j ≤ 256 → m + 1 < k1 → (∀ x : UInt8, x.toNat < j → hitB w x = false) →
    ref02_Unquote_L1 (kp E k (n + 1)) k k0 k1 (str (pre ++ w)) ((pre.length : Nat) : Int) false ((j : Nat) : Int) (acc.map byteAV) = after pre w acc k k0 n E
  | m, j, 0, _, _, h, _ => by omega
  | m, j, k1 + 1, hm, hj, hk, hn => by
    have hpl := hp
    rw [List.length_append] at hpl
    have e4 : IntKind.wrap .i64 (((pre.length : Nat) : Int) + 4) = (((pre.length + 4 : Nat) : Nat) : Int) := by rw [i64w (by omega)]; omega
    have fail : unq1 w = none → after pre w acc k k0 n E = some (.tup [.str (str []), .bool false]) := by intro h; unfold after; rw [h]
    have nohit : (∀ x : UInt8, hitB w x = false) → unq1 w = none := by
      intro h
      cases hu : unq1 w with
      | none => rfl
      | some x => have := (hit_unq1 hu).1; rw [h x] at this; cases this
    rw [ref02_Unquote_L1_s, e4, str_size]
    by_cases h1 : j < 256
    case neg =>
      rw [bif_f (by omega), Bool.not_false, cond_true, fail (nohit fun x => hn x (by have := x.toNat_lt; omega))]
    rw [bif_t (by omega)]
    by_cases h2 : pre.length + 4 ≤ (pre ++ w).length
    case neg =>
      rw [bif_f (by omega), Bool.not_false, cond_true, fail]
      cases hu : unq1 w with
      | none => rfl
      | some x => have := (hit_unq1 hu).2; rw [List.length_append] at h2; omega
    have hx : (((UInt8.ofNat j).toNat : Nat) : Int) = ((j : Nat) : Int) := by rw [UInt8.toNat_ofNat']; omega
    rw [bif_t (by omega), Bool.not_false, cond_true, u8w (by omega), ← hx, refOpen_k, callB_ok]
    have next : hitB w (UInt8.ofNat j) = false → ref02_Unquote_L1 (kp E k (n + 1)) k k0 k1 (str (pre ++ w)) ((pre.length : Nat) : Int) false (IntKind.wrap .i64 ((((UInt8.ofNat j).toNat : Nat) : Int) + 1)) (acc.map byteAV) = after pre w acc k k0 n E := by
      intro hno
      rw [hx, wrap1 (by omega)]
      refine code_loop pre w acc k0 hp ha (m - 1) (j + 1) k1 (by omega) (by omega) (by omega) fun x hlt => ?_
      by_cases he : x.toNat = j
      · rw [show x = UInt8.ofNat j from by rw [← he, UInt8.ofNat_toNat]]; exact hno
      · exact hn x (by omega)
    cases ho : openB (UInt8.ofNat j) with
    | true =>
      rw [Bool.not_true, cond_false]
      exact next (by unfold hitB; rw [ho]; rfl)
    | false =>
      have hcut : ((pre ++ w).take (pre.length + 4)).drop pre.length = w.take 4 := by
        rw [List.take_append, List.drop_append]
        simp
      rw [Bool.not_false, cond_true, inbE (by omega), cond_true, Int.toNat_natCast, Int.toNat_natCast, inbE (by omega), cond_true, code_k, callS_ok, str_ext, hcut, str_dec]
      by_cases he : w.take 4 = code4 (UInt8.ofNat j)
      · have hh : hitB w (UInt8.ofNat j) = true := by unfold hitB; rw [ho, decide_eq_true he]; rfl
        rw [decide_eq_true he, cond_true, List.length_map, roomB (by omega), cond_true, bytes_snoc, hx, wrap1 (by omega)]
        obtain ⟨k2, rfl⟩ : ∃ q, k1 = q + 1 := ⟨k1 - 1, by omega⟩
        rw [found_loop pre w acc k0 k2 (UInt8.ofNat j) (j + 1) (by omega) (by omega)]
        unfold after
        rw [unq1_hit hh]
      · rw [decide_eq_false he, cond_false]
        exact next (by unfold hitB; rw [decide_eq_false he, Bool.and_false])
theorem refUnq_loop (hk : 300 < k) : ∀ (f : Nat) (s pre acc : List UInt8) (k0 : Nat), s.length < k0 → s.length ≤ f → (pre ++ s).length < 1000000000 → acc.length + s.length < 1000000000 →
    ref02_Unquote_L0 (kp E k (n + 1)) k k0 (str (pre ++ s)) ((pre.length : Nat) : Int) (acc.map byteAV) = some (ansR acc (unqL f s))
  | f, [], pre, acc, k0 + 1, h, hf, hp, hb => by
    rw [ref02_Unquote_L0_s, str_size, bif_f (by simp), toBytes_map]
    cases f <;> simp [unqL, ansR]
  | f + 1, c :: r, pre, acc, k0 + 1, h, hf, hp, hb => by
    have hg : (pre ++ c :: r).getD pre.length 0 = c := mid_byte _ _ _
    have hp' := hp
    rw [List.length_append] at hp'
    simp only [List.length_cons] at h hf hb hp'
    rw [ref02_Unquote_L0_s, str_size, mid_len, dec0, nlt, decide_eq_true (by omega), Bool.true_and, cond_true, cond_true, Int.toNat_natCast, str_byte, hg, refOpen_k, callB_ok]
    unfold unqL
    cases ho : openB c with
    | true =>
      rw [cond_true, cond_true, List.length_map, roomB (by omega), cond_true, bytes_snoc, wrap1 (by omega), if_pos rfl, ansR_map]
      have := refUnq_loop hk f r (pre ++ [c]) (acc ++ [c]) k0 (by omega) (by omega) (by simpa using hp) (by rw [List.length_append, List.length_singleton]; omega)
      rw [List.append_assoc, List.singleton_append, List.length_append, List.length_singleton] at this
      exact this
    | false =>
      rw [cond_false, if_neg (by simp)]
      refine (code_loop pre (c :: r) acc k0 (by omega) (by omega) 256 0 k rfl (by omega) (by omega) fun x hx => by omega).trans ?_
      unfold after
      cases hu : unq1 (c :: r) with
      | none => rfl
      | some x =>
        have hl := (hit_unq1 hu).2
        simp only [List.length_cons] at hl
        dsimp only
        rw [ansR_map]
        have e : pre ++ c :: r = (pre ++ (c :: r).take 4) ++ r.drop 3 := by
          rw [List.append_assoc]
          congr 1
          exact (List.take_append_drop 4 (c :: r)).symm
        have := refUnq_loop hk f (r.drop 3) (pre ++ (c :: r).take 4) (acc ++ [x]) k0 (by rw [List.length_drop]; omega) (by rw [List.length_drop]; omega) (by rw [← e]; exact hp) (by rw [List.length_append, List.length_singleton, List.length_drop]; omega)
        rw [← e, List.length_append, List.length_take, List.length_cons, show min 4 (r.length + 1) = 4 by omega] at this
        exact this
theorem refUnq_k (l : List UInt8) (hl : l.length < 1000000000) (hk : l.length < k) (hk3 : 300 < k) : kp E k (n + 2) ref02_Unquote [.str (str l)] = some (ansR [] (unqL l.length l)) := by
  rw [ref02_Unquote_eq]
  exact refUnq_loop hk3 l.length l [] [] k hk (Nat.le_refl _) (by simpa using hl) (by simpa using hl)
end Go.Proofs.YtogfcfgfkggmlaaGreatDoor.Eng.U


/- Items' names in plain words: what a full name tells, a head's full names, how much a head is. -/
set_option linter.unusedVariables false
set_option linter.unusedSectionVars false
set_option linter.unusedSimpArgs false
namespace Go.Proofs.YtogfcfgfkggmlaaGreatDoor.Eng.U
open Go Go.Proofs Go.Proofs.YtogfcfgfkggmlaaGreatDoor.Eng
variable {E : Ext} [Core E] {k n : Nat}

theorem snoc_cases (s : List UInt8) : s = [] ∨ ∃ l c, s = l ++ [c] := by
  induction s with
  | nil => exact .inl rfl
  | cons x s ih =>
    rcases ih with rfl | ⟨l, c, rfl⟩
    · exact .inr ⟨[], x, rfl⟩
    · exact .inr ⟨x :: l, c, rfl⟩
/-- Does a text end in a slash? -/
def sl (s : List UInt8) : Bool := decide (s.getLast? = some 47)
theorem suffix_k (s : List UInt8) (h : s.length ≤ 1000000000000000) : kp E k (n + 2) strings_HasSuffix [.str (str s), .str (str [47])] = some (.bool (sl s)) := by
  rw [strings_HasSuffix_eq, stringslite_HasSuffix_eq, str_size, str_size, List.length_singleton]
  rcases snoc_cases s with rfl | ⟨l, c, rfl⟩
  · rfl
  · rw [List.length_append, List.length_singleton] at h ⊢
    have hd : (l ++ [c]).drop l.length = [c] := by simp
    rw [bif_t (by omega), i64w (by omega), bif_a, bif_t (by omega), bif_t (by omega), show (((l.length + 1 : Nat) : Int) - ((1 : Nat) : Int)).toNat = l.length from by omega, str_ext, List.take_of_length_le (by simp), hd, callB_ok, str_dec]
    unfold sl
    simp
def told (kind : Int) (s : List UInt8) : Int × List UInt8 :=
  if kind = 1 ∧ sl s = true then (if 1 < s.length then (6, s.dropLast) else (6, s))
  else if kind = 6 ∧ sl s = true ∧ 1 < s.length then (6, s.dropLast) else (kind, s)
end Go.Proofs.YtogfcfgfkggmlaaGreatDoor.Eng.U


/- ItemFulls, but for whether any field is wrong. -/
set_option linter.unusedVariables false
set_option linter.unusedSectionVars false
set_option linter.unusedSimpArgs false
namespace Go.Proofs.YtogfcfgfkggmlaaGreatDoor.Eng.U
open Go Go.Proofs Go.Proofs.YtogfcfgfkggmlaaGreatDoor.Eng
variable {E : Ext} [Core E] {k n : Nat}

end Go.Proofs.YtogfcfgfkggmlaaGreatDoor.Eng.U


/- What functions answer, as the engine evaluates their code. Printed by gen2.py. -/
set_option linter.unusedVariables false
namespace Go.Proofs.YtogfcfgfkggmlaaGreatDoor.Eng.U
open Go Go.Proofs Go.Proofs.YtogfcfgfkggmlaaGreatDoor.Eng
/- strings.ContainsAny -/
theorem strings_ContainsAny_eq {E : Ext} [Core E] (k n : Nat) (a0 : ByteArray) (a1 : ByteArray) : kp E k (n + 1) strings_ContainsAny [(.str a0), (.str a1)] =
  (callI .i64 (kp E k n strings_IndexAny [(.str a0), (.str a1)]) fun vn2 => (some (.bool (decide (vn2 ≥ (0 : Int)))))) := (kp_at (by kernel_rfl)).trans (by kernel_rfl)
/- strings.IndexAny -/
noncomputable def strings_IndexAny_bd : Code := Tryz.f210.body.getD .skip
noncomputable def strings_IndexAny_L0 (kap : FuncId → List AV → Option AV) (k : Nat) (k0 : Nat) (s1 : ByteArray) (i45s : ByteArray) (i45p : Nat) : Option AV :=
  loop (fun fr K => code ((bs E0 k).cfg kap strings_IndexAny) (sel strings_IndexAny_bd [1, 1, 1, 1, 0, 1, 0, 0]) fr K) (canon ((bs E0 k).cfg kap strings_IndexAny) (firstReg (sel strings_IndexAny_bd [1, 1, 1, 1, 0, 1, 0, 0]))) k0 (mkFr 55 [(1, (.str s1)), (45, (.itr 45))] [(45, (.it i45s i45p))]) (plug ((bs E0 k).cfg kap strings_IndexAny) (retK ((bs E0 k).cfg kap strings_IndexAny) [] Tryz.f210 [] some) [.blk 2, .seqR (sel strings_IndexAny_bd [1, 1, 1, 1, 1])])
theorem strings_IndexAny_L0_s (kap : FuncId → List AV → Option AV) (k : Nat) (k0 : Nat) (s1 : ByteArray) (i45s : ByteArray) (i45p : Nat) : strings_IndexAny_L0 kap k (k0 + 1) s1 i45s i45p =
  (bif (decide (i45p < (ByteArray.size i45s))) then (callI .i64 (kap strings_IndexRune [(.str s1), (.int .i32 (((Utf8.decode i45s i45p).1 : Nat) : Int))]) fun vn8 => (bif (decide (vn8 ≥ (0 : Int))) then (some (.int .i64 ((i45p : Nat) : Int))) else (strings_IndexAny_L0 kap k k0 s1 i45s (i45p + (Utf8.decode i45s i45p).2)))) else (some (.int .i64 (-1 : Int)))) := by kernel_rfl
theorem strings_IndexAny_eq {E : Ext} [Core E] (hB : E.isBase strings_IndexAny = false) (hF : E.fs.contains strings_IndexAny = true) (k n : Nat) (a0 : ByteArray) (a1 : ByteArray) : kp E k (n + 1) strings_IndexAny [(.str a0), (.str a1)] =
  (bif (decide (a1 = (str []))) then (some (.int .i64 (-1 : Int))) else (bif (decide ((((ByteArray.size a1) : Nat) : Int) = (1 : Int))) then (bif (decide ((0 : Int) < (((ByteArray.size a1) : Nat) : Int))) then (bif (decide ((IntKind.wrap .i32 (byteAt a1 0)) ≥ (128 : Int))) then (callI .i64 (kp E k n strings_IndexRune [(.str a0), (.int .i32 (65533 : Int))]) fun vn2 => (some (.int .i64 vn2))) else (callI .i64 (kp E k n strings_IndexRune [(.str a0), (.int .i32 (IntKind.wrap .i32 (byteAt a1 0)))]) fun vn4 => (some (.int .i64 vn4)))) else none) else (callB (kp E k n strings_shouldUseASCIISet [(.int .i64 (((ByteArray.size a0) : Nat) : Int))]) fun vq6 => (bif vq6 then (code ((bs E0 k).cfg (kp E k n) strings_IndexAny) (sel strings_IndexAny_bd [1, 1, 1, 0, 1, 0]) (mkFr 55 [(0, (.str a0)), (1, (.str a1)), (4, (.int .i64 (0 : Int))), (11, (.str a1)), (12, (.bool (decide (a1 = (str []))))), (13, (.str a1)), (14, (.int .i64 (((ByteArray.size a1) : Nat) : Int))), (15, (.bool (decide ((((ByteArray.size a1) : Nat) : Int) = (1 : Int))))), (24, (.str a0)), (25, (.int .i64 (((ByteArray.size a0) : Nat) : Int))), (26, (.bool vq6))] []) (plug ((bs E0 k).cfg (kp E k n) strings_IndexAny) (retK ((bs E0 k).cfg (kp E k n) strings_IndexAny) [] Tryz.f210 [] some) [.seqR (sel strings_IndexAny_bd [1, 1, 1, 1])])) else (strings_IndexAny_L0 (kp E k n) k k a1 a0 0))))) := (Base.kap_at (B := bs E k) hB hF _).trans (by kernel_rfl)
/- strings.IndexRune -/
noncomputable def strings_IndexRune_bd : Code := Tryz.f255.body.getD .skip
noncomputable def strings_IndexRune_L0 (kap : FuncId → List AV → Option AV) (k : Nat) (k0 : Nat) (i175s : ByteArray) (i175p : Nat) : Option AV :=
  loop (fun fr K => code ((bs E0 k).cfg kap strings_IndexRune) (sel strings_IndexRune_bd [1, 0, 1, 1, 1, 0, 0, 1, 0, 0]) fr K) (canon ((bs E0 k).cfg kap strings_IndexRune) (firstReg (sel strings_IndexRune_bd [1, 0, 1, 1, 1, 0, 0, 1, 0, 0]))) k0 (mkFr 187 [(175, (.itr 175))] [(175, (.it i175s i175p))]) (plug ((bs E0 k).cfg kap strings_IndexRune) (retK ((bs E0 k).cfg kap strings_IndexRune) [] Tryz.f255 [] some) [.blk 9, .seqR (sel strings_IndexRune_bd [1, 0, 1, 1, 1, 0, 1]), .blk 0])
noncomputable def strings_IndexRune_L1 (kap : FuncId → List AV → Option AV) (k : Nat) (k1 : Nat) (s0 : ByteArray) (s7 : ByteArray) (s8 : Int) (s9 : Int) : Option AV :=
  loop (fun fr K => code ((bs E0 k).cfg kap strings_IndexRune) (sel strings_IndexRune_bd [1, 0, 1, 1, 1, 1, 1, 1, 0, 1, 1, 1, 1, 0, 0, 0]) fr K) (canon ((bs E0 k).cfg kap strings_IndexRune) (firstReg (sel strings_IndexRune_bd [1, 0, 1, 1, 1, 1, 1, 1, 0, 1, 1, 1, 1, 0, 0, 0]))) k1 (mkFr 187 [(0, (.str s0)), (7, (.str s7)), (8, (.int .i64 s8)), (9, (.int .i64 s9))] []) (plug ((bs E0 k).cfg kap strings_IndexRune) (retK ((bs E0 k).cfg kap strings_IndexRune) [] Tryz.f255 [] some) [.blk 1, .seqR (sel strings_IndexRune_bd [1, 0, 1, 1, 1, 1, 1, 1, 0, 1, 1, 1, 1, 1]), .blk 0])
noncomputable def strings_IndexRune_L2 (kap : FuncId → List AV → Option AV) (k : Nat) (k1 : Nat) (k2 : Nat) (s0 : ByteArray) (s7 : ByteArray) (s8 : Int) (s9 : Int) (s12 : Int) : Option AV :=
  loop (fun fr K => code ((bs E0 k).cfg kap strings_IndexRune) (sel strings_IndexRune_bd [1, 0, 1, 1, 1, 1, 1, 1, 0, 1, 1, 1, 1, 0, 0, 0, 1, 0, 0, 1, 0, 1, 0, 0]) fr K) (canon ((bs E0 k).cfg kap strings_IndexRune) (firstReg (sel strings_IndexRune_bd [1, 0, 1, 1, 1, 1, 1, 1, 0, 1, 1, 1, 1, 0, 0, 0, 1, 0, 0, 1, 0, 1, 0, 0]))) k2 (mkFr 187 [(0, (.str s0)), (7, (.str s7)), (8, (.int .i64 s8)), (9, (.int .i64 s9)), (12, (.int .i64 s12))] []) (plug ((bs E0 k).cfg kap strings_IndexRune) (retK ((bs E0 k).cfg kap strings_IndexRune) [] Tryz.f255 [] some) [.blk 3, .seqR (sel strings_IndexRune_bd [1, 0, 1, 1, 1, 1, 1, 1, 0, 1, 1, 1, 1, 0, 0, 0, 1, 0, 0, 1, 1]), .blk 2, .lp (sel strings_IndexRune_bd [1, 0, 1, 1, 1, 1, 1, 1, 0, 1, 1, 1, 1, 0, 0, 0]) k1, .blk 1, .seqR (sel strings_IndexRune_bd [1, 0, 1, 1, 1, 1, 1, 1, 0, 1, 1, 1, 1, 1]), .blk 0])
theorem strings_IndexRune_L0_s (kap : FuncId → List AV → Option AV) (k : Nat) (k0 : Nat) (i175s : ByteArray) (i175p : Nat) : strings_IndexRune_L0 kap k (k0 + 1) i175s i175p =
  (bif (decide (i175p < (ByteArray.size i175s))) then (bif (decide ((((Utf8.decode i175s i175p).1 : Nat) : Int) = (65533 : Int))) then (some (.int .i64 ((i175p : Nat) : Int))) else (strings_IndexRune_L0 kap k k0 i175s (i175p + (Utf8.decode i175s i175p).2))) else (some (.int .i64 (-1 : Int)))) := by kernel_rfl
theorem strings_IndexRune_L1_s (kap : FuncId → List AV → Option AV) (k : Nat) (k1 : Nat) (s0 : ByteArray) (s7 : ByteArray) (s8 : Int) (s9 : Int) : strings_IndexRune_L1 kap k (k1 + 1) s0 s7 s8 s9 =
  (bif (decide (s9 < (((ByteArray.size s0) : Nat) : Int))) then (bif ((decide ((0 : Int) ≤ s9)) && (decide (s9 < (((ByteArray.size s0) : Nat) : Int)))) then (bif ((decide ((0 : Int) ≤ s8)) && (decide (s8 < (((ByteArray.size s7) : Nat) : Int)))) then (bif (!(decide ((byteAt s0 (Int.toNat s9)) = (byteAt s7 (Int.toNat s8))))) then (bif ((decide ((0 : Int) ≤ (IntKind.wrap .i64 (s9 + (1 : Int))))) && (decide ((IntKind.wrap .i64 (s9 + (1 : Int))) ≤ (((ByteArray.size s0) : Nat) : Int)))) then (bif ((decide ((0 : Int) ≤ s8)) && (decide (s8 < (((ByteArray.size s7) : Nat) : Int)))) then (callI .i64 (kap strings_IndexByte [(.str (ByteArray.extract s0 (Int.toNat (IntKind.wrap .i64 (s9 + (1 : Int)))) (ByteArray.size s0))), (.int .u8 (byteAt s7 (Int.toNat s8)))]) fun vn6 => (bif (decide (vn6 < (0 : Int))) then (some (.int .i64 (-1 : Int))) else (strings_IndexRune_L2 kap k k1 k s0 s7 s8 (IntKind.wrap .i64 (s9 + (IntKind.wrap .i64 (vn6 + (1 : Int))))) (1 : Int)))) else none) else none) else (strings_IndexRune_L2 kap k k1 k s0 s7 s8 s9 (1 : Int))) else none) else none) else (some (.int .i64 (-1 : Int)))) := by kernel_rfl
theorem strings_IndexRune_eq {E : Ext} [Core E] (k n : Nat) (a0 : ByteArray) (a1 : Int) : kp E k (n + 1) strings_IndexRune [(.str a0), (.int .i32 a1)] =
  (bif (decide ((0 : Int) ≤ a1)) then (bif (decide (a1 < (128 : Int))) then (callI .i64 (kp E k n strings_IndexByte [(.str a0), (.int .u8 (IntKind.wrap .u8 a1))]) fun vn2 => (some (.int .i64 vn2))) else (bif (decide (a1 = (65533 : Int))) then (strings_IndexRune_L0 (kp E k n) k k a0 0) else (callB (kp E k n unicode_utf8_ValidRune [(.int .i32 a1)]) fun vq4 => (bif (!vq4) then (some (.int .i64 (-1 : Int))) else (strings_IndexRune_L1 (kp E k n) k k a0 (Utf8.encode a1) (IntKind.wrap .i64 ((((ByteArray.size (Utf8.encode a1)) : Nat) : Int) - (1 : Int))) (IntKind.wrap .i64 ((((ByteArray.size (Utf8.encode a1)) : Nat) : Int) - (1 : Int)))))))) else (bif (decide (a1 = (65533 : Int))) then (strings_IndexRune_L0 (kp E k n) k k a0 0) else (callB (kp E k n unicode_utf8_ValidRune [(.int .i32 a1)]) fun vq8 => (bif (!vq8) then (some (.int .i64 (-1 : Int))) else (strings_IndexRune_L1 (kp E k n) k k a0 (Utf8.encode a1) (IntKind.wrap .i64 ((((ByteArray.size (Utf8.encode a1)) : Nat) : Int) - (1 : Int))) (IntKind.wrap .i64 ((((ByteArray.size (Utf8.encode a1)) : Nat) : Int) - (1 : Int)))))))) := (kp_at (by kernel_rfl)).trans (by kernel_rfl)
/- strings.shouldUseASCIISet -/
theorem strings_shouldUseASCIISet_eq {E : Ext} [Core E] (k n : Nat) (a0 : Int) : kp E k (n + 1) strings_shouldUseASCIISet [(.int .i64 a0)] =
  (some (.bool (decide (a0 > (8 : Int))))) := (kp_at (by kernel_rfl)).trans (by kernel_rfl)
/- unicode/utf8.ValidRune -/
theorem unicode_utf8_ValidRune_eq {E : Ext} [Core E] (k n : Nat) (a0 : Int) : kp E k (n + 1) unicode_utf8_ValidRune [(.int .i32 a0)] =
  (bif (decide ((0 : Int) ≤ a0)) then (bif (decide (a0 < (55296 : Int))) then (some (.bool true)) else (bif (decide ((57343 : Int) < a0)) then (bif (decide (a0 ≤ (1114111 : Int))) then (some (.bool true)) else (some (.bool false))) else (some (.bool false)))) else (bif (decide ((57343 : Int) < a0)) then (bif (decide (a0 ≤ (1114111 : Int))) then (some (.bool true)) else (some (.bool false))) else (some (.bool false)))) := (kp_at (by kernel_rfl)).trans (by kernel_rfl)
end Go.Proofs.YtogfcfgfkggmlaaGreatDoor.Eng.U


/- Is any field of a head wrong: some number answers, and 0 says what ItemFulls wants. -/
set_option linter.unusedVariables false
set_option linter.unusedSectionVars false
set_option linter.unusedSimpArgs false
namespace Go.Proofs.YtogfcfgfkggmlaaGreatDoor.Eng.U
open Go Go.Proofs Go.Proofs.YtogfcfgfkggmlaaGreatDoor.Eng Go.Proofs.YtogfcfgfkggmlaaGreatDoor.P04
variable {E : Ext} [Core E] [HasNum E] {k n : Nat}

class HasText (E : Ext) : Prop where
  dec : ∀ (k n : Nat) (s : List UInt8), ∃ r w : Int, kp E k n unicode_utf8_DecodeRuneInString [.str (str s)] = some (.tup [.int .i32 r, .int .i64 w])
  idx : ∀ (k n : Nat) (s : List UInt8), s.length ≤ 1000000 → ∃ i : Int, kp E k n strings_IndexAny [.str (str s), .str (str [61, 0])] = some (.int .i64 i)
theorem snoc_pairs (s : List Pair) : s = [] ∨ ∃ l c, s = l ++ [c] := by
  induction s with
  | nil => exact .inl rfl
  | cons x s ih =>
    rcases ih with rfl | ⟨l, c, rfl⟩
    · exact .inr ⟨[], x, rfl⟩
    · exact .inr ⟨x :: l, c, rfl⟩
def IsB (x : Option AV) : Prop := ∃ b : Bool, x = some (.bool b)
theorem isB_some (b : Bool) : IsB (some (.bool b)) := ⟨b, rfl⟩
theorem isB_bif {c : Bool} {a b : Option AV} (h1 : IsB a) (h2 : IsB b) : IsB (bif c then a else b) := by cases c <;> assumption
section
variable [HasText E]
theorem width_pos (s : ByteArray) (i : Nat) : 1 ≤ (Utf8.decode s i).2 := by
  rw [Lib.decode_at]
  unfold Lib.decodeN
  (repeat' split) <;> simp
end
end Go.Proofs.YtogfcfgfkggmlaaGreatDoor.Eng.U


/- strings.IndexAny at "=\x00" and a text of at most 8 bytes: some place. -/
set_option linter.unusedVariables false
set_option linter.unusedSectionVars false
set_option linter.unusedSimpArgs false
namespace Go.Proofs.YtogfcfgfkggmlaaGreatDoor.Eng.U
open Go Go.Proofs Go.Proofs.YtogfcfgfkggmlaaGreatDoor.Eng
variable {E : Ext} [Core E] {k n : Nat}

class HasIB (E : Ext) : Prop where
  indexB : ∀ (k n : Nat) (s : List UInt8) (c : Int), kp E k n strings_IndexByte [.str (str s), .int .u8 c] = some (.int .i64 (Lib.indexByte s c.toNat.toUInt8))
theorem valid_B (r : Int) : IsB (kp E k (n + 1) unicode_utf8_ValidRune [.int .i32 r]) := by
  rw [unicode_utf8_ValidRune_eq]
  repeat' first | exact isB_some _ | refine isB_bif ?_ ?_
theorem enc_facts (r : Nat) (h : 128 ≤ r) : (Utf8.encode (r : Int)).size = 2 ∧ 128 ≤ byteAt (Utf8.encode (r : Int)) 1 ∨ (Utf8.encode (r : Int)).size = 3 ∨ (Utf8.encode (r : Int)).size = 4 := by
  unfold Utf8.encode
  dsimp only
  have hc : 128 ≤ (if Utf8.valid (r : Int) = true then Int.toNat (r : Int) else Utf8.runeError) := by
    split
    · omega
    · decide
  generalize (if Utf8.valid (r : Int) = true then Int.toNat (r : Int) else Utf8.runeError) = c at hc
  rw [if_neg (show ¬ c < 128 by omega)]
  split
  · refine .inl ⟨rfl, ?_⟩
    show (128 : Int) ≤ (((UInt8.ofNat (128 + c % 64)).toNat : Nat) : Int)
    rw [UInt8.toNat_ofNat']
    omega
  · split
    · exact .inr (.inl rfl)
    · exact .inr (.inr rfl)
theorem rune_I [HasIB E] (r : Nat) (hk : 10 < k) : ∃ i : Int, kp E k (n + 2) strings_IndexRune [.str (str [61, 0]), .int .i32 (r : Int)] = some (.int .i64 i) := by
  obtain ⟨k, rfl⟩ : ∃ j, k = j + 3 := ⟨k - 3, by omega⟩
  rw [strings_IndexRune_eq, bif_t (by omega)]
  by_cases h1 : r < 128
  · rw [bif_t (by omega), HasIB.indexB, callI_ok]; exact ⟨_, rfl⟩
  · rw [bif_f (by omega)]
    by_cases h2 : (r : Int) = 65533
    · rw [bif_t h2]
      have d0 : Utf8.decode (str [61, 0]) 0 = (61, 1) := by decide +kernel
      have d1 : Utf8.decode (str [61, 0]) 1 = (0, 1) := by decide +kernel
      have sz : (str [61, 0]).size = 2 := rfl
      have z1 : 0 + ((61, 1) : Nat × Nat).2 = 1 := rfl
      have z2 : 1 + ((0, 1) : Nat × Nat).2 = 2 := rfl
      rw [strings_IndexRune_L0_s, sz, d0, z1, bif_t (by omega), bif_f (by decide), strings_IndexRune_L0_s, sz, d1, z2, bif_t (by omega), bif_f (by decide), strings_IndexRune_L0_s, sz, bif_f (by omega)]
      exact ⟨_, rfl⟩
    · rw [bif_f h2]
      obtain ⟨b, hb⟩ := valid_B (E := E) (k := k + 3) (n := n) (r : Int)
      rw [hb, callB_ok]
      cases b with
      | false => exact ⟨_, rfl⟩
      | true =>
        rw [Bool.not_true, cond_false]
        have sz : (str [61, 0]).size = 2 := rfl
        rcases enc_facts r (by omega) with ⟨e1, e2⟩ | e1 | e1
        · rw [e1, i64w (by omega), strings_IndexRune_L1_s, sz, e1]
          have hb1 : byteAt (str [61, 0]) 1 = 0 := rfl
          have e3 : Int.toNat (((2 : Nat) : Int) - 1) = 1 := rfl
          rw [bif_t (by omega), bif_a, bif_t (by omega), bif_t (by omega), bif_a, bif_t (by omega), bif_t (by omega), e3, hb1, decide_eq_false (by omega), Bool.not_false, cond_true, i64w (by omega), bif_a, bif_t (by omega), bif_t (by omega), bif_a, bif_t (by omega), bif_t (by omega)]
          have e4 : Int.toNat (((2 : Nat) : Int) - 1 + 1) = 2 := rfl
          have e5 : ByteArray.extract (str [61, 0]) 2 2 = str [] := by decide +kernel
          rw [e4, e5, HasIB.indexB, callI_ok]
          have e6 : Lib.indexByte [] (byteAt (Utf8.encode (r : Int)) 1).toNat.toUInt8 = -1 := rfl
          rw [e6, bif_t (by omega)]
          exact ⟨_, rfl⟩
        · rw [e1, i64w (by omega), strings_IndexRune_L1_s, sz, bif_f (by omega)]; exact ⟨_, rfl⟩
        · rw [e1, i64w (by omega), strings_IndexRune_L1_s, sz, bif_f (by omega)]; exact ⟨_, rfl⟩
theorem any_loop [HasIB E] (hk : 10 < k) (s : List UInt8) : ∀ (m k0 i : Nat), s.length - i < m → m ≤ k0 → ∃ r : Int, strings_IndexAny_L0 (kp E k (n + 2)) k k0 (str [61, 0]) (str s) i = some (.int .i64 r)
  | 0, k0, i, h, _ => by omega
  | m + 1, k0 + 1, i, h, hkk => by
    rw [strings_IndexAny_L0_s, str_size]
    by_cases hi : i < s.length
    · rw [decide_eq_true hi, cond_true]
      obtain ⟨x, hx⟩ := rune_I (E := E) (k := k) (n := n) (Utf8.decode (str s) i).1 hk
      rw [hx, callI_ok]
      by_cases h0 : x ≥ 0
      · rw [bif_t h0]; exact ⟨_, rfl⟩
      · rw [bif_f h0]
        have hw := width_pos (str s) i
        exact any_loop hk s m k0 (i + (Utf8.decode (str s) i).2) (by omega) (by omega)
    · rw [decide_eq_false hi, cond_false]
      exact ⟨_, rfl⟩
theorem any_short [HasIB E] (hB : E.isBase strings_IndexAny = false) (hF : E.fs.contains strings_IndexAny = true) (hk : 10 < k) (s : List UInt8) (hs : s.length ≤ 8) : ∃ r : Int, kp E k (n + 3) strings_IndexAny [.str (str s), .str (str [61, 0])] = some (.int .i64 r) := by
  have sz : (str [61, 0]).size = 2 := rfl
  rw [strings_IndexAny_eq hB hF, sz, str_size, bif_f (by decide), bif_f (by omega), strings_shouldUseASCIISet_eq, callB_ok, bif_f (by omega)]
  exact any_loop hk s k k 0 (by omega) (Nat.le_refl _)
end Go.Proofs.YtogfcfgfkggmlaaGreatDoor.Eng.U


/- The Utf laws in plain words, part 1: how many bytes stand for a code point. -/
set_option linter.unusedVariables false
set_option linter.unusedSimpArgs false
namespace Go.Proofs.YtogfcfgfkggmlaaGreatDoor.Eng.U
open Go Go.Proofs Go.Proofs.YtogfcfgfkggmlaaGreatDoor.Eng Go.Lib
variable {kap : FuncId → List AV → Option AV} {E : Ext} [Core E] {n : Nat}
def goDec (s : ByteArray) : Nat × Nat := if s.size = 0 then (65533, 0) else Utf8.decode s 0

def by_ (s : ByteArray) (i : Nat) : Nat := (s.data.toList.getD i 0).toNat
theorem by_lt (s : ByteArray) (i : Nat) : by_ s i < 256 := UInt8.toNat_lt _
theorem get_by (s : ByteArray) (i : Nat) : (s.get! i).toNat = by_ s i := by
  unfold by_
  congr 1
  simp [ByteArray.get!, List.getD_eq_getElem?_getD, Array.getElem!_eq_getD, Array.getD_eq_getD_getElem?]
  rfl
/-- How many bytes from place i on are a code point's own; 0: none. -/
def szOf (p : Nat × Nat) : Nat := if p = (65533, 1) then 0 else p.2
def sizeS (s : ByteArray) (i : Nat) : Nat := szOf (Utf8.decode s i)
theorem i64w {x : Int} (h : -9223372036854775808 ≤ x ∧ x ≤ 9223372036854775807) : IntKind.wrap .i64 x = x := IntWalk.i64_in x h

theorem L51_step {K m : Nat} {s : ByteArray} {i n c j : Nat} (hs : s.size ≤ 1000000) (hj : j < n) (hb : i + j < s.size) (hc : c < 10000000) : ref05_size_L0 kap K (m + 1) s (i : Int) (n : Int) (c : Int) (j : Int) =
    if by_ s (i + j) < 128 then some (.int .i64 0) else if 192 ≤ by_ s (i + j) then some (.int .i64 0) else ref05_size_L0 kap K m s (i : Int) (n : Int) ((c * 64 + by_ s (i + j) - 128 : Nat) : Int) ((j + 1 : Nat) : Int) := by
  have hlt := by_lt s (i + j)
  rw [ref05_size_L0_s, i64w (x := (i : Int) + (j : Int)) (by omega), show ((i : Int) + (j : Int)).toNat = i + j from by omega]
  simp only [show byteAt s (i + j) = ((by_ s (i + j) : Nat) : Int) from rfl]
  generalize by_ s (i + j) = b at *
  rw [i64w (x := (64 : Int) * (c : Int)) (by omega), i64w (x := (b : Int)) (by omega), i64w (x := (64 : Int) * (c : Int) + (b : Int)) (by omega), i64w (x := (64 : Int) * (c : Int) + (b : Int) - 128) (by omega), i64w (x := (j : Int) + 1) (by omega)]
  rw [show decide ((j : Int) < (n : Int)) = true from by simp; omega, show (decide ((0 : Int) ≤ (i : Int) + (j : Int)) && decide ((i : Int) + (j : Int) < (s.size : Int))) = true from by simp; omega]
  simp only [cond_true]
  by_cases h1 : b < 128
  · rw [if_pos h1, show decide ((b : Int) < 128) = true from by simp; omega]; rfl
  · rw [if_neg h1, show decide ((b : Int) < 128) = false from by simp; omega]
    by_cases h2 : 192 ≤ b
    · rw [if_pos h2, show decide ((b : Int) ≥ 192) = true from by simp; omega]; rfl
    · rw [if_neg h2, show decide ((b : Int) ≥ 192) = false from by simp; omega]
      simp only [cond_false]
      rw [show ((c * 64 + b - 128 : Nat) : Int) = (64 : Int) * (c : Int) + (b : Int) - 128 from by omega, show ((j + 1 : Nat) : Int) = (j : Int) + 1 from by omega]
def minOf (n : Nat) : Nat := if n = 2 then 128 else if n = 3 then 2048 else 65536
theorem L51_end {K m : Nat} {s : ByteArray} {i n c : Nat} (hn : n = 2 ∨ n = 3 ∨ n = 4) : ref05_size_L0 kap K (m + 1) s (i : Int) (n : Int) (c : Int) (n : Int) =
    if c < minOf n then some (.int .i64 0) else if 1114111 < c then some (.int .i64 0) else if 55296 ≤ c ∧ c ≤ 57343 then some (.int .i64 0) else some (.int .i64 (n : Int)) := by
  rw [ref05_size_L0_s, show decide ((n : Int) < (n : Int)) = false from by simp, show (decide ((0 : Int) ≤ (n : Int)) && decide ((n : Int) < 5)) = true from by simp; omega]
  simp only [cond_true, cond_false, show ((n : Int)).toNat = n from by omega]
  have key : ∀ (v : Nat) (v' : Int), v' = (v : Int) → (bif decide ((c : Int) < v') then some (AV.int .i64 0) else bif decide ((c : Int) > 1114111) then some (.int .i64 0) else bif decide ((c : Int) ≥ 55296) then (bif decide ((c : Int) ≤ 57343) then some (.int .i64 0) else some (.int .i64 (n : Int))) else some (.int .i64 (n : Int))) =
      if c < v then some (.int .i64 0) else if 1114111 < c then some (.int .i64 0) else if 55296 ≤ c ∧ c ≤ 57343 then some (.int .i64 0) else some (.int .i64 (n : Int)) := by
    rintro v _ rfl
    by_cases h1 : c < v
    · rw [if_pos h1, show decide ((c : Int) < (v : Int)) = true from by simp; omega]; rfl
    rw [if_neg h1, show decide ((c : Int) < (v : Int)) = false from by simp; omega, cond_false]
    by_cases h2 : 1114111 < c
    · rw [if_pos h2, show decide ((c : Int) > 1114111) = true from by simp; omega]; rfl
    rw [if_neg h2, show decide ((c : Int) > 1114111) = false from by simp; omega, cond_false]
    by_cases h3 : 55296 ≤ c
    · rw [show decide ((c : Int) ≥ 55296) = true from by simp; omega, cond_true]
      by_cases h4 : c ≤ 57343
      · rw [if_pos ⟨h3, h4⟩, show decide ((c : Int) ≤ 57343) = true from by simp; omega]; rfl
      · rw [if_neg (fun h => h4 h.2), show decide ((c : Int) ≤ 57343) = false from by simp; omega]; rfl
    · rw [if_neg (fun h => h3 h.1), show decide ((c : Int) ≥ 55296) = false from by simp; omega]; rfl
  have e : ∀ (j : Nat) (v : Int) (K : Int → Option AV), ([(.int .i64 (0 : Int)), (.int .i64 (0 : Int)), (.int .i64 (128 : Int)), (.int .i64 (2048 : Int)), (.int .i64 (65536 : Int))] : List AV)[j]? = some (.int .i64 v) → (([(.int .i64 (0 : Int)), (.int .i64 (0 : Int)), (.int .i64 (128 : Int)), (.int .i64 (2048 : Int)), (.int .i64 (65536 : Int))] : List AV)[j]?).bind (fun vy1 => cellI .i64 (AV.cells vy1) 0 fun vn2 => K vn2) = K v := by
    intro j v K h
    rw [h]
    rfl
  rcases hn with rfl | rfl | rfl
  · rw [show minOf 2 = 128 from rfl, e 2 128 _ rfl]; exact key 128 128 (by omega)
  · rw [show minOf 3 = 2048 from rfl, e 3 2048 _ rfl]; exact key 2048 2048 (by omega)
  · rw [show minOf 4 = 65536 from rfl, e 4 65536 _ rfl]; exact key 65536 65536 (by omega)

theorem L51_two {K m : Nat} {s : ByteArray} {i c : Nat} (hs : s.size ≤ 1000000) (hb : i + 1 < s.size) (hc : c < 256) : ref05_size_L0 kap K (m + 2) s (i : Int) ((2 : Nat) : Int) (c : Int) ((1 : Nat) : Int) =
    if by_ s (i + 1) < 128 then some (.int .i64 0) else if 192 ≤ by_ s (i + 1) then some (.int .i64 0) else
    if c * 64 + by_ s (i + 1) - 128 < 128 then some (.int .i64 0) else if 1114111 < c * 64 + by_ s (i + 1) - 128 then some (.int .i64 0) else if 55296 ≤ c * 64 + by_ s (i + 1) - 128 ∧ c * 64 + by_ s (i + 1) - 128 ≤ 57343 then some (.int .i64 0) else some (.int .i64 2) := by
  rw [L51_step hs (by omega) hb (by omega)]
  split
  · rfl
  split
  · rfl
  exact L51_end (.inl rfl)
theorem L51_three {K m : Nat} {s : ByteArray} {i c : Nat} (hs : s.size ≤ 1000000) (hb : i + 2 < s.size) (hc : c < 256) : ref05_size_L0 kap K (m + 3) s (i : Int) ((3 : Nat) : Int) (c : Int) ((1 : Nat) : Int) =
    if by_ s (i + 1) < 128 then some (.int .i64 0) else if 192 ≤ by_ s (i + 1) then some (.int .i64 0) else
    if by_ s (i + 2) < 128 then some (.int .i64 0) else if 192 ≤ by_ s (i + 2) then some (.int .i64 0) else
    if (c * 64 + by_ s (i + 1) - 128) * 64 + by_ s (i + 2) - 128 < 2048 then some (.int .i64 0) else if 1114111 < (c * 64 + by_ s (i + 1) - 128) * 64 + by_ s (i + 2) - 128 then some (.int .i64 0) else if 55296 ≤ (c * 64 + by_ s (i + 1) - 128) * 64 + by_ s (i + 2) - 128 ∧ (c * 64 + by_ s (i + 1) - 128) * 64 + by_ s (i + 2) - 128 ≤ 57343 then some (.int .i64 0) else some (.int .i64 3) := by
  have h1 := by_lt s (i + 1)
  rw [L51_step hs (by omega) (by omega) (by omega)]
  split
  · rfl
  split
  · rfl
  rw [L51_step hs (by omega) (by omega) (by omega)]
  split
  · rfl
  split
  · rfl
  exact L51_end (.inr (.inl rfl))
theorem L51_four {K m : Nat} {s : ByteArray} {i c : Nat} (hs : s.size ≤ 1000000) (hb : i + 3 < s.size) (hc : c < 256) : ref05_size_L0 kap K (m + 4) s (i : Int) ((4 : Nat) : Int) (c : Int) ((1 : Nat) : Int) =
    if by_ s (i + 1) < 128 then some (.int .i64 0) else if 192 ≤ by_ s (i + 1) then some (.int .i64 0) else
    if by_ s (i + 2) < 128 then some (.int .i64 0) else if 192 ≤ by_ s (i + 2) then some (.int .i64 0) else
    if by_ s (i + 3) < 128 then some (.int .i64 0) else if 192 ≤ by_ s (i + 3) then some (.int .i64 0) else
    if ((c * 64 + by_ s (i + 1) - 128) * 64 + by_ s (i + 2) - 128) * 64 + by_ s (i + 3) - 128 < 65536 then some (.int .i64 0) else if 1114111 < ((c * 64 + by_ s (i + 1) - 128) * 64 + by_ s (i + 2) - 128) * 64 + by_ s (i + 3) - 128 then some (.int .i64 0) else if 55296 ≤ ((c * 64 + by_ s (i + 1) - 128) * 64 + by_ s (i + 2) - 128) * 64 + by_ s (i + 3) - 128 ∧ ((c * 64 + by_ s (i + 1) - 128) * 64 + by_ s (i + 2) - 128) * 64 + by_ s (i + 3) - 128 ≤ 57343 then some (.int .i64 0) else some (.int .i64 4) := by
  have h1 := by_lt s (i + 1)
  have h2 := by_lt s (i + 2)
  rw [L51_step hs (by omega) (by omega) (by omega)]
  split
  · rfl
  split
  · rfl
  rw [L51_step hs (by omega) (by omega) (by omega)]
  split
  · rfl
  split
  · rfl
  rw [L51_step hs (by omega) (by omega) (by omega)]
  split
  · rfl
  split
  · rfl
  exact L51_end (.inr (.inr rfl))

/-- How many bytes a code point takes, by numbers. -/
def sizeN (n b0 b1 b2 b3 : Nat) : Nat := szOf (decodeN n b0 b1 b2 b3)
theorem szOf_bad : szOf (65533, 1) = 0 := rfl
theorem szOf_ok {c w : Nat} (h : w ≠ 1 ∨ c ≠ 65533) : szOf (c, w) = w := by
  unfold szOf
  rw [if_neg (by simp only [Prod.mk.injEq]; omega)]
theorem sizeS_eq (s : ByteArray) (i : Nat) : sizeS s i = sizeN (s.size - i) (by_ s i) (by_ s (i + 1)) (by_ s (i + 2)) (by_ s (i + 3)) := by
  unfold sizeS sizeN
  rw [decode_at, get_by, get_by, get_by, get_by]
theorem size_num {K : Nat} {s : ByteArray} {i : Nat} (hs : s.size ≤ 1000000) (hi : i < s.size) : kp E (K + 5) (n + 1) ref05_size [.str s, .int .i64 (i : Int)] =
    if by_ s i < 128 then some (.int .i64 1) else if by_ s i < 192 then some (.int .i64 0) else
    if by_ s i < 224 then (if s.size < i + 2 then some (.int .i64 0) else ref05_size_L0 (kp E (K + 5) n) (K + 5) (K + 5) s (i : Int) ((2 : Nat) : Int) ((by_ s i - 192 : Nat) : Int) ((1 : Nat) : Int)) else
    if by_ s i < 240 then (if s.size < i + 3 then some (.int .i64 0) else ref05_size_L0 (kp E (K + 5) n) (K + 5) (K + 5) s (i : Int) ((3 : Nat) : Int) ((by_ s i - 224 : Nat) : Int) ((1 : Nat) : Int)) else
    if by_ s i < 248 then (if s.size < i + 4 then some (.int .i64 0) else ref05_size_L0 (kp E (K + 5) n) (K + 5) (K + 5) s (i : Int) ((4 : Nat) : Int) ((by_ s i - 240 : Nat) : Int) ((1 : Nat) : Int)) else some (.int .i64 0) := by
  have hlt := by_lt s i
  rw [ref05_size_eq, show ((i : Int)).toNat = i from by omega]
  simp only [show byteAt s i = ((by_ s i : Nat) : Int) from rfl]
  generalize by_ s i = b at *
  rw [i64w (x := (b : Int)) (by omega)]
  rw [show (decide ((0 : Int) ≤ (i : Int)) && decide ((i : Int) < (s.size : Int))) = true from by simp; omega]
  simp only [cond_true]
  rw [i64w (x := (i : Int) + 2) (by omega), i64w (x := (i : Int) + 3) (by omega), i64w (x := (i : Int) + 4) (by omega)]
  rw [i64w (x := (b : Int) - 192) (by omega), i64w (x := (b : Int) - 224) (by omega), i64w (x := (b : Int) - 240) (by omega)]
  have hd : ∀ (p q : Prop) [Decidable p] [Decidable q], (p ↔ q) → decide p = decide q := fun p q _ _ h => decide_eq_decide.2 h
  have bif_if : ∀ {α : Type} (p : Prop) [Decidable p] (x y : α), (bif decide p then x else y) = if p then x else y := fun p _ x y => by by_cases h : p <;> simp [h]
  simp only [bif_if]
  by_cases a1 : b < 128
  · rw [if_pos (by omega), if_pos a1]
  rw [if_neg (by omega), if_neg a1]
  by_cases a2 : b < 192
  · rw [if_pos a2, if_neg (by omega), if_neg (by omega), if_neg (by omega)]
  rw [if_neg a2, if_pos (by omega)]
  by_cases a3 : b < 224
  · rw [if_pos (by omega), if_pos a3]
    by_cases z : s.size < i + 2
    · rw [if_pos (by omega), if_pos z]
    · rw [if_neg (by omega), if_neg z, show ((b - 192 : Nat) : Int) = (b : Int) - 192 from by omega]; rfl
  rw [if_neg (by omega), if_neg a3, if_pos (by omega)]
  by_cases a4 : b < 240
  · rw [if_pos (by omega), if_pos a4]
    by_cases z : s.size < i + 3
    · rw [if_pos (by omega), if_pos z]
    · rw [if_neg (by omega), if_neg z, show ((b - 224 : Nat) : Int) = (b : Int) - 224 from by omega]; rfl
  rw [if_neg (by omega), if_neg a4, if_pos (by omega)]
  by_cases a5 : b < 248
  · rw [if_pos (by omega), if_pos a5]
    by_cases z : s.size < i + 4
    · rw [if_pos (by omega), if_pos z]
    · rw [if_neg (by omega), if_neg z, show ((b - 240 : Nat) : Int) = (b : Int) - 240 from by omega]; rfl
  rw [if_neg (by omega), if_neg a5]
end Go.Proofs.YtogfcfgfkggmlaaGreatDoor.Eng.U


/- The Utf laws in plain words, part 2: the size of a code point is what the decoder says. -/
set_option linter.unusedVariables false
set_option linter.unusedSimpArgs false
namespace Go.Proofs.YtogfcfgfkggmlaaGreatDoor.Eng.U
open Go Go.Proofs Go.Proofs.YtogfcfgfkggmlaaGreatDoor.Eng Go.Lib
variable {kap : FuncId → List AV → Option AV} {E : Ext} [Core E] {n : Nat}

theorem sizeN_1 (n b0 b1 b2 b3 : Nat) (h : b0 < 128) : sizeN n b0 b1 b2 b3 = 1 := by
  unfold sizeN decodeN
  rw [if_pos h, szOf_ok (by omega)]
theorem sizeN_0 (n b0 b1 b2 b3 : Nat) (h : 128 ≤ b0 ∧ (b0 < 192 ∨ 248 ≤ b0)) (h0 : b0 < 256) : sizeN n b0 b1 b2 b3 = 0 := by
  unfold sizeN decodeN
  rw [if_neg (by omega), if_neg (by omega), if_neg (by omega), if_neg (by omega), szOf_bad]
theorem sizeN_2 (n b0 b1 b2 b3 : Nat) (h : 192 ≤ b0 ∧ b0 < 224) (h1 : b1 < 256) : sizeN n b0 b1 b2 b3 =
    if n < 2 then 0 else if b1 < 128 then 0 else if 192 ≤ b1 then 0 else if (b0 - 192) * 64 + b1 - 128 < 128 then 0 else if 1114111 < (b0 - 192) * 64 + b1 - 128 then 0 else if 55296 ≤ (b0 - 192) * 64 + b1 - 128 ∧ (b0 - 192) * 64 + b1 - 128 ≤ 57343 then 0 else 2 := by
  unfold sizeN decodeN
  rw [if_neg (by omega)]
  by_cases hc : 1 < n ∧ b1 / 64 = 2
  · rw [if_pos ⟨by omega, hc⟩, if_neg (show ¬ n < 2 by omega), if_neg (show ¬ b1 < 128 by omega), if_neg (show ¬ 192 ≤ b1 by omega)]
    by_cases hd : b0 % 32 * 64 + b1 % 64 ≥ 128
    · rw [if_pos hd, szOf_ok (by omega), if_neg (by omega), if_neg (by omega), if_neg (by omega)]
    · rw [if_neg hd, szOf_bad, if_pos (by omega)]
  · rw [if_neg (fun h => hc h.2), if_neg (by omega), if_neg (by omega), szOf_bad]
    by_cases g1 : n < 2
    · rw [if_pos g1]
    · rw [if_neg g1]
      by_cases g2 : b1 < 128
      · rw [if_pos g2]
      · rw [if_neg g2, if_pos (by omega)]
theorem sizeN_3 (n b0 b1 b2 b3 : Nat) (h : 224 ≤ b0 ∧ b0 < 240) (h1 : b1 < 256) (h2 : b2 < 256) : sizeN n b0 b1 b2 b3 =
    if n < 3 then 0 else if b1 < 128 then 0 else if 192 ≤ b1 then 0 else if b2 < 128 then 0 else if 192 ≤ b2 then 0 else if ((b0 - 224) * 64 + b1 - 128) * 64 + b2 - 128 < 2048 then 0 else if 1114111 < ((b0 - 224) * 64 + b1 - 128) * 64 + b2 - 128 then 0 else if 55296 ≤ ((b0 - 224) * 64 + b1 - 128) * 64 + b2 - 128 ∧ ((b0 - 224) * 64 + b1 - 128) * 64 + b2 - 128 ≤ 57343 then 0 else 3 := by
  unfold sizeN decodeN
  rw [if_neg (by omega), if_neg (show ¬ (b0 / 32 = 6 ∧ _) by omega)]
  by_cases hc : (1 < n ∧ b1 / 64 = 2) ∧ (2 < n ∧ b2 / 64 = 2)
  · rw [if_pos ⟨by omega, hc.1, hc.2⟩, if_neg (show ¬ n < 3 by omega), if_neg (show ¬ b1 < 128 by omega), if_neg (show ¬ 192 ≤ b1 by omega), if_neg (show ¬ b2 < 128 by omega), if_neg (show ¬ 192 ≤ b2 by omega)]
    have e : b0 % 16 * 4096 + b1 % 64 * 64 + b2 % 64 = ((b0 - 224) * 64 + b1 - 128) * 64 + b2 - 128 := by omega
    rw [e]
    generalize ((b0 - 224) * 64 + b1 - 128) * 64 + b2 - 128 = c at *
    by_cases hd : c ≥ 2048 ∧ (c < 55296 ∨ (57344 ≤ c ∧ c ≤ 1114111))
    · rw [if_pos hd, szOf_ok (by omega), if_neg (by omega), if_neg (by omega), if_neg (by omega)]
    · rw [if_neg hd, szOf_bad]
      by_cases g1 : c < 2048
      · rw [if_pos g1]
      · rw [if_neg g1]
        by_cases g2 : 1114111 < c
        · rw [if_pos g2]
        · rw [if_neg g2, if_pos (by omega)]
  · rw [if_neg (fun h => hc h.2), if_neg (by omega), szOf_bad]
    by_cases g1 : n < 3
    · rw [if_pos g1]
    · rw [if_neg g1]
      by_cases g2 : b1 < 128
      · rw [if_pos g2]
      · rw [if_neg g2]
        by_cases g3 : 192 ≤ b1
        · rw [if_pos g3]
        · rw [if_neg g3]
          by_cases g4 : b2 < 128
          · rw [if_pos g4]
          · rw [if_neg g4, if_pos (by omega)]
theorem sizeN_4 (n b0 b1 b2 b3 : Nat) (h : 240 ≤ b0 ∧ b0 < 248) (h1 : b1 < 256) (h2 : b2 < 256) (h3 : b3 < 256) : sizeN n b0 b1 b2 b3 =
    if n < 4 then 0 else if b1 < 128 then 0 else if 192 ≤ b1 then 0 else if b2 < 128 then 0 else if 192 ≤ b2 then 0 else if b3 < 128 then 0 else if 192 ≤ b3 then 0 else
    if (((b0 - 240) * 64 + b1 - 128) * 64 + b2 - 128) * 64 + b3 - 128 < 65536 then 0 else if 1114111 < (((b0 - 240) * 64 + b1 - 128) * 64 + b2 - 128) * 64 + b3 - 128 then 0 else if 55296 ≤ (((b0 - 240) * 64 + b1 - 128) * 64 + b2 - 128) * 64 + b3 - 128 ∧ (((b0 - 240) * 64 + b1 - 128) * 64 + b2 - 128) * 64 + b3 - 128 ≤ 57343 then 0 else 4 := by
  unfold sizeN decodeN
  rw [if_neg (by omega), if_neg (show ¬ (b0 / 32 = 6 ∧ _) by omega), if_neg (show ¬ (b0 / 16 = 14 ∧ _) by omega)]
  by_cases hc : (1 < n ∧ b1 / 64 = 2) ∧ (2 < n ∧ b2 / 64 = 2) ∧ (3 < n ∧ b3 / 64 = 2)
  · rw [if_pos ⟨by omega, hc.1, hc.2.1, hc.2.2⟩, if_neg (show ¬ n < 4 by omega), if_neg (show ¬ b1 < 128 by omega), if_neg (show ¬ 192 ≤ b1 by omega), if_neg (show ¬ b2 < 128 by omega), if_neg (show ¬ 192 ≤ b2 by omega), if_neg (show ¬ b3 < 128 by omega), if_neg (show ¬ 192 ≤ b3 by omega)]
    have e : b0 % 8 * 262144 + b1 % 64 * 4096 + b2 % 64 * 64 + b3 % 64 = (((b0 - 240) * 64 + b1 - 128) * 64 + b2 - 128) * 64 + b3 - 128 := by omega
    rw [e]
    generalize (((b0 - 240) * 64 + b1 - 128) * 64 + b2 - 128) * 64 + b3 - 128 = c at *
    by_cases hd : c ≥ 65536 ∧ (c < 55296 ∨ (57344 ≤ c ∧ c ≤ 1114111))
    · rw [if_pos hd, szOf_ok (by omega), if_neg (by omega), if_neg (by omega), if_neg (by omega)]
    · rw [if_neg hd, szOf_bad]
      by_cases g1 : c < 65536
      · rw [if_pos g1]
      · rw [if_neg g1]
        by_cases g2 : 1114111 < c
        · rw [if_pos g2]
        · rw [if_neg g2, if_pos (by omega)]
  · rw [if_neg (fun h => hc h.2), szOf_bad]
    by_cases g1 : n < 4
    · rw [if_pos g1]
    · rw [if_neg g1]
      by_cases g2 : b1 < 128
      · rw [if_pos g2]
      · rw [if_neg g2]
        by_cases g3 : 192 ≤ b1
        · rw [if_pos g3]
        · rw [if_neg g3]
          by_cases g4 : b2 < 128
          · rw [if_pos g4]
          · rw [if_neg g4]
            by_cases g5 : 192 ≤ b2
            · rw [if_pos g5]
            · rw [if_neg g5]
              by_cases g6 : b3 < 128
              · rw [if_pos g6]
              · rw [if_neg g6, if_pos (by omega)]
theorem some_if (p : Prop) [Decidable p] (a b : Nat) : (some (AV.int .i64 ((if p then a else b : Nat) : Int))) = if p then some (AV.int .i64 (a : Int)) else some (AV.int .i64 (b : Int)) := by by_cases h : p <;> simp [h]
theorem size_spec {K : Nat} {s : ByteArray} {i : Nat} (hs : s.size ≤ 1000000) (hi : i < s.size) : kp E (K + 5) (n + 1) ref05_size [.str s, .int .i64 (i : Int)] = some (.int .i64 (sizeS s i : Int)) := by
  have h0 := by_lt s i
  have h1 := by_lt s (i + 1)
  have h2 := by_lt s (i + 2)
  have h3 := by_lt s (i + 3)
  rw [size_num hs hi, sizeS_eq]
  by_cases a1 : by_ s i < 128
  · rw [if_pos a1, sizeN_1 _ _ _ _ _ a1]; rfl
  rw [if_neg a1]
  by_cases a2 : by_ s i < 192
  · rw [if_pos a2, sizeN_0 _ _ _ _ _ (by omega) h0]; rfl
  rw [if_neg a2]
  by_cases a3 : by_ s i < 224
  · rw [if_pos a3, sizeN_2 _ _ _ _ _ (by omega) h1]
    by_cases z : s.size < i + 2
    · rw [if_pos z, if_pos (by omega)]; rfl
    · rw [if_neg z, if_neg (by omega), L51_two hs (by omega) (by omega)]
      simp only [some_if]; rfl
  rw [if_neg a3]
  by_cases a4 : by_ s i < 240
  · rw [if_pos a4, sizeN_3 _ _ _ _ _ (by omega) h1 h2]
    by_cases z : s.size < i + 3
    · rw [if_pos z, if_pos (by omega)]; rfl
    · rw [if_neg z, if_neg (by omega), L51_three hs (by omega) (by omega)]
      simp only [some_if]; rfl
  rw [if_neg a4]
  by_cases a5 : by_ s i < 248
  · rw [if_pos a5, sizeN_4 _ _ _ _ _ (by omega) h1 h2 h3]
    by_cases z : s.size < i + 4
    · rw [if_pos z, if_pos (by omega)]; rfl
    · rw [if_neg z, if_neg (by omega), L51_four hs (by omega) (by omega)]
      simp only [some_if]; rfl
  · rw [if_neg a5, sizeN_0 _ _ _ _ _ (by omega) h0]; rfl
end Go.Proofs.YtogfcfgfkggmlaaGreatDoor.Eng.U


/- The Utf laws in plain words, part 3: the functions that go through a text. -/
set_option linter.unusedVariables false
set_option linter.unusedSimpArgs false
namespace Go.Proofs.YtogfcfgfkggmlaaGreatDoor.Eng.U
open Go Go.Proofs Go.Proofs.YtogfcfgfkggmlaaGreatDoor.Eng Go.Lib
variable {kap : FuncId → List AV → Option AV} {E : Ext} [Core E] {n : Nat}

abbrev ai (n : Int) : AV := .int .i64 n
/-- Is the byte at a place no part of a code point? -/
def bad (s : ByteArray) (i : Nat) : Prop := Utf8.decode s i = (65533, 1)
instance (s : ByteArray) (i : Nat) : Decidable (bad s i) := inferInstanceAs (Decidable (_ = _))
/-- The place behind what stands at a place. -/
def nx (s : ByteArray) (i : Nat) : Nat := i + (Utf8.decode s i).2
theorem width_le (s : ByteArray) (i : Nat) : 1 ≤ (Utf8.decode s i).2 ∧ (Utf8.decode s i).2 ≤ 4 := by
  rw [decode_at]
  unfold decodeN
  repeat' split
  all_goals simp
theorem nx_gt (s : ByteArray) (i : Nat) : i < nx s i ∧ nx s i ≤ i + 4 := by have := width_le s i; unfold nx; omega
theorem sizeS_bad {s : ByteArray} {i : Nat} (h : bad s i) : sizeS s i = 0 := by unfold sizeS; rw [h]; rfl
theorem sizeS_good {s : ByteArray} {i : Nat} (h : ¬ bad s i) : sizeS s i = (Utf8.decode s i).2 ∧ sizeS s i ≠ 0 := by
  unfold sizeS szOf
  rw [if_neg (show ¬ Utf8.decode s i = (65533, 1) from h)]
  have := width_le s i
  exact ⟨rfl, by omega⟩
theorem nx_bad {s : ByteArray} {i : Nat} (h : bad s i) : nx s i = i + 1 := by unfold nx; rw [h]

/-- The ends of all that stands in a text, from a place on: below zero where a byte is no part of a code point. -/
def endsL (s : ByteArray) : Nat → Nat → List Int
  | 0, _ => []
  | n + 1, pos => if pos < s.size then (if bad s pos then -(nx s pos : Int) else (nx s pos : Int)) :: endsL s n (nx s pos) else []
def ends (s : ByteArray) : List Int := endsL s s.size 0
theorem L16 {K : Nat} {s : ByteArray} (hs : s.size ≤ 1000000) (h51 : ∀ i, i < s.size → kap ref05_size [.str s, .int .i64 (i : Int)] = some (.int .i64 (sizeS s i : Int))) :
    ∀ (n m pos : Nat) (xs : List AV), s.size ≤ pos + n → n < m → xs.length ≤ pos → pos ≤ s.size + 4 → ref05_Ends_L0 kap K m s (pos : Int) xs = some (.list 1 (xs ++ (endsL s n pos).map ai)) := by
  intro n
  induction n with
  | zero =>
    intro m pos xs hn hm hx hp
    obtain ⟨m, rfl⟩ : ∃ m', m = m' + 1 := ⟨m - 1, by omega⟩
    rw [ref05_Ends_L0_s, show decide ((pos : Int) < (s.size : Int)) = false from by simp; omega]
    simp [endsL]
  | succ n ih =>
    intro m pos xs hn hm hx hp
    obtain ⟨m, rfl⟩ : ∃ m', m = m' + 1 := ⟨m - 1, by omega⟩
    by_cases hlt : pos < s.size
    · have hw := nx_gt s pos
      rw [ref05_Ends_L0_s, show decide ((pos : Int) < (s.size : Int)) = true from by simp; omega, h51 pos hlt, cond_true, callI_ok]
      rw [show (decide ((xs.length + 1) * 8 ≤ 140737488355328) && decide (xs.length + 1 ≤ 9223372036854775807)) = true from by simp; omega]
      simp only [cond_true]
      unfold endsL
      rw [if_pos hlt]
      by_cases hb : bad s pos
      · rw [if_pos hb, sizeS_bad hb, show decide (((0 : Nat) : Int) = 0) = true from rfl, cond_true]
        have e := nx_bad hb
        rw [i64w (x := (pos : Int) + 1) (by omega), i64w (x := 0 - ((pos : Int) + 1)) (by omega), show (pos : Int) + 1 = ((nx s pos : Nat) : Int) from by omega,
          ih m (nx s pos) _ (by omega) (by omega) (by simp; omega) (by omega)]
        simp [ai]
      · obtain ⟨e1, e2⟩ := sizeS_good hb
        rw [if_neg hb, show decide (((sizeS s pos : Nat) : Int) = 0) = false from by simp; omega, cond_false]
        have e : nx s pos = pos + sizeS s pos := by rw [e1]; rfl
        rw [i64w (x := (pos : Int) + (sizeS s pos : Int)) (by omega), show (pos : Int) + (sizeS s pos : Int) = ((nx s pos : Nat) : Int) from by omega,
          ih m (nx s pos) _ (by omega) (by omega) (by simp; omega) (by omega)]
        simp [ai]
    · rw [ref05_Ends_L0_s, show decide ((pos : Int) < (s.size : Int)) = false from by simp; omega]
      unfold endsL
      rw [if_neg hlt]
      simp
theorem ref05_Ends_spec {K : Nat} {s : ByteArray} (hs : s.size ≤ 1000000) (hK : s.size < K) (h51 : ∀ i, i < s.size → kp E K n ref05_size [.str s, .int .i64 (i : Int)] = some (.int .i64 (sizeS s i : Int))) : kp E K (n + 1) ref05_Ends [.str s] = some (.list 1 ((ends s).map ai)) := by
  rw [ref05_Ends_eq]
  exact L16 hs h51 s.size K 0 [] (by omega) hK (by simp) (by omega)

/-- The place of the first byte that is no part of a code point; -1: there is none. -/
def firstL (s : ByteArray) : Nat → Nat → Int
  | 0, _ => -1
  | n + 1, pos => if pos < s.size then (if bad s pos then (pos : Int) else firstL s n (nx s pos)) else -1
def first (s : ByteArray) : Int := firstL s s.size 0
theorem utf_wrong_spec {K : Nat} {s : ByteArray} {i : Nat} (hi : i < s.size) (h69 : ∀ t, kp E K n unicode_utf8_DecodeRuneInString [.str t] = some (.tup [.int .i32 ((goDec t).1 : Int), .int .i64 ((goDec t).2 : Int)])) :
    kp E K (n + 1) utf_wrong [.str s, .int .i64 (i : Int), .int .i32 ((Utf8.decode s i).1 : Int)] = some (.bool (decide (bad s i))) := by
  rw [utf_wrong_eq]
  by_cases h : (Utf8.decode s i).1 = 65533
  · rw [show decide ((((Utf8.decode s i).1 : Nat) : Int) = 65533) = true from by simp; omega, show (decide ((0 : Int) ≤ (i : Int)) && decide ((i : Int) ≤ (s.size : Int))) = true from by simp; omega]
    simp only [Bool.not_true, cond_false, cond_true, h69, callT_ok, tupI_ok, atNil_ok]
    have e : goDec (s.extract ((i : Int)).toNat s.size) = Utf8.decode s i := by
      rw [show ((i : Int)).toNat = i from by omega]
      unfold goDec
      rw [if_neg (by rw [tail_size]; omega), decode_at, decode_at, tail_size, Nat.sub_zero]
      simp only [tail_get!, Nat.add_zero, Nat.zero_add]
    rw [e]
    congr 2
    refine decide_eq_decide.2 ?_
    unfold bad
    rw [Prod.ext_iff]
    simp only [h, true_and]
    omega
  · rw [show decide ((((Utf8.decode s i).1 : Nat) : Int) = 65533) = false from by simp; omega]
    simp only [Bool.not_false, cond_true]
    rw [show decide (bad s i) = false from by simp only [decide_eq_false_iff_not]; intro hb; exact h (by rw [show Utf8.decode s i = _ from hb])]
theorem L13 {K : Nat} {s : ByteArray} (h50 : ∀ i, i < s.size → kap utf_wrong [.str s, .int .i64 (i : Int), .int .i32 ((Utf8.decode s i).1 : Int)] = some (.bool (decide (bad s i)))) :
    ∀ (n m pos : Nat), s.size ≤ pos + n → n < m → utf_First_L0 kap K m s s pos = some (.int .i64 (firstL s n pos)) := by
  intro n
  induction n with
  | zero =>
    intro m pos hn hm
    obtain ⟨m, rfl⟩ : ∃ m', m = m' + 1 := ⟨m - 1, by omega⟩
    rw [utf_First_L0_s, show decide (pos < s.size) = false from by simp; omega]
    rfl
  | succ n ih =>
    intro m pos hn hm
    obtain ⟨m, rfl⟩ : ∃ m', m = m' + 1 := ⟨m - 1, by omega⟩
    unfold firstL
    by_cases hlt : pos < s.size
    · have hw := nx_gt s pos
      rw [utf_First_L0_s, show decide (pos < s.size) = true from by simpa using hlt, h50 pos hlt, if_pos hlt]
      simp only [cond_true, callB_ok]
      by_cases hb : bad s pos
      · rw [if_pos hb, decide_eq_true hb]; rfl
      · rw [if_neg hb, decide_eq_false hb]
        exact ih m (nx s pos) (by omega) (by omega)
    · rw [utf_First_L0_s, show decide (pos < s.size) = false from by simpa using hlt, if_neg hlt]
      rfl
theorem utf_First_spec {K : Nat} {s : ByteArray} (hK : s.size < K) (h50 : ∀ i, i < s.size → kp E K n utf_wrong [.str s, .int .i64 (i : Int), .int .i32 ((Utf8.decode s i).1 : Int)] = some (.bool (decide (bad s i)))) : kp E K (n + 1) utf_First [.str s] = some (.int .i64 (first s)) := by
  rw [utf_First_eq]
  exact L13 h50 s.size K 0 (by omega) hK
theorem utf_Right_spec {K : Nat} {s : ByteArray} (h13 : kp E K n utf_First [.str s] = some (.int .i64 (first s))) : kp E K (n + 1) utf_Right [.str s] = some (.bool (decide (first s < 0))) := by
  rw [utf_Right_eq, h13]
  rfl
/-- The first of the ends that is below zero. -/
def firstNeg : List Int → Int
  | [] => -1
  | e :: l => if e < 0 then -e - 1 else firstNeg l
theorem L12 {K : Nat} {es : List Int} (hes : ∀ e ∈ es, -1000010 ≤ e ∧ e ≤ 1000010) (hl : es.length ≤ 1000000) : ∀ (n m j : Nat), es.length ≤ j + n → n < m → ref05_First_L0 kap K m (es.map ai) (j : Int) = some (.int .i64 (firstNeg (es.drop j))) := by
  intro n
  induction n with
  | zero =>
    intro m j hn hm
    obtain ⟨m, rfl⟩ : ∃ m', m = m' + 1 := ⟨m - 1, by omega⟩
    rw [ref05_First_L0_s, show decide ((j : Int) < ((es.map ai).length : Int)) = false from by simp; omega, List.drop_eq_nil_of_le (by omega)]
    rfl
  | succ n ih =>
    intro m j hn hm
    obtain ⟨m, rfl⟩ : ∃ m', m = m' + 1 := ⟨m - 1, by omega⟩
    by_cases hlt : j < es.length
    · have he := hes es[j] (List.getElem_mem hlt)
      rw [ref05_First_L0_s, show decide ((j : Int) < ((es.map ai).length : Int)) = true from by simp; omega, show decide ((0 : Int) ≤ (j : Int)) = true from by simp, show ((j : Int)).toNat = j from by omega]
      rw [List.getElem?_map, List.getElem?_eq_getElem hlt, List.drop_eq_getElem_cons hlt]
      simp only [cond_true, Bool.and_self, Option.map_some, Option.bind_some, AV.cells, cellI_0, firstNeg, ai]
      by_cases h0 : es[j] < 0
      · rw [if_pos h0, show decide (es[j] < 0) = true from by simpa using h0, cond_true, i64w (x := 0 - es[j]) (by omega), i64w (x := 0 - es[j] - 1) (by omega)]
        congr 2
        omega
      · rw [if_neg h0, show decide (es[j] < 0) = false from by simpa using h0, cond_false, i64w (x := (j : Int) + 1) (by omega), show (j : Int) + 1 = ((j + 1 : Nat) : Int) from by omega]
        exact ih m (j + 1) (by omega) (by omega)
    · rw [ref05_First_L0_s, show decide ((j : Int) < ((es.map ai).length : Int)) = false from by simp; omega, List.drop_eq_nil_of_le (by omega)]
      rfl
theorem endsL_range (s : ByteArray) : ∀ (n pos : Nat), pos ≤ s.size + 4 → ∀ e ∈ endsL s n pos, -((s.size : Int) + 8) ≤ e ∧ e ≤ (s.size : Int) + 8
  | 0, pos, hp, e, he => by simp [endsL] at he
  | n + 1, pos, hp, e, he => by
    have hw := nx_gt s pos
    unfold endsL at he
    split at he
    · rename_i hlt
      rcases List.mem_cons.1 he with rfl | he
      · split <;> omega
      · exact endsL_range s n (nx s pos) (by omega) e he
    · simp at he
theorem endsL_length (s : ByteArray) : ∀ (n pos : Nat), (endsL s n pos).length ≤ n
  | 0, pos => by simp [endsL]
  | n + 1, pos => by
    unfold endsL
    split
    · have := endsL_length s n (nx s pos)
      simp; omega
    · simp
theorem ref05_First_spec {K : Nat} {s : ByteArray} (hs : s.size ≤ 1000000) (hK : s.size < K) (h16 : kp E K n ref05_Ends [.str s] = some (.list 1 ((ends s).map ai))) : kp E K (n + 1) ref05_First [.str s] = some (.int .i64 (firstNeg (ends s))) := by
  rw [ref05_First_eq, h16]
  have hl := endsL_length s s.size 0
  exact L12 (fun e he => by have := endsL_range s s.size 0 (by omega) e he; omega) (by unfold ends; omega) s.size K 0 (by unfold ends; omega) hK
theorem first_ends (s : ByteArray) : ∀ (n pos : Nat), firstNeg (endsL s n pos) = firstL s n pos
  | 0, pos => rfl
  | n + 1, pos => by
    have hw := nx_gt s pos
    unfold endsL firstL
    split
    · rename_i hlt
      simp only [firstNeg]
      by_cases hb : bad s pos
      · have := nx_bad hb
        rw [if_pos hb, if_pos hb, if_pos (by omega)]
        omega
      · rw [if_neg hb, if_neg hb, if_neg (by omega)]
        exact first_ends s n _
    · rfl
end Go.Proofs.YtogfcfgfkggmlaaGreatDoor.Eng.U

