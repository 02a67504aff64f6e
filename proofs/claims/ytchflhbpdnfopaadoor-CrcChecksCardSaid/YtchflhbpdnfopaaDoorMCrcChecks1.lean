/- Several texts of this proof in one file: R32, Q32b, S02, B02, U02, U02b, U02c, Q08, U08, U09d, U09g, U09h, U09i, U09j, V00, V04b, U20, U20b, U20c, U20d, V09, U32, U32c, U20e, U20f, U20g, Q08b, U08c, U08d, T14, V20, RH, U20r, Q32c, U32d, U32e, U32f, X33. -/
import Derived.Test.YtchflhbpdnfopaaDoorMCrcChecks0
import Derived.WalkKit
import Derived.BigCall
import Derived.WalkSmall
import Derived.Lib.OthersKept
import Derived.Lib.FrozenHead2
import Derived.Shelf.Strings.BuilderK
import Derived.Test.YtchflhbpdnfopaaDoorMECrcChecks2
import Derived.Lib.Bytealg
/- What functions answer, as the engine evaluates their code. Printed by gen2.py. -/
set_option linter.unusedVariables false
namespace Go.Proofs.YtchflhbpdnfopaaDoor.Eng.U
open Go Go.Proofs Go.Proofs.YtchflhbpdnfopaaDoor.Eng
/- oakum/oakumlaw32.CrcChecks -/
noncomputable def law32_CrcChecks_bd : Code := Tryd.f3.body.getD .skip
noncomputable def law32_CrcChecks_L0 (kap : FuncId → List AV → Option AV) (k : Nat) (k0 : Nat) (s0 : List AV) (s1 : List AV) (s5 : Int) (s6 : Int) : Option AV :=
  loop (fun fr K => code ((bs E0 k).cfg kap law32_CrcChecks) (sel law32_CrcChecks_bd [1, 1, 1, 0, 1, 0, 0]) fr K) (canon ((bs E0 k).cfg kap law32_CrcChecks) (firstReg (sel law32_CrcChecks_bd [1, 1, 1, 0, 1, 0, 0]))) k0 (mkFr 83 [(0, (.list 1 s0)), (1, (.list 15 s1)), (5, (.int .i64 s5)), (6, (.int .i64 s6))] []) (plug ((bs E0 k).cfg kap law32_CrcChecks) (retK ((bs E0 k).cfg kap law32_CrcChecks) [] Tryd.f3 [] some) [.blk 0, .seqR (sel law32_CrcChecks_bd [1, 1, 1, 1])])
noncomputable def law32_CrcChecks_L1 (kap : FuncId → List AV → Option AV) (k : Nat) (k1 : Nat) (s0 : List AV) (s1 : List AV) (s7 : List AV) (s8 : Int) (s9 : Int) : Option AV :=
  loop (fun fr K => code ((bs E0 k).cfg kap law32_CrcChecks) (sel law32_CrcChecks_bd [1, 1, 1, 1, 1, 1, 1, 0, 1, 0, 0]) fr K) (canon ((bs E0 k).cfg kap law32_CrcChecks) (firstReg (sel law32_CrcChecks_bd [1, 1, 1, 1, 1, 1, 1, 0, 1, 0, 0]))) k1 (mkFr 83 [(0, (.list 1 s0)), (1, (.list 15 s1)), (7, (.list 2 s7)), (8, (.int .i64 s8)), (9, (.int .i64 s9))] []) (plug ((bs E0 k).cfg kap law32_CrcChecks) (retK ((bs E0 k).cfg kap law32_CrcChecks) [] Tryd.f3 [] some) [.blk 2, .seqR (sel law32_CrcChecks_bd [1, 1, 1, 1, 1, 1, 1, 1])])
theorem law32_CrcChecks_L0_s (kap : FuncId → List AV → Option AV) (k : Nat) (k0 : Nat) (s0 : List AV) (s1 : List AV) (s5 : Int) (s6 : Int) : law32_CrcChecks_L0 kap k (k0 + 1) s0 s1 s5 s6 =
  (bif (decide (s6 < (((List.length s0) : Nat) : Int))) then (bif ((decide ((0 : Int) ≤ s6)) && (decide (s6 < (((List.length s0) : Nat) : Int)))) then ((s0[(Int.toNat s6)]?).bind fun vy3 => (cellS (AV.cells vy3) 0 fun vs4 => (law32_CrcChecks_L0 kap k k0 s0 s1 (IntKind.wrap .i64 (s5 + (((ByteArray.size vs4) : Nat) : Int))) (IntKind.wrap .i64 (s6 + (1 : Int)))))) else none) else (callB (kap law17_Many [(.list 15 s1)]) fun vq6 => (bif vq6 then (some (.bool true)) else (bif (decide ((((List.length s0) : Nat) : Int) > (20 : Int))) then (some (.bool true)) else (bif (decide (s5 > (5000 : Int))) then (some (.bool true)) else (callL 2 (kap crc_Check [(.list 1 s0), (.list 15 s1)]) fun vl8 => (law32_CrcChecks_L1 kap k k s0 s1 vl8 (0 : Int) (0 : Int)))))))) := by kernel_rfl
theorem law32_CrcChecks_L1_s (kap : FuncId → List AV → Option AV) (k : Nat) (k1 : Nat) (s0 : List AV) (s1 : List AV) (s7 : List AV) (s8 : Int) (s9 : Int) : law32_CrcChecks_L1 kap k (k1 + 1) s0 s1 s7 s8 s9 =
  (bif (decide (s9 < (((List.length s0) : Nat) : Int))) then (bif ((decide ((0 : Int) ≤ s9)) && (decide (s9 < (((List.length s0) : Nat) : Int)))) then ((s0[(Int.toNat s9)]?).bind fun vy9 => (cellS (AV.cells vy9) 0 fun vs10 => (callI .i64 (kap ref32_Check [(.str vs10), (.list 15 s1)]) fun vn12 => (bif (decide (vn12 = (0 : Int))) then (law32_CrcChecks_L1 kap k k1 s0 s1 s7 s8 (IntKind.wrap .i64 (s9 + (1 : Int)))) else (bif (decide (s8 ≥ (((List.length s7) : Nat) : Int))) then (some (.bool false)) else (bif ((decide ((0 : Int) ≤ s8)) && (decide (s8 < (((List.length s7) : Nat) : Int)))) then ((s7[(Int.toNat s8)]?).bind fun vy13 => (cellI .i64 (AV.cells vy13) 0 fun vn14 => (bif (!(decide (vn14 = s9))) then (some (.bool false)) else (bif ((decide ((0 : Int) ≤ s8)) && (decide (s8 < (((List.length s7) : Nat) : Int)))) then ((s7[(Int.toNat s8)]?).bind fun vy15 => (cellI .u8 (AV.cells vy15) 1 fun vn16 => (bif (!(decide ((IntKind.wrap .i64 vn16) = vn12))) then (some (.bool false)) else (law32_CrcChecks_L1 kap k k1 s0 s1 s7 (IntKind.wrap .i64 (s8 + (1 : Int))) (IntKind.wrap .i64 (s9 + (1 : Int))))))) else none)))) else none)))))) else none) else (some (.bool (decide (s8 = (((List.length s7) : Nat) : Int)))))) := by kernel_rfl
theorem law32_CrcChecks_eq {E : Ext} [Core E] (k n : Nat) (a0 : List AV) (a1 : List AV) : kp E k (n + 1) law32_CrcChecks [(.list 1 a0), (.list 15 a1)] =
  (callB (kp E k n law32_alive []) fun vq2 => (bif (!vq2) then (some (.bool false)) else (law32_CrcChecks_L0 (kp E k n) k k a0 a1 (0 : Int) (0 : Int)))) := (kp_at (by kernel_rfl)).trans (by kernel_rfl)
/- oakum/oakumlaw32.alive -/
theorem law32_alive_eq {E : Ext} [Core E] (k n : Nat)  : kp E k (n + 1) law32_alive [] =
  (callI .u32 (kp E k n crc_Sum [(.list 1 [(.int .u8 (49 : Int)), (.int .u8 (50 : Int)), (.int .u8 (51 : Int)), (.int .u8 (52 : Int)), (.int .u8 (53 : Int)), (.int .u8 (54 : Int)), (.int .u8 (55 : Int)), (.int .u8 (56 : Int)), (.int .u8 (57 : Int))])]) fun vn2 => (some (.bool (decide (vn2 = (3421780262 : Int)))))) := (kp_at (by kernel_rfl)).trans (by kernel_rfl)
/- oakum/crc.Check -/
noncomputable def crc_Check_bd : Code := Tryd.f6.body.getD .skip
noncomputable def crc_Check_L0 (kap : FuncId → List AV → Option AV) (k : Nat) (k0 : Nat) (s0 : List AV) (s16 : List AV) (s17 : Int) (s18 : Int) (m15 : List (ByteArray × AV)) : Option AV :=
  loop (fun fr K => code ((bs E0 k).cfg kap crc_Check) (sel crc_Check_bd [1, 1, 0, 1, 0, 0]) fr K) (canon ((bs E0 k).cfg kap crc_Check) (firstReg (sel crc_Check_bd [1, 1, 0, 1, 0, 0]))) k0 (mkFr 92 [(0, (.list 1 s0)), (5, (.mref 15)), (16, (.list 15 s16)), (17, (.int .i64 s17)), (18, (.int .i64 s18))] [(15, (.map m15))]) (plug ((bs E0 k).cfg kap crc_Check) (retK ((bs E0 k).cfg kap crc_Check) [] Tryd.f6 [] some) [.blk 0, .seqR (sel crc_Check_bd [1, 1, 1])])
noncomputable def crc_Check_L1 (kap : FuncId → List AV → Option AV) (k : Nat) (k1 : Nat) (s33 : List AV) (s34 : Int) (s35 : Int) (x8 : List AV) (m15 : List (ByteArray × AV)) : Option AV :=
  loop (fun fr K => code ((bs E0 k).cfg kap crc_Check) (sel crc_Check_bd [1, 1, 1, 1, 0, 1, 0, 0]) fr K) (canon ((bs E0 k).cfg kap crc_Check) (firstReg (sel crc_Check_bd [1, 1, 1, 1, 0, 1, 0, 0]))) k1 (mkFr 92 [(5, (.mref 15)), (8, (.own 8)), (33, (.list 1 s33)), (34, (.int .i64 s34)), (35, (.int .i64 s35))] [(8, (.row 31 x8 false)), (15, (.map m15))]) (plug ((bs E0 k).cfg kap crc_Check) (retK ((bs E0 k).cfg kap crc_Check) [] Tryd.f6 [] some) [.blk 2, .seqR (sel crc_Check_bd [1, 1, 1, 1, 1])])
theorem crc_Check_L0_s (kap : FuncId → List AV → Option AV) (k : Nat) (k0 : Nat) (s0 : List AV) (s16 : List AV) (s17 : Int) (s18 : Int) (m15 : List (ByteArray × AV)) : crc_Check_L0 kap k (k0 + 1) s0 s16 s17 s18 m15 =
  (bif (decide (s18 < s17)) then (bif ((decide ((0 : Int) ≤ s18)) && (decide (s18 < (((List.length s16) : Nat) : Int)))) then ((s16[(Int.toNat s18)]?).bind fun vy1 => (cellI .i64 (AV.cells vy1) 0 fun vn2 => (cellS (AV.cells vy1) 1 fun vs3 => (cellS (AV.cells vy1) 2 fun vs4 => (cellI .i64 (AV.cells vy1) 3 fun vn5 => (cellI .i64 (AV.cells vy1) 4 fun vn6 => (cellI .i64 (AV.cells vy1) 5 fun vn7 => (cellI .i64 (AV.cells vy1) 6 fun vn8 => (cellI .i64 (AV.cells vy1) 7 fun vn9 => (cellI .i64 (AV.cells vy1) 8 fun vn10 => (cellS (AV.cells vy1) 9 fun vs11 => (cellS (AV.cells vy1) 10 fun vs12 => (cellI .i64 (AV.cells vy1) 11 fun vn13 => (cellI .i64 (AV.cells vy1) 12 fun vn14 => (cellL 2 (AV.cells vy1) 13 fun vl15 => (cellL 1 (AV.cells vy1) 14 fun vl16 => (bif (decide (vn2 = (1 : Int))) then (crc_Check_L0 kap k k0 s0 s16 s17 (IntKind.wrap .i64 (s18 + (1 : Int))) (mapSet m15 vs3 (.list 1 vl16))) else (crc_Check_L0 kap k k0 s0 s16 s17 (IntKind.wrap .i64 (s18 + (1 : Int))) m15)))))))))))))))))) else none) else (crc_Check_L1 kap k k s0 (((List.length s0) : Nat) : Int) (0 : Int) [] m15)) := by kernel_rfl
theorem crc_Check_L1_s (kap : FuncId → List AV → Option AV) (k : Nat) (k1 : Nat) (s33 : List AV) (s34 : Int) (s35 : Int) (x8 : List AV) (m15 : List (ByteArray × AV)) : crc_Check_L1 kap k (k1 + 1) s33 s34 s35 x8 m15 =
  (bif (decide (s35 < s34)) then (bif ((decide ((0 : Int) ≤ s35)) && (decide (s35 < (((List.length s33) : Nat) : Int)))) then ((s33[(Int.toNat s35)]?).bind fun vy17 => (cellS (AV.cells vy17) 0 fun vs18 => (callT (kap crc_parse [(.str vs18)]) fun vt20 => (tupG 3 vt20 fun vg21 vt22 => (cellI .u32 vg21 0 fun vn23 => (cellI .i64 vg21 1 fun vn24 => (cellS vg21 2 fun vs25 => (tupB vt22 fun vq26 vt27 => (atNil vt27 (atList 1 (Option.getD (mapGet m15 vs25) (.list 1 [])) fun vl28 => (bif (!vq26) then (bif (decide (((List.length x8) + 1) * 16 ≤ 140737488355328) && decide (((List.length x8) + 1) ≤ 9223372036854775807)) then (crc_Check_L1 kap k k1 s33 s34 (IntKind.wrap .i64 (s35 + (1 : Int))) (x8 ++ [(.agg [(.int .i64 s35), (.int .u8 (15 : Int))])]) m15) else none) else (bif (!(Option.isSome (mapGet m15 vs25))) then (bif (decide (((List.length x8) + 1) * 16 ≤ 140737488355328) && decide (((List.length x8) + 1) ≤ 9223372036854775807)) then (crc_Check_L1 kap k k1 s33 s34 (IntKind.wrap .i64 (s35 + (1 : Int))) (x8 ++ [(.agg [(.int .i64 s35), (.int .u8 (16 : Int))])]) m15) else none) else (bif (!(decide ((((List.length vl28) : Nat) : Int) = vn24))) then (bif (decide (((List.length x8) + 1) * 16 ≤ 140737488355328) && decide (((List.length x8) + 1) ≤ 9223372036854775807)) then (crc_Check_L1 kap k k1 s33 s34 (IntKind.wrap .i64 (s35 + (1 : Int))) (x8 ++ [(.agg [(.int .i64 s35), (.int .u8 (11 : Int))])]) m15) else none) else (callI .u32 (kap crc_Sum [(.list 1 vl28)]) fun vn30 => (bif (!(decide (vn30 = vn23))) then (bif (decide (((List.length x8) + 1) * 16 ≤ 140737488355328) && decide (((List.length x8) + 1) ≤ 9223372036854775807)) then (crc_Check_L1 kap k k1 s33 s34 (IntKind.wrap .i64 (s35 + (1 : Int))) (x8 ++ [(.agg [(.int .i64 s35), (.int .u8 (4 : Int))])]) m15) else none) else (crc_Check_L1 kap k k1 s33 s34 (IntKind.wrap .i64 (s35 + (1 : Int))) x8 m15)))))))))))))))) else none) else (some (.list 2 x8))) := by kernel_rfl
theorem crc_Check_eq {E : Ext} [Core E] (k n : Nat) (a0 : List AV) (a1 : List AV) : kp E k (n + 1) crc_Check [(.list 1 a0), (.list 15 a1)] =
  (crc_Check_L0 (kp E k n) k k a0 a1 (((List.length a1) : Nat) : Int) (0 : Int) ([] : List (ByteArray × AV))) := (kp_at (by kernel_rfl)).trans (by kernel_rfl)
/- oakum/oakumref32.Check -/
theorem ref32_Check_eq {E : Ext} [Core E] (k n : Nat) (a0 : ByteArray) (a1 : List AV) : kp E k (n + 1) ref32_Check [(.str a0), (.list 15 a1)] =
  (callL 1 (kp E k n ref20_Words [(.str a0)]) fun vl2 => (bif (!(decide ((((List.length vl2) : Nat) : Int) = (3 : Int)))) then (some (.int .i64 (15 : Int))) else (bif (decide ((0 : Int) < (((List.length vl2) : Nat) : Int))) then ((vl2[0]?).bind fun vy3 => (cellS (AV.cells vy3) 0 fun vs4 => (bif (!(decide ((((ByteArray.size vs4) : Nat) : Int) = (8 : Int)))) then (some (.int .i64 (15 : Int))) else (bif (decide ((2 : Int) < (((List.length vl2) : Nat) : Int))) then ((vl2[2]?).bind fun vy5 => (cellS (AV.cells vy5) 0 fun vs6 => (bif (decide (vs6 = (str []))) then (some (.int .i64 (15 : Int))) else (bif (decide ((2 : Int) < (((List.length vl2) : Nat) : Int))) then ((vl2[2]?).bind fun vy7 => (cellS (AV.cells vy7) 0 fun vs8 => (bif (decide ((0 : Int) < (((ByteArray.size vs8) : Nat) : Int))) then (bif (!(decide ((byteAt vs8 0) = (61 : Int)))) then (some (.int .i64 (15 : Int))) else (bif (decide ((0 : Int) < (((List.length vl2) : Nat) : Int))) then ((vl2[0]?).bind fun vy9 => (cellS (AV.cells vy9) 0 fun vs10 => (callT (kp E k n ref21_Hex [(.str vs10)]) fun vt12 => (tupL 1 vt12 fun vl13 vt14 => (tupB vt14 fun vq15 vt16 => (atNil vt16 (bif (decide ((1 : Int) < (((List.length vl2) : Nat) : Int))) then ((vl2[1]?).bind fun vy17 => (cellS (AV.cells vy17) 0 fun vs18 => (callT (kp E k n ref04_Number [(.str vs18)]) fun vt20 => (tupI .i64 vt20 fun vn21 vt22 => (tupB vt22 fun vq23 vt24 => (atNil vt24 (bif (decide ((2 : Int) < (((List.length vl2) : Nat) : Int))) then ((vl2[2]?).bind fun vy25 => (cellS (AV.cells vy25) 0 fun vs26 => (bif (decide ((1 : Int) ≤ (((ByteArray.size vs26) : Nat) : Int))) then (callT (kp E k n ref02_Unquote [(.str (ByteArray.extract vs26 1 (ByteArray.size vs26)))]) fun vt28 => (tupS vt28 fun vs29 vt30 => (tupB vt30 fun vq31 vt32 => (atNil vt32 (bif (!vq15) then (some (.int .i64 (15 : Int))) else (bif (!vq23) then (some (.int .i64 (15 : Int))) else (bif (!vq31) then (some (.int .i64 (15 : Int))) else (callT (kp E k n ref32_File [(.list 15 a1), (.str vs29)]) fun vt34 => (tupL 1 vt34 fun vl35 vt36 => (tupB vt36 fun vq37 vt38 => (atNil vt38 (bif (!vq37) then (some (.int .i64 (16 : Int))) else (bif (!(decide ((((List.length vl35) : Nat) : Int) = vn21))) then (some (.int .i64 (11 : Int))) else (bif (decide ((0 : Int) < (((List.length vl13) : Nat) : Int))) then ((vl13[0]?).bind fun vy39 => (cellI .u8 (AV.cells vy39) 0 fun vn40 => (bif (decide ((1 : Int) < (((List.length vl13) : Nat) : Int))) then ((vl13[1]?).bind fun vy41 => (cellI .u8 (AV.cells vy41) 0 fun vn42 => (bif (decide ((2 : Int) < (((List.length vl13) : Nat) : Int))) then ((vl13[2]?).bind fun vy43 => (cellI .u8 (AV.cells vy43) 0 fun vn44 => (bif (decide ((3 : Int) < (((List.length vl13) : Nat) : Int))) then ((vl13[3]?).bind fun vy45 => (cellI .u8 (AV.cells vy45) 0 fun vn46 => (callI .u32 (kp E k n ref32_More [(.int .u32 (0 : Int)), (.list 1 vl35)]) fun vn48 => (bif (!(decide (vn48 = (IntKind.wrap .u32 ((IntKind.wrap .u32 ((IntKind.wrap .u32 ((IntKind.wrap .u32 ((IntKind.wrap .u32 vn40) * (16777216 : Int))) + (IntKind.wrap .u32 ((IntKind.wrap .u32 vn42) * (65536 : Int))))) + (IntKind.wrap .u32 ((IntKind.wrap .u32 vn44) * (256 : Int))))) + (IntKind.wrap .u32 vn46)))))) then (some (.int .i64 (4 : Int))) else (some (.int .i64 (0 : Int))))))) else none))) else none))) else none))) else none)))))))))))))) else none))) else none))))))) else none))))))) else none)) else none))) else none)))) else none)))) else none))) := (kp_at (by kernel_rfl)).trans (by kernel_rfl)
/- oakum/crc.Sum -/
theorem crc_Sum_eq {E : Ext} [Core E] (k n : Nat) (a0 : List AV) : kp E k (n + 1) crc_Sum [(.list 1 a0)] =
  (callI .u32 (kp E k n crc_More [(.int .u32 (0 : Int)), (.list 1 a0)]) fun vn2 => (some (.int .u32 vn2))) := (kp_at (by kernel_rfl)).trans (by kernel_rfl)
/- oakum/crc.parse -/
theorem crc_parse_eq {E : Ext} [Core E] (k n : Nat) (a0 : ByteArray) : kp E k (n + 1) crc_parse [(.str a0)] =
  (callL 1 (kp E k n strings_Split [(.str a0), (.str (str [32]))]) fun vl2 => (bif (!(decide ((((List.length vl2) : Nat) : Int) = (3 : Int)))) then (some (.tup [(.agg [(.int .u32 (0 : Int)), (.int .i64 (0 : Int)), (.str (str []))]), (.bool false)])) else (bif (decide ((0 : Int) < (((List.length vl2) : Nat) : Int))) then ((vl2[0]?).bind fun vy3 => (cellS (AV.cells vy3) 0 fun vs4 => (bif (!(decide ((((ByteArray.size vs4) : Nat) : Int) = (8 : Int)))) then (some (.tup [(.agg [(.int .u32 (0 : Int)), (.int .i64 (0 : Int)), (.str (str []))]), (.bool false)])) else (bif (decide ((0 : Int) < (((List.length vl2) : Nat) : Int))) then ((vl2[0]?).bind fun vy5 => (cellS (AV.cells vy5) 0 fun vs6 => (callB (kp E k n strings_ContainsAny [(.str vs6), (.str (str [65, 66, 67, 68, 69, 70]))]) fun vq8 => (bif vq8 then (some (.tup [(.agg [(.int .u32 (0 : Int)), (.int .i64 (0 : Int)), (.str (str []))]), (.bool false)])) else (bif (decide ((2 : Int) < (((List.length vl2) : Nat) : Int))) then ((vl2[2]?).bind fun vy9 => (cellS (AV.cells vy9) 0 fun vs10 => (callB (kp E k n strings_HasPrefix [(.str vs10), (.str (str [61]))]) fun vq12 => (bif (!vq12) then (some (.tup [(.agg [(.int .u32 (0 : Int)), (.int .i64 (0 : Int)), (.str (str []))]), (.bool false)])) else (bif (decide ((0 : Int) < (((List.length vl2) : Nat) : Int))) then ((vl2[0]?).bind fun vy13 => (cellS (AV.cells vy13) 0 fun vs14 => (callT (kp E k n strconv_ParseUint [(.str vs14), (.int .i64 (16 : Int)), (.int .i64 (32 : Int))]) fun vt16 => (tupI .u64 vt16 fun vn17 vt18 => (tupV vt18 fun vr19 vt20 => (atNil vt20 (bif (decide ((1 : Int) < (((List.length vl2) : Nat) : Int))) then ((vl2[1]?).bind fun vy21 => (cellS (AV.cells vy21) 0 fun vs22 => (callT (kp E k n dec_Number [(.str vs22)]) fun vt24 => (tupI .i64 vt24 fun vn25 vt26 => (tupI .u8 vt26 fun vn27 vt28 => (atNil vt28 (bif (decide ((2 : Int) < (((List.length vl2) : Nat) : Int))) then ((vl2[2]?).bind fun vy29 => (cellS (AV.cells vy29) 0 fun vs30 => (bif (decide ((1 : Int) ≤ (((ByteArray.size vs30) : Nat) : Int))) then (callT (kp E k n text_Unquote [(.str (ByteArray.extract vs30 1 (ByteArray.size vs30)))]) fun vt32 => (tupS vt32 fun vs33 vt34 => (tupI .u8 vt34 fun vn35 vt36 => (atNil vt36 (nilB vr19 fun q37 => (bif q37 then (bif (decide (vn27 = (0 : Int))) then (some (.tup [(.agg [(.int .u32 (IntKind.wrap .u32 vn17)), (.int .i64 vn25), (.str vs33)]), (.bool (decide (vn35 = (0 : Int))))])) else (some (.tup [(.agg [(.int .u32 (IntKind.wrap .u32 vn17)), (.int .i64 vn25), (.str vs33)]), (.bool false)]))) else (some (.tup [(.agg [(.int .u32 (IntKind.wrap .u32 vn17)), (.int .i64 vn25), (.str vs33)]), (.bool false)])))))))) else none))) else none))))))) else none))))))) else none))))) else none))))) else none)))) else none))) := (kp_at (by kernel_rfl)).trans (by kernel_rfl)
/- oakum/oakumref21.Hex -/
noncomputable def ref21_Hex_bd : Code := Tryd.f11.body.getD .skip
noncomputable def ref21_Hex_L0 (kap : FuncId → List AV → Option AV) (k : Nat) (k0 : Nat) (s0 : ByteArray) (s5 : Int) (x4 : List AV) : Option AV :=
  loop (fun fr K => code ((bs E0 k).cfg kap ref21_Hex) (sel ref21_Hex_bd [1, 1, 1, 1, 0, 1, 0, 0]) fr K) (canon ((bs E0 k).cfg kap ref21_Hex) (firstReg (sel ref21_Hex_bd [1, 1, 1, 1, 0, 1, 0, 0]))) k0 (mkFr 48 [(0, (.str s0)), (4, (.own 4)), (5, (.int .i64 s5))] [(4, (.row 5 x4 false))]) (plug ((bs E0 k).cfg kap ref21_Hex) (retK ((bs E0 k).cfg kap ref21_Hex) [] Tryd.f11 [] some) [.blk 0, .seqR (sel ref21_Hex_bd [1, 1, 1, 1, 1])])
theorem ref21_Hex_L0_s (kap : FuncId → List AV → Option AV) (k : Nat) (k0 : Nat) (s0 : ByteArray) (s5 : Int) (x4 : List AV) : ref21_Hex_L0 kap k (k0 + 1) s0 s5 x4 =
  (bif (decide (s5 < (((ByteArray.size s0) : Nat) : Int))) then (bif ((decide ((0 : Int) ≤ s5)) && (decide (s5 < (((ByteArray.size s0) : Nat) : Int)))) then (callI .i64 (kap ref21_digit [(.int .u8 (byteAt s0 (Int.toNat s5)))]) fun vn2 => (bif ((decide ((0 : Int) ≤ (IntKind.wrap .i64 (s5 + (1 : Int))))) && (decide ((IntKind.wrap .i64 (s5 + (1 : Int))) < (((ByteArray.size s0) : Nat) : Int)))) then (callI .i64 (kap ref21_digit [(.int .u8 (byteAt s0 (Int.toNat (IntKind.wrap .i64 (s5 + (1 : Int))))))]) fun vn4 => (bif (decide (vn2 < (0 : Int))) then (some (.tup [(.list 1 []), (.bool false)])) else (bif (decide (vn4 < (0 : Int))) then (some (.tup [(.list 1 []), (.bool false)])) else (bif (decide (((List.length x4) + 1) * 1 ≤ 140737488355328) && decide (((List.length x4) + 1) ≤ 9223372036854775807)) then (ref21_Hex_L0 kap k k0 s0 (IntKind.wrap .i64 (s5 + (2 : Int))) (x4 ++ [(.int .u8 (IntKind.wrap .u8 (IntKind.wrap .i64 ((IntKind.wrap .i64 ((16 : Int) * vn2)) + vn4))))])) else none)))) else none)) else none) else (some (.tup [(.list 1 x4), (.bool true)]))) := by kernel_rfl
theorem ref21_Hex_eq {E : Ext} [Core E] (k n : Nat) (a0 : ByteArray) : kp E k (n + 1) ref21_Hex [(.str a0)] =
  (bif (decide (a0 = (str [45]))) then (some (.tup [(.list 1 []), (.bool true)])) else (bif (decide (a0 = (str []))) then (some (.tup [(.list 1 []), (.bool false)])) else (bif (decide ((Int.tmod (((ByteArray.size a0) : Nat) : Int) (2 : Int)) > (0 : Int))) then (some (.tup [(.list 1 []), (.bool false)])) else (ref21_Hex_L0 (kp E k n) k k a0 (0 : Int) [])))) := (kp_at (by kernel_rfl)).trans (by kernel_rfl)
/- oakum/oakumref32.File -/
noncomputable def ref32_File_bd : Code := Tryd.f14.body.getD .skip
noncomputable def ref32_File_L0 (kap : FuncId → List AV → Option AV) (k : Nat) (k0 : Nat) (s0 : List AV) (s1 : ByteArray) (s6 : Int) : Option AV :=
  loop (fun fr K => code ((bs E0 k).cfg kap ref32_File) (sel ref32_File_bd [1, 0, 1, 0, 0]) fr K) (canon ((bs E0 k).cfg kap ref32_File) (firstReg (sel ref32_File_bd [1, 0, 1, 0, 0]))) k0 (mkFr 36 [(0, (.list 15 s0)), (1, (.str s1)), (6, (.int .i64 s6))] []) (plug ((bs E0 k).cfg kap ref32_File) (retK ((bs E0 k).cfg kap ref32_File) [] Tryd.f14 [] some) [.blk 0, .seqR (sel ref32_File_bd [1, 1])])
theorem ref32_File_L0_s (kap : FuncId → List AV → Option AV) (k : Nat) (k0 : Nat) (s0 : List AV) (s1 : ByteArray) (s6 : Int) : ref32_File_L0 kap k (k0 + 1) s0 s1 s6 =
  (bif (decide (s6 ≥ (0 : Int))) then (bif ((decide ((0 : Int) ≤ s6)) && (decide (s6 < (((List.length s0) : Nat) : Int)))) then ((s0[(Int.toNat s6)]?).bind fun vy1 => (cellI .i64 (AV.cells vy1) 0 fun vn2 => (bif (decide (vn2 = (1 : Int))) then (bif ((decide ((0 : Int) ≤ s6)) && (decide (s6 < (((List.length s0) : Nat) : Int)))) then ((s0[(Int.toNat s6)]?).bind fun vy3 => (cellS (AV.cells vy3) 1 fun vs4 => (bif (decide (vs4 = s1)) then (bif ((decide ((0 : Int) ≤ s6)) && (decide (s6 < (((List.length s0) : Nat) : Int)))) then ((s0[(Int.toNat s6)]?).bind fun vy5 => (cellL 1 (AV.cells vy5) 14 fun vl6 => (some (.tup [(.list 1 vl6), (.bool true)])))) else none) else (ref32_File_L0 kap k k0 s0 s1 (IntKind.wrap .i64 (s6 - (1 : Int))))))) else none) else (ref32_File_L0 kap k k0 s0 s1 (IntKind.wrap .i64 (s6 - (1 : Int))))))) else none) else (some (.tup [(.list 1 []), (.bool false)]))) := by kernel_rfl
theorem ref32_File_eq {E : Ext} [Core E] (k n : Nat) (a0 : List AV) (a1 : ByteArray) : kp E k (n + 1) ref32_File [(.list 15 a0), (.str a1)] =
  (ref32_File_L0 (kp E k n) k k a0 a1 (IntKind.wrap .i64 ((((List.length a0) : Nat) : Int) - (1 : Int)))) := (kp_at (by kernel_rfl)).trans (by kernel_rfl)
/- oakum/oakumref32.More -/
noncomputable def ref32_More_bd : Code := Tryd.f15.body.getD .skip
noncomputable def ref32_More_L0 (kap : FuncId → List AV → Option AV) (k : Nat) (k0 : Nat) (s1 : List AV) (s5 : Int) (s6 : Int) : Option AV :=
  loop (fun fr K => code ((bs E0 k).cfg kap ref32_More) (sel ref32_More_bd [1, 1, 0, 1, 0, 0]) fr K) (canon ((bs E0 k).cfg kap ref32_More) (firstReg (sel ref32_More_bd [1, 1, 0, 1, 0, 0]))) k0 (mkFr 40 [(1, (.list 1 s1)), (5, (.int .u64 s5)), (6, (.int .i64 s6))] []) (plug ((bs E0 k).cfg kap ref32_More) (retK ((bs E0 k).cfg kap ref32_More) [] Tryd.f15 [] some) [.blk 0, .seqR (sel ref32_More_bd [1, 1, 1])])
noncomputable def ref32_More_L1 (kap : FuncId → List AV → Option AV) (k : Nat) (k0 : Nat) (k1 : Nat) (s1 : List AV) (s5 : Int) (s6 : Int) (s7 : Int) : Option AV :=
  loop (fun fr K => code ((bs E0 k).cfg kap ref32_More) (sel ref32_More_bd [1, 1, 0, 1, 0, 0, 1, 0, 0, 1, 1, 0, 0]) fr K) (canon ((bs E0 k).cfg kap ref32_More) (firstReg (sel ref32_More_bd [1, 1, 0, 1, 0, 0, 1, 0, 0, 1, 1, 0, 0]))) k1 (mkFr 40 [(1, (.list 1 s1)), (5, (.int .u64 s5)), (6, (.int .i64 s6)), (7, (.int .i64 s7))] []) (plug ((bs E0 k).cfg kap ref32_More) (retK ((bs E0 k).cfg kap ref32_More) [] Tryd.f15 [] some) [.blk 2, .blk 1, .seqR (sel ref32_More_bd [1, 1, 0, 1, 0, 0, 1, 1]), .lp (sel ref32_More_bd [1, 1, 0, 1, 0, 0]) k0, .blk 0, .seqR (sel ref32_More_bd [1, 1, 1])])
theorem ref32_More_L0_s (kap : FuncId → List AV → Option AV) (k : Nat) (k0 : Nat) (s1 : List AV) (s5 : Int) (s6 : Int) : ref32_More_L0 kap k (k0 + 1) s1 s5 s6 =
  (bif (decide (s6 < (((List.length s1) : Nat) : Int))) then (bif ((decide ((0 : Int) ≤ s6)) && (decide (s6 < (((List.length s1) : Nat) : Int)))) then ((s1[(Int.toNat s6)]?).bind fun vy1 => (cellI .u8 (AV.cells vy1) 0 fun vn2 => (ref32_More_L1 kap k k0 k s1 (IntKind.wrap .u64 ((BitVec.ofInt (IntKind.bits .u64) s5 ^^^ BitVec.ofInt (IntKind.bits .u64) (IntKind.wrap .u64 vn2)).toNat : Int)) s6 (0 : Int)))) else none) else (some (.int .u32 (IntKind.wrap .u32 (IntKind.wrap .u64 ((4294967295 : Int) - s5)))))) := by kernel_rfl
theorem ref32_More_L1_s (kap : FuncId → List AV → Option AV) (k : Nat) (k0 : Nat) (k1 : Nat) (s1 : List AV) (s5 : Int) (s6 : Int) (s7 : Int) : ref32_More_L1 kap k k0 (k1 + 1) s1 s5 s6 s7 =
  (bif (decide (s7 < (8 : Int))) then (bif (decide ((Int.tmod s5 (2 : Int)) = (1 : Int))) then (ref32_More_L1 kap k k0 k1 s1 (IntKind.wrap .u64 ((BitVec.ofInt (IntKind.bits .u64) (IntKind.wrap .u64 (Int.tdiv s5 (2 : Int))) ^^^ BitVec.ofInt (IntKind.bits .u64) (3988292384 : Int)).toNat : Int)) s6 (IntKind.wrap .i64 (s7 + (1 : Int)))) else (ref32_More_L1 kap k k0 k1 s1 (IntKind.wrap .u64 (Int.tdiv s5 (2 : Int))) s6 (IntKind.wrap .i64 (s7 + (1 : Int))))) else (ref32_More_L0 kap k k0 s1 s5 (IntKind.wrap .i64 (s6 + (1 : Int))))) := by kernel_rfl
theorem ref32_More_eq {E : Ext} [Core E] (k n : Nat) (a0 : Int) (a1 : List AV) : kp E k (n + 1) ref32_More [(.int .u32 a0), (.list 1 a1)] =
  (ref32_More_L0 (kp E k n) k k a1 (IntKind.wrap .u64 ((4294967295 : Int) - (IntKind.wrap .u64 a0))) (0 : Int)) := (kp_at (by kernel_rfl)).trans (by kernel_rfl)
/- oakum/oakumref21.digit -/
theorem ref21_digit_eq {E : Ext} [Core E] (k n : Nat) (a0 : Int) : kp E k (n + 1) ref21_digit [(.int .u8 a0)] =
  (bif (decide (a0 ≥ (48 : Int))) then (bif (decide (a0 ≤ (57 : Int))) then (some (.int .i64 (IntKind.wrap .i64 ((IntKind.wrap .i64 a0) - (48 : Int))))) else (bif (decide (a0 ≥ (97 : Int))) then (bif (decide (a0 ≤ (102 : Int))) then (some (.int .i64 (IntKind.wrap .i64 ((IntKind.wrap .i64 a0) - (87 : Int))))) else (some (.int .i64 (-1 : Int)))) else (some (.int .i64 (-1 : Int))))) else (bif (decide (a0 ≥ (97 : Int))) then (bif (decide (a0 ≤ (102 : Int))) then (some (.int .i64 (IntKind.wrap .i64 ((IntKind.wrap .i64 a0) - (87 : Int))))) else (some (.int .i64 (-1 : Int)))) else (some (.int .i64 (-1 : Int))))) := (kp_at (by kernel_rfl)).trans (by kernel_rfl)
end Go.Proofs.YtchflhbpdnfopaaDoor.Eng.U


/- Eight digits at base 16, plain. -/
set_option linter.unusedVariables false
set_option linter.unusedSimpArgs false
namespace Go.Proofs.YtchflhbpdnfopaaDoor.Q32
open Go Go.Proofs.YtchflhbpdnfopaaDoor.S32

end Go.Proofs.YtchflhbpdnfopaaDoor.Q32


/- strings.Builder's WriteByte, and text.Quote, walked. After the library's own contracts (BuilderK). -/
set_option linter.unusedVariables false
set_option linter.unusedSimpArgs false
namespace Go.Proofs.YtchflhbpdnfopaaDoor.S02
open Go Go.RowKit Go.Proofs Go.Shelf Go.Proofs.YtchflhbpdnfopaaDoor.Eng Go.Proofs.YtchflhbpdnfopaaDoor.Eng.U

end Go.Proofs.YtchflhbpdnfopaaDoor.S02


/- text.Quote as a given function. -/
set_option linter.unusedVariables false
set_option linter.unusedSectionVars false
set_option linter.unusedSimpArgs false
namespace Go.Proofs.YtchflhbpdnfopaaDoor.Eng.U
open Go Go.RowKit Go.Proofs Go.Proofs.YtchflhbpdnfopaaDoor.Eng Go.Proofs.YtchflhbpdnfopaaDoor.S02

class HasQuote (E : Ext) : Prop where
end Go.Proofs.YtchflhbpdnfopaaDoor.Eng.U


/- Texts quoted: by the definition, in plain words. -/
set_option linter.unusedVariables false
set_option linter.unusedSectionVars false
set_option linter.unusedSimpArgs false
namespace Go.Proofs.YtchflhbpdnfopaaDoor.Eng.U
open Go Go.Proofs Go.Proofs.YtchflhbpdnfopaaDoor.Eng
variable {E : Ext} [Core E] {k n : Nat}

theorem u8w {x : Int} (h : 0 ≤ x ∧ x ≤ 255) : IntKind.wrap .u8 x = x := IntWalk.u8_in x h
theorem open_k (c : UInt8) : kp E k (n + 1) text_open [.int .u8 ((c.toNat : Nat) : Int)] = some (.bool (openB c)) := by
  rw [text_open_eq]
  have e : decide (((c.toNat : Nat) : Int) = (92 : Int)) = decide (c = 92) := byte_is c 92 (by omega)
  unfold openB
  by_cases h1 : 32 < c.toNat
  · by_cases h2 : c.toNat < 127
    · rw [bif_t (by omega), bif_t (by omega), e, decide_eq_true h1, decide_eq_true h2, Bool.true_and, Bool.true_and, decide_not]
    · rw [bif_t (by omega), bif_f (by omega), decide_eq_true h1, decide_eq_false h2]; rfl
  · rw [bif_f (by omega), decide_eq_false h1]; rfl
theorem refOpen_k (c : UInt8) : kp E k (n + 1) ref02_open [.int .u8 ((c.toNat : Nat) : Int)] = some (.bool (openB c)) := by
  rw [ref02_open_eq]
  have e : decide (((c.toNat : Nat) : Int) = (92 : Int)) = decide (c = 92) := byte_is c 92 (by omega)
  unfold openB
  by_cases h1 : 32 < c.toNat
  · by_cases h2 : c.toNat < 127
    · rw [bif_t (by omega), bif_t (by omega), e, decide_eq_true h1, decide_eq_true h2, Bool.true_and, Bool.true_and, decide_not]
    · rw [bif_t (by omega), bif_f (by omega), decide_eq_true h1, decide_eq_false h2]; rfl
  · rw [bif_f (by omega), decide_eq_false h1]; rfl
theorem digit_k (c : UInt8) : kp E k (n + 1) text_digit [.int .u8 ((c.toNat : Nat) : Int)] = some (.bool (octB c)) := by
  rw [text_digit_eq]
  unfold octB
  by_cases h1 : 48 ≤ c.toNat
  · rw [bif_t (by omega), decide_eq_true h1, Bool.true_and]
    congr 2
    rw [decide_eq_decide]; omega
  · rw [bif_f (by omega), decide_eq_false h1]; rfl
def code4 (c : UInt8) : List UInt8 := [92, UInt8.ofNat (48 + c.toNat / 64), UInt8.ofNat (48 + c.toNat / 8 % 8), UInt8.ofNat (48 + c.toNat % 8)]
theorem code_k (c : UInt8) : kp E k (n + 1) ref02_code [.int .u8 ((c.toNat : Nat) : Int)] = some (.str (str (code4 c))) := by
  have hc : c.toNat < 256 := c.toNat_lt
  rw [ref02_code_eq]
  have d1 : Int.tdiv ((c.toNat : Nat) : Int) 64 = ((c.toNat / 64 : Nat) : Int) := by rw [Int.tdiv_eq_ediv_of_nonneg (by omega)]; omega
  have d2 : Int.tdiv ((c.toNat : Nat) : Int) 8 = ((c.toNat / 8 : Nat) : Int) := by rw [Int.tdiv_eq_ediv_of_nonneg (by omega)]; omega
  have d3 : Int.tmod ((c.toNat / 8 : Nat) : Int) 8 = ((c.toNat / 8 % 8 : Nat) : Int) := by rw [Int.tmod_eq_emod_of_nonneg (by omega)]; omega
  have d4 : Int.tmod ((c.toNat : Nat) : Int) 8 = ((c.toNat % 8 : Nat) : Int) := by rw [Int.tmod_eq_emod_of_nonneg (by omega)]; omega
  rw [d1, d2, d4, u8w (x := ((c.toNat / 64 : Nat) : Int)) (by omega), u8w (x := ((c.toNat / 8 : Nat) : Int)) (by omega), d3, u8w (by omega), u8w (by omega), u8w (by omega)]
  have e : ([(.int .u8 (92 : Int)), (.int .u8 ((48 : Int) + ((c.toNat / 64 : Nat) : Int))), (.int .u8 ((48 : Int) + ((c.toNat / 8 % 8 : Nat) : Int))), (.int .u8 ((48 : Int) + ((c.toNat % 8 : Nat) : Int)))] : List AV) = (code4 c).map byteAV := by
    have b1 : (((UInt8.ofNat (48 + c.toNat / 64)).toNat : Nat) : Int) = (48 : Int) + ((c.toNat / 64 : Nat) : Int) := by rw [UInt8.toNat_ofNat']; omega
    have b2 : (((UInt8.ofNat (48 + c.toNat / 8 % 8)).toNat : Nat) : Int) = (48 : Int) + ((c.toNat / 8 % 8 : Nat) : Int) := by rw [UInt8.toNat_ofNat']; omega
    have b3 : (((UInt8.ofNat (48 + c.toNat % 8)).toNat : Nat) : Int) = (48 : Int) + ((c.toNat % 8 : Nat) : Int) := by rw [UInt8.toNat_ofNat']; omega
    rw [← b1, ← b2, ← b3]; rfl
  rw [e, toBytes_map]
  rfl
end Go.Proofs.YtchflhbpdnfopaaDoor.Eng.U


/- Texts unquoted: by the program and by the definition, in plain words. -/
set_option linter.unusedVariables false
set_option linter.unusedSectionVars false
set_option linter.unusedSimpArgs false
namespace Go.Proofs.YtchflhbpdnfopaaDoor.Eng.U
open Go Go.Proofs Go.Proofs.YtchflhbpdnfopaaDoor.Eng
variable {E : Ext} [Core E] {k n : Nat}

theorem val_all : ∀ (i : _root_.Fin 4) (j l : _root_.Fin 8), (IntKind.wrap .u8 ((BitVec.ofInt (IntKind.bits .u8) (IntKind.wrap .u8 ((BitVec.ofInt (IntKind.bits .u8) (IntKind.wrap .u8 ((IntKind.wrap .u8 ((BitVec.ofInt (IntKind.bits .u8) (((48 + i.val : Nat) : Nat) : Int) &&& BitVec.ofInt (IntKind.bits .u8) (7 : Int)).toNat : Int)) * 2 ^ (min (Int.toNat (6 : Int)) (IntKind.bits .u8)))) ||| BitVec.ofInt (IntKind.bits .u8) (IntKind.wrap .u8 ((IntKind.wrap .u8 ((BitVec.ofInt (IntKind.bits .u8) ((((48 + j.val : Nat) : Nat) : Int)) &&& BitVec.ofInt (IntKind.bits .u8) (7 : Int)).toNat : Int)) * 2 ^ (min (Int.toNat (3 : Int)) (IntKind.bits .u8))))).toNat : Int)) ||| BitVec.ofInt (IntKind.bits .u8) (IntKind.wrap .u8 ((BitVec.ofInt (IntKind.bits .u8) ((((48 + l.val : Nat) : Nat) : Int)) &&& BitVec.ofInt (IntKind.bits .u8) (7 : Int)).toNat : Int))).toNat : Int)) = (((i.val * 64 + j.val * 8 + l.val : Nat) : Nat) : Int) := by decide +kernel
theorem val_eq {a b d : UInt8} (ha : octB a = true) (ha2 : a.toNat ≤ 51) (hb : octB b = true) (hd : octB d = true) : (IntKind.wrap .u8 ((BitVec.ofInt (IntKind.bits .u8) (IntKind.wrap .u8 ((BitVec.ofInt (IntKind.bits .u8) (IntKind.wrap .u8 ((IntKind.wrap .u8 ((BitVec.ofInt (IntKind.bits .u8) ((a.toNat : Nat) : Int) &&& BitVec.ofInt (IntKind.bits .u8) (7 : Int)).toNat : Int)) * 2 ^ (min (Int.toNat (6 : Int)) (IntKind.bits .u8)))) ||| BitVec.ofInt (IntKind.bits .u8) (IntKind.wrap .u8 ((IntKind.wrap .u8 ((BitVec.ofInt (IntKind.bits .u8) (((b.toNat : Nat) : Int)) &&& BitVec.ofInt (IntKind.bits .u8) (7 : Int)).toNat : Int)) * 2 ^ (min (Int.toNat (3 : Int)) (IntKind.bits .u8))))).toNat : Int)) ||| BitVec.ofInt (IntKind.bits .u8) (IntKind.wrap .u8 ((BitVec.ofInt (IntKind.bits .u8) (((d.toNat : Nat) : Int)) &&& BitVec.ofInt (IntKind.bits .u8) (7 : Int)).toNat : Int))).toNat : Int)) = (((UInt8.ofNat (octV a b d)).toNat : Nat) : Int) := by
  simp only [octB, Bool.and_eq_true, decide_eq_true_eq] at ha hb hd
  have h := val_all ⟨a.toNat - 48, by omega⟩ ⟨b.toNat - 48, by omega⟩ ⟨d.toNat - 48, by omega⟩
  dsimp only at h
  rw [show 48 + (a.toNat - 48) = a.toNat by omega, show 48 + (b.toNat - 48) = b.toNat by omega, show 48 + (d.toNat - 48) = d.toNat by omega] at h
  rw [h, UInt8.toNat_ofNat']
  unfold octV
  omega
theorem bytes_snoc (l : List UInt8) (c : UInt8) : l.map byteAV ++ [.int .u8 ((c.toNat : Nat) : Int)] = (l ++ [c]).map byteAV := by simp [byteAV]
def ansU (acc : List UInt8) : Option (List UInt8) → AV
  | some r => .tup [.str (str (acc ++ r)), .int .u8 0]
  | none => .tup [.str (str []), .int .u8 15]
def ansR (acc : List UInt8) : Option (List UInt8) → AV
  | some r => .tup [.str (str (acc ++ r)), .bool true]
  | none => .tup [.str (str []), .bool false]
theorem ansU_map (acc : List UInt8) (c : UInt8) (o : Option (List UInt8)) : ansU acc (o.map (c :: ·)) = ansU (acc ++ [c]) o := by cases o <;> simp [ansU]
theorem ansR_map (acc : List UInt8) (c : UInt8) (o : Option (List UInt8)) : ansR acc (o.map (c :: ·)) = ansR (acc ++ [c]) o := by cases o <;> simp [ansR]
theorem tail_ext (c : UInt8) (r : List UInt8) (m : Nat) : (str (c :: r)).extract (m + 1) ((c :: r).length) = str (r.drop m) := by
  rw [str_ext, List.take_length]; rfl
theorem roomB {m : Nat} (h : m ≤ 1000000000) : (decide (m * 1 ≤ 140737488355328) && decide (m ≤ 9223372036854775807)) = true := by simp; omega
theorem unq_loop : ∀ (f : Nat) (s acc : List UInt8) (k0 : Nat), s.length < k0 → s.length ≤ f → acc.length + s.length < 1000000000 →
    text_Unquote_L0 (kp E k (n + 1)) k k0 (str s) (acc.map byteAV) = some (ansU acc (unqL f s))
  | f, [], acc, k0 + 1, h, hf, hb => by
    rw [text_Unquote_L0_s, str_size, bif_f (by simp), toBytes_map]
    cases f <;> simp [unqL, ansU]
  | f + 1, c :: r, acc, k0 + 1, h, hf, hb => by
    have hz : (str (c :: r)).size = r.length + 1 := rfl
    have b0 : byteAt (str (c :: r)) 0 = ((c.toNat : Nat) : Int) := rfl
    simp only [List.length_cons] at h hf hb
    rw [text_Unquote_L0_s, hz, bif_t (by omega), bif_t (by omega), b0, open_k, callB_ok]
    unfold unqL
    cases ho : openB c with
    | true =>
      rw [cond_true, bif_t (by omega), List.length_map, roomB (by omega), cond_true, bif_t (by omega), if_pos rfl, ansU_map, bytes_snoc]
      rw [show (str (c :: r)).extract 1 (r.length + 1) = str r from tail_ext c r 0]
      exact unq_loop f r (acc ++ [c]) k0 (by omega) (by omega) (by rw [List.length_append, List.length_singleton]; omega)
    | false =>
      have e92 : decide (((c.toNat : Nat) : Int) = (92 : Int)) = decide (c = 92) := byte_is c 92 (by omega)
      rw [cond_false, bif_t (by omega), e92, if_neg (by simp)]
      by_cases hc : c = 92
      · subst hc
        rw [show decide ((92 : UInt8) = 92) = true from rfl, Bool.not_true, cond_false]
        rcases r with _ | ⟨a, _ | ⟨b, _ | ⟨d, r⟩⟩⟩
        · rfl
        · rfl
        · rfl
        simp only [List.length_cons] at h hf hb hz ⊢
        have b1 : byteAt (str (92 :: a :: b :: d :: r)) 1 = ((a.toNat : Nat) : Int) := rfl
        have b2 : byteAt (str (92 :: a :: b :: d :: r)) 2 = ((b.toNat : Nat) : Int) := rfl
        have b3 : byteAt (str (92 :: a :: b :: d :: r)) 3 = ((d.toNat : Nat) : Int) := rfl
        rw [bif_f (by omega), bif_t (by omega), b1, b2, b3]
        show _ = some (ansU acc (match octQ a b d with | none => none | some x => (unqL f r).map (x :: ·)))
        rcases Nat.lt_or_ge 51 a.toNat with h1 | h1
        · rw [bif_t (by omega), show octQ a b d = none from by unfold octQ; rw [decide_eq_false (by omega : ¬ a.toNat ≤ 51)]; rfl]; rfl
        rw [bif_f (by omega), bif_t (by omega), digit_k, callB_ok]
        cases h2 : octB a with
        | false => rw [Bool.not_false, cond_true, show octQ a b d = none from by unfold octQ; rw [h2, Bool.and_false]; rfl]; rfl
        | true =>
        rw [Bool.not_true, cond_false, bif_t (by omega), digit_k, callB_ok]
        cases h3 : octB b with
        | false => rw [Bool.not_false, cond_true, show octQ a b d = none from by unfold octQ; rw [h3, Bool.and_false]; rfl]; rfl
        | true =>
        rw [Bool.not_true, cond_false, bif_t (by omega), digit_k, callB_ok]
        cases h4 : octB d with
        | false => rw [Bool.not_false, cond_true, show octQ a b d = none from by unfold octQ; rw [h4, Bool.and_false]; rfl]; rfl
        | true =>
        rw [Bool.not_true, cond_false, bif_t (by omega), bif_t (by omega), bif_t (by omega), val_eq h2 h1 h3 h4, open_k, callB_ok]
        have hq : octQ a b d = if (!openB (UInt8.ofNat (octV a b d))) = true then some (UInt8.ofNat (octV a b d)) else none := by
          unfold octQ; rw [decide_eq_true h1, h2, h3, h4]; rfl
        rw [hq]
        cases h5 : openB (UInt8.ofNat (octV a b d)) with
        | true => rfl
        | false =>
          rw [cond_false, List.length_map, roomB (by omega), cond_true, bif_t (by omega), Bool.not_false, if_pos rfl]
          rw [show (str (92 :: a :: b :: d :: r)).extract 4 (r.length + 1 + 1 + 1 + 1) = str r from tail_ext 92 (a :: b :: d :: r) 3, bytes_snoc]
          show _ = some (ansU acc ((unqL f r).map (_ :: ·)))
          rw [ansU_map]
          exact unq_loop f r _ k0 (by omega) (by omega) (by rw [List.length_append, List.length_singleton]; omega)
      · rw [decide_eq_false hc, Bool.not_false, cond_true]
        have : unq1 (c :: r) = none := by
          match r with
          | [] => rfl
          | [a] => rfl
          | [a, b] => rfl
          | a :: b :: d :: r => exact if_neg hc
        rw [this]; rfl
theorem unq_k (l : List UInt8) (hl : l.length < 1000000000) (hk : l.length < k) : kp E k (n + 2) text_Unquote [.str (str l)] = some (ansU [] (unqL l.length l)) := by
  rw [text_Unquote_eq]
  exact unq_loop l.length l [] k hk (Nat.le_refl _) (by simpa using hl)
end Go.Proofs.YtchflhbpdnfopaaDoor.Eng.U


/- Texts unquoted by the definition (it tries all codes), in plain words. -/
set_option linter.unusedVariables false
set_option linter.unusedSectionVars false
set_option linter.unusedSimpArgs false
namespace Go.Proofs.YtchflhbpdnfopaaDoor.Eng.U
open Go Go.Proofs Go.Proofs.YtchflhbpdnfopaaDoor.Eng
variable {E : Ext} [Core E] {k n : Nat}

def hitB (w : List UInt8) (x : UInt8) : Bool := !openB x && decide (w.take 4 = code4 x)
theorem unq1_hit {w : List UInt8} {x : UInt8} (h : hitB w x = true) : unq1 w = some x := by
  unfold hitB at h
  rw [Bool.and_eq_true, Bool.not_eq_true', decide_eq_true_eq] at h
  obtain ⟨ho, he⟩ := h
  unfold code4 at he
  rcases w with _ | ⟨c, _ | ⟨a, _ | ⟨b, _ | ⟨d, r⟩⟩⟩⟩
  · cases he
  · simp at he
  · simp at he
  · simp at he
  · simp only [List.take_succ_cons, List.take_zero, List.cons.injEq, and_true] at he
    obtain ⟨rfl, rfl, rfl, rfl⟩ := he
    show (if (92 : UInt8) = 92 then octQ _ _ _ else none) = _
    rw [if_pos rfl]
    exact octQ_code ho
theorem hit_unq1 {w : List UInt8} {x : UInt8} (h : unq1 w = some x) : hitB w x = true ∧ 4 ≤ w.length := by
  rcases w with _ | ⟨c, _ | ⟨a, _ | ⟨b, _ | ⟨d, r⟩⟩⟩⟩
  · cases h
  · cases h
  · cases h
  · cases h
  · have h' : (if c = 92 then octQ a b d else none) = some x := h
    by_cases hc : c = 92
    · subst hc
      rw [if_pos rfl] at h'
      obtain ⟨h1, h2⟩ := octQ_some h'
      rw [qByte_shut h1] at h2
      refine ⟨?_, by simp⟩
      unfold hitB
      rw [h1, Bool.not_false, Bool.true_and, decide_eq_true_eq]
      exact h2.symm
    · rw [if_neg hc] at h'; cases h'
noncomputable def after (pre w acc : List UInt8) (k k0 n : Nat) (E : Ext) : Option AV := match unq1 w with
  | none => some (.tup [.str (str []), .bool false])
  | some x => ref02_Unquote_L0 (kp E k (n + 1)) k k0 (str (pre ++ w)) (((pre.length + 4 : Nat) : Nat) : Int) ((acc ++ [x]).map byteAV)
theorem found_loop (pre w acc : List UInt8) (k0 k1 : Nat) (x : UInt8) (j : Nat) (hj : j ≤ 256) (hp : pre.length ≤ 1000000000) :
    ref02_Unquote_L1 (kp E k (n + 1)) k k0 (k1 + 1) (str (pre ++ w)) ((pre.length : Nat) : Int) true ((j : Nat) : Int) ((acc ++ [x]).map byteAV) = ref02_Unquote_L0 (kp E k (n + 1)) k k0 (str (pre ++ w)) (((pre.length + 4 : Nat) : Nat) : Int) ((acc ++ [x]).map byteAV) := by
  rw [ref02_Unquote_L1_s, i64w (x := ((pre.length : Nat) : Int) + 4) (by omega), show ((pre.length : Nat) : Int) + 4 = (((pre.length + 4 : Nat) : Nat) : Int) by omega]
  simp only [Bool.not_true, cond_false]
  cases decide (((j : Nat) : Int) < 256) <;> cases decide ((((pre.length + 4 : Nat) : Nat) : Int) ≤ ((ByteArray.size (str (pre ++ w)) : Nat) : Int)) <;> rfl
theorem code_loop (pre w acc : List UInt8) (k0 : Nat) (hp : (pre ++ w).length ≤ 1000000000) (ha : acc.length < 1000000000) : ∀ (m j k1 : Nat), m = 256 - j → j ≤ 256 → m + 1 < k1 → (∀ x : UInt8, x.toNat < j → hitB w x = false) →
    ref02_Unquote_L1 (kp E k (n + 1)) k k0 k1 (str (pre ++ w)) ((pre.length : Nat) : Int) false ((j : Nat) : Int) (acc.map byteAV) = after pre w acc k k0 n E
  | m, j, 0, _, _, h, _ => by omega
  | m, j, k1 + 1, hm, hj, hk, hn => by
    have hpl := hp
    rw [List.length_append] at hpl
    have e4 : IntKind.wrap .i64 (((pre.length : Nat) : Int) + 4) = (((pre.length + 4 : Nat) : Nat) : Int) := by rw [i64w (by omega)]; omega
    have fail : unq1 w = none → after pre w acc k k0 n E = some (.tup [.str (str []), .bool false]) := by intro h; unfold after; rw [h]
    have nohit : (∀ x : UInt8, hitB w x = false) → unq1 w = none := by
      intro h
      cases hu : unq1 w with
      | none => rfl
      | some x => have := (hit_unq1 hu).1; rw [h x] at this; cases this
    rw [ref02_Unquote_L1_s, e4, str_size]
    by_cases h1 : j < 256
    case neg =>
      rw [bif_f (by omega), Bool.not_false, cond_true, fail (nohit fun x => hn x (by have := x.toNat_lt; omega))]
    rw [bif_t (by omega)]
    by_cases h2 : pre.length + 4 ≤ (pre ++ w).length
    case neg =>
      rw [bif_f (by omega), Bool.not_false, cond_true, fail]
      cases hu : unq1 w with
      | none => rfl
      | some x => have := (hit_unq1 hu).2; rw [List.length_append] at h2; omega
    have hx : (((UInt8.ofNat j).toNat : Nat) : Int) = ((j : Nat) : Int) := by rw [UInt8.toNat_ofNat']; omega
    rw [bif_t (by omega), Bool.not_false, cond_true, u8w (by omega), ← hx, refOpen_k, callB_ok]
    have next : hitB w (UInt8.ofNat j) = false → ref02_Unquote_L1 (kp E k (n + 1)) k k0 k1 (str (pre ++ w)) ((pre.length : Nat) : Int) false (IntKind.wrap .i64 ((((UInt8.ofNat j).toNat : Nat) : Int) + 1)) (acc.map byteAV) = after pre w acc k k0 n E := by
      intro hno
      rw [hx, wrap1 (by omega)]
      refine code_loop pre w acc k0 hp ha (m - 1) (j + 1) k1 (by omega) (by omega) (by omega) fun x hlt => ?_
      by_cases he : x.toNat = j
      · rw [show x = UInt8.ofNat j from by rw [← he, UInt8.ofNat_toNat]]; exact hno
      · exact hn x (by omega)
    cases ho : openB (UInt8.ofNat j) with
    | true =>
      rw [Bool.not_true, cond_false]
      exact next (by unfold hitB; rw [ho]; rfl)
    | false =>
      have hcut : ((pre ++ w).take (pre.length + 4)).drop pre.length = w.take 4 := by
        rw [List.take_append, List.drop_append]
        simp
      rw [Bool.not_false, cond_true, inbE (by omega), cond_true, Int.toNat_natCast, Int.toNat_natCast, inbE (by omega), cond_true, code_k, callS_ok, str_ext, hcut, str_dec]
      by_cases he : w.take 4 = code4 (UInt8.ofNat j)
      · have hh : hitB w (UInt8.ofNat j) = true := by unfold hitB; rw [ho, decide_eq_true he]; rfl
        rw [decide_eq_true he, cond_true, List.length_map, roomB (by omega), cond_true, bytes_snoc, hx, wrap1 (by omega)]
        obtain ⟨k2, rfl⟩ : ∃ q, k1 = q + 1 := ⟨k1 - 1, by omega⟩
        rw [found_loop pre w acc k0 k2 (UInt8.ofNat j) (j + 1) (by omega) (by omega)]
        unfold after
        rw [unq1_hit hh]
      · rw [decide_eq_false he, cond_false]
        exact next (by unfold hitB; rw [decide_eq_false he, Bool.and_false])
theorem refUnq_loop (hk : 300 < k) : ∀ (f : Nat) (s pre acc : List UInt8) (k0 : Nat), s.length < k0 → s.length ≤ f → (pre ++ s).length < 1000000000 → acc.length + s.length < 1000000000 →
    ref02_Unquote_L0 (kp E k (n + 1)) k k0 (str (pre ++ s)) ((pre.length : Nat) : Int) (acc.map byteAV) = some (ansR acc (unqL f s))
  | f, [], pre, acc, k0 + 1, h, hf, hp, hb => by
    rw [ref02_Unquote_L0_s, str_size, bif_f (by simp), toBytes_map]
    cases f <;> simp [unqL, ansR]
  | f + 1, c :: r, pre, acc, k0 + 1, h, hf, hp, hb => by
    have hg : (pre ++ c :: r).getD pre.length 0 = c := mid_byte _ _ _
    have hp' := hp
    rw [List.length_append] at hp'
    simp only [List.length_cons] at h hf hb hp'
    rw [ref02_Unquote_L0_s, str_size, mid_len, dec0, nlt, decide_eq_true (by omega), Bool.true_and, cond_true, cond_true, Int.toNat_natCast, str_byte, hg, refOpen_k, callB_ok]
    unfold unqL
    cases ho : openB c with
    | true =>
      rw [cond_true, cond_true, List.length_map, roomB (by omega), cond_true, bytes_snoc, wrap1 (by omega), if_pos rfl, ansR_map]
      have := refUnq_loop hk f r (pre ++ [c]) (acc ++ [c]) k0 (by omega) (by omega) (by simpa using hp) (by rw [List.length_append, List.length_singleton]; omega)
      rw [List.append_assoc, List.singleton_append, List.length_append, List.length_singleton] at this
      exact this
    | false =>
      rw [cond_false, if_neg (by simp)]
      refine (code_loop pre (c :: r) acc k0 (by omega) (by omega) 256 0 k rfl (by omega) (by omega) fun x hx => by omega).trans ?_
      unfold after
      cases hu : unq1 (c :: r) with
      | none => rfl
      | some x =>
        have hl := (hit_unq1 hu).2
        simp only [List.length_cons] at hl
        dsimp only
        rw [ansR_map]
        have e : pre ++ c :: r = (pre ++ (c :: r).take 4) ++ r.drop 3 := by
          rw [List.append_assoc]
          congr 1
          exact (List.take_append_drop 4 (c :: r)).symm
        have := refUnq_loop hk f (r.drop 3) (pre ++ (c :: r).take 4) (acc ++ [x]) k0 (by rw [List.length_drop]; omega) (by rw [List.length_drop]; omega) (by rw [← e]; exact hp) (by rw [List.length_append, List.length_singleton, List.length_drop]; omega)
        rw [← e, List.length_append, List.length_take, List.length_cons, show min 4 (r.length + 1) = 4 by omega] at this
        exact this
theorem refUnq_k (l : List UInt8) (hl : l.length < 1000000000) (hk : l.length < k) (hk3 : 300 < k) : kp E k (n + 2) ref02_Unquote [.str (str l)] = some (ansR [] (unqL l.length l)) := by
  rw [ref02_Unquote_eq]
  exact refUnq_loop hk3 l.length l [] [] k hk (Nat.le_refl _) (by simpa using hl) (by simpa using hl)
end Go.Proofs.YtchflhbpdnfopaaDoor.Eng.U


/- Overlays in plain words: the order of keys, what is laid. No program. -/
set_option linter.unusedVariables false
set_option linter.unusedSimpArgs false
namespace Go.Proofs.YtchflhbpdnfopaaDoor.Eng.U
open Go Go.Proofs Go.Proofs.YtchflhbpdnfopaaDoor.Eng

theorem u8_lt_irrefl (a : UInt8) : ¬ a < a := fun h => by rw [UInt8.lt_iff_toNat_lt] at h; omega
theorem lt_irr : ∀ a : Tx, Op.bytesLess a a = false
  | [] => rfl
  | a :: x => by
    unfold Op.bytesLess
    rw [lt_irr x, decide_eq_false (u8_lt_irrefl a), Bool.and_false, Bool.or_false]
theorem lt_cons (a b : UInt8) (x y : Tx) : Op.bytesLess (a :: x) (b :: y) = true ↔ a.toNat < b.toNat ∨ a = b ∧ Op.bytesLess x y = true := by
  rw [Op.bytesLess, Bool.or_eq_true, Bool.and_eq_true, decide_eq_true_eq, beq_iff_eq, UInt8.lt_iff_toNat_lt]
theorem lt_tr : ∀ {a b c : Tx}, Op.bytesLess a b = true → Op.bytesLess b c = true → Op.bytesLess a c = true
  | _, _, [], _, h => by cases ‹Tx› <;> simp [Op.bytesLess] at h
  | [], _, _ :: _, _, _ => rfl
  | a :: x, [], c :: z, h, _ => by simp [Op.bytesLess] at h
  | a :: x, b :: y, c :: z, h1, h2 => by
    rw [lt_cons] at *
    rcases h1 with h1 | ⟨rfl, h1⟩
    · rcases h2 with h2 | ⟨rfl, h2⟩
      · left; omega
      · left; exact h1
    · rcases h2 with h2 | ⟨rfl, h2⟩
      · left; exact h2
      · right; exact ⟨rfl, lt_tr h1 h2⟩
theorem lt_tot : ∀ {a b : Tx}, Op.bytesLess a b = false → a ≠ b → Op.bytesLess b a = true
  | [], [], _, h => absurd rfl h
  | [], _ :: _, h, _ => by simp [Op.bytesLess] at h
  | _ :: _, [], _, _ => rfl
  | a :: x, b :: y, h, hn => by
    rw [lt_cons]
    have h' : ¬ (a.toNat < b.toNat ∨ a = b ∧ Op.bytesLess x y = true) := by rw [← lt_cons, h]; simp
    by_cases e : a = b
    · subst e
      right
      refine ⟨rfl, lt_tot ?_ fun e => hn (by rw [e])⟩
      cases hq : Op.bytesLess x y with
      | false => rfl
      | true => exact absurd (.inr ⟨rfl, hq⟩) h'
    · left
      have : a.toNat ≠ b.toNat := fun h => e (UInt8.toNat_inj.1 h)
      omega
theorem lt_asym {a b : Tx} (h : Op.bytesLess a b = true) : Op.bytesLess b a = false := by
  cases hq : Op.bytesLess b a with
  | false => rfl
  | true => have := lt_tr h hq; rw [lt_irr] at this; cases this
theorem not_le (a b : Tx) : (!(Op.bytesLess a b || decide (a = b))) = Op.bytesLess b a := by
  by_cases e : a = b
  · subst e; rw [decide_eq_true rfl, Bool.or_true, lt_irr]; rfl
  · rw [decide_eq_false e, Bool.or_false]
    cases h : Op.bytesLess a b with
    | true => rw [lt_asym h]; rfl
    | false => rw [lt_tot h e]; rfl

/-- Above what was ahead. -/
def gtO (a : Option Tx) (x : Tx) : Bool := match a with | none => true | some y => Op.bytesLess y x
def okSt : Option Tx → List Pair → Bool
  | _, [] => true
  | a, p :: l => gtO a p.key && decide (p.val ≠ []) && okSt (some p.key) l
end Go.Proofs.YtchflhbpdnfopaaDoor.Eng.U


/- Overlays: what both sides answer, in plain words. -/
set_option linter.unusedVariables false
set_option linter.unusedSectionVars false
set_option linter.unusedSimpArgs false
namespace Go.Proofs.YtchflhbpdnfopaaDoor.Eng.U
open Go Go.Proofs Go.Proofs.YtchflhbpdnfopaaDoor.Eng Go.Proofs.YtchflhbpdnfopaaDoor.P04
variable {E : Ext} [Core E] [HasNum E] {k n : Nat}

def overOk (l : List Pair) : Bool := okSt none l && l.all pairOk
end Go.Proofs.YtchflhbpdnfopaaDoor.Eng.U


/- ItemFulls answers true. -/
set_option linter.unusedVariables false
set_option linter.unusedSectionVars false
set_option linter.unusedSimpArgs false
namespace Go.Proofs.YtchflhbpdnfopaaDoor.Eng.U
open Go Go.Proofs Go.Proofs.YtchflhbpdnfopaaDoor.Eng Go.Proofs.YtchflhbpdnfopaaDoor.P04
variable {E : Ext} [Core E] [HasNum E] [HasText E] {k n : Nat}

end Go.Proofs.YtchflhbpdnfopaaDoor.Eng.U


/- Which field of a head is the first that isn't right: both sides. -/
set_option linter.unusedVariables false
set_option linter.unusedSectionVars false
set_option linter.unusedSimpArgs false
namespace Go.Proofs.YtchflhbpdnfopaaDoor.Eng.U
open Go Go.Proofs Go.Proofs.YtchflhbpdnfopaaDoor.Eng Go.Proofs.YtchflhbpdnfopaaDoor.P04
variable {E : Ext} [Core E] [HasNum E] {k n k0 : Nat}

def nameOk (s : List UInt8) : Bool := decide (s ≠ []) && (decide (s.length ≤ 65536) && clean s)
def plainOk (s : List UInt8) : Bool := decide (s.length ≤ 65536) && clean s
def links (h : Head) : Bool := decide (h.kind = 2) || decide (h.kind = 3)
def devs (h : Head) : Bool := decide (h.kind = 4) || decide (h.kind = 5)
def f1 (h : Head) : Bool := decide (h.kind ≥ 1) && decide (h.kind ≤ 7)
def f2 (h : Head) : Bool := nameOk h.name && !(decide (h.kind = 1) && sl h.name)
def f3 (h : Head) : Bool := bif links h then nameOk h.link else decide (h.link = [])
def f4 (h : Head) : Bool := decide (h.mode ≥ 0)
def f5 (h : Head) : Bool := decide (h.uid ≥ 0)
def f6 (h : Head) : Bool := decide (h.gid ≥ 0)
def f7 (h : Head) : Bool := decide (h.size = 0) || (decide (h.size > 0) && decide (h.kind = 1))
def f8 (h : Head) : Bool := rightT h.nano
def f10 (h : Head) : Bool := plainOk h.group
def devOk (h : Head) (v : Int) : Bool := decide (v = 0) || (decide (v > 0) && devs h)
def f11 (h : Head) : Bool := devOk h h.major
def f13 (h : Head) : Bool := overOk h.extra && h.extra.all fun p => decide (whichL p.key < 0)
def BdF (h : Head) : Prop := h.name.length ≤ 400000 ∧ h.link.length ≤ 400000 ∧ h.user.length ≤ 400000 ∧ h.group.length ≤ 400000 ∧ h.extra.length ≤ 100000 ∧ ∀ p ∈ h.extra, p.key.length ≤ 1000000 ∧ p.val.length ≤ 1000000
end Go.Proofs.YtchflhbpdnfopaaDoor.Eng.U


/- Which field of a head is the first that isn't right: the reference's side. -/
set_option linter.unusedVariables false
set_option linter.unusedSectionVars false
set_option linter.unusedSimpArgs false
namespace Go.Proofs.YtchflhbpdnfopaaDoor.Eng.U
open Go Go.Proofs Go.Proofs.YtchflhbpdnfopaaDoor.Eng Go.Proofs.YtchflhbpdnfopaaDoor.P04
variable {E : Ext} [Core E] [HasNum E] {k n k0 : Nat}

end Go.Proofs.YtchflhbpdnfopaaDoor.Eng.U


/- Which field of a head is the first that isn't right: the reference's side. -/
set_option linter.unusedVariables false
set_option linter.unusedSectionVars false
set_option linter.unusedSimpArgs false
namespace Go.Proofs.YtchflhbpdnfopaaDoor.Eng.U
open Go Go.Proofs Go.Proofs.YtchflhbpdnfopaaDoor.Eng Go.Proofs.YtchflhbpdnfopaaDoor.P04
variable {E : Ext} [Core E] [HasNum E] {k n k0 : Nat}

end Go.Proofs.YtchflhbpdnfopaaDoor.Eng.U


/- Which field of a head is the first that isn't right: the reference's side. -/
set_option linter.unusedVariables false
set_option linter.unusedSectionVars false
set_option linter.unusedSimpArgs false
namespace Go.Proofs.YtchflhbpdnfopaaDoor.Eng.U
open Go Go.Proofs Go.Proofs.YtchflhbpdnfopaaDoor.Eng Go.Proofs.YtchflhbpdnfopaaDoor.P04
variable {E : Ext} [Core E] [HasNum E] {k n k0 : Nat}

end Go.Proofs.YtchflhbpdnfopaaDoor.Eng.U


/- How many bytes pairs have together; a pair that is right. -/
set_option linter.unusedVariables false
set_option linter.unusedSimpArgs false
namespace Go.Proofs.YtchflhbpdnfopaaDoor.Eng.U
open Go Go.Proofs Go.Proofs.YtchflhbpdnfopaaDoor.Eng

def sumP : List Pair → Nat
  | [] => 0
  | p :: l => p.key.length + p.val.length + sumP l
end Go.Proofs.YtchflhbpdnfopaaDoor.Eng.U


/- The Dec laws answer true, part 2: reading, and back again. -/
set_option linter.unusedVariables false
set_option linter.unusedSectionVars false
set_option linter.unusedSimpArgs false
namespace Go.Proofs.YtchflhbpdnfopaaDoor.Eng.U
open Go Go.Proofs Go.Proofs.YtchflhbpdnfopaaDoor.Eng Go.Proofs.YtchflhbpdnfopaaDoor.P04
variable {E : Ext} [Core E] [HasNum E] {k n : Nat}

theorem w0 : IntKind.wrap .i64 0 = 0 := i64w (by omega)
end Go.Proofs.YtchflhbpdnfopaaDoor.Eng.U


/- A head's line: by the program and by the definition, in plain words. -/
set_option linter.unusedVariables false
set_option linter.unusedSectionVars false
set_option linter.unusedSimpArgs false
namespace Go.Proofs.YtchflhbpdnfopaaDoor.Eng.U
open Go Go.Proofs Go.Proofs.YtchflhbpdnfopaaDoor.Eng Go.Proofs.YtchflhbpdnfopaaDoor.P04
variable {E : Ext} [Core E] [HasNum E] {k n k0 : Nat}

class HasJn (E : Ext) : Prop where
structure Bd20 (h : Head) : Prop where
  f : BdF h
  mode : -9223372036854775808 ≤ h.mode ∧ h.mode ≤ 9223372036854775807
  uid : -9223372036854775808 ≤ h.uid ∧ h.uid ≤ 9223372036854775807
  gid : -9223372036854775808 ≤ h.gid ∧ h.gid ≤ 9223372036854775807
  size : -9223372036854775808 ≤ h.size ∧ h.size ≤ 9223372036854775807
  sec : -9223372036854775808 ≤ h.sec ∧ h.sec ≤ 9223372036854775807
  major : -9223372036854775808 ≤ h.major ∧ h.major ≤ 9223372036854775807
  minor : -9223372036854775808 ≤ h.minor ∧ h.minor ≤ 9223372036854775807
  few : h.extra.length ≤ 2000
  sum : sumP h.extra ≤ 400000
end Go.Proofs.YtchflhbpdnfopaaDoor.Eng.U


/- A head's line by the definition, in plain words. -/
set_option linter.unusedVariables false
set_option linter.unusedSectionVars false
set_option linter.unusedSimpArgs false
namespace Go.Proofs.YtchflhbpdnfopaaDoor.Eng.U
open Go Go.Proofs Go.Proofs.YtchflhbpdnfopaaDoor.Eng Go.Proofs.YtchflhbpdnfopaaDoor.P04
variable {E : Ext} [Core E] [HasNum E] {k n k0 : Nat}

end Go.Proofs.YtchflhbpdnfopaaDoor.Eng.U


/- The lines of items; whether there are many: in plain words. -/
set_option linter.unusedVariables false
set_option linter.unusedSectionVars false
set_option linter.unusedSimpArgs false
namespace Go.Proofs.YtchflhbpdnfopaaDoor.Eng.U
open Go Go.Proofs Go.Proofs.YtchflhbpdnfopaaDoor.Eng Go.Proofs.YtchflhbpdnfopaaDoor.P04
variable {E : Ext} [Core E] [HasNum E] {k n k0 : Nat}

end Go.Proofs.YtchflhbpdnfopaaDoor.Eng.U


/- Whether there are many items: in plain words. -/
set_option linter.unusedVariables false
set_option linter.unusedSectionVars false
set_option linter.unusedSimpArgs false
namespace Go.Proofs.YtchflhbpdnfopaaDoor.Eng.U
open Go Go.Proofs Go.Proofs.YtchflhbpdnfopaaDoor.Eng Go.Proofs.YtchflhbpdnfopaaDoor.P04
variable {E : Ext} [Core E] {k n k0 : Nat}

def restI (x : Item) : Nat := x.head.name.length + x.head.link.length + x.head.user.length + x.head.group.length + x.data.length
def sumI : List Item → Nat
  | [] => 0
  | x :: l => restI x + sumP x.head.extra + sumI l
theorem many1 (kap : FuncId → List AV → Option AV) (all : List Pair) (hp : ∀ p ∈ all, p.key.length ≤ 140737488351232 ∧ p.val.length ≤ 140737488351232) (hl : all.length ≤ 5000000000000) (S0 : List AV) (S4 : Int) (b0 : Int) (b1 b2 : ByteArray) (b3 b4 b5 b6 b7 b8 : Int) (b9 b10 : ByteArray) (b11 b12 : Int) :
    ∀ (suf pre : List Pair) (k1 : Nat) (s : Int), suf.length < k1 → pre ++ suf = all →
    (30 < all.length → law17_Many_L1 kap k k0 k1 S0 s S4 ((pre.length : Nat) : Int) b0 b1 b2 b3 b4 b5 b6 b7 b8 b9 b10 b11 b12 (prs all) = some (.bool true)) ∧
    (all.length ≤ 30 → ∀ m : Nat, s = (m : Int) → m + suf.length * 300000000000000 ≤ 1000000000000000000 → law17_Many_L1 kap k k0 k1 S0 s S4 ((pre.length : Nat) : Int) b0 b1 b2 b3 b4 b5 b6 b7 b8 b9 b10 b11 b12 (prs all) =
      bif decide (300000 < m + sumP suf) then some (.bool true) else law17_Many_L0 kap k k0 S0 ((m + sumP suf : Nat) : Int) (IntKind.wrap .i64 (S4 + 1)))
  | [], pre, k1 + 1, s, h, he => by
    rw [List.append_nil] at he
    subst he
    rw [law17_Many_L1_s, prs_len, bif_f (by omega)]
    refine ⟨fun h30 => by rw [bif_t (by omega)], fun h30 m hs hm => ?_⟩
    subst hs
    rw [bif_f (by omega), show decide (((m : Nat) : Int) > (300000 : Int)) = decide (300000 < m + sumP []) from by rw [decide_eq_decide]; simp only [sumP]; omega]
    rfl
  | p :: suf, pre, k1 + 1, s, h, he => by
    have hlen : all.length = pre.length + suf.length + 1 := by rw [← he, mid_len]
    obtain ⟨p1, p2⟩ := hp p (by rw [← he]; simp)
    have at1 : ∀ F : AV → Option AV, ((prs all)[pre.length]?).bind F = F (elPair p) := fun F => by rw [← he]; exact prs_mid pre suf p F
    have ih := fun s => many1 kap all hp hl S0 S4 b0 b1 b2 b3 b4 b5 b6 b7 b8 b9 b10 b11 b12 suf (pre ++ [p]) k1 s (by simpa using h) (by simpa using he)
    rw [List.length_append, List.length_singleton] at ih
    rw [law17_Many_L1_s, prs_len, bif_t (by omega), inb (by omega), cond_true, Int.toNat_natCast, at1, cells_pair, p_0, cond_true, at1, cells_pair, p_1, wrap1 (by omega), str_size, str_size]
    refine ⟨fun h30 => (ih _).1 h30, fun h30 m hs hm => ?_⟩
    subst hs
    simp only [List.length_cons] at hm
    rw [i64w (x := (m : Int) + ((p.key.length : Nat) : Int)) (by omega), i64w (by omega)]
    refine ((ih _).2 h30 (m + p.key.length + p.val.length) (by omega) (by omega)).trans ?_
    simp only [sumP, Nat.add_assoc]
theorem many0 (k : Nat) (kap : FuncId → List AV → Option AV) (l : List Item) (hg : ∀ x ∈ l, G_apiItem x) (hl : l.length ≤ 1000000000000) (hk : 5000000000000 < k) :
    ∀ (suf pre : List Item) (k0 m : Nat), suf.length < k0 → pre ++ suf = l → m ≤ 300000 →
    ∃ b, law17_Many_L0 kap k k0 (its l) ((m : Nat) : Int) ((pre.length : Nat) : Int) = some (.bool b) ∧ (b = false → l.length ≤ 12 ∧ m + sumI suf ≤ 300000 ∧ ∀ x ∈ suf, x.head.extra.length ≤ 30)
  | [], pre, k0 + 1, m, h, he, hm => by
    rw [List.append_nil] at he
    subst he
    rw [law17_Many_L0_s, its_len, bif_f (by omega)]
    refine ⟨_, rfl, fun hb => ⟨?_, by simpa [sumI] using hm, fun x hx => by cases hx⟩⟩
    rw [decide_eq_false_iff_not] at hb
    omega
  | x :: suf, pre, k0 + 1, m, h, he, hm => by
    have hlen : l.length = pre.length + suf.length + 1 := by rw [← he, mid_len]
    have gx := hg x (by rw [← he]; simp)
    have gh := gx.head
    have at1 : ∀ F : AV → Option AV, ((its l)[pre.length]?).bind F = F (elItem x) := fun F => by rw [← he]; exact its_mid pre suf x F
    have hex := gh.extra
    have g1 := gh.name
    have g2 := gh.link
    have g3 := gh.user
    have g4 := gh.group
    have g5 := gx.data
    rw [law17_Many_L0_s, its_len, bif_t (by omega), inb (by omega), cond_true, Int.toNat_natCast, at1, cells_item]
    rw [i_0, i_1, i_2, i_3, i_4, i_5, i_6, i_7, i_8, i_9, i_10, i_11, i_12, i_13, cond_true, at1, cells_item, i_14, bys_len, str_size, str_size, str_size, str_size]
    rw [i64w (x := (m : Int) + ((x.head.name.length : Nat) : Int)) (by omega), i64w (x := (m : Int) + ((x.head.name.length : Nat) : Int) + ((x.head.link.length : Nat) : Int)) (by omega), i64w (x := (m : Int) + ((x.head.name.length : Nat) : Int) + ((x.head.link.length : Nat) : Int) + ((x.head.user.length : Nat) : Int)) (by omega), i64w (x := (m : Int) + ((x.head.name.length : Nat) : Int) + ((x.head.link.length : Nat) : Int) + ((x.head.user.length : Nat) : Int) + ((x.head.group.length : Nat) : Int)) (by omega), i64w (by omega)]
    have e : ((m : Nat) : Int) + ((x.head.name.length : Nat) : Int) + ((x.head.link.length : Nat) : Int) + ((x.head.user.length : Nat) : Int) + ((x.head.group.length : Nat) : Int) + ((x.data.length : Nat) : Int) = ((m + restI x : Nat) : Int) := by unfold restI; omega
    rw [e]
    have hr : restI x ≤ 1000000000000000 := by unfold restI; omega
    obtain ⟨c1, c2⟩ := many1 (k := k) (k0 := k0) kap x.head.extra (fun p hp => ⟨(gh.pairs p hp).key, (gh.pairs p hp).val⟩) (by omega) (its l) ((pre.length : Nat) : Int) x.head.kind (str x.head.name) (str x.head.link) x.head.mode x.head.uid x.head.gid x.head.size x.head.sec x.head.nano (str x.head.user) (str x.head.group) x.head.major x.head.minor x.head.extra [] k ((m + restI x : Nat) : Int) (by omega) rfl
    by_cases h30 : 30 < x.head.extra.length
    · exact ⟨true, c1 h30, fun hb => by cases hb⟩
    · have c := c2 (by omega) (m + restI x) rfl (by omega)
      by_cases hmany : 300000 < m + restI x + sumP x.head.extra
      · rw [bif_t hmany] at c
        exact ⟨true, c, fun hb => by cases hb⟩
      · rw [bif_f hmany, wrap1 (by omega)] at c
        obtain ⟨b, hb1, hb2⟩ := many0 k kap l hg hl hk suf (pre ++ [x]) k0 (m + restI x + sumP x.head.extra) (by simpa using h) (by simpa using he) (by omega)
        rw [List.length_append, List.length_singleton] at hb1
        refine ⟨b, c.trans hb1, fun hb => ?_⟩
        obtain ⟨d1, d2, d3⟩ := hb2 hb
        refine ⟨d1, by simp only [sumI]; omega, fun y hy => ?_⟩
        rcases List.mem_cons.1 hy with rfl | hy
        · omega
        · exact d3 y hy
theorem many_k (l : List Item) (hg : G_LapiItem l) (hk : 5000000000000 < k) : ∃ b, kp E k (n + 1) law17_Many [.list 15 (its l)] = some (.bool b) ∧ (b = false → l.length ≤ 12 ∧ sumI l ≤ 300000 ∧ ∀ x ∈ l, x.head.extra.length ≤ 30) := by
  rw [law17_Many_eq]
  have hl := hg.1
  obtain ⟨b, h1, h2⟩ := many0 k (kp E k n) l hg.2 (by omega) hk l [] k 0 (by omega) rfl (by omega)
  exact ⟨b, h1, fun hb => by have := h2 hb; simpa using this⟩
theorem sumI_mem : ∀ (l : List Item) (x : Item), x ∈ l → restI x + sumP x.head.extra ≤ sumI l
  | y :: l, x, h => by
    simp only [sumI]
    rcases List.mem_cons.1 h with rfl | h
    · omega
    · have := sumI_mem l x h; omega
end Go.Proofs.YtchflhbpdnfopaaDoor.Eng.U


/- ItemWrong in plain words: it answers true. -/
set_option linter.unusedVariables false
set_option linter.unusedSectionVars false
set_option linter.unusedSimpArgs false
namespace Go.Proofs.YtchflhbpdnfopaaDoor.Eng.U
open Go Go.Proofs Go.Proofs.YtchflhbpdnfopaaDoor.Eng Go.Proofs.YtchflhbpdnfopaaDoor.P04
variable {E : Ext} [Core E] [HasNum E] {k n : Nat}

end Go.Proofs.YtchflhbpdnfopaaDoor.Eng.U


/- The line of a name and data, by the program and by the definition, in plain words. -/
set_option linter.unusedVariables false
set_option linter.unusedSectionVars false
set_option linter.unusedSimpArgs false
namespace Go.Proofs.YtchflhbpdnfopaaDoor.Eng.U
open Go Go.RowKit Go.Proofs Go.Proofs.YtchflhbpdnfopaaDoor.Eng Go.Proofs.YtchflhbpdnfopaaDoor.S32 Go.Proofs.YtchflhbpdnfopaaDoor.Q32
variable {E : Ext} [Core E] [HasNum E] [HasCrc E] {k n : Nat}

theorem nums_bd (l : Tx) : ∀ c ∈ nums l, 0 ≤ c ∧ c ≤ 255 := fun c hc => by
  obtain ⟨x, hx, rfl⟩ := List.mem_map.1 hc
  have := x.toNat_lt
  omega
theorem moreI_T (l : Tx) : moreI 0 l = T (~~~(run ((nums l).map byte) (~~~0#32))) := by
  have h := more_T 0#32 (nums l) (nums_bd l)
  unfold crc_More.f at h
  exact Option.some.inj h
/-! The definition's sum. -/
theorem xor64' (x y : Q32.B) : IntKind.wrap .u64 (((BitVec.ofInt (IntKind.bits .u64) (T x) ^^^ BitVec.ofInt (IntKind.bits .u64) (T y)).toNat : Nat) : Int) = T (x ^^^ y) := xor64 x y
theorem rm1 (kap : FuncId → List AV → Option AV) (k0 : Nat) (s1 : List AV) (s6 : Int) : ∀ (d j : Nat) (x : Q32.B) (k1 : Nat), j + d = 8 → d < k1 →
    ref32_More_L1 kap k k0 k1 s1 (T x) s6 ((j : Nat) : Int) = ref32_More_L0 kap k k0 s1 (T (stps d x)) (IntKind.wrap .i64 (s6 + 1))
  | 0, j, x, k1 + 1, hj, hk => by
    rw [ref32_More_L1_s, bif_f (by omega)]
    rfl
  | d + 1, j, x, k1 + 1, hj, hk => by
    have hb := T_bd x
    have e1 : Int.tmod (T x) 2 = T x % 2 := Int.tmod_eq_emod_of_nonneg hb.1
    have e2 : IntKind.u64.wrap (Int.tdiv (T x) 2) = T (x >>> 1) := by
      rw [Int.tdiv_eq_ediv_of_nonneg hb.1, div2]; have := T_bd (x >>> 1); exact wraps_u64 _ this.1 (by omega)
    have ih := rm1 kap k0 s1 s6 d (j + 1) (stp x) k1 (by omega) (by omega)
    rw [ref32_More_L1_s, bif_t (by omega), e1, e2, T_poly, xor64', wrap1 (by omega)]
    by_cases hl : x.getLsbD 0 = true
    · have es : stp x = (x >>> 1) ^^^ poly := by unfold stp; rw [if_pos hl]
      rw [decide_eq_true ((low x).2 hl), cond_true, ← es]
      exact ih
    · have es : stp x = (x >>> 1) := by unfold stp; rw [if_neg hl]
      rw [decide_eq_false (fun e => hl ((low x).1 e)), cond_false, ← es]
      exact ih
theorem rm0 (kap : FuncId → List AV → Option AV) (hk8 : 10 < k) : ∀ (suf pre : Tx) (x : Q32.B) (k0 : Nat), suf.length < k0 → (pre ++ suf).length < 1000000000 →
    ref32_More_L0 kap k k0 (bys (pre ++ suf)) (T x) ((pre.length : Nat) : Int) = some (.int .u32 (T (~~~(run ((nums suf).map byte) x))))
  | [], pre, x, k0 + 1, h, hb => by
    have hn := T_bd (~~~x)
    rw [ref32_More_L0_s, bys_len, List.append_nil, bif_f (by omega), not_sub, wraps_u64 _ hn.1 (by omega), wraps_u32 _ hn.1 (by omega)]
    rfl
  | c :: suf, pre, x, k0 + 1, h, hb => by
    have hm := mid_len pre suf c
    have hc := c.toNat_lt
    have ih := rm0 kap hk8 suf (pre ++ [c]) (stps 8 (x ^^^ byte ((c.toNat : Nat) : Int))) k0 (by simpa using h) (by simpa using hb)
    rw [← mid_snoc, List.length_append, List.length_singleton] at ih
    have hbt : IntKind.u64.wrap ((c.toNat : Nat) : Int) = T (byte ((c.toNat : Nat) : Int)) := by rw [wraps_u64 _ (by omega) (by omega), T_byte (by omega) (by omega)]
    rw [ref32_More_L0_s, bys_len, hm, bif_t (by omega), inb (by omega), cond_true, Int.toNat_natCast, bys_mid, byte_c, hbt, xor64']
    refine (rm1 kap k0 _ _ 8 0 _ k rfl (by omega)).trans ?_
    rw [wrap1 (by omega)]
    exact ih
theorem refMore_k (l : Tx) (hl : l.length < 1000000000) (hk : l.length < k) (hk8 : 10 < k) : kp E k (n + 1) ref32_More [.int .u32 0, .list 1 (bys l)] = some (.int .u32 (moreI 0 l)) := by
  have e0 : IntKind.wrap .u64 ((4294967295 : Int) - IntKind.wrap .u64 0) = T (~~~0#32) := by decide +kernel
  rw [ref32_More_eq, e0, moreI_T]
  exact rm0 (k := k) (kp E k n) hk8 l [] (~~~0#32) k hk (by simpa using hl)
/-! Eight digits. -/
/-! The line. -/
section
variable [HasQuote E]
end
end Go.Proofs.YtchflhbpdnfopaaDoor.Eng.U


/- Which texts hold one of the letters A to F, told exactly. -/
set_option linter.unusedVariables false
set_option linter.unusedSectionVars false
set_option linter.unusedSimpArgs false
namespace Go.Proofs.YtchflhbpdnfopaaDoor.Eng.U
open Go Go.Proofs Go.Proofs.YtchflhbpdnfopaaDoor.Eng
variable {E : Ext} [Core E] {k n : Nat}

def upS : List UInt8 := [65, 66, 67, 68, 69, 70]
def noUp (s : List UInt8) : Bool := s.all fun c => !(decide (65 ≤ c.toNat) && decide (c.toNat ≤ 70))
theorem up_rune (r : Nat) (h : r < 128) : (0 : Int) ≤ Lib.indexByte upS (IntKind.wrap .u8 (r : Int)).toNat.toUInt8 ↔ 65 ≤ r ∧ r ≤ 70 := by
  have : ∀ r : _root_.Fin 128, ((0 : Int) ≤ Lib.indexByte upS (IntKind.wrap .u8 ((r.1 : Nat) : Int)).toNat.toUInt8 ↔ 65 ≤ r.1 ∧ r.1 ≤ 70) := by decide +kernel
  exact this ⟨r, h⟩
theorem enc_last (r : Nat) (h : 128 ≤ r) : ∃ m, (Utf8.encode (r : Int)).size = m + 1 ∧ (m = 1 ∨ m = 2 ∨ m = 3) ∧ 128 ≤ byteAt (Utf8.encode (r : Int)) m := by
  unfold Utf8.encode
  dsimp only
  have hc : 128 ≤ (if Utf8.valid (r : Int) = true then Int.toNat (r : Int) else Utf8.runeError) := by
    split
    · omega
    · decide
  generalize (if Utf8.valid (r : Int) = true then Int.toNat (r : Int) else Utf8.runeError) = c at hc
  have hb : ∀ x : Nat, (128 : Int) ≤ (((UInt8.ofNat (128 + x % 64)).toNat : Nat) : Int) := fun x => by
    rw [UInt8.toNat_ofNat']
    omega
  rw [if_neg (show ¬ c < 128 by omega)]
  split
  · exact ⟨1, rfl, .inl rfl, hb c⟩
  · split
    · exact ⟨2, rfl, .inr (.inl rfl), hb c⟩
    · exact ⟨3, rfl, .inr (.inr rfl), hb c⟩
theorem up_high : ∀ (i : _root_.Fin 7) (j : _root_.Fin 128), Lib.indexByte (upS.drop i.val) (((128 + j.val : Nat) : Int)).toNat.toUInt8 = -1 := by decide +kernel
theorem up_none {x : Int} (h : 128 ≤ x) (hx : x < 256) (i : Nat) (hi : i < 7) : Lib.indexByte (upS.drop i) x.toNat.toUInt8 = -1 := by
  have := up_high ⟨i, hi⟩ ⟨(x - 128).toNat, by omega⟩
  dsimp only at this
  rwa [show (((128 + (x - 128).toNat : Nat)) : Int) = x from by omega] at this
theorem up_low : ∀ i : _root_.Fin 6, byteAt (str upS) i.val < 128 := by decide +kernel
theorem up_dec : ∀ i : _root_.Fin 6, Utf8.decode (str upS) i.val = (65 + i.val, 1) := by decide +kernel
theorem byteAt_lt (s : ByteArray) (i : Nat) : byteAt s i < 256 := by
  have := UInt8.toNat_lt (List.getD (Array.toList (ByteArray.data s)) i 0)
  unfold byteAt
  omega
theorem rune_err (kap : FuncId → List AV → Option AV) : ∀ (d i k0 : Nat), i + d = 6 → d < k0 → strings_IndexRune_L0 kap k k0 (str upS) i = some (.int .i64 (-1))
  | 0, i, k0 + 1, hi, hk => by
    have sz : (str upS).size = 6 := rfl
    rw [strings_IndexRune_L0_s, sz, bif_f (by omega)]
  | d + 1, i, k0 + 1, hi, hk => by
    have sz : (str upS).size = 6 := rfl
    have hd := up_dec ⟨i, by omega⟩
    dsimp only at hd
    rw [strings_IndexRune_L0_s, sz, bif_t (by omega), hd]
    dsimp only
    rw [bif_f (by omega)]
    exact rune_err kap d (i + 1) k0 (by omega) (by omega)
theorem rune_up [HasIB E] (r : Nat) (hk : 10 < k) : ∃ i : Int, kp E k (n + 2) strings_IndexRune [.str (str upS), .int .i32 (r : Int)] = some (.int .i64 i) ∧ (0 ≤ i ↔ 65 ≤ r ∧ r ≤ 70) := by
  rw [strings_IndexRune_eq, bif_t (by omega)]
  by_cases h1 : r < 128
  · rw [bif_t (by omega), HasIB.indexB, callI_ok]; exact ⟨_, rfl, up_rune r h1⟩
  · rw [bif_f (by omega)]
    by_cases h2 : (r : Int) = 65533
    · rw [bif_t h2, rune_err _ 6 0 k rfl (by omega)]
      exact ⟨_, rfl, by omega⟩
    · rw [bif_f h2]
      obtain ⟨b, hb⟩ := valid_B (E := E) (k := k) (n := n) (r : Int)
      rw [hb, callB_ok]
      cases b with
      | false => exact ⟨_, rfl, by omega⟩
      | true =>
        rw [Bool.not_true, cond_false]
        have sz : (str upS).size = 6 := rfl
        obtain ⟨m, e1, hm, e2⟩ := enc_last r (by omega)
        obtain ⟨k1, rfl⟩ : ∃ j, k = j + 1 := ⟨k - 1, by omega⟩
        have w1 : IntKind.wrap .i64 (((m + 1 : Nat) : Int) - 1) = ((m : Nat) : Int) := by rw [i64w (by omega)]; omega
        have hl := up_low ⟨m, by omega⟩
        dsimp only at hl
        have hx := byteAt_lt (Utf8.encode (r : Int)) m
        rw [e1, w1, strings_IndexRune_L1_s, sz, e1, bif_t (by omega), inb (by omega), cond_true, inb (by omega), cond_true, Int.toNat_natCast, decide_eq_false (show ¬ byteAt (str upS) m = byteAt (Utf8.encode (r : Int)) m by omega), Bool.not_false, cond_true, wrap1 (by omega), inbE (by omega), cond_true, Int.toNat_natCast, str_ext, HasIB.indexB]
        have e3 : (upS.take 6).drop (m + 1) = upS.drop (m + 1) := rfl
        rw [e3, up_none e2 hx (m + 1) (by omega), callI_ok, bif_t (by omega)]
        exact ⟨_, rfl, by omega⟩
theorem up_lv [HasIB E] (hk : 10 < k) (s : List UInt8) : ∀ (m k0 i : Nat), s.length - i < m → m ≤ k0 → ∃ r : Int, strings_IndexAny_L0 (kp E k (n + 2)) k k0 (str upS) (str s) i = some (.int .i64 r) ∧ (0 ≤ r ↔ ∃ j, i ≤ j ∧ j < s.length ∧ (65 ≤ by_ (str s) j ∧ by_ (str s) j ≤ 70))
  | 0, k0, i, h, _ => by omega
  | m + 1, k0 + 1, i, h, hkk => by
    rw [strings_IndexAny_L0_s, str_size]
    by_cases hi : i < s.length
    · rw [decide_eq_true hi, cond_true]
      obtain ⟨x, hx, hxi⟩ := rune_up (E := E) (k := k) (n := n) (Utf8.decode (str s) i).1 hk
      rw [hx, callI_ok]
      have hw := width_pos (str s) i
      by_cases h0 : x ≥ 0
      · rw [bif_t h0]
        refine ⟨_, rfl, by
          constructor
          · intro _
            refine ⟨i, by omega, hi, ?_⟩
            by_cases hb : by_ (str s) i < 128
            · have := dec_low (str s) i hb
              have h1 := hxi.1 h0
              rw [this] at h1
              exact h1
            · have := (dec_wide (str s) i (by omega)).1
              have h1 := hxi.1 h0
              omega
          · intro _; omega⟩
      · rw [bif_f h0]
        obtain ⟨r, hr, hri⟩ := up_lv hk s m k0 (i + (Utf8.decode (str s) i).2) (by omega) (by omega)
        refine ⟨r, hr, hri.trans ⟨fun ⟨j, a, b, c⟩ => ⟨j, by omega, b, c⟩, fun ⟨j, a, b, c⟩ => ⟨j, ?_, b, c⟩⟩⟩
        have hn : ¬ (65 ≤ (Utf8.decode (str s) i).1 ∧ (Utf8.decode (str s) i).1 ≤ 70) := fun h => h0 (hxi.2 h)
        by_cases hb : by_ (str s) i < 128
        · rw [dec_low (str s) i hb] at hn ⊢
          have hn : ¬ (65 ≤ by_ (str s) i ∧ by_ (str s) i ≤ 70) := hn
          show i + 1 ≤ j
          by_cases e : i = j
          · subst e; exact absurd c hn
          · omega
        · have hall := (dec_wide (str s) i (by omega)).2
          by_cases e : i + (Utf8.decode (str s) i).2 ≤ j
          · exact e
          · have := hall (j - i) (by omega)
            rw [show i + (j - i) = j by omega] at this
            omega
    · rw [decide_eq_false hi, cond_false]
      exact ⟨_, rfl, ⟨fun h => by omega, fun ⟨j, a, b, _⟩ => by omega⟩⟩
theorem noUp_iff (s : List UInt8) : noUp s = false ↔ ∃ j, 0 ≤ j ∧ j < s.length ∧ (65 ≤ by_ (str s) j ∧ by_ (str s) j ≤ 70) := by
  rw [noUp, List.all_eq_false]
  have e : ∀ (j : Nat) (hj : j < s.length), by_ (str s) j = (s[j]).toNat := fun j hj => by
    show ((str s).data.toList.getD j 0).toNat = _
    rw [show (str s).data.toList = s from rfl, List.getD_eq_getElem?_getD, List.getElem?_eq_getElem hj]; rfl
  constructor
  · rintro ⟨c, hc, h⟩
    obtain ⟨j, hj, rfl⟩ := List.mem_iff_getElem.1 hc
    refine ⟨j, by omega, hj, ?_⟩
    rw [e j hj]
    simpa using h
  · rintro ⟨j, _, hj, h⟩
    refine ⟨s[j], List.getElem_mem hj, ?_⟩
    rw [e j hj] at h
    simpa using h
theorem contains_up [HasIB E] (hB : E.isBase strings_IndexAny = false) (hF : E.fs.contains strings_IndexAny = true) (hk : 10 < k) (s : List UInt8) (hs : s.length ≤ 8) : kp E k (n + 4) strings_ContainsAny [.str (str s), .str (str [65, 66, 67, 68, 69, 70])] = some (.bool (!noUp s)) := by
  have sz : (str upS).size = 6 := rfl
  have he : kp E k (n + 3) strings_IndexAny [.str (str s), .str (str [65, 66, 67, 68, 69, 70])] = strings_IndexAny_L0 (kp E k (n + 2)) k k (str upS) (str s) 0 := by
    rw [strings_IndexAny_eq hB hF]
    show (bif decide (str upS = str []) then _ else _) = _
    rw [str_size, bif_f (by decide)]
    show (bif decide ((((str upS).size : Nat) : Int) = 1) then _ else _) = _
    rw [sz, bif_f (by omega), strings_shouldUseASCIISet_eq, callB_ok, bif_f (by have := str_size s; omega)]
    rfl
  obtain ⟨r, hr, h⟩ := up_lv (E := E) (n := n) hk s k k 0 (by omega) (Nat.le_refl _)
  rw [strings_ContainsAny_eq, he, hr, callI_ok]
  rw [← noUp_iff] at h
  cases hq : noUp s with
  | true => rw [hq] at h; simp only [Bool.true_eq_false, iff_false] at h; rw [decide_eq_false h]; rfl
  | false => rw [hq] at h; simp only [iff_true] at h; rw [decide_eq_true h]; rfl
end Go.Proofs.YtchflhbpdnfopaaDoor.Eng.U


/- A head out of words, by the program: in plain words. -/
set_option linter.unusedVariables false
set_option linter.unusedSectionVars false
set_option linter.unusedSimpArgs false
namespace Go.Proofs.YtchflhbpdnfopaaDoor.Eng.U
open Go Go.Proofs Go.Proofs.YtchflhbpdnfopaaDoor.Eng Go.Proofs.YtchflhbpdnfopaaDoor.P04
variable {E : Ext} [Core E] [HasNum E] {k n k0 : Nat}

def numO (w : Tx) : Option Int := if (natOk w && decide (valA 0 w ≤ 9223372036854775807)) = true then some (valA 0 w : Int) else none
theorem head_mem (l : List Tx) (M : Nat) (hl : ∀ w ∈ l, w.length ≤ M) : (l.headD []).length ≤ M := by
  cases l with
  | nil => exact Nat.zero_le _
  | cons w l => exact hl w (by simp)
theorem tail_mem (l : List Tx) (M : Nat) (hl : ∀ w ∈ l, w.length ≤ M) : ∀ w ∈ l.tail, w.length ≤ M := fun w hw => hl w (List.mem_of_mem_tail hw)
theorem num_ans (w : Tx) (hw : w.length ≤ 10000000) (hk : 100000000 < k) : kp E k (n + 3) dec_Number [.str (str w)] = some (.tup [.int .i64 ((numO w).getD 0), .int .u8 (if (numO w).isNone = true then 15 else 0)]) := by
  rw [number_k w (by omega) (by omega)]
  unfold numO
  cases natOk w && decide (valA 0 w ≤ 9223372036854775807) <;> rfl
theorem unq_ans (t : Tx) : ansU [] (unqL t.length t) = .tup [.str (str ((unqL t.length t).getD [])), .int .u8 (if (unqL t.length t).isNone = true then 15 else 0)] := by
  cases unqL t.length t <;> rfl
end Go.Proofs.YtchflhbpdnfopaaDoor.Eng.U


/- A line's head, by the program: in plain words. -/
set_option linter.unusedVariables false
set_option linter.unusedSectionVars false
set_option linter.unusedSimpArgs false
namespace Go.Proofs.YtchflhbpdnfopaaDoor.Eng.U
open Go Go.Proofs Go.Proofs.YtchflhbpdnfopaaDoor.Eng Go.Proofs.YtchflhbpdnfopaaDoor.P04
variable {E : Ext} [Core E] [HasNum E] {k n k0 : Nat}

def tl : Nat → List Tx → List Tx
  | 0, l => l
  | i + 1, l => (tl i l).tail
def W (i : Nat) (l : List Tx) : Tx := (tl i l).headD []
def numW (w : Tx) : Int := (numO w).getD 0
theorem tl_mem {M : Nat} {l : List Tx} (hl : ∀ w ∈ l, w.length ≤ M) : ∀ i, ∀ w ∈ tl i l, w.length ≤ M
  | 0 => hl
  | i + 1 => tail_mem _ _ (tl_mem hl i)
theorem tl_drop (l : List Tx) : ∀ i, tl i l = l.drop i
  | 0 => rfl
  | i + 1 => by show (tl i l).tail = _; rw [tl_drop l i, List.tail_drop]
end Go.Proofs.YtchflhbpdnfopaaDoor.Eng.U


/- What a line's words are, and that they tell the head again. -/
set_option linter.unusedVariables false
set_option linter.unusedSectionVars false
set_option linter.unusedSimpArgs false
namespace Go.Proofs.YtchflhbpdnfopaaDoor.Eng.U
open Go Go.Proofs Go.Proofs.YtchflhbpdnfopaaDoor.Eng Go.Proofs.YtchflhbpdnfopaaDoor.P04

end Go.Proofs.YtchflhbpdnfopaaDoor.Eng.U


/- Overlays in plain words, part 2: laid one by one. No program. -/
set_option linter.unusedVariables false
set_option linter.unusedSimpArgs false
namespace Go.Proofs.YtchflhbpdnfopaaDoor.Eng.U
open Go Go.Proofs Go.Proofs.YtchflhbpdnfopaaDoor.Eng

end Go.Proofs.YtchflhbpdnfopaaDoor.Eng.U


/- Overlays, the program's side: laid one by one; what is said of a head, both sides. -/
set_option linter.unusedVariables false
set_option linter.unusedSectionVars false
set_option linter.unusedSimpArgs false
namespace Go.Proofs.YtchflhbpdnfopaaDoor.Eng.U
open Go Go.Proofs Go.Proofs.YtchflhbpdnfopaaDoor.Eng Go.Proofs.YtchflhbpdnfopaaDoor.P04
variable {E : Ext} [Core E] {k n : Nat}

class HasIns (E : Ext) : Prop where
section
variable [HasIns E]
end
/-! What pairs say of a head. -/
end Go.Proofs.YtchflhbpdnfopaaDoor.Eng.U


/- What pairs say of a head: the whole, both sides; two heads that are the same. -/
set_option linter.unusedVariables false
set_option linter.unusedSectionVars false
set_option linter.unusedSimpArgs false
namespace Go.Proofs.YtchflhbpdnfopaaDoor.Eng.U
open Go Go.Proofs Go.Proofs.YtchflhbpdnfopaaDoor.Eng Go.Proofs.YtchflhbpdnfopaaDoor.P04
variable {E : Ext} [Core E] [HasNum E] {k n : Nat}

end Go.Proofs.YtchflhbpdnfopaaDoor.Eng.U


/- A head's fourteen cells, taken out of an answer. -/
set_option linter.unusedVariables false
namespace Go.Proofs.YtchflhbpdnfopaaDoor.Eng.U
open Go Go.Proofs Go.Proofs.YtchflhbpdnfopaaDoor.Eng

end Go.Proofs.YtchflhbpdnfopaaDoor.Eng.U


/- The laws of lines in plain words: TaleLines, TaleBack. -/
set_option linter.unusedVariables false
set_option linter.unusedSectionVars false
set_option linter.unusedSimpArgs false
namespace Go.Proofs.YtchflhbpdnfopaaDoor.Eng.U
open Go Go.Proofs Go.Proofs.YtchflhbpdnfopaaDoor.Eng Go.Proofs.YtchflhbpdnfopaaDoor.P04
variable {E : Ext} [Core E] [HasNum E] [HasTextV E] [HasQuote E] [HasJn E] [HasCount E] {k n k0 kk : Nat}

end Go.Proofs.YtchflhbpdnfopaaDoor.Eng.U


/- What functions answer, as the engine evaluates their code. Printed by gen2.py. -/
set_option linter.unusedVariables false
namespace Go.Proofs.YtchflhbpdnfopaaDoor.Eng.U
open Go Go.Proofs Go.Proofs.YtchflhbpdnfopaaDoor.Eng

end Go.Proofs.YtchflhbpdnfopaaDoor.Eng.U


/- Words and heads by the definition (ref20), in plain words. Written by gen/u20r.py. -/
set_option linter.unusedVariables false
set_option linter.unusedSectionVars false
set_option linter.unusedSimpArgs false
namespace Go.Proofs.YtchflhbpdnfopaaDoor.Eng.U
open Go Go.Proofs Go.Proofs.YtchflhbpdnfopaaDoor.Eng Go.Proofs.YtchflhbpdnfopaaDoor.P04
variable {E : Ext} [Core E] [HasNum E] {k n k0 kk : Nat}

def consW (cur : Tx) (ws : List Tx) : List Tx := (cur ++ ws.headD []) :: ws.tail
theorem words_loop (kap : FuncId → List AV → Option AV) (all : Tx) (hall : all.length ≤ 100000000) : ∀ (suf cur pre : Tx) (acc : List Tx) (k0 : Nat), pre ++ cur ++ suf = all → suf.length + 2 ≤ k0 → acc.length + suf.length ≤ 200000000 →
    ref20_Words_L0 kap k k0 (str all) ((pre.length : Nat) : Int) (((pre.length + cur.length : Nat)) : Int) (svs acc) = some (.list 1 (svs (acc ++ consW cur (splitL 32 suf))))
  | [], cur, pre, acc, k0 + 2, he, h, ha => by
    rw [List.append_nil] at he
    have hl : all.length = pre.length + cur.length := by rw [← he, List.length_append]
    rw [ref20_Words_L0_s, str_size, bif_t (by omega), bif_t (by omega), hl, inbE (by omega), cond_true, Int.toNat_natCast, Int.toNat_natCast, inbE (by omega), cond_true, svs_len, room16 (by simp only [List.length_nil] at ha; omega), cond_true, str_ext]
    have e : List.drop pre.length (List.take (pre.length + cur.length) all) = cur := by
      rw [← hl, List.take_length, ← he, List.drop_left]
    rw [e, svs_snoc, wrap1 (by omega), ref20_Words_L0_s, str_size, bif_f (by omega)]
    show some (AV.list 1 (svs (acc ++ [cur]))) = some (AV.list 1 (svs (acc ++ consW cur [[]])))
    unfold consW
    simp
  | c :: suf, cur, pre, acc, k0 + 1, he, h, ha => by
    have hl : all.length = pre.length + cur.length + suf.length + 1 := by rw [← he]; simp only [List.length_append, List.length_cons]; omega
    simp only [List.length_cons] at h ha
    have hb : byteAt (str all) (pre.length + cur.length) = ((c.toNat : Nat) : Int) := by
      have := mid_byte (pre ++ cur) suf c
      rw [List.length_append] at this
      rw [str_byte, ← he, this]
    have h32 : decide (((c.toNat : Nat) : Int) = 32) = decide (c = 32) := byte_is c 32 (by omega)
    rw [ref20_Words_L0_s, str_size, bif_t (by omega), bif_f (by omega), inb (by omega), cond_true, Int.toNat_natCast, hb, h32]
    by_cases hc : c = 32
    · subst hc
      have ih := words_loop kap all hall suf [] (pre ++ cur ++ [32]) (acc ++ [cur]) k0 (by rw [List.append_nil, ← he]; simp) (by omega) (by rw [List.length_append, List.length_singleton]; omega)
      rw [decide_eq_true rfl, cond_true, inbE (by omega), cond_true, Int.toNat_natCast, inbE (by omega), cond_true, svs_len, room16 (by omega), cond_true, str_ext]
      have e : List.drop pre.length (List.take (pre.length + cur.length) all) = cur := by
        rw [← he, ← List.length_append, List.append_assoc, ← List.append_assoc, List.take_left, List.drop_left]
      have e2 : (pre ++ cur ++ [32]).length = pre.length + cur.length + 1 := by simp only [List.length_append, List.length_cons, List.length_nil]
      rw [e, svs_snoc, wrap1 (by omega)]
      rw [e2, List.length_nil, Nat.add_zero] at ih
      refine ih.trans ?_
      rw [split_cons, if_pos rfl]
      have hne := split_len 32 suf
      cases hs : splitL 32 suf with
      | nil => rw [hs] at hne; simp at hne
      | cons w ws => simp [consW]
    · have ih := words_loop kap all hall suf (cur ++ [c]) pre acc k0 (by rw [← he]; simp) (by omega) (by omega)
      rw [decide_eq_false hc, cond_false, wrap1 (by omega)]
      rw [List.length_append, List.length_singleton, ← Nat.add_assoc] at ih
      refine ih.trans ?_
      rw [split_cons, if_neg hc]
      simp [consW]
theorem words_k (s : Tx) (hs : s.length ≤ 100000000) (hk : 200000000 < k) : kp E k (n + 1) ref20_Words [.str (str s)] = some (.list 1 (svs (splitL 32 s))) := by
  have := words_loop (k := k) (kp E k n) s hs s [] [] [] k rfl (by omega) (by simp; omega)
  rw [ref20_Words_eq]
  refine this.trans ?_
  have hne := split_len 32 s
  cases hs : splitL 32 s with
  | nil => rw [hs] at hne; simp at hne
  | cons w ws => simp [consW]
theorem W_at (i : Nat) (ws : List Tx) (h : i < ws.length) : ws[i]? = some (W i ws) := by
  unfold W
  rw [tl_drop, List.getElem?_eq_getElem h, ← List.getElem_cons_drop h]
  rfl
theorem at_W {β : Type} (i : Nat) (ws : List Tx) (h : i < ws.length) (K : ByteArray → Option β) : (((svs ws)[i]?).bind fun y => cellS (AV.cells y) 0 K) = K (str (W i ws)) := by
  unfold svs
  rw [List.getElem?_map, W_at i ws h]
  rfl
theorem W_mem {M : Nat} {ws : List Tx} (hw : ∀ w ∈ ws, w.length ≤ M) (i : Nat) : (W i ws).length ≤ M := head_mem _ _ (tl_mem hw i)
theorem refNum_ans (w : Tx) (hw : w.length ≤ 10000000) (hk : 100000000 < k) : kp E k (n + 3) ref04_Number [.str (str w)] = some (.tup [.int .i64 (numW w), .bool (numO w).isSome]) := by
  rw [refNumber_k w (by omega) (by omega)]
  unfold numW numO
  cases natOk w && decide (valA 0 w ≤ 9223372036854775807) <;> rfl
end Go.Proofs.YtchflhbpdnfopaaDoor.Eng.U


/- Digits at base 16: by ParseUint and by the definition, plain. -/
set_option linter.unusedVariables false
set_option linter.unusedSimpArgs false
namespace Go.Proofs.YtchflhbpdnfopaaDoor.Q32
open Go Go.Proofs.YtchflhbpdnfopaaDoor.S32

/-- The definition's digit. -/
def digR (c : UInt8) : Option Nat := if 48 ≤ c.toNat ∧ c.toNat ≤ 57 then some (c.toNat - 48) else if 97 ≤ c.toNat ∧ c.toNat ≤ 102 then some (c.toNat - 87) else none
theorem dig_all : ∀ i : _root_.Fin 256, ¬ (65 ≤ i.val ∧ i.val ≤ 70) → digC (UInt8.ofNat i.val) = digR (UInt8.ofNat i.val) := by decide +kernel
theorem dig_same (c : UInt8) (h : ¬ (65 ≤ c.toNat ∧ c.toNat ≤ 70)) : digC c = digR c := by
  have := dig_all ⟨c.toNat, c.toNat_lt⟩ h
  rwa [show UInt8.ofNat c.toNat = c from UInt8.ofNat_toNat] at this
theorem digR_lt {c : UInt8} {d : Nat} (h : digR c = some d) : d < 16 := by
  unfold digR at h
  split at h
  · cases h; omega
  · split at h
    · cases h; omega
    · cases h
/-- The definition's bytes of a word of digits. -/
def hexR : List UInt8 → Option (List Nat)
  | [] => some []
  | [_] => none
  | a :: b :: l => match digR a, digR b with
    | some x, some y => (hexR l).map fun r => (16 * x + y) :: r
    | _, _ => none
def big : Nat → List Nat → Nat
  | acc, [] => acc
  | acc, x :: l => big (acc * 256 + x) l
theorem goX_hexR : ∀ (m : Nat) (l : List UInt8), l.length = 2 * m → (∀ c ∈ l, ¬ (65 ≤ c.toNat ∧ c.toNat ≤ 70)) → ∀ acc, goX acc l = (hexR l).map (big acc)
  | 0, [], _, _, acc => rfl
  | m + 1, a :: b :: l, h, hn, acc => by
    have ih := goX_hexR m l (by simp at h; omega) (fun c hc => hn c (by simp [hc]))
    have ha := dig_same a (hn a (by simp))
    have hb := dig_same b (hn b (by simp))
    simp only [goX, hexR, ha, hb]
    cases digR a with
    | none => rfl
    | some x =>
      cases digR b with
      | none => rfl
      | some y =>
        simp only [ih]
        cases hexR l with
        | none => rfl
        | some r =>
          simp only [Option.map_some, big]
          rw [show (acc * 16 + x) * 16 + y = acc * 256 + (16 * x + y) from by omega]
  | 0, _ :: _, h, _, _ => by simp at h
  | m + 1, [], h, _, _ => by simp at h
  | m + 1, [_], h, _, _ => by simp at h; omega
end Go.Proofs.YtchflhbpdnfopaaDoor.Q32


/- A line that is checked, by the program and by the definition, in plain words. -/
set_option linter.unusedVariables false
set_option linter.unusedSectionVars false
set_option linter.unusedSimpArgs false
namespace Go.Proofs.YtchflhbpdnfopaaDoor.Eng.U
open Go Go.RowKit Go.Proofs Go.Proofs.YtchflhbpdnfopaaDoor.Eng Go.Proofs.YtchflhbpdnfopaaDoor.S32 Go.Proofs.YtchflhbpdnfopaaDoor.Q32
variable {E : Ext} [Core E] [HasNum E] [HasCrc E] [HasCount E] [HasHexP E] [HasIB E] {k n : Nat}

class HasFree (E : Ext) : Prop where
  notB : E.isBase strings_IndexAny = false
  has : E.fs.contains strings_IndexAny = true
/-! Hexadecimal words. -/
theorem hexR_up : ∀ (l : Tx) (h : List Nat), hexR l = some h → noUp l = true
  | [], _, _ => rfl
  | [_], _, e => by cases e
  | a :: b :: l, h, e => by
    have hd : ∀ (c : UInt8) (x : Nat), digR c = some x → (!(decide (65 ≤ c.toNat) && decide (c.toNat ≤ 70))) = true := fun c x hx => by
      unfold digR at hx
      simp only [Bool.not_eq_true', Bool.and_eq_false_iff, decide_eq_false_iff_not]
      split at hx
      · omega
      · split at hx
        · omega
        · cases hx
    unfold hexR at e
    cases ha : digR a with
    | none => rw [ha] at e; cases e
    | some x =>
      cases hb : digR b with
      | none => rw [ha, hb] at e; cases e
      | some y =>
        rw [ha, hb] at e
        obtain ⟨r, hr, _⟩ := Option.map_eq_some_iff.1 e
        have ih := hexR_up l r hr
        unfold noUp at ih ⊢
        rw [List.all_cons, List.all_cons, hd a x ha, hd b y hb, ih]
        rfl
theorem noUp_all {l : Tx} (h : noUp l = true) : ∀ c ∈ l, ¬ (65 ≤ c.toNat ∧ c.toNat ≤ 70) := fun c hc => by
  have := List.all_eq_true.1 h c hc
  simp only [Bool.not_eq_true', Bool.and_eq_false_iff, decide_eq_false_iff_not] at this
  omega
/-- What a line says: the sum, the size, the name. -/
def entryC (s : Tx) : Option (Int × Int × Tx) :=
  if (splitL 32 s).length = 3 ∧ (W 0 (splitL 32 s)).length = 8 ∧ (W 2 (splitL 32 s)).head? = some 61 then
    match hexR (W 0 (splitL 32 s)), numO (W 1 (splitL 32 s)), unqL ((W 2 (splitL 32 s)).drop 1).length ((W 2 (splitL 32 s)).drop 1) with
    | some h, some m, some q => some (((big 0 h : Nat) : Int), m, q)
    | _, _, _ => none
  else none
theorem prefix61 (c : Tx) : kp E k (n + 2) strings_HasPrefix [.str (str c), .str (str [61])] = some (.bool (decide (c.head? = some 61))) := by
  rw [strings_HasPrefix_eq, stringslite_HasPrefix_eq, str_size, str_size, List.length_singleton]
  cases c with
  | nil => rfl
  | cons a c =>
    rw [bif_t (by rw [List.length_cons]; omega), inbE (by rw [List.length_cons]; omega), cond_true, callB_ok, Int.toNat_natCast, str_ext, str_dec]
    congr 2
    rw [decide_eq_decide]
    simp
theorem hex4 : ∀ {l : Tx} {h : List Nat}, l.length = 8 → hexR l = some h → ∃ a b c d, h = [a, b, c, d] ∧ a < 256 ∧ b < 256 ∧ c < 256 ∧ d < 256 := by
  intro l h hl e
  match l, hl with
  | [x0, x1, x2, x3, x4, x5, x6, x7], _ =>
    simp only [hexR] at e
    cases h0 : digR x0 with
    | none => rw [h0] at e; cases e
    | some d0 => cases h1 : digR x1 with
      | none => rw [h0, h1] at e; cases e
      | some d1 => cases h2 : digR x2 with
        | none => rw [h0, h1, h2] at e; cases e
        | some d2 => cases h3 : digR x3 with
          | none => rw [h0, h1, h2, h3] at e; cases e
          | some d3 => cases h4 : digR x4 with
            | none => rw [h0, h1, h2, h3, h4] at e; cases e
            | some d4 => cases h5 : digR x5 with
              | none => rw [h0, h1, h2, h3, h4, h5] at e; cases e
              | some d5 => cases h6 : digR x6 with
                | none => rw [h0, h1, h2, h3, h4, h5, h6] at e; cases e
                | some d6 => cases h7 : digR x7 with
                  | none => rw [h0, h1, h2, h3, h4, h5, h6, h7] at e; cases e
                  | some d7 =>
                    rw [h0, h1, h2, h3, h4, h5, h6, h7] at e
                    have g0 := digR_lt h0; have g1 := digR_lt h1; have g2 := digR_lt h2; have g3 := digR_lt h3
                    have g4 := digR_lt h4; have g5 := digR_lt h5; have g6 := digR_lt h6; have g7 := digR_lt h7
                    simp only [Option.map_some, Option.some.injEq] at e
                    exact ⟨_, _, _, _, e.symm, by omega, by omega, by omega, by omega⟩
theorem split_mem {s : Tx} {M : Nat} (hs : s.length ≤ M) : ∀ w ∈ splitL 32 s, w.length ≤ M := by
  induction s generalizing M with
  | nil => intro w hw; simp [splitL] at hw; subst hw; simp
  | cons b l ih =>
    have ih := ih (M := M - 1) (by simp at hs; omega)
    have hl := split_len 32 l
    have hp : 1 ≤ M := by simp at hs; omega
    intro w hw
    rw [split_cons] at hw
    cases hsp : splitL 32 l with
    | nil => rw [hsp] at hl; simp at hl
    | cons v vs =>
      rw [hsp] at hw ih
      by_cases hb : b = 32
      · rw [if_pos hb] at hw
        rcases List.mem_cons.1 hw with rfl | hw
        · simp
        · have := ih w hw; omega
      · rw [if_neg hb] at hw
        rcases List.mem_cons.1 hw with rfl | hw
        · have := ih v (by simp); simp; omega
        · have := ih w (by simpa using Or.inr hw); omega
/-! The program's parse. -/
theorem crcParse_k [HasFree E] (s : Tx) (hs : s.length ≤ 1000000) (hk : 1000000000 < k) : ∃ (a b : Int) (c : Tx) (ok : Bool), kp E k (n + 5) crc_parse [.str (str s)] = some (.tup [.agg [.int .u32 a, .int .i64 b, .str (str c)], .bool ok]) ∧ ok = (entryC s).isSome ∧ ∀ e, entryC s = some e → e = (a, b, c) := by
  have e1 := split_k (E := E) (k := k) (n := n + 1) s 32 (by omega) (by omega)
  rw [crc_parse_eq, e1, callL_ok, svs_len]
  unfold entryC
  have hm := split_mem hs
  generalize splitL 32 s = ws at hm
  by_cases h3 : ws.length = 3
  · have hw0 := W_mem hm 0
    have hw1 := W_mem hm 1
    have hw2 := W_mem hm 2
    rw [decide_eq_true (by omega), Bool.not_true, cond_false, bif_t (by omega), at_W 0 ws (by omega), str_size]
    by_cases h8 : (W 0 ws).length = 8
    · have e2 := contains_up (E := E) (n := n) (HasFree.notB) (HasFree.has) (by omega : 10 < k) (W 0 ws) (by omega)
      rw [decide_eq_true (by omega), Bool.not_true, cond_false, bif_t (by omega), at_W 0 ws (by omega), e2, callB_ok]
      cases hu : noUp (W 0 ws) with
      | false =>
        refine ⟨0, 0, [], false, rfl, ?_⟩
        have hx : hexR (W 0 ws) = none := by
          cases hh : hexR (W 0 ws) with
          | none => rfl
          | some h => rw [hexR_up _ _ hh] at hu; cases hu
        by_cases hc : ws.length = 3 ∧ (W 0 ws).length = 8 ∧ (W 2 ws).head? = some 61
        · rw [if_pos hc, hx]; exact ⟨rfl, fun e h => by cases h⟩
        · rw [if_neg hc]; exact ⟨rfl, fun e h => by cases h⟩
      | true =>
        have e3 := prefix61 (E := E) (k := k) (n := n + 2) (W 2 ws)
        rw [Bool.not_true, cond_false, bif_t (by omega), at_W 2 ws (by omega), e3, callB_ok]
        by_cases h61 : (W 2 ws).head? = some 61
        · have hlen : 1 ≤ (W 2 ws).length := by
            cases hw : W 2 ws with
            | nil => rw [hw] at h61; cases h61
            | cons x l => simp
          have e4 := HasHexP.parse (E := E) k (n + 4) (W 0 ws) h8
          rw [goX_hexR 4 _ h8 (noUp_all hu) 0] at e4
          have e5 := num_ans (E := E) (k := k) (n := n + 1) (W 1 ws) (by omega) (by omega)
          have e6 := unq_k (E := E) (k := k) (n := n + 2) ((W 2 ws).drop 1) (by rw [List.length_drop]; omega) (by rw [List.length_drop]; omega)
          rw [unq_ans] at e6
          have hcut : (str (W 2 ws)).extract 1 ((W 2 ws).length) = str ((W 2 ws).drop 1) := by rw [str_ext, List.take_length]
          rw [decide_eq_true h61, Bool.not_true, cond_false, bif_t (by omega), at_W 0 ws (by omega), e4]
          rw [if_pos ⟨h3, h8, h61⟩]
          cases hh : hexR (W 0 ws) with
          | none =>
            refine ⟨0, (numO (W 1 ws)).getD 0, (unqL ((W 2 ws).drop 1).length ((W 2 ws).drop 1)).getD [], false, ?_, rfl, fun e h => by cases h⟩
            show callT (some (.tup [.int .u64 0, .ifc])) _ = _
            rw [callT_ok, tupI_ok]
            show (bif decide ((1 : Int) < ((ws.length : Nat) : Int)) then _ else none) = _
            rw [bif_t (by omega), at_W 1 ws (by omega), e5, callT_ok, tupI_ok, tupI_ok, atNil_ok, bif_t (by omega), at_W 2 ws (by omega), str_size, bif_t (by omega), hcut, e6, callT_ok, tupS_ok, tupI_ok, atNil_ok]
            rfl
          | some h =>
            have hbig : 0 ≤ ((big 0 h : Nat) : Int) ∧ ((big 0 h : Nat) : Int) < 4294967296 := by
              obtain ⟨a, b, c, d, rfl, _, _, _, _⟩ := hex4 h8 hh
              simp only [big]
              omega
            have hwr : IntKind.wrap .u32 ((big 0 h : Nat) : Int) = ((big 0 h : Nat) : Int) := wraps_u32 _ hbig.1 (by omega)
            have hres : ∀ (q : AV), (callT (some (.tup [.int .u64 ((big 0 h : Nat) : Int), .nili])) fun vt16 => (tupI .u64 vt16 fun vn17 vt18 => (tupV vt18 fun vr19 vt20 => (atNil vt20 (some q))))) = some q := fun q => by
              rw [callT_ok, tupI_ok]; rfl
            refine ⟨((big 0 h : Nat) : Int), (numO (W 1 ws)).getD 0, (unqL ((W 2 ws).drop 1).length ((W 2 ws).drop 1)).getD [], (numO (W 1 ws)).isSome && (unqL ((W 2 ws).drop 1).length ((W 2 ws).drop 1)).isSome, ?_, ?_, ?_⟩
            · show callT (some (.tup [.int .u64 ((big 0 h : Nat) : Int), .nili])) _ = _
              rw [callT_ok, tupI_ok]
              show (bif decide ((1 : Int) < ((ws.length : Nat) : Int)) then _ else none) = _
              rw [bif_t (by omega), at_W 1 ws (by omega), e5, callT_ok, tupI_ok, tupI_ok, atNil_ok, bif_t (by omega), at_W 2 ws (by omega), str_size, bif_t (by omega), hcut, e6, callT_ok, tupS_ok, tupI_ok, atNil_ok, hwr]
              rw [show ∀ F : Bool → Option AV, nilB AV.nili F = F true from fun _ => rfl, cond_true]
              cases numO (W 1 ws) with
              | none => rfl
              | some m => cases unqL ((W 2 ws).drop 1).length ((W 2 ws).drop 1) <;> rfl
            · cases numO (W 1 ws) with
              | none => rfl
              | some m => cases unqL ((W 2 ws).drop 1).length ((W 2 ws).drop 1) <;> rfl
            · intro e he
              cases hn : numO (W 1 ws) with
              | none => rw [hn] at he; cases he
              | some m =>
                cases hq : unqL ((W 2 ws).drop 1).length ((W 2 ws).drop 1) with
                | none => rw [hn, hq] at he; cases he
                | some q => rw [hn, hq] at he; cases he; rfl
        · rw [decide_eq_false h61, Bool.not_false, cond_true]
          refine ⟨0, 0, [], false, rfl, ?_⟩
          rw [if_neg (fun h => h61 h.2.2)]
          exact ⟨rfl, fun e h => by cases h⟩
    · rw [decide_eq_false (by omega), Bool.not_false, cond_true]
      refine ⟨0, 0, [], false, rfl, ?_⟩
      rw [if_neg (fun h => h8 h.2.1)]
      exact ⟨rfl, fun e h => by cases h⟩
  · rw [decide_eq_false (by omega), Bool.not_false, cond_true]
    refine ⟨0, 0, [], false, rfl, ?_⟩
    rw [if_neg (fun h => h3 h.1)]
    exact ⟨rfl, fun e h => by cases h⟩
end Go.Proofs.YtchflhbpdnfopaaDoor.Eng.U


/- The definition's check and the program's, line for line; CrcChecks answers true. -/
set_option linter.unusedVariables false
set_option linter.unusedSectionVars false
set_option linter.unusedSimpArgs false
namespace Go.Proofs.YtchflhbpdnfopaaDoor.Eng.U
open Go Go.RowKit Go.Proofs Go.Proofs.YtchflhbpdnfopaaDoor.Eng Go.Proofs.YtchflhbpdnfopaaDoor.S32 Go.Proofs.YtchflhbpdnfopaaDoor.Q32
variable {E : Ext} [Core E] [HasNum E] [HasCrc E] [HasCount E] [HasHexP E] [HasIB E] [HasFree E] {k n : Nat}

/-! The definition's bytes of a word. -/
def u8v (m : Nat) : AV := .int .u8 ((m : Nat) : Int)
def hexA (acc : List Nat) : Option (List Nat) → AV
  | some h => .tup [.list 1 ((acc ++ h).map u8v), .bool true]
  | none => .tup [.list 1 [], .bool false]
def digV : Option Nat → Int
  | some d => ((d : Nat) : Int)
  | none => -1
theorem digit21 (c : UInt8) : kp E k (n + 1) ref21_digit [.int .u8 ((c.toNat : Nat) : Int)] = some (.int .i64 (digV (digR c))) := by
  have hc := c.toNat_lt
  have w0 : IntKind.wrap .i64 ((c.toNat : Nat) : Int) = ((c.toNat : Nat) : Int) := i64w (by omega)
  rw [ref21_digit_eq, w0]
  unfold digR
  by_cases h1 : 48 ≤ c.toNat
  · rw [bif_t (by omega)]
    by_cases h2 : c.toNat ≤ 57
    · rw [bif_t (by omega), if_pos ⟨h1, h2⟩, i64w (x := ((c.toNat : Nat) : Int) - 48) (by omega)]
      show some (AV.int .i64 (((c.toNat : Nat) : Int) - 48)) = some (AV.int .i64 (((c.toNat - 48 : Nat)) : Int))
      rw [show ((c.toNat : Nat) : Int) - 48 = ((c.toNat - 48 : Nat) : Int) from by omega]
    · rw [bif_f (by omega), if_neg (by omega)]
      by_cases h3 : 97 ≤ c.toNat
      · rw [bif_t (by omega)]
        by_cases h4 : c.toNat ≤ 102
        · rw [bif_t (by omega), if_pos ⟨h3, h4⟩, i64w (x := ((c.toNat : Nat) : Int) - 87) (by omega)]
          show some (AV.int .i64 (((c.toNat : Nat) : Int) - 87)) = some (AV.int .i64 (((c.toNat - 87 : Nat)) : Int))
          rw [show ((c.toNat : Nat) : Int) - 87 = ((c.toNat - 87 : Nat) : Int) from by omega]
        · rw [bif_f (by omega), if_neg (by omega)]; rfl
      · rw [bif_f (by omega), if_neg (by omega)]; rfl
  · rw [bif_f (by omega), if_neg (by omega), if_neg (by omega), bif_f (by omega)]; rfl
theorem hex_loop : ∀ (m : Nat) (suf pre : Tx) (acc : List Nat) (k0 : Nat), suf.length = 2 * m → m < k0 → (pre ++ suf).length ≤ 1000 → acc.length ≤ pre.length →
    ref21_Hex_L0 (kp E k (n + 1)) k k0 (str (pre ++ suf)) ((pre.length : Nat) : Int) (acc.map u8v) = some (hexA acc (hexR suf))
  | 0, [], pre, acc, k0 + 1, hl, hk, hb, ha => by
    rw [ref21_Hex_L0_s, str_size, List.append_nil, bif_f (by omega)]
    simp [hexR, hexA]
  | m + 1, a :: b :: suf, pre, acc, k0 + 1, hl, hk, hb, ha => by
    have hz : (pre ++ a :: b :: suf).length = pre.length + suf.length + 2 := by simp; omega
    have b0 : byteAt (str (pre ++ a :: b :: suf)) pre.length = ((a.toNat : Nat) : Int) := by rw [str_byte, mid_byte]
    have b1 : byteAt (str (pre ++ a :: b :: suf)) (pre.length + 1) = ((b.toNat : Nat) : Int) := by
      have h := mid_byte (pre ++ [a]) suf b
      rw [List.length_append, List.length_singleton, List.append_assoc, List.singleton_append] at h
      rw [str_byte, h]
    have da := digit21 (E := E) (k := k) (n := n) a
    have db := digit21 (E := E) (k := k) (n := n) b
    rw [ref21_Hex_L0_s, str_size, hz, bif_t (by omega), inb (by omega), cond_true, Int.toNat_natCast, b0, da, callI_ok, wrap1 (by omega), inb (by omega), cond_true, Int.toNat_natCast, b1, db, callI_ok]
    unfold hexR
    cases ha' : digR a with
    | none =>
      rw [show digV none = -1 from rfl, bif_t (by omega)]; rfl
    | some x =>
      cases hb' : digR b with
      | none => rw [show digV none = -1 from rfl, show digV (some x) = ((x : Nat) : Int) from rfl, bif_f (by omega), bif_t (by omega)]; rfl
      | some y =>
        have hx := digR_lt ha'
        have hy := digR_lt hb'
        have ih := hex_loop m suf (pre ++ [a, b]) (acc ++ [16 * x + y]) k0 (by simp at hl; omega) (by omega) (by rw [List.append_assoc]; exact hb) (by simp; omega)
        rw [show digV (some x) = ((x : Nat) : Int) from rfl, show digV (some y) = ((y : Nat) : Int) from rfl, bif_f (by omega), bif_f (by omega), List.length_map]
        have hroom : (decide ((acc.length + 1) * 1 ≤ 140737488355328) && decide ((acc.length + 1) ≤ 9223372036854775807)) = true := by simp; simp at hb; omega
        have hv : IntKind.wrap .u8 (IntKind.wrap .i64 (IntKind.wrap .i64 ((16 : Int) * ((x : Nat) : Int)) + ((y : Nat) : Int))) = ((16 * x + y : Nat) : Int) := by
          rw [i64w (x := (16 : Int) * ((x : Nat) : Int)) (by omega), i64w (by omega), IntKind.wrap_u8]; omega
        have h2 : IntKind.wrap .i64 (((pre.length : Nat) : Int) + 2) = (((pre ++ [a, b]).length : Nat) : Int) := by rw [i64w (by omega)]; simp
        have e1 : acc.map u8v ++ [AV.int .u8 (((16 * x + y : Nat)) : Int)] = (acc ++ [16 * x + y]).map u8v := by simp [u8v]
        rw [hroom, cond_true, hv, h2, e1]
        rw [List.append_assoc, List.cons_append, List.cons_append, List.nil_append] at ih
        refine ih.trans ?_
        simp only
        cases hexR suf with
        | none => rfl
        | some h => simp [hexA]
  | 0, _ :: _, _, _, _, hl, _, _, _ => by simp at hl
  | m + 1, [], _, _, _, hl, _, _, _ => by simp at hl
  | m + 1, [_], _, _, _, hl, _, _, _ => by simp at hl; omega
theorem refHex_k (w : Tx) (hw : w.length = 8) (hk : 10 < k) : kp E k (n + 2) ref21_Hex [.str (str w)] = some (hexA [] (hexR w)) := by
  have h := hex_loop (E := E) (k := k) (n := n) 4 w [] [] k hw (by omega) (by simp; omega) (by simp)
  have h1 : ¬ str w = str [45] := fun e => by rw [str_inj] at e; rw [e] at hw; simp at hw
  have h2 : ¬ str w = str [] := fun e => by rw [str_inj] at e; rw [e] at hw; simp at hw
  rw [ref21_Hex_eq, bif_f h1, bif_f h2, str_size, hw, bif_f (by decide)]
  exact h
/-! The last File of a name. -/
def fileO : List Item → Tx → Option Tx
  | [], _ => none
  | x :: l, q => match fileO l q with
    | some d => some d
    | none => if x.head.kind = 1 ∧ x.head.name = q then some x.data else none
theorem file_snoc (x : Item) (q : Tx) : ∀ l : List Item, fileO (l ++ [x]) q = if x.head.kind = 1 ∧ x.head.name = q then some x.data else fileO l q
  | [] => rfl
  | y :: l => by
    have ih := file_snoc x q l
    rw [List.cons_append]
    unfold fileO
    rw [ih]
    by_cases h : x.head.kind = 1 ∧ x.head.name = q
    · rw [if_pos h, if_pos h]
    · rw [if_neg h, if_neg h]
theorem file_mem {q d : Tx} : ∀ {l : List Item}, fileO l q = some d → ∃ x ∈ l, d = x.data
  | [], h => by cases h
  | y :: l, h => by
    unfold fileO at h
    cases hl : fileO l q with
    | some e =>
      rw [hl] at h
      cases h
      obtain ⟨x, hx, e⟩ := file_mem hl
      exact ⟨x, by simp [hx], e⟩
    | none =>
      rw [hl] at h
      simp only at h
      split at h
      · cases h; exact ⟨y, by simp, rfl⟩
      · cases h
def fileA : Option Tx → AV
  | some d => .tup [.list 1 (bys d), .bool true]
  | none => .tup [.list 1 [], .bool false]
theorem file_loop (kap : FuncId → List AV → Option AV) (q : Tx) : ∀ (m : Nat) (pre suf : List Item) (k0 : Nat), pre.length = m → m < k0 → (pre ++ suf).length ≤ 1000 →
    ref32_File_L0 kap k k0 (its (pre ++ suf)) (str q) (((m : Nat) : Int) - 1) = some (fileA (fileO pre q))
  | 0, pre, suf, k0 + 1, hm, hk, hb => by
    have hp : pre = [] := List.eq_nil_of_length_eq_zero hm
    subst hp
    rw [ref32_File_L0_s, bif_f (by omega)]
    rfl
  | m + 1, pre, suf, k0 + 1, hm, hk, hb => by
    rcases List.eq_nil_or_concat pre with rfl | ⟨pre, x, rfl⟩
    · simp at hm
    · rw [List.concat_eq_append] at *
      have hm : pre.length = m := by simpa using hm
      have ih := file_loop kap q m pre (x :: suf) k0 hm (by omega) (by simpa using hb)
      have hz : (pre ++ [x] ++ suf).length = m + suf.length + 1 := by simp; omega
      have hi : (((m + 1 : Nat) : Int) - 1) = ((pre.length : Nat) : Int) := by omega
      have hw : IntKind.wrap .i64 (((pre.length : Nat) : Int) - 1) = ((m : Nat) : Int) - 1 := by simp at hb; rw [i64w (by omega)]; omega
      have hl : pre ++ [x] ++ suf = pre ++ x :: suf := by simp
      have hg : ∀ F : AV → Option AV, ((its (pre ++ x :: suf))[pre.length]?).bind F = F (elItem x) := fun F => its_mid _ _ _ _
      rw [hl] at hz ⊢
      rw [file_snoc, ref32_File_L0_s, hi, its_len, hz, bif_t (by omega), inb (by omega), cond_true, Int.toNat_natCast, hg, cells_item, i_0, cond_true, hg, cells_item, i_1, hw, str_dec]
      by_cases h1 : x.head.kind = 1
      · rw [bif_t h1]
        by_cases h2 : x.head.name = q
        · rw [bif_t h2, if_pos ⟨h1, h2⟩, cond_true, hg, cells_item, i_14]; rfl
        · rw [bif_f h2, if_neg (fun h => h2 h.2)]; exact ih
      · rw [bif_f h1, if_neg (fun h => h1 h.1)]; exact ih
theorem refFile_k (l : List Item) (q : Tx) (hl : l.length ≤ 12) (hk : 1000 < k) : kp E k (n + 1) ref32_File [.list 15 (its l), .str (str q)] = some (fileA (fileO l q)) := by
  have h := file_loop (k := k) (kp E k n) q l.length l [] k rfl (by omega) (by simp; omega)
  rw [List.append_nil] at h
  rw [ref32_File_eq, its_len, i64w (by omega)]
  exact h
/-- The code of a line. -/
def codeC (l : List Item) (s : Tx) : Int := match entryC s with
  | none => 15
  | some (x, y, q) => match fileO l q with
    | none => 16
    | some d => if ((d.length : Nat) : Int) = y then (if moreI 0 d = x then 0 else 4) else 11
theorem code_none {l : List Item} {s : Tx} (h : entryC s = none) : codeC l s = 15 := by unfold codeC; rw [h]
theorem code_away {l : List Item} {s : Tx} {x y : Int} {q : Tx} (h : entryC s = some (x, y, q)) (hf : fileO l q = none) : codeC l s = 16 := by unfold codeC; rw [h]; simp only; rw [hf]
theorem code_some {l : List Item} {s : Tx} {x y : Int} {q d : Tx} (h : entryC s = some (x, y, q)) (hf : fileO l q = some d) : codeC l s = if ((d.length : Nat) : Int) = y then (if moreI 0 d = x then 0 else 4) else 11 := by unfold codeC; rw [h]; simp only; rw [hf]
theorem unqR_ans (t : Tx) : ansR [] (unqL t.length t) = .tup [.str (str ((unqL t.length t).getD [])), .bool (unqL t.length t).isSome] := by
  cases unqL t.length t <;> rfl
theorem code_i (l : List Item) (s : Tx) : 0 ≤ codeC l s ∧ codeC l s ≤ 255 := by
  unfold codeC
  split
  · omega
  · split
    · omega
    · split
      · split <;> omega
      · omega
theorem refCheck_k (l : List Item) (hl : l.length ≤ 12) (hd : ∀ x ∈ l, x.data.length ≤ 400000) (s : Tx) (hs : s.length ≤ 1000000) (hk : 1000000000 < k) : kp E k (n + 4) ref32_Check [.str (str s), .list 15 (its l)] = some (.int .i64 (codeC l s)) := by
  have e1 := words_k (E := E) (k := k) (n := n + 2) s (by omega) (by omega)
  rw [ref32_Check_eq, e1, callL_ok, svs_len]
  have hm := split_mem hs
  have hent : entryC s = entryC s := rfl
  conv at hent => rhs; unfold entryC
  generalize splitL 32 s = ws at hm hent
  by_cases h3 : ws.length = 3
  · have hw0 := W_mem hm 0
    have hw1 := W_mem hm 1
    have hw2 := W_mem hm 2
    rw [decide_eq_true (by omega), Bool.not_true, cond_false, bif_t (by omega), at_W 0 ws (by omega), str_size]
    by_cases h8 : (W 0 ws).length = 8
    · rw [decide_eq_true (by omega), Bool.not_true, cond_false, bif_t (by omega), at_W 2 ws (by omega), str_dec]
      by_cases h61 : (W 2 ws).head? = some 61
      · obtain ⟨c, hc⟩ : ∃ c, W 2 ws = 61 :: c := by
          cases hw : W 2 ws with
          | nil => rw [hw] at h61; cases h61
          | cons x c => rw [hw] at h61; cases h61; exact ⟨c, rfl⟩
        rw [if_pos ⟨h3, h8, h61⟩, hc, show (61 :: c).drop 1 = c from rfl] at hent
        rw [hc] at hw2
        simp only [List.length_cons] at hw2
        have e2 := refHex_k (E := E) (k := k) (n := n + 1) (W 0 ws) h8 (by omega)
        have e3 := refNum_ans (E := E) (k := k) (n := n) (W 1 ws) (by omega) (by omega)
        have e4 := refUnq_k (E := E) (k := k) (n := n + 1) c (by omega) (by omega) (by omega)
        rw [unqR_ans] at e4
        have hb0 : byteAt (str (61 :: c)) 0 = 61 := rfl
        have hcut : (str (61 :: c)).extract 1 ((61 :: c).length) = str c := by rw [str_ext, List.take_length]; rfl
        rw [bif_f (by rw [hc]; simp), bif_t (by omega), at_W 2 ws (by omega), hc, str_size, bif_t (by rw [List.length_cons]; omega), hb0, decide_eq_true rfl, Bool.not_true, cond_false, bif_t (by omega), at_W 0 ws (by omega), e2]
        have hmid : ∀ (X : List AV) (q : Bool) (K : List AV → Bool → Option AV), (callT (some (.tup [.list 1 X, .bool q])) fun vt12 => (tupL 1 vt12 fun vl13 vt14 => (tupB vt14 fun vq15 vt16 => (atNil vt16 (K vl13 vq15))))) = K X q := fun X q K => by
          rw [callT_ok, tupL_ok, tupB_ok, atNil_ok]
        cases hh : hexR (W 0 ws) with
        | none =>
          rw [hh] at hent
          rw [code_none (hent.trans rfl)]
          show callT (some (.tup [.list 1 [], .bool false])) _ = _
          rw [callT_ok, tupL_ok, tupB_ok, atNil_ok, bif_t (by omega), at_W 1 ws (by omega), e3, callT_ok, tupI_ok, tupB_ok, atNil_ok, bif_t (by omega), at_W 2 ws (by omega), hc, str_size, bif_t (by rw [List.length_cons]; omega), hcut, e4, callT_ok, tupS_ok, tupB_ok, atNil_ok]
          rfl
        | some h =>
          obtain ⟨a, b, c', d, rfl, g0, g1, g2, g3⟩ := hex4 h8 hh
          show callT (some (.tup [.list 1 [u8v a, u8v b, u8v c', u8v d], .bool true])) _ = _
          rw [callT_ok, tupL_ok, tupB_ok, atNil_ok, bif_t (by omega), at_W 1 ws (by omega), e3, callT_ok, tupI_ok, tupB_ok, atNil_ok, bif_t (by omega), at_W 2 ws (by omega), hc, str_size, bif_t (by rw [List.length_cons]; omega), hcut, e4, callT_ok, tupS_ok, tupB_ok, atNil_ok, Bool.not_true, cond_false]
          cases hn : numO (W 1 ws) with
          | none =>
            rw [hh, hn] at hent
            rw [code_none (hent.trans rfl)]
            rfl
          | some m =>
            cases hq : unqL c.length c with
            | none =>
              rw [hh, hn, hq] at hent
              rw [code_none (hent.trans rfl)]
              rfl
            | some q =>
              rw [hh, hn, hq] at hent
              simp only at hent
              have e5 := refFile_k (E := E) (k := k) (n := n + 2) l q hl (by omega)
              have hnw : numW (W 1 ws) = m := by unfold numW; rw [hn]; rfl
              rw [Option.isSome_some, Option.isSome_some, Bool.not_true, cond_false, cond_false, Option.getD_some, e5, hnw]
              cases hf : fileO l q with
              | none =>
                rw [code_away hent hf]
                rfl
              | some t =>
                obtain ⟨x, hx, rfl⟩ := file_mem hf
                have ht := hd x hx
                have e6 := refMore_k (E := E) (k := k) (n := n + 2) x.data (by omega) (by omega) (by omega)
                rw [code_some hent hf]
                show callT (some (.tup [.list 1 (bys x.data), .bool true])) _ = _
                rw [callT_ok, tupL_ok, tupB_ok, atNil_ok, Bool.not_true, cond_false, bys_len]
                by_cases hy : ((x.data.length : Nat) : Int) = m
                · rw [decide_eq_true hy, if_pos hy, Bool.not_true, cond_false]
                  have hl4 : [u8v a, u8v b, u8v c', u8v d].length = 4 := rfl
                  have d0 : decide ((0 : Int) < ((4 : Nat) : Int)) = true := decide_eq_true (by omega)
                  have d1 : decide ((1 : Int) < ((4 : Nat) : Int)) = true := decide_eq_true (by omega)
                  have d2 : decide ((2 : Int) < ((4 : Nat) : Int)) = true := decide_eq_true (by omega)
                  have d3 : decide ((3 : Int) < ((4 : Nat) : Int)) = true := decide_eq_true (by omega)
                  have u8c : ∀ (m : Nat) (K : Int → Option AV), cellI .u8 (AV.cells (u8v m)) 0 K = K ((m : Nat) : Int) := fun m K => cellI_0 _ _ _
                  simp only [hl4, d0, d1, d2, d3, cond_true, List.getElem?_cons_zero, List.getElem?_cons_succ, Option.bind_some, u8c]
                  have hv : (IntKind.wrap .u32 ((IntKind.wrap .u32 ((IntKind.wrap .u32 ((IntKind.wrap .u32 ((IntKind.wrap .u32 ((a : Nat) : Int)) * (16777216 : Int))) + (IntKind.wrap .u32 ((IntKind.wrap .u32 ((b : Nat) : Int)) * (65536 : Int))))) + (IntKind.wrap .u32 ((IntKind.wrap .u32 ((c' : Nat) : Int)) * (256 : Int))))) + (IntKind.wrap .u32 ((d : Nat) : Int)))) = ((big 0 [a, b, c', d] : Nat) : Int) := by
                    simp only [big, IntKind.wrap_u32]
                    omega
                  rw [e6, callI_ok, hv]
                  by_cases hz : moreI 0 x.data = ((big 0 [a, b, c', d] : Nat) : Int)
                  · rw [decide_eq_true hz, if_pos hz]; rfl
                  · rw [decide_eq_false hz, if_neg hz]; rfl
                · rw [decide_eq_false hy, if_neg hy, Bool.not_false, cond_true]
      · have hno : entryC s = none := by rw [hent, if_neg (fun h => h61 h.2.2)]
        rw [code_none hno]
        cases hw : W 2 ws with
        | nil => rw [bif_t rfl]
        | cons x c =>
          have hx : ¬ x = 61 := fun e => h61 (by rw [hw, e]; rfl)
          have hb0 : byteAt (str (x :: c)) 0 = ((x.toNat : Nat) : Int) := rfl
          have h61' : decide (((x.toNat : Nat) : Int) = 61) = decide (x = 61) := byte_is x 61 (by omega)
          rw [bif_f (by simp), bif_t (by omega), at_W 2 ws (by omega), hw, str_size, bif_t (by rw [List.length_cons]; omega), hb0, h61', decide_eq_false hx]
          rfl
    · have hno : entryC s = none := by rw [hent, if_neg (fun h => h8 h.2.1)]
      rw [code_none hno, decide_eq_false (by omega), Bool.not_false, cond_true]
  · have hno : entryC s = none := by rw [hent, if_neg (fun h => h3 h.1)]
    rw [code_none hno, decide_eq_false (by omega), Bool.not_false, cond_true]
end Go.Proofs.YtchflhbpdnfopaaDoor.Eng.U


/- The check of lines, by the program; CrcChecks answers true. -/
set_option linter.unusedVariables false
set_option linter.unusedSectionVars false
set_option linter.unusedSimpArgs false
namespace Go.Proofs.YtchflhbpdnfopaaDoor.Eng.U
open Go Go.RowKit Go.Proofs Go.Proofs.YtchflhbpdnfopaaDoor.Eng Go.Proofs.YtchflhbpdnfopaaDoor.S32 Go.Proofs.YtchflhbpdnfopaaDoor.Q32
variable {E : Ext} [Core E] [HasNum E] [HasCrc E] [HasCount E] [HasHexP E] [HasIB E] [HasFree E] {k n : Nat}

theorem mapGet_set : ∀ (m : List (ByteArray × AV)) (s t : ByteArray) (v : AV), mapGet (mapSet m s v) t = if s = t then some v else mapGet m t
  | [], s, t, v => by
    show (bif decide (s = t) then some v else none) = if s = t then some v else none
    by_cases h : s = t
    · rw [decide_eq_true h, if_pos h]; rfl
    · rw [decide_eq_false h, if_neg h]; rfl
  | p :: m, s, t, v => by
    have ih := mapGet_set m s t v
    show mapGet (bif decide (p.1 = s) then (s, v) :: m else p :: mapSet m s v) t = if s = t then some v else (bif decide (p.1 = t) then some p.2 else mapGet m t)
    by_cases h : p.1 = s
    · rw [decide_eq_true h, cond_true]
      show (bif decide (s = t) then some v else mapGet m t) = _
      by_cases h2 : s = t
      · rw [decide_eq_true h2, if_pos h2]; rfl
      · rw [decide_eq_false h2, if_neg h2, h, decide_eq_false h2]; rfl
    · rw [decide_eq_false h, cond_false]
      show (bif decide (p.1 = t) then some p.2 else mapGet (mapSet m s v) t) = _
      by_cases h2 : p.1 = t
      · rw [decide_eq_true h2, if_neg (fun e => h (h2.trans e.symm))]; rfl
      · rw [decide_eq_false h2, ih]; rfl
def Files (l : List Item) (m : List (ByteArray × AV)) : Prop := ∀ q : Tx, mapGet m (str q) = (fileO l q).map fun d => AV.list 1 (bys d)
theorem files_put (pre : List Item) (x : Item) (m : List (ByteArray × AV)) (h : Files pre m) : Files (pre ++ [x]) (if x.head.kind = 1 then mapSet m (str x.head.name) (.list 1 (bys x.data)) else m) := fun q => by
  rw [file_snoc]
  by_cases h1 : x.head.kind = 1
  · rw [if_pos h1, mapGet_set]
    by_cases h2 : x.head.name = q
    · rw [if_pos (by rw [h2]), if_pos ⟨h1, h2⟩]; rfl
    · rw [if_neg (fun e => h2 (str_inj.1 e)), if_neg (fun e => h2 e.2)]; exact h q
  · rw [if_neg h1, if_neg (fun e => h1 e.1)]; exact h q
theorem files_loop (kap : FuncId → List AV → Option AV) (S0 : List AV) (l : List Item) (hl : l.length ≤ 12) : ∀ (suf pre : List Item) (m : List (ByteArray × AV)) (k0 : Nat), suf.length < k0 → l = pre ++ suf → Files pre m →
    ∃ m', Files l m' ∧ crc_Check_L0 kap k k0 S0 (its l) ((l.length : Nat) : Int) ((pre.length : Nat) : Int) m = crc_Check_L1 kap k k S0 ((S0.length : Nat) : Int) 0 [] m'
  | [], pre, m, k0 + 1, h, he, hf => by
    rw [List.append_nil] at he
    subst he
    refine ⟨m, hf, ?_⟩
    rw [crc_Check_L0_s, bif_f (by omega)]
  | x :: suf, pre, m, k0 + 1, h, he, hf => by
    have hll : l.length = pre.length + suf.length + 1 := by rw [he]; exact mid_len pre suf x
    have hg : ∀ F : AV → Option AV, ((its l)[pre.length]?).bind F = F (elItem x) := fun F => by rw [he]; exact its_mid _ _ _ _
    obtain ⟨m', g1, g2⟩ := files_loop kap S0 l hl suf (pre ++ [x]) _ k0 (by simpa using h) (by rw [he]; simp) (files_put pre x m hf)
    rw [List.length_append, List.length_singleton] at g2
    refine ⟨m', g1, ?_⟩
    rw [← g2, crc_Check_L0_s]
    simp (disch := first | omega | (simp only [List.length_append, List.length_cons, List.length_nil, List.length_take, List.length_drop]; done) | (simp only [List.length_append, List.length_cons, List.length_nil, List.length_take, List.length_drop]; omega) | fail) only [bif_t, bif_f, bif_n, bif_a, callB_ok, callI_ok, callS_ok, callL_ok, callF_ok, callT_ok, tupB_ok, tupI_ok, tupS_ok, tupL_ok, tupF_ok, atNil_ok, wrap1, wrapM, wrapP, Int.toNat_natCast, svs_len, ivs_len, bvs_len, str_size, svs_mid, ivs_mid, str_dec, str_ext, str_byte, mid_byte, mid_cut, List.length_nil, List.length_singleton, svs_snoc, ivs_snoc, svs_take, svs_drop, str_app, List.take_length, List.drop_zero, List.nil_append, cond_true, cond_false, Option.bind_some, Bool.not_true, Bool.not_false, Bool.true_and, Bool.and_true, bys_len, prs_len, its_len, cells_pair, cells_time, cells_head, cells_item, fold_pair, fold_time, fold_head, fold_ihead, fold_item, prs_mid, its_mid, bys_mid, byte_c, callG_pair, callG_time, callG_head, callG_item, tupG_pair, tupG_time, tupG_head, tupG_item, h_0, i_0, h_1, i_1, h_2, i_2, h_3, i_3, h_4, i_4, h_5, i_5, h_6, i_6, h_7, i_7, h_8, i_8, h_9, i_9, h_10, i_10, h_11, i_11, h_12, i_12, h_13, i_13, i_14, p_0, p_1, t_0, t_1, hg, hll]
    by_cases h1 : x.head.kind = 1
    · rw [if_pos h1, decide_eq_true h1]; rfl
    · rw [if_neg h1, decide_eq_false h1]; rfl
def wrC (i : Nat) (c : Int) : AV := .agg [.int .i64 ((i : Nat) : Int), .int .u8 c]
def wrongs (f : Tx → Int) : Nat → List Tx → List AV
  | _, [] => []
  | i, s :: l => (if f s = 0 then [] else [wrC i (f s)]) ++ wrongs f (i + 1) l
theorem tupG3 {β : Type} (a b c : AV) (t : List AV) (K : List AV → List AV → Option β) : tupG 3 (.agg [a, b, c] :: t) K = K [a, b, c] t := rfl
theorem atL_file {β : Type} (o : Option Tx) (K : List AV → Option β) : atList 1 (Option.getD (o.map fun d => AV.list 1 (bys d)) (.list 1 [])) K = K (bys (o.getD [])) := by cases o <;> rfl
theorem sum_k (l : Tx) (hl : l.length ≤ 1000000000) : kp E k (n + 1) crc_Sum [.list 1 (bys l)] = some (.int .u32 (moreI 0 l)) := by
  rw [crc_Sum_eq, HasCrc.more (E := E) k n 0 l hl, callI_ok]
theorem check_loop (l : List Item) (hd : ∀ x ∈ l, x.data.length ≤ 400000) (lines : List Tx) (hb : ∀ s ∈ lines, s.length ≤ 1000000) (hn : lines.length ≤ 1000) (hk : 1000000000 < k) (m : List (ByteArray × AV)) (hm : Files l m) :
    ∀ (suf pre : List Tx) (x8 : List AV) (k1 : Nat), suf.length < k1 → lines = pre ++ suf → x8.length ≤ pre.length →
    crc_Check_L1 (kp E k (n + 5)) k k1 (svs lines) ((lines.length : Nat) : Int) ((pre.length : Nat) : Int) x8 m = some (.list 2 (x8 ++ wrongs (codeC l) pre.length suf))
  | [], pre, x8, k1 + 1, h, he, hx => by
    have hll : lines.length = pre.length := by rw [he]; simp
    rw [crc_Check_L1_s, bif_f (by omega)]
    simp [wrongs]
  | s :: suf, pre, x8, k1 + 1, h, he, hx => by
    have hll : lines.length = pre.length + suf.length + 1 := by rw [he]; exact mid_len pre suf s
    have hs := hb s (by rw [he]; simp)
    have hg : ∀ K : ByteArray → Option AV, (((svs lines)[pre.length]?).bind fun y => cellS (AV.cells y) 0 K) = K (str s) := fun K => by rw [he]; exact svs_mid _ _ _ _
    obtain ⟨a, b, c, ok, e1, rfl, e2⟩ := crcParse_k (E := E) (k := k) (n := n) s hs hk
    have ih := fun x8 hx => check_loop l hd lines hb hn hk m hm suf (pre ++ [s]) x8 k1 (by simpa using h) (by rw [he]; simp) hx
    rw [List.length_append, List.length_singleton] at ih
    have hstep : ∀ cd : Int, codeC l s = cd → cd ≠ 0 → (bif decide ((x8.length + 1) * 16 ≤ 140737488355328) && decide ((x8.length + 1) ≤ 9223372036854775807) then (crc_Check_L1 (kp E k (n + 5)) k k1 (svs lines) ((lines.length : Nat) : Int) (IntKind.wrap .i64 (((pre.length : Nat) : Int) + (1 : Int))) (x8 ++ [.agg [.int .i64 ((pre.length : Nat) : Int), .int .u8 cd]]) m) else none) = some (.list 2 (x8 ++ wrongs (codeC l) pre.length (s :: suf))) := fun cd hcd h0 => by
      rw [room16 (by omega), cond_true, wrap1 (by omega)]
      refine (ih _ (by simp; omega)).trans ?_
      rw [wrongs, if_neg (by rw [hcd]; exact h0), hcd, List.append_assoc]
      rfl
    rw [crc_Check_L1_s, svs_len, bif_t (by omega), inb (by omega), cond_true, Int.toNat_natCast, hg, e1, callT_ok, tupG3, cellI_0, cellI_s, cellI_0, cellS_s, cellS_s, cellS_0, tupB_ok, atNil_ok, hm c, atL_file, Option.isSome_map]
    cases he1 : entryC s with
    | none => exact hstep 15 (code_none he1) (by omega)
    | some e =>
      obtain rfl := e2 e he1
      rw [Option.isSome_some, Bool.not_true, cond_false]
      cases hf : fileO l c with
      | none => exact hstep 16 (code_away he1 hf) (by omega)
      | some t =>
        obtain ⟨x, hx', rfl⟩ := file_mem hf
        have ht := hd x hx'
        have e3 := sum_k (E := E) (k := k) (n := n + 4) x.data (by omega)
        have hc := code_some he1 hf
        rw [Option.isSome_some, Bool.not_true, cond_false, Option.getD_some, bys_len]
        by_cases hy : ((x.data.length : Nat) : Int) = b
        · rw [if_pos hy] at hc
          rw [decide_eq_true hy, Bool.not_true, cond_false, e3, callI_ok]
          by_cases hz : moreI 0 x.data = a
          · rw [if_pos hz] at hc
            rw [decide_eq_true hz, Bool.not_true, cond_false, wrap1 (by omega)]
            refine (ih x8 (by omega)).trans ?_
            rw [wrongs, if_pos hc]
            rfl
          · rw [if_neg hz] at hc
            rw [decide_eq_false hz]
            exact hstep 4 hc (by omega)
        · rw [if_neg hy] at hc
          rw [decide_eq_false hy]
          exact hstep 11 hc (by omega)
theorem crcCheck_k (l : List Item) (hl : l.length ≤ 12) (hd : ∀ x ∈ l, x.data.length ≤ 400000) (lines : List Tx) (hb : ∀ s ∈ lines, s.length ≤ 1000000) (hn : lines.length ≤ 1000) (hk : 1000000000 < k) : kp E k (n + 6) crc_Check [.list 1 (svs lines), .list 15 (its l)] = some (.list 2 (wrongs (codeC l) 0 lines)) := by
  obtain ⟨m, h1, h2⟩ := files_loop (k := k) (kp E k (n + 5)) (svs lines) l hl l [] [] k (by omega) rfl (fun q => rfl)
  have h3 := check_loop (E := E) (k := k) (n := n) l hd lines hb hn hk m h1 lines [] [] k (by omega) rfl (Nat.le_refl _)
  rw [crc_Check_eq, its_len]
  refine h2.trans ?_
  rw [svs_len]
  exact h3
/-! The law. -/
theorem any_mid {β : Type} (a b : List AV) (x : AV) (F : AV → Option β) : ((a ++ x :: b)[a.length]?).bind F = F x := by simp
theorem law_loop32 (kap : FuncId → List AV → Option AV) (l : List Item) (f : Tx → Int) (lines : List Tx) (hf : ∀ s ∈ lines, kap ref32_Check [.str (str s), .list 15 (its l)] = some (.int .i64 (f s))) (hc : ∀ s, 0 ≤ f s ∧ f s ≤ 255) (hn : lines.length ≤ 1000) :
    ∀ (suf pre : List Tx) (done : List AV) (k1 : Nat), suf.length < k1 → lines = pre ++ suf → done.length ≤ pre.length →
    law32_CrcChecks_L1 kap k k1 (svs lines) (its l) (done ++ wrongs f pre.length suf) ((done.length : Nat) : Int) ((pre.length : Nat) : Int) = some (.bool true)
  | [], pre, done, k1 + 1, h, he, hx => by
    have hll : lines.length = pre.length := by rw [he]; simp
    rw [law32_CrcChecks_L1_s, svs_len, bif_f (by omega)]
    simp [wrongs]
  | s :: suf, pre, done, k1 + 1, h, he, hx => by
    have hll : lines.length = pre.length + suf.length + 1 := by rw [he]; exact mid_len pre suf s
    have hs := hf s (by rw [he]; simp)
    have hcs := hc s
    have hg : ∀ K : ByteArray → Option AV, (((svs lines)[pre.length]?).bind fun y => cellS (AV.cells y) 0 K) = K (str s) := fun K => by rw [he]; exact svs_mid _ _ _ _
    have ih := fun done hx => law_loop32 kap l f lines hf hc hn suf (pre ++ [s]) done k1 (by simpa using h) (by rw [he]; simp) hx
    rw [List.length_append, List.length_singleton] at ih
    rw [law32_CrcChecks_L1_s, svs_len, bif_t (by omega), inb (by omega), cond_true, Int.toNat_natCast, hg, hs, callI_ok, wrongs, wrap1 (by omega)]
    by_cases h0 : f s = 0
    · rw [if_pos h0, decide_eq_true h0, cond_true]
      exact ih done (by omega)
    · have hlen : (done ++ ([wrC pre.length (f s)] ++ wrongs f (pre.length + 1) suf)).length = done.length + (wrongs f (pre.length + 1) suf).length + 1 := by simp; omega
      have hmid : ∀ F : AV → Option AV, ((done ++ ([wrC pre.length (f s)] ++ wrongs f (pre.length + 1) suf))[done.length]?).bind F = F (wrC pre.length (f s)) := fun F => any_mid _ _ _ F
      have hw : IntKind.wrap .i64 (f s) = f s := i64w (by omega)
      have i1 := ih (done ++ [wrC pre.length (f s)]) (by simp; omega)
      rw [if_neg h0, decide_eq_false h0, cond_false, hlen, bif_f (by omega), inb (by omega), cond_true, Int.toNat_natCast, hmid]
      have hc1 : AV.cells (wrC pre.length (f s)) = [.int .i64 ((pre.length : Nat) : Int), .int .u8 (f s)] := rfl
      rw [hc1, cellI_0, decide_eq_true rfl, Bool.not_true, cond_false, cond_true, hmid, hc1, cellI_s, cellI_0, hw, decide_eq_true rfl, Bool.not_true, cond_false, wrap1 (by omega)]
      rw [List.length_append, List.length_singleton, List.append_assoc] at i1
      exact i1
def sumS : Int → List Tx → Int
  | a, [] => a
  | a, s :: l => sumS (IntKind.wrap .i64 (a + ((s.length : Nat) : Int))) l
noncomputable def restC (kap : FuncId → List AV → Option AV) (k : Nat) (s0 s1 : List AV) (s5 : Int) : Option AV :=
  (callB (kap law17_Many [(.list 15 s1)]) fun vq6 => (bif vq6 then (some (.bool true)) else (bif (decide ((((List.length s0) : Nat) : Int) > (20 : Int))) then (some (.bool true)) else (bif (decide (s5 > (5000 : Int))) then (some (.bool true)) else (callL 2 (kap crc_Check [(.list 1 s0), (.list 15 s1)]) fun vl8 => (law32_CrcChecks_L1 kap k k s0 s1 vl8 (0 : Int) (0 : Int)))))))
theorem sum_loop32 (kap : FuncId → List AV → Option AV) (s1 : List AV) (lines : List Tx) (hn : lines.length < 9000000000000000000) : ∀ (suf pre : List Tx) (a : Int) (k0 : Nat), suf.length < k0 → lines = pre ++ suf →
    law32_CrcChecks_L0 kap k k0 (svs lines) s1 a ((pre.length : Nat) : Int) = restC kap k (svs lines) s1 (sumS a suf)
  | [], pre, a, k0 + 1, h, he => by
    have hll : lines.length = pre.length := by rw [he]; simp
    rw [law32_CrcChecks_L0_s, svs_len, bif_f (by omega)]
    unfold restC sumS
    rw [svs_len]
  | s :: suf, pre, a, k0 + 1, h, he => by
    have hll : lines.length = pre.length + suf.length + 1 := by rw [he]; exact mid_len pre suf s
    have hg : ∀ K : ByteArray → Option AV, (((svs lines)[pre.length]?).bind fun y => cellS (AV.cells y) 0 K) = K (str s) := fun K => by rw [he]; exact svs_mid _ _ _ _
    have ih := sum_loop32 kap s1 lines hn suf (pre ++ [s]) (IntKind.wrap .i64 (a + ((s.length : Nat) : Int))) k0 (by simpa using h) (by rw [he]; simp)
    rw [List.length_append, List.length_singleton] at ih
    rw [law32_CrcChecks_L0_s, svs_len, bif_t (by omega), inb (by omega), cond_true, Int.toNat_natCast, hg, str_size, wrap1 (by omega)]
    exact ih
theorem sumS_le : ∀ (l : List Tx) (a : Int), (∀ s ∈ l, s.length ≤ 140737488351232) → 0 ≤ a → a + ((l.length : Nat) : Int) * 140737488351232 ≤ 9000000000000000000 → a ≤ sumS a l ∧ ∀ s ∈ l, ((s.length : Nat) : Int) ≤ sumS a l
  | [], a, _, h0, _ => ⟨Int.le_refl _, fun s hs => by cases hs⟩
  | s :: l, a, hb, h0, hs => by
    have hs1 := hb s (by simp)
    rw [List.length_cons] at hs
    have hl : 0 ≤ ((l.length : Nat) : Int) * 140737488351232 := by omega
    unfold sumS
    rw [i64w (by omega)]
    obtain ⟨g1, g2⟩ := sumS_le l (a + ((s.length : Nat) : Int)) (fun t ht => hb t (by simp [ht])) (by omega) (by omega)
    refine ⟨by omega, fun t ht => ?_⟩
    rcases List.mem_cons.1 ht with rfl | ht
    · omega
    · exact g2 t ht
theorem alive33_k : kp E k (n + 2) law32_alive [] = some (.bool true) := by
  have e1 := HasCrc.more (E := E) k n 0 [49, 50, 51, 52, 53, 54, 55, 56, 57] (by simp)
  rw [show moreI 0 [49, 50, 51, 52, 53, 54, 55, 56, 57] = 3421780262 from by decide +kernel] at e1
  have e2 : kp E k (n + 1) crc_Sum [.list 1 (bys [49, 50, 51, 52, 53, 54, 55, 56, 57])] = some (.int .u32 3421780262) := by
    rw [crc_Sum_eq, e1, callI_ok]
  rw [law32_alive_eq]
  refine (congrArg (fun z => callI .u32 z _) e2).trans ?_
  rw [callI_ok]
  rfl
theorem crcChecks_true (lines : List Tx) (l : List Item) (g1 : G_Lstring lines) (g2 : G_LapiItem l) (hk : 9000000000000 < k) : kp E k (n + 23) law32_CrcChecks [.list 1 (svs lines), .list 15 (its l)] = some (.bool true) := by
  obtain ⟨b, e1, e2⟩ := many_k (E := E) (k := k) (n := n + 21) l g2 (by omega)
  have hl := g1.1
  rw [law32_CrcChecks_eq, alive33_k (n := n + 20), callB_ok]
  show law32_CrcChecks_L0 (kp E k (n + 22)) k k (svs lines) (its l) 0 0 = _
  refine (sum_loop32 (k := k) (kp E k (n + 22)) (its l) lines (by omega) lines [] 0 k (by omega) rfl).trans ?_
  unfold restC
  rw [e1, callB_ok]
  cases b with
  | true => rfl
  | false =>
    obtain ⟨h12, hs, h30⟩ := e2 rfl
    rw [cond_false, svs_len]
    by_cases h20 : lines.length > 20
    · rw [bif_t (by omega)]
    · rw [bif_f (by omega)]
      obtain ⟨q1, q2⟩ := sumS_le lines 0 g1.2 (Int.le_refl _) (by omega)
      by_cases h5 : sumS 0 lines > 5000
      · rw [bif_t h5]
      · rw [bif_f h5]
        have hb : ∀ s ∈ lines, s.length ≤ 1000000 := fun s hs => by have := q2 s hs; omega
        have hd : ∀ x ∈ l, x.data.length ≤ 400000 := fun x hx => by
          have := sumI_mem l x hx
          unfold restI at this
          omega
        have e3 := crcCheck_k (E := E) (k := k) (n := n + 16) l h12 hd lines hb (by omega) (by omega)
        rw [e3, callL_ok]
        exact law_loop32 (k := k) (kp E k (n + 22)) l (codeC l) lines (fun s hs => refCheck_k (E := E) (k := k) (n := n + 18) l h12 hd s (hb s hs) (by omega)) (code_i l) (by omega) lines [] [] k (by omega) rfl (Nat.le_refl _)
end Go.Proofs.YtchflhbpdnfopaaDoor.Eng.U


/- The library's functions, the sum, ParseUint at both bases, strings.Count, given together; strings.IndexAny evaluated. -/
set_option linter.unusedVariables false
set_option linter.unusedSectionVars false
set_option linter.unusedSimpArgs false
namespace Go.Proofs.YtchflhbpdnfopaaDoor.Eng.U
open Go Go.RowKit Go.Proofs Go.Proofs.YtchflhbpdnfopaaDoor.Eng Go.Proofs.YtchflhbpdnfopaaDoor.S32

noncomputable def ps33 : List Piece := [pItoa, pIndex, pIndexByte, pPUx, pMore, pCount]
noncomputable def ext33 : Ext := { extOf ps33 with fs := strings_IndexAny :: coreFs }
theorem good33b (k : Nat) : (bs (extOf ps33) k).Good := good_of (fun p hp => by
  simp only [ps33, List.mem_cons, List.not_mem_nil, or_false] at hp
  rcases hp with rfl | rfl | rfl | rfl | rfl | rfl
  · exact itoa_right
  · exact index_right
  · exact indexByte_right
  · exact pux_right
  · exact more_right
  · exact count_right) names_ok k
theorem good33 (k : Nat) : (bs ext33 k).Good := { mixed := by kernel_rfl, names := by kernel_rfl, base := (good33b k).base }
instance core33 : Core ext33 where
  isB f hf := (core_of (ps := ps33) (by kernel_rfl)).isB f hf
  has f hf := by
    show (strings_IndexAny :: coreFs).contains f = true
    rw [List.contains_cons, hf, Bool.or_true]
theorem kp33 {k n : Nat} {f : FuncId} {args : List AV} (h : (ps33.any fun p => p.f == f) = true) : kp ext33 k n f args = kp (extOf ps33) k n f args :=
  (kp_base (E := ext33) h).trans (kp_base (E := extOf ps33) h).symm
instance num33 : HasNum ext33 where
  itoa k n v g0 g1 := (kp33 (by kernel_rfl)).trans ((num_of16 rfl rfl rfl rfl).itoa k n v g0 g1)
  index k n s x := (kp33 (by kernel_rfl)).trans ((num_of16 rfl rfl rfl rfl).index k n s x)
  indexB k n s c := (kp33 (by kernel_rfl)).trans ((num_of16 rfl rfl rfl rfl).indexB k n s c)
  puint k n s g0 := (kp33 (by kernel_rfl)).trans ((num_of16 rfl rfl rfl rfl).puint k n s g0)
instance ib33 : HasIB ext33 := ⟨fun k n s c => (kp_base (E := ext33) (by kernel_rfl)).trans rfl⟩
instance free33 : HasFree ext33 := ⟨by kernel_rfl, by kernel_rfl⟩
instance hexp33 : HasHexP ext33 := ⟨fun k n s hs => (kp33 (by kernel_rfl)).trans ((hexp_of (ps := ps33) rfl).parse k n s hs)⟩
instance count33 : HasCount ext33 where
  count k n s x := by
    refine (kp33 (by kernel_rfl)).trans ((kp_piece (ps := ps33) (p := pCount) (k := k) (n := n) (args := [.str (str s), .str (str [x])]) rfl).trans ?_)
    rfl
instance crc33 : HasCrc ext33 where
  more k n a l hl := by
    have h := (kp33 (by kernel_rfl)).trans (kp_piece (ps := ps33) (p := pMore) (k := k) (n := n) (args := [.int .u32 a, .list 1 (bys l)]) rfl)
    refine h.trans ?_
    show ((toB (bys l)).bind fun l => _) = _
    rw [toB_bys]
    show (bif (1 == 1) && decide (l.length ≤ 1000000000) then _ else none) = _
    rw [decide_eq_true hl]
    rfl
theorem checks33 (lines : List Tx) (l : List Item) (g1 : G_Lstring lines) (g2 : G_LapiItem l) : (bs ext33 10000000000000).kap 23 law32_CrcChecks [.list 1 (svs lines), .list 15 (its l)] = some (.bool true) :=
  crcChecks_true (E := ext33) (n := 0) (k := 10000000000000) lines l g1 g2 (by omega)
end Go.Proofs.YtchflhbpdnfopaaDoor.Eng.U

