/- Several texts of this proof in one file: R11, U11, U09h, U09i, U09j, V09, U11b, U11c, Ext, ApiR, S11, ShelfS, Q08b, S11s, S40, S11b. -/
import Derived.Test.YtbkhmkcmbaffoaaGreatDoorMRepFields0
import Derived.Test.YtbkhmkcmbaffoaaGreatDoorMRepFields1
import Derived.Test.YtbkhmkcmbaffoaaGreatDoorMERepFields2
import Derived.WalkKit
import Derived.OwnWalkIn
import Derived.TacticsInMore
import Derived.RangeFuncBox
import Derived.Shelf.Abstract
import Derived.Shelf.SlGeneric
import Derived.Shelf.SlSortCmp.NoneTotal
import Derived.Shelf.SlSortCmp.WholeK
import Derived.Ground.SlsfProg
import Derived.Ground.NamesProg
import Derived.Test.YtbkhmkcmbaffoaaGreatDoorProg
import Derived.Lib.Bytealg
import Derived.Sort.OwnSorted
import Derived.Lib.SliceRun
import Derived.WalkSmall
/- What functions answer, as the engine evaluates their code. Printed by gen2.py. -/
set_option linter.unusedVariables false
namespace Go.Proofs.YtbkhmkcmbaffoaaGreatDoor.Eng.U
open Go Go.Proofs Go.Proofs.YtbkhmkcmbaffoaaGreatDoor.Eng
/- oakum/oakumlaw11.RepOrder -/
/- oakum/oakumlaw11.RepFields -/
theorem law11_RepFields_eq {E : Ext} [Core E] (k n : Nat) (a0 : Int) (a1_0 : Int) (a1_1 : ByteArray) (a1_2 : ByteArray) (a1_3 : Int) (a1_4 : Int) (a1_5 : Int) (a1_6 : Int) (a1_7 : Int) (a1_8 : Int) (a1_9 : ByteArray) (a1_10 : ByteArray) (a1_11 : Int) (a1_12 : Int) (a1_13 : List AV) (a2 : Int) : kp E k (n + 1) law11_RepFields [(.int .i64 a0), (.agg [(.int .i64 a1_0), (.str a1_1), (.str a1_2), (.int .i64 a1_3), (.int .i64 a1_4), (.int .i64 a1_5), (.int .i64 a1_6), (.int .i64 a1_7), (.int .i64 a1_8), (.str a1_9), (.str a1_10), (.int .i64 a1_11), (.int .i64 a1_12), (.list 2 a1_13)]), (.int .i64 a2)] =
  (callB (kp E k n law11_alive []) fun vq2 => (bif (!vq2) then (some (.bool false)) else (callB (kp E k n law11_many [(.agg [(.int .i64 a1_0), (.str a1_1), (.str a1_2), (.int .i64 a1_3), (.int .i64 a1_4), (.int .i64 a1_5), (.int .i64 a1_6), (.int .i64 a1_7), (.int .i64 a1_8), (.str a1_9), (.str a1_10), (.int .i64 a1_11), (.int .i64 a1_12), (.list 2 a1_13)])]) fun vq4 => (bif vq4 then (some (.bool true)) else (callT (kp E k n rep_Can [(.int .i64 a0), (.agg [(.int .i64 a1_0), (.str a1_1), (.str a1_2), (.int .i64 a1_3), (.int .i64 a1_4), (.int .i64 a1_5), (.int .i64 a1_6), (.int .i64 a1_7), (.int .i64 a1_8), (.str a1_9), (.str a1_10), (.int .i64 a1_11), (.int .i64 a1_12), (.list 2 a1_13)]), (.int .i64 a2)]) fun vt6 => (tupB vt6 fun vq7 vt8 => (tupI .u8 vt8 fun vn9 vt10 => (atNil vt10 (callT (kp E k n rep_First [(.int .i64 a0), (.agg [(.int .i64 a1_0), (.str a1_1), (.str a1_2), (.int .i64 a1_3), (.int .i64 a1_4), (.int .i64 a1_5), (.int .i64 a1_6), (.int .i64 a1_7), (.int .i64 a1_8), (.str a1_9), (.str a1_10), (.int .i64 a1_11), (.int .i64 a1_12), (.list 2 a1_13)])]) fun vt12 => (tupI .i64 vt12 fun vn13 vt14 => (tupI .u8 vt14 fun vn15 vt16 => (atNil vt16 (bif (decide (a0 ≥ (1 : Int))) then (callI .i64 (kp E k n ref09_Wrong [(.agg [(.int .i64 a1_0), (.str a1_1), (.str a1_2), (.int .i64 a1_3), (.int .i64 a1_4), (.int .i64 a1_5), (.int .i64 a1_6), (.int .i64 a1_7), (.int .i64 a1_8), (.str a1_9), (.str a1_10), (.int .i64 a1_11), (.int .i64 a1_12), (.list 2 a1_13)])]) fun vn18 => (bif (!(decide (vn18 = (0 : Int)))) then (bif (!(decide (a0 ≤ (4 : Int)))) then (bif (decide (a2 < (1 : Int))) then (bif (!(decide ((IntKind.wrap .i64 vn9) = (2 : Int)))) then (some (.bool false)) else (bif (!(decide ((IntKind.wrap .i64 vn15) = (2 : Int)))) then (some (.bool false)) else (callB (kp E k n rep_Dialect [(.int .i64 a0)]) fun vq20 => (bif (!(vq20 == (decide (a0 ≤ (4 : Int))))) then (some (.bool false)) else (bif (vq7 == false) then (some (.bool (decide (vn13 = (0 : Int))))) else (some (.bool false))))))) else (bif (decide (a2 > (14 : Int))) then (bif (!(decide ((IntKind.wrap .i64 vn9) = (2 : Int)))) then (some (.bool false)) else (bif (!(decide ((IntKind.wrap .i64 vn15) = (2 : Int)))) then (some (.bool false)) else (callB (kp E k n rep_Dialect [(.int .i64 a0)]) fun vq22 => (bif (!(vq22 == (decide (a0 ≤ (4 : Int))))) then (some (.bool false)) else (bif (vq7 == false) then (some (.bool (decide (vn13 = (0 : Int))))) else (some (.bool false))))))) else (bif (!(decide ((IntKind.wrap .i64 vn9) = (2 : Int)))) then (some (.bool false)) else (bif (!(decide ((IntKind.wrap .i64 vn15) = (2 : Int)))) then (some (.bool false)) else (callB (kp E k n rep_Dialect [(.int .i64 a0)]) fun vq24 => (bif (!(vq24 == (decide (a0 ≤ (4 : Int))))) then (some (.bool false)) else (bif (vq7 == false) then (some (.bool (decide (vn13 = (0 : Int))))) else (some (.bool false))))))))) else (bif (decide (a2 < (1 : Int))) then (bif (!(decide ((IntKind.wrap .i64 vn9) = (2 : Int)))) then (some (.bool false)) else (bif (!(decide ((IntKind.wrap .i64 vn15) = (15 : Int)))) then (some (.bool false)) else (callB (kp E k n rep_Dialect [(.int .i64 a0)]) fun vq26 => (bif (!(vq26 == (decide (a0 ≤ (4 : Int))))) then (some (.bool false)) else (bif (vq7 == false) then (some (.bool (decide (vn13 = (0 : Int))))) else (some (.bool false))))))) else (bif (decide (a2 > (14 : Int))) then (bif (!(decide ((IntKind.wrap .i64 vn9) = (2 : Int)))) then (some (.bool false)) else (bif (!(decide ((IntKind.wrap .i64 vn15) = (15 : Int)))) then (some (.bool false)) else (callB (kp E k n rep_Dialect [(.int .i64 a0)]) fun vq28 => (bif (!(vq28 == (decide (a0 ≤ (4 : Int))))) then (some (.bool false)) else (bif (vq7 == false) then (some (.bool (decide (vn13 = (0 : Int))))) else (some (.bool false))))))) else (bif (!(decide ((IntKind.wrap .i64 vn9) = (15 : Int)))) then (some (.bool false)) else (bif (!(decide ((IntKind.wrap .i64 vn15) = (15 : Int)))) then (some (.bool false)) else (callB (kp E k n rep_Dialect [(.int .i64 a0)]) fun vq30 => (bif (!(vq30 == (decide (a0 ≤ (4 : Int))))) then (some (.bool false)) else (bif (vq7 == false) then (some (.bool (decide (vn13 = (0 : Int))))) else (some (.bool false)))))))))) else (bif (!(decide (a0 ≤ (4 : Int)))) then (bif (decide (a2 < (1 : Int))) then (bif (!(decide ((IntKind.wrap .i64 vn9) = (2 : Int)))) then (some (.bool false)) else (bif (!(decide ((IntKind.wrap .i64 vn15) = (2 : Int)))) then (some (.bool false)) else (callB (kp E k n rep_Dialect [(.int .i64 a0)]) fun vq32 => (bif (!(vq32 == (decide (a0 ≤ (4 : Int))))) then (some (.bool false)) else (bif (vq7 == false) then (some (.bool (decide (vn13 = (0 : Int))))) else (some (.bool false))))))) else (bif (decide (a2 > (14 : Int))) then (bif (!(decide ((IntKind.wrap .i64 vn9) = (2 : Int)))) then (some (.bool false)) else (bif (!(decide ((IntKind.wrap .i64 vn15) = (2 : Int)))) then (some (.bool false)) else (callB (kp E k n rep_Dialect [(.int .i64 a0)]) fun vq34 => (bif (!(vq34 == (decide (a0 ≤ (4 : Int))))) then (some (.bool false)) else (bif (vq7 == false) then (some (.bool (decide (vn13 = (0 : Int))))) else (some (.bool false))))))) else (bif (!(decide ((IntKind.wrap .i64 vn9) = (2 : Int)))) then (some (.bool false)) else (bif (!(decide ((IntKind.wrap .i64 vn15) = (2 : Int)))) then (some (.bool false)) else (callB (kp E k n rep_Dialect [(.int .i64 a0)]) fun vq36 => (bif (!(vq36 == (decide (a0 ≤ (4 : Int))))) then (some (.bool false)) else (bif (vq7 == false) then (some (.bool (decide (vn13 = (0 : Int))))) else (some (.bool false))))))))) else (bif (decide (a2 < (1 : Int))) then (bif (!(decide ((IntKind.wrap .i64 vn9) = (2 : Int)))) then (some (.bool false)) else (bif (!(decide ((IntKind.wrap .i64 vn15) = (0 : Int)))) then (some (.bool false)) else (callB (kp E k n rep_Dialect [(.int .i64 a0)]) fun vq38 => (bif (!(vq38 == (decide (a0 ≤ (4 : Int))))) then (some (.bool false)) else (callI .i64 (kp E k n ref11_First [(.int .i64 a0), (.agg [(.int .i64 a1_0), (.str a1_1), (.str a1_2), (.int .i64 a1_3), (.int .i64 a1_4), (.int .i64 a1_5), (.int .i64 a1_6), (.int .i64 a1_7), (.int .i64 a1_8), (.str a1_9), (.str a1_10), (.int .i64 a1_11), (.int .i64 a1_12), (.list 2 a1_13)])]) fun vn40 => (bif (vq7 == false) then (some (.bool (decide (vn13 = vn40)))) else (some (.bool false)))))))) else (bif (decide (a2 > (14 : Int))) then (bif (!(decide ((IntKind.wrap .i64 vn9) = (2 : Int)))) then (some (.bool false)) else (bif (!(decide ((IntKind.wrap .i64 vn15) = (0 : Int)))) then (some (.bool false)) else (callB (kp E k n rep_Dialect [(.int .i64 a0)]) fun vq42 => (bif (!(vq42 == (decide (a0 ≤ (4 : Int))))) then (some (.bool false)) else (callI .i64 (kp E k n ref11_First [(.int .i64 a0), (.agg [(.int .i64 a1_0), (.str a1_1), (.str a1_2), (.int .i64 a1_3), (.int .i64 a1_4), (.int .i64 a1_5), (.int .i64 a1_6), (.int .i64 a1_7), (.int .i64 a1_8), (.str a1_9), (.str a1_10), (.int .i64 a1_11), (.int .i64 a1_12), (.list 2 a1_13)])]) fun vn44 => (bif (vq7 == false) then (some (.bool (decide (vn13 = vn44)))) else (some (.bool false)))))))) else (bif (!(decide ((IntKind.wrap .i64 vn9) = (0 : Int)))) then (some (.bool false)) else (bif (!(decide ((IntKind.wrap .i64 vn15) = (0 : Int)))) then (some (.bool false)) else (callB (kp E k n rep_Dialect [(.int .i64 a0)]) fun vq46 => (bif (!(vq46 == (decide (a0 ≤ (4 : Int))))) then (some (.bool false)) else (callB (kp E k n ref11_Can [(.int .i64 a0), (.agg [(.int .i64 a1_0), (.str a1_1), (.str a1_2), (.int .i64 a1_3), (.int .i64 a1_4), (.int .i64 a1_5), (.int .i64 a1_6), (.int .i64 a1_7), (.int .i64 a1_8), (.str a1_9), (.str a1_10), (.int .i64 a1_11), (.int .i64 a1_12), (.list 2 a1_13)]), (.int .i64 a2)]) fun vq48 => (callI .i64 (kp E k n ref11_First [(.int .i64 a0), (.agg [(.int .i64 a1_0), (.str a1_1), (.str a1_2), (.int .i64 a1_3), (.int .i64 a1_4), (.int .i64 a1_5), (.int .i64 a1_6), (.int .i64 a1_7), (.int .i64 a1_8), (.str a1_9), (.str a1_10), (.int .i64 a1_11), (.int .i64 a1_12), (.list 2 a1_13)])]) fun vn50 => (bif (vq7 == vq48) then (some (.bool (decide (vn13 = vn50)))) else (some (.bool false)))))))))))))) else (callI .i64 (kp E k n ref09_Wrong [(.agg [(.int .i64 a1_0), (.str a1_1), (.str a1_2), (.int .i64 a1_3), (.int .i64 a1_4), (.int .i64 a1_5), (.int .i64 a1_6), (.int .i64 a1_7), (.int .i64 a1_8), (.str a1_9), (.str a1_10), (.int .i64 a1_11), (.int .i64 a1_12), (.list 2 a1_13)])]) fun vn52 => (bif (!(decide (vn52 = (0 : Int)))) then (bif (decide (a2 < (1 : Int))) then (bif (!(decide ((IntKind.wrap .i64 vn9) = (2 : Int)))) then (some (.bool false)) else (bif (!(decide ((IntKind.wrap .i64 vn15) = (2 : Int)))) then (some (.bool false)) else (callB (kp E k n rep_Dialect [(.int .i64 a0)]) fun vq54 => (bif (!(vq54 == false)) then (some (.bool false)) else (bif (vq7 == false) then (some (.bool (decide (vn13 = (0 : Int))))) else (some (.bool false))))))) else (bif (decide (a2 > (14 : Int))) then (bif (!(decide ((IntKind.wrap .i64 vn9) = (2 : Int)))) then (some (.bool false)) else (bif (!(decide ((IntKind.wrap .i64 vn15) = (2 : Int)))) then (some (.bool false)) else (callB (kp E k n rep_Dialect [(.int .i64 a0)]) fun vq56 => (bif (!(vq56 == false)) then (some (.bool false)) else (bif (vq7 == false) then (some (.bool (decide (vn13 = (0 : Int))))) else (some (.bool false))))))) else (bif (!(decide ((IntKind.wrap .i64 vn9) = (2 : Int)))) then (some (.bool false)) else (bif (!(decide ((IntKind.wrap .i64 vn15) = (2 : Int)))) then (some (.bool false)) else (callB (kp E k n rep_Dialect [(.int .i64 a0)]) fun vq58 => (bif (!(vq58 == false)) then (some (.bool false)) else (bif (vq7 == false) then (some (.bool (decide (vn13 = (0 : Int))))) else (some (.bool false))))))))) else (bif (decide (a2 < (1 : Int))) then (bif (!(decide ((IntKind.wrap .i64 vn9) = (2 : Int)))) then (some (.bool false)) else (bif (!(decide ((IntKind.wrap .i64 vn15) = (2 : Int)))) then (some (.bool false)) else (callB (kp E k n rep_Dialect [(.int .i64 a0)]) fun vq60 => (bif (!(vq60 == false)) then (some (.bool false)) else (bif (vq7 == false) then (some (.bool (decide (vn13 = (0 : Int))))) else (some (.bool false))))))) else (bif (decide (a2 > (14 : Int))) then (bif (!(decide ((IntKind.wrap .i64 vn9) = (2 : Int)))) then (some (.bool false)) else (bif (!(decide ((IntKind.wrap .i64 vn15) = (2 : Int)))) then (some (.bool false)) else (callB (kp E k n rep_Dialect [(.int .i64 a0)]) fun vq62 => (bif (!(vq62 == false)) then (some (.bool false)) else (bif (vq7 == false) then (some (.bool (decide (vn13 = (0 : Int))))) else (some (.bool false))))))) else (bif (!(decide ((IntKind.wrap .i64 vn9) = (2 : Int)))) then (some (.bool false)) else (bif (!(decide ((IntKind.wrap .i64 vn15) = (2 : Int)))) then (some (.bool false)) else (callB (kp E k n rep_Dialect [(.int .i64 a0)]) fun vq64 => (bif (!(vq64 == false)) then (some (.bool false)) else (bif (vq7 == false) then (some (.bool (decide (vn13 = (0 : Int))))) else (some (.bool false)))))))))))))))))))))))) := (kp_at (by kernel_rfl)).trans (by kernel_rfl)
/- oakum/oakumlaw11.RepRecords -/
/- oakum/oakumlaw11.RepSays -/
/- oakum/oakumlaw11.alive -/
theorem law11_alive_eq {E : Ext} [Core E] (k n : Nat)  : kp E k (n + 1) law11_alive [] =
  (callT (kp E k n rep_First [(.int .i64 (1 : Int)), (.agg [(.int .i64 (7 : Int)), (.str (str [97])), (.str (str [])), (.int .i64 (0 : Int)), (.int .i64 (0 : Int)), (.int .i64 (0 : Int)), (.int .i64 (0 : Int)), (.int .i64 (0 : Int)), (.int .i64 (0 : Int)), (.str (str [])), (.str (str [])), (.int .i64 (0 : Int)), (.int .i64 (0 : Int)), (.list 2 [])])]) fun vt2 => (tupI .i64 vt2 fun vn3 vt4 => (tupI .u8 vt4 fun vn5 vt6 => (atNil vt6 (callT (kp E k n rep_First [(.int .i64 (4 : Int)), (.agg [(.int .i64 (7 : Int)), (.str (str [97])), (.str (str [])), (.int .i64 (0 : Int)), (.int .i64 (0 : Int)), (.int .i64 (0 : Int)), (.int .i64 (0 : Int)), (.int .i64 (0 : Int)), (.int .i64 (0 : Int)), (.str (str [])), (.str (str [])), (.int .i64 (0 : Int)), (.int .i64 (0 : Int)), (.list 2 [])])]) fun vt8 => (tupI .i64 vt8 fun vn9 vt10 => (tupI .u8 vt10 fun vn11 vt12 => (atNil vt12 (bif (decide ((IntKind.wrap .i64 ((IntKind.wrap .i64 vn5) + (IntKind.wrap .i64 vn11))) = (0 : Int))) then (bif (decide (vn3 = (1 : Int))) then (some (.bool (decide (vn9 = (0 : Int))))) else (some (.bool false))) else (some (.bool false))))))))))) := (kp_at (by kernel_rfl)).trans (by kernel_rfl)
/- oakum/oakumlaw11.many -/
noncomputable def law11_many_bd : Code := Tryz.f11.body.getD .skip
noncomputable def law11_many_L0 (kap : FuncId → List AV → Option AV) (k : Nat) (k0 : Nat) (s3 : Int) (s4 : Int) (b1_0 : Int) (b1_1 : ByteArray) (b1_2 : ByteArray) (b1_3 : Int) (b1_4 : Int) (b1_5 : Int) (b1_6 : Int) (b1_7 : Int) (b1_8 : Int) (b1_9 : ByteArray) (b1_10 : ByteArray) (b1_11 : Int) (b1_12 : Int) (b1_13 : List AV) : Option AV :=
  loop (fun fr K => code ((bs E0 k).cfg kap law11_many) (sel law11_many_bd [1, 1, 0, 1, 0, 0]) fr K) (canon ((bs E0 k).cfg kap law11_many) (firstReg (sel law11_many_bd [1, 1, 0, 1, 0, 0]))) k0 (mkFr 52 [(1, (.loc 1 0)), (3, (.int .i64 s3)), (4, (.int .i64 s4))] [(1, (.box [(.int .i64 b1_0), (.str b1_1), (.str b1_2), (.int .i64 b1_3), (.int .i64 b1_4), (.int .i64 b1_5), (.int .i64 b1_6), (.int .i64 b1_7), (.int .i64 b1_8), (.str b1_9), (.str b1_10), (.int .i64 b1_11), (.int .i64 b1_12), (.list 2 b1_13)]))]) (plug ((bs E0 k).cfg kap law11_many) (retK ((bs E0 k).cfg kap law11_many) [] Tryz.f11 [] some) [.blk 0, .seqR (sel law11_many_bd [1, 1, 1])])
theorem law11_many_L0_s (kap : FuncId → List AV → Option AV) (k : Nat) (k0 : Nat) (s3 : Int) (s4 : Int) (b1_0 : Int) (b1_1 : ByteArray) (b1_2 : ByteArray) (b1_3 : Int) (b1_4 : Int) (b1_5 : Int) (b1_6 : Int) (b1_7 : Int) (b1_8 : Int) (b1_9 : ByteArray) (b1_10 : ByteArray) (b1_11 : Int) (b1_12 : Int) (b1_13 : List AV) : law11_many_L0 kap k (k0 + 1) s3 s4 b1_0 b1_1 b1_2 b1_3 b1_4 b1_5 b1_6 b1_7 b1_8 b1_9 b1_10 b1_11 b1_12 b1_13 =
  (bif (decide (s4 < (((List.length b1_13) : Nat) : Int))) then (bif ((decide ((0 : Int) ≤ s4)) && (decide (s4 < (((List.length b1_13) : Nat) : Int)))) then ((b1_13[(Int.toNat s4)]?).bind fun vy1 => (cellS (AV.cells vy1) 0 fun vs2 => (bif ((decide ((0 : Int) ≤ s4)) && (decide (s4 < (((List.length b1_13) : Nat) : Int)))) then ((b1_13[(Int.toNat s4)]?).bind fun vy3 => (cellS (AV.cells vy3) 1 fun vs4 => (law11_many_L0 kap k k0 (IntKind.wrap .i64 ((IntKind.wrap .i64 (s3 + (((ByteArray.size vs2) : Nat) : Int))) + (((ByteArray.size vs4) : Nat) : Int))) (IntKind.wrap .i64 (s4 + (1 : Int))) b1_0 b1_1 b1_2 b1_3 b1_4 b1_5 b1_6 b1_7 b1_8 b1_9 b1_10 b1_11 b1_12 b1_13))) else none))) else none) else (bif (decide (s3 > (300000 : Int))) then (some (.bool true)) else (some (.bool (decide ((((List.length b1_13) : Nat) : Int) > (40 : Int))))))) := by kernel_rfl
theorem law11_many_eq {E : Ext} [Core E] (k n : Nat) (a0_0 : Int) (a0_1 : ByteArray) (a0_2 : ByteArray) (a0_3 : Int) (a0_4 : Int) (a0_5 : Int) (a0_6 : Int) (a0_7 : Int) (a0_8 : Int) (a0_9 : ByteArray) (a0_10 : ByteArray) (a0_11 : Int) (a0_12 : Int) (a0_13 : List AV) : kp E k (n + 1) law11_many [(.agg [(.int .i64 a0_0), (.str a0_1), (.str a0_2), (.int .i64 a0_3), (.int .i64 a0_4), (.int .i64 a0_5), (.int .i64 a0_6), (.int .i64 a0_7), (.int .i64 a0_8), (.str a0_9), (.str a0_10), (.int .i64 a0_11), (.int .i64 a0_12), (.list 2 a0_13)])] =
  (law11_many_L0 (kp E k n) k k (IntKind.wrap .i64 ((IntKind.wrap .i64 ((IntKind.wrap .i64 ((((ByteArray.size a0_1) : Nat) : Int) + (((ByteArray.size a0_2) : Nat) : Int))) + (((ByteArray.size a0_9) : Nat) : Int))) + (((ByteArray.size a0_10) : Nat) : Int))) (0 : Int) a0_0 a0_1 a0_2 a0_3 a0_4 a0_5 a0_6 a0_7 a0_8 a0_9 a0_10 a0_11 a0_12 a0_13) := (kp_at (by kernel_rfl)).trans (by kernel_rfl)
/- oakum/rep.First -/
noncomputable def rep_First_bd : Code := Tryz.f13.body.getD .skip
noncomputable def rep_First_L0 (kap : FuncId → List AV → Option AV) (k : Nat) (k0 : Nat) (s0 : Int) (s6 : Int) (b3_0 : Int) (b3_1 : ByteArray) (b3_2 : ByteArray) (b3_3 : Int) (b3_4 : Int) (b3_5 : Int) (b3_6 : Int) (b3_7 : Int) (b3_8 : Int) (b3_9 : ByteArray) (b3_10 : ByteArray) (b3_11 : Int) (b3_12 : Int) (b3_13 : List AV) : Option AV :=
  loop (fun fr K => code ((bs E0 k).cfg kap rep_First) (sel rep_First_bd [1, 1, 1, 0, 1, 0, 0]) fr K) (canon ((bs E0 k).cfg kap rep_First) (firstReg (sel rep_First_bd [1, 1, 1, 0, 1, 0, 0]))) k0 (mkFr 23 [(0, (.int .i64 s0)), (3, (.loc 3 0)), (6, (.int .i64 s6))] [(3, (.box [(.int .i64 b3_0), (.str b3_1), (.str b3_2), (.int .i64 b3_3), (.int .i64 b3_4), (.int .i64 b3_5), (.int .i64 b3_6), (.int .i64 b3_7), (.int .i64 b3_8), (.str b3_9), (.str b3_10), (.int .i64 b3_11), (.int .i64 b3_12), (.list 2 b3_13)]))]) (plug ((bs E0 k).cfg kap rep_First) (retK ((bs E0 k).cfg kap rep_First) [] Tryz.f13 [] some) [.blk 0, .seqR (sel rep_First_bd [1, 1, 1, 1])])
theorem rep_First_L0_s (kap : FuncId → List AV → Option AV) (k : Nat) (k0 : Nat) (s0 : Int) (s6 : Int) (b3_0 : Int) (b3_1 : ByteArray) (b3_2 : ByteArray) (b3_3 : Int) (b3_4 : Int) (b3_5 : Int) (b3_6 : Int) (b3_7 : Int) (b3_8 : Int) (b3_9 : ByteArray) (b3_10 : ByteArray) (b3_11 : Int) (b3_12 : Int) (b3_13 : List AV) : rep_First_L0 kap k (k0 + 1) s0 s6 b3_0 b3_1 b3_2 b3_3 b3_4 b3_5 b3_6 b3_7 b3_8 b3_9 b3_10 b3_11 b3_12 b3_13 =
  (bif (decide (s6 ≤ (14 : Int))) then (callB (kap rep_can [(.int .i64 s0), (.agg [(.int .i64 b3_0), (.str b3_1), (.str b3_2), (.int .i64 b3_3), (.int .i64 b3_4), (.int .i64 b3_5), (.int .i64 b3_6), (.int .i64 b3_7), (.int .i64 b3_8), (.str b3_9), (.str b3_10), (.int .i64 b3_11), (.int .i64 b3_12), (.list 2 b3_13)]), (.int .i64 s6)]) fun vq6 => (bif (!vq6) then (some (.tup [(.int .i64 s6), (.int .u8 (0 : Int))])) else (rep_First_L0 kap k k0 s0 (IntKind.wrap .i64 (s6 + (1 : Int))) b3_0 b3_1 b3_2 b3_3 b3_4 b3_5 b3_6 b3_7 b3_8 b3_9 b3_10 b3_11 b3_12 b3_13))) else (some (.tup [(.int .i64 (0 : Int)), (.int .u8 (0 : Int))]))) := by kernel_rfl
theorem rep_First_eq {E : Ext} [Core E] (k n : Nat) (a0 : Int) (a1_0 : Int) (a1_1 : ByteArray) (a1_2 : ByteArray) (a1_3 : Int) (a1_4 : Int) (a1_5 : Int) (a1_6 : Int) (a1_7 : Int) (a1_8 : Int) (a1_9 : ByteArray) (a1_10 : ByteArray) (a1_11 : Int) (a1_12 : Int) (a1_13 : List AV) : kp E k (n + 1) rep_First [(.int .i64 a0), (.agg [(.int .i64 a1_0), (.str a1_1), (.str a1_2), (.int .i64 a1_3), (.int .i64 a1_4), (.int .i64 a1_5), (.int .i64 a1_6), (.int .i64 a1_7), (.int .i64 a1_8), (.str a1_9), (.str a1_10), (.int .i64 a1_11), (.int .i64 a1_12), (.list 2 a1_13)])] =
  (callB (kp E k n rep_Dialect [(.int .i64 a0)]) fun vq2 => (bif (!vq2) then (some (.tup [(.int .i64 (0 : Int)), (.int .u8 (2 : Int))])) else (callI .i64 (kp E k n item_Wrong [(.agg [(.int .i64 a1_0), (.str a1_1), (.str a1_2), (.int .i64 a1_3), (.int .i64 a1_4), (.int .i64 a1_5), (.int .i64 a1_6), (.int .i64 a1_7), (.int .i64 a1_8), (.str a1_9), (.str a1_10), (.int .i64 a1_11), (.int .i64 a1_12), (.list 2 a1_13)])]) fun vn4 => (bif (!(decide (vn4 = (0 : Int)))) then (some (.tup [(.int .i64 (0 : Int)), (.int .u8 (15 : Int))])) else (rep_First_L0 (kp E k n) k k a0 (1 : Int) a1_0 a1_1 a1_2 a1_3 a1_4 a1_5 a1_6 a1_7 a1_8 a1_9 a1_10 a1_11 a1_12 a1_13))))) := (kp_at (by kernel_rfl)).trans (by kernel_rfl)
/- oakum/rep.Can -/
theorem rep_Can_eq {E : Ext} [Core E] (k n : Nat) (a0 : Int) (a1_0 : Int) (a1_1 : ByteArray) (a1_2 : ByteArray) (a1_3 : Int) (a1_4 : Int) (a1_5 : Int) (a1_6 : Int) (a1_7 : Int) (a1_8 : Int) (a1_9 : ByteArray) (a1_10 : ByteArray) (a1_11 : Int) (a1_12 : Int) (a1_13 : List AV) (a2 : Int) : kp E k (n + 1) rep_Can [(.int .i64 a0), (.agg [(.int .i64 a1_0), (.str a1_1), (.str a1_2), (.int .i64 a1_3), (.int .i64 a1_4), (.int .i64 a1_5), (.int .i64 a1_6), (.int .i64 a1_7), (.int .i64 a1_8), (.str a1_9), (.str a1_10), (.int .i64 a1_11), (.int .i64 a1_12), (.list 2 a1_13)]), (.int .i64 a2)] =
  (callB (kp E k n rep_Dialect [(.int .i64 a0)]) fun vq2 => (bif (!vq2) then (some (.tup [(.bool false), (.int .u8 (2 : Int))])) else (bif (decide (a2 < (1 : Int))) then (some (.tup [(.bool false), (.int .u8 (2 : Int))])) else (bif (decide (a2 > (14 : Int))) then (some (.tup [(.bool false), (.int .u8 (2 : Int))])) else (callI .i64 (kp E k n item_Wrong [(.agg [(.int .i64 a1_0), (.str a1_1), (.str a1_2), (.int .i64 a1_3), (.int .i64 a1_4), (.int .i64 a1_5), (.int .i64 a1_6), (.int .i64 a1_7), (.int .i64 a1_8), (.str a1_9), (.str a1_10), (.int .i64 a1_11), (.int .i64 a1_12), (.list 2 a1_13)])]) fun vn4 => (bif (!(decide (vn4 = (0 : Int)))) then (some (.tup [(.bool false), (.int .u8 (15 : Int))])) else (callB (kp E k n rep_can [(.int .i64 a0), (.agg [(.int .i64 a1_0), (.str a1_1), (.str a1_2), (.int .i64 a1_3), (.int .i64 a1_4), (.int .i64 a1_5), (.int .i64 a1_6), (.int .i64 a1_7), (.int .i64 a1_8), (.str a1_9), (.str a1_10), (.int .i64 a1_11), (.int .i64 a1_12), (.list 2 a1_13)]), (.int .i64 a2)]) fun vq6 => (some (.tup [(.bool vq6), (.int .u8 (0 : Int))]))))))))) := (kp_at (by kernel_rfl)).trans (by kernel_rfl)
/- oakum/rep.Dialect -/
theorem rep_Dialect_eq {E : Ext} [Core E] (k n : Nat) (a0 : Int) : kp E k (n + 1) rep_Dialect [(.int .i64 a0)] =
  (bif (decide (a0 ≥ (1 : Int))) then (some (.bool (decide (a0 ≤ (4 : Int))))) else (some (.bool false))) := (kp_at (by kernel_rfl)).trans (by kernel_rfl)
/- oakum/oakumref11.Can -/
noncomputable def ref11_Can_bd : Code := Tryz.f19.body.getD .skip
noncomputable def ref11_Can_L0 (kap : FuncId → List AV → Option AV) (k : Nat) (k0 : Nat) (s0 : Int) (s7 : List AV) (s8 : Bool) (s9 : Int) (s10 : Int) : Option AV :=
  loop (fun fr K => code ((bs E0 k).cfg kap ref11_Can) (sel ref11_Can_bd [1, 0, 1, 0, 1, 1, 0, 1, 0, 0]) fr K) (canon ((bs E0 k).cfg kap ref11_Can) (firstReg (sel ref11_Can_bd [1, 0, 1, 0, 1, 1, 0, 1, 0, 0]))) k0 (mkFr 97 [(0, (.int .i64 s0)), (7, (.list 2 s7)), (8, (.bool s8)), (9, (.int .i64 s9)), (10, (.int .i64 s10))] []) (plug ((bs E0 k).cfg kap ref11_Can) (retK ((bs E0 k).cfg kap ref11_Can) [] Tryz.f19 [] some) [.blk 0, .seqR (sel ref11_Can_bd [1, 0, 1, 0, 1, 1, 1]), .seqR (sel ref11_Can_bd [1, 1])])
theorem ref11_Can_L0_s (kap : FuncId → List AV → Option AV) (k : Nat) (k0 : Nat) (s0 : Int) (s7 : List AV) (s8 : Bool) (s9 : Int) (s10 : Int) : ref11_Can_L0 kap k (k0 + 1) s0 s7 s8 s9 s10 =
  (bif (decide (s10 < (((List.length s7) : Nat) : Int))) then (bif (decide (s9 ≤ (65536 : Int))) then (bif ((decide ((0 : Int) ≤ s10)) && (decide (s10 < (((List.length s7) : Nat) : Int)))) then ((s7[(Int.toNat s10)]?).bind fun vy7 => (cellS (AV.cells vy7) 0 fun vs8 => (cellS (AV.cells vy7) 1 fun vs9 => (callI .i64 (kap ref07_Len [(.agg [(.str vs8), (.str vs9)])]) fun vn11 => (ref11_Can_L0 kap k k0 s0 s7 s8 (IntKind.wrap .i64 (s9 + vn11)) (IntKind.wrap .i64 (s10 + (1 : Int)))))))) else none) else (bif (!(decide (s0 = (3 : Int)))) then (some (.bool true)) else (bif (!s8) then (some (.bool true)) else (some (.bool (decide (s9 ≤ (65536 : Int)))))))) else (bif (!(decide (s0 = (3 : Int)))) then (some (.bool true)) else (bif (!s8) then (some (.bool true)) else (some (.bool (decide (s9 ≤ (65536 : Int)))))))) := by kernel_rfl
theorem ref11_Can_eq {E : Ext} [Core E] (k n : Nat) (a0 : Int) (a1_0 : Int) (a1_1 : ByteArray) (a1_2 : ByteArray) (a1_3 : Int) (a1_4 : Int) (a1_5 : Int) (a1_6 : Int) (a1_7 : Int) (a1_8 : Int) (a1_9 : ByteArray) (a1_10 : ByteArray) (a1_11 : Int) (a1_12 : Int) (a1_13 : List AV) (a2 : Int) : kp E k (n + 1) ref11_Can [(.int .i64 a0), (.agg [(.int .i64 a1_0), (.str a1_1), (.str a1_2), (.int .i64 a1_3), (.int .i64 a1_4), (.int .i64 a1_5), (.int .i64 a1_6), (.int .i64 a1_7), (.int .i64 a1_8), (.str a1_9), (.str a1_10), (.int .i64 a1_11), (.int .i64 a1_12), (.list 2 a1_13)]), (.int .i64 a2)] =
  (bif (decide (a2 = (14 : Int))) then (callT (kp E k n ref11_Records [(.agg [(.int .i64 a1_0), (.str a1_1), (.str a1_2), (.int .i64 a1_3), (.int .i64 a1_4), (.int .i64 a1_5), (.int .i64 a1_6), (.int .i64 a1_7), (.int .i64 a1_8), (.str a1_9), (.str a1_10), (.int .i64 a1_11), (.int .i64 a1_12), (.list 2 a1_13)])]) fun vt2 => (tupL 2 vt2 fun vl3 vt4 => (tupB vt4 fun vq5 vt6 => (atNil vt6 (ref11_Can_L0 (kp E k n) k k a0 vl3 vq5 (0 : Int) (0 : Int)))))) else (bif (!(decide (a0 = (3 : Int)))) then (callB (kp E k n ref11_plain [(.int .i64 a0), (.agg [(.int .i64 a1_0), (.str a1_1), (.str a1_2), (.int .i64 a1_3), (.int .i64 a1_4), (.int .i64 a1_5), (.int .i64 a1_6), (.int .i64 a1_7), (.int .i64 a1_8), (.str a1_9), (.str a1_10), (.int .i64 a1_11), (.int .i64 a1_12), (.list 2 a1_13)]), (.int .i64 a2)]) fun vq13 => (some (.bool vq13))) else (bif (decide (a2 = (5 : Int))) then (bif (decide (a2 = (5 : Int))) then (some (.bool true)) else (bif (decide (a2 = (2 : Int))) then (callB (kp E k n ref11_plain [(.int .i64 (2 : Int)), (.agg [(.int .i64 a1_0), (.str a1_1), (.str a1_2), (.int .i64 a1_3), (.int .i64 a1_4), (.int .i64 a1_5), (.int .i64 a1_6), (.int .i64 a1_7), (.int .i64 a1_8), (.str a1_9), (.str a1_10), (.int .i64 a1_11), (.int .i64 a1_12), (.list 2 a1_13)]), (.int .i64 (2 : Int))]) fun vq15 => (bif vq15 then (some (.bool true)) else (callB (kp E k n ref11_utf [(.str a1_1)]) fun vq17 => (some (.bool vq17))))) else (bif (decide (a2 = (3 : Int))) then (callB (kp E k n ref11_plain [(.int .i64 (2 : Int)), (.agg [(.int .i64 a1_0), (.str a1_1), (.str a1_2), (.int .i64 a1_3), (.int .i64 a1_4), (.int .i64 a1_5), (.int .i64 a1_6), (.int .i64 a1_7), (.int .i64 a1_8), (.str a1_9), (.str a1_10), (.int .i64 a1_11), (.int .i64 a1_12), (.list 2 a1_13)]), (.int .i64 (3 : Int))]) fun vq19 => (bif vq19 then (some (.bool true)) else (callB (kp E k n ref11_utf [(.str a1_2)]) fun vq21 => (some (.bool vq21))))) else (bif (decide (a2 = (9 : Int))) then (callB (kp E k n ref11_plain [(.int .i64 (2 : Int)), (.agg [(.int .i64 a1_0), (.str a1_1), (.str a1_2), (.int .i64 a1_3), (.int .i64 a1_4), (.int .i64 a1_5), (.int .i64 a1_6), (.int .i64 a1_7), (.int .i64 a1_8), (.str a1_9), (.str a1_10), (.int .i64 a1_11), (.int .i64 a1_12), (.list 2 a1_13)]), (.int .i64 (9 : Int))]) fun vq23 => (bif vq23 then (some (.bool true)) else (callB (kp E k n ref11_utf [(.str a1_9)]) fun vq25 => (some (.bool vq25))))) else (bif (decide (a2 = (10 : Int))) then (callB (kp E k n ref11_plain [(.int .i64 (2 : Int)), (.agg [(.int .i64 a1_0), (.str a1_1), (.str a1_2), (.int .i64 a1_3), (.int .i64 a1_4), (.int .i64 a1_5), (.int .i64 a1_6), (.int .i64 a1_7), (.int .i64 a1_8), (.str a1_9), (.str a1_10), (.int .i64 a1_11), (.int .i64 a1_12), (.list 2 a1_13)]), (.int .i64 (10 : Int))]) fun vq27 => (bif vq27 then (some (.bool true)) else (callB (kp E k n ref11_utf [(.str a1_10)]) fun vq29 => (some (.bool vq29))))) else (callB (kp E k n ref11_plain [(.int .i64 (2 : Int)), (.agg [(.int .i64 a1_0), (.str a1_1), (.str a1_2), (.int .i64 a1_3), (.int .i64 a1_4), (.int .i64 a1_5), (.int .i64 a1_6), (.int .i64 a1_7), (.int .i64 a1_8), (.str a1_9), (.str a1_10), (.int .i64 a1_11), (.int .i64 a1_12), (.list 2 a1_13)]), (.int .i64 a2)]) fun vq31 => (some (.bool vq31)))))))) else (bif (decide (a2 = (6 : Int))) then (bif (decide (a2 = (6 : Int))) then (some (.bool true)) else (bif (decide (a2 = (2 : Int))) then (callB (kp E k n ref11_plain [(.int .i64 (2 : Int)), (.agg [(.int .i64 a1_0), (.str a1_1), (.str a1_2), (.int .i64 a1_3), (.int .i64 a1_4), (.int .i64 a1_5), (.int .i64 a1_6), (.int .i64 a1_7), (.int .i64 a1_8), (.str a1_9), (.str a1_10), (.int .i64 a1_11), (.int .i64 a1_12), (.list 2 a1_13)]), (.int .i64 (2 : Int))]) fun vq33 => (bif vq33 then (some (.bool true)) else (callB (kp E k n ref11_utf [(.str a1_1)]) fun vq35 => (some (.bool vq35))))) else (bif (decide (a2 = (3 : Int))) then (callB (kp E k n ref11_plain [(.int .i64 (2 : Int)), (.agg [(.int .i64 a1_0), (.str a1_1), (.str a1_2), (.int .i64 a1_3), (.int .i64 a1_4), (.int .i64 a1_5), (.int .i64 a1_6), (.int .i64 a1_7), (.int .i64 a1_8), (.str a1_9), (.str a1_10), (.int .i64 a1_11), (.int .i64 a1_12), (.list 2 a1_13)]), (.int .i64 (3 : Int))]) fun vq37 => (bif vq37 then (some (.bool true)) else (callB (kp E k n ref11_utf [(.str a1_2)]) fun vq39 => (some (.bool vq39))))) else (bif (decide (a2 = (9 : Int))) then (callB (kp E k n ref11_plain [(.int .i64 (2 : Int)), (.agg [(.int .i64 a1_0), (.str a1_1), (.str a1_2), (.int .i64 a1_3), (.int .i64 a1_4), (.int .i64 a1_5), (.int .i64 a1_6), (.int .i64 a1_7), (.int .i64 a1_8), (.str a1_9), (.str a1_10), (.int .i64 a1_11), (.int .i64 a1_12), (.list 2 a1_13)]), (.int .i64 (9 : Int))]) fun vq41 => (bif vq41 then (some (.bool true)) else (callB (kp E k n ref11_utf [(.str a1_9)]) fun vq43 => (some (.bool vq43))))) else (bif (decide (a2 = (10 : Int))) then (callB (kp E k n ref11_plain [(.int .i64 (2 : Int)), (.agg [(.int .i64 a1_0), (.str a1_1), (.str a1_2), (.int .i64 a1_3), (.int .i64 a1_4), (.int .i64 a1_5), (.int .i64 a1_6), (.int .i64 a1_7), (.int .i64 a1_8), (.str a1_9), (.str a1_10), (.int .i64 a1_11), (.int .i64 a1_12), (.list 2 a1_13)]), (.int .i64 (10 : Int))]) fun vq45 => (bif vq45 then (some (.bool true)) else (callB (kp E k n ref11_utf [(.str a1_10)]) fun vq47 => (some (.bool vq47))))) else (callB (kp E k n ref11_plain [(.int .i64 (2 : Int)), (.agg [(.int .i64 a1_0), (.str a1_1), (.str a1_2), (.int .i64 a1_3), (.int .i64 a1_4), (.int .i64 a1_5), (.int .i64 a1_6), (.int .i64 a1_7), (.int .i64 a1_8), (.str a1_9), (.str a1_10), (.int .i64 a1_11), (.int .i64 a1_12), (.list 2 a1_13)]), (.int .i64 a2)]) fun vq49 => (some (.bool vq49)))))))) else (bif (decide (a2 = (7 : Int))) then (bif (decide (a2 = (7 : Int))) then (some (.bool true)) else (bif (decide (a2 = (2 : Int))) then (callB (kp E k n ref11_plain [(.int .i64 (2 : Int)), (.agg [(.int .i64 a1_0), (.str a1_1), (.str a1_2), (.int .i64 a1_3), (.int .i64 a1_4), (.int .i64 a1_5), (.int .i64 a1_6), (.int .i64 a1_7), (.int .i64 a1_8), (.str a1_9), (.str a1_10), (.int .i64 a1_11), (.int .i64 a1_12), (.list 2 a1_13)]), (.int .i64 (2 : Int))]) fun vq51 => (bif vq51 then (some (.bool true)) else (callB (kp E k n ref11_utf [(.str a1_1)]) fun vq53 => (some (.bool vq53))))) else (bif (decide (a2 = (3 : Int))) then (callB (kp E k n ref11_plain [(.int .i64 (2 : Int)), (.agg [(.int .i64 a1_0), (.str a1_1), (.str a1_2), (.int .i64 a1_3), (.int .i64 a1_4), (.int .i64 a1_5), (.int .i64 a1_6), (.int .i64 a1_7), (.int .i64 a1_8), (.str a1_9), (.str a1_10), (.int .i64 a1_11), (.int .i64 a1_12), (.list 2 a1_13)]), (.int .i64 (3 : Int))]) fun vq55 => (bif vq55 then (some (.bool true)) else (callB (kp E k n ref11_utf [(.str a1_2)]) fun vq57 => (some (.bool vq57))))) else (bif (decide (a2 = (9 : Int))) then (callB (kp E k n ref11_plain [(.int .i64 (2 : Int)), (.agg [(.int .i64 a1_0), (.str a1_1), (.str a1_2), (.int .i64 a1_3), (.int .i64 a1_4), (.int .i64 a1_5), (.int .i64 a1_6), (.int .i64 a1_7), (.int .i64 a1_8), (.str a1_9), (.str a1_10), (.int .i64 a1_11), (.int .i64 a1_12), (.list 2 a1_13)]), (.int .i64 (9 : Int))]) fun vq59 => (bif vq59 then (some (.bool true)) else (callB (kp E k n ref11_utf [(.str a1_9)]) fun vq61 => (some (.bool vq61))))) else (bif (decide (a2 = (10 : Int))) then (callB (kp E k n ref11_plain [(.int .i64 (2 : Int)), (.agg [(.int .i64 a1_0), (.str a1_1), (.str a1_2), (.int .i64 a1_3), (.int .i64 a1_4), (.int .i64 a1_5), (.int .i64 a1_6), (.int .i64 a1_7), (.int .i64 a1_8), (.str a1_9), (.str a1_10), (.int .i64 a1_11), (.int .i64 a1_12), (.list 2 a1_13)]), (.int .i64 (10 : Int))]) fun vq63 => (bif vq63 then (some (.bool true)) else (callB (kp E k n ref11_utf [(.str a1_10)]) fun vq65 => (some (.bool vq65))))) else (callB (kp E k n ref11_plain [(.int .i64 (2 : Int)), (.agg [(.int .i64 a1_0), (.str a1_1), (.str a1_2), (.int .i64 a1_3), (.int .i64 a1_4), (.int .i64 a1_5), (.int .i64 a1_6), (.int .i64 a1_7), (.int .i64 a1_8), (.str a1_9), (.str a1_10), (.int .i64 a1_11), (.int .i64 a1_12), (.list 2 a1_13)]), (.int .i64 a2)]) fun vq67 => (some (.bool vq67)))))))) else (bif (decide (a2 = (8 : Int))) then (bif (decide (a2 = (8 : Int))) then (some (.bool true)) else (bif (decide (a2 = (2 : Int))) then (callB (kp E k n ref11_plain [(.int .i64 (2 : Int)), (.agg [(.int .i64 a1_0), (.str a1_1), (.str a1_2), (.int .i64 a1_3), (.int .i64 a1_4), (.int .i64 a1_5), (.int .i64 a1_6), (.int .i64 a1_7), (.int .i64 a1_8), (.str a1_9), (.str a1_10), (.int .i64 a1_11), (.int .i64 a1_12), (.list 2 a1_13)]), (.int .i64 (2 : Int))]) fun vq69 => (bif vq69 then (some (.bool true)) else (callB (kp E k n ref11_utf [(.str a1_1)]) fun vq71 => (some (.bool vq71))))) else (bif (decide (a2 = (3 : Int))) then (callB (kp E k n ref11_plain [(.int .i64 (2 : Int)), (.agg [(.int .i64 a1_0), (.str a1_1), (.str a1_2), (.int .i64 a1_3), (.int .i64 a1_4), (.int .i64 a1_5), (.int .i64 a1_6), (.int .i64 a1_7), (.int .i64 a1_8), (.str a1_9), (.str a1_10), (.int .i64 a1_11), (.int .i64 a1_12), (.list 2 a1_13)]), (.int .i64 (3 : Int))]) fun vq73 => (bif vq73 then (some (.bool true)) else (callB (kp E k n ref11_utf [(.str a1_2)]) fun vq75 => (some (.bool vq75))))) else (bif (decide (a2 = (9 : Int))) then (callB (kp E k n ref11_plain [(.int .i64 (2 : Int)), (.agg [(.int .i64 a1_0), (.str a1_1), (.str a1_2), (.int .i64 a1_3), (.int .i64 a1_4), (.int .i64 a1_5), (.int .i64 a1_6), (.int .i64 a1_7), (.int .i64 a1_8), (.str a1_9), (.str a1_10), (.int .i64 a1_11), (.int .i64 a1_12), (.list 2 a1_13)]), (.int .i64 (9 : Int))]) fun vq77 => (bif vq77 then (some (.bool true)) else (callB (kp E k n ref11_utf [(.str a1_9)]) fun vq79 => (some (.bool vq79))))) else (bif (decide (a2 = (10 : Int))) then (callB (kp E k n ref11_plain [(.int .i64 (2 : Int)), (.agg [(.int .i64 a1_0), (.str a1_1), (.str a1_2), (.int .i64 a1_3), (.int .i64 a1_4), (.int .i64 a1_5), (.int .i64 a1_6), (.int .i64 a1_7), (.int .i64 a1_8), (.str a1_9), (.str a1_10), (.int .i64 a1_11), (.int .i64 a1_12), (.list 2 a1_13)]), (.int .i64 (10 : Int))]) fun vq81 => (bif vq81 then (some (.bool true)) else (callB (kp E k n ref11_utf [(.str a1_10)]) fun vq83 => (some (.bool vq83))))) else (callB (kp E k n ref11_plain [(.int .i64 (2 : Int)), (.agg [(.int .i64 a1_0), (.str a1_1), (.str a1_2), (.int .i64 a1_3), (.int .i64 a1_4), (.int .i64 a1_5), (.int .i64 a1_6), (.int .i64 a1_7), (.int .i64 a1_8), (.str a1_9), (.str a1_10), (.int .i64 a1_11), (.int .i64 a1_12), (.list 2 a1_13)]), (.int .i64 a2)]) fun vq85 => (some (.bool vq85)))))))) else (bif (decide (a2 = (13 : Int))) then (some (.bool true)) else (bif (decide (a2 = (2 : Int))) then (callB (kp E k n ref11_plain [(.int .i64 (2 : Int)), (.agg [(.int .i64 a1_0), (.str a1_1), (.str a1_2), (.int .i64 a1_3), (.int .i64 a1_4), (.int .i64 a1_5), (.int .i64 a1_6), (.int .i64 a1_7), (.int .i64 a1_8), (.str a1_9), (.str a1_10), (.int .i64 a1_11), (.int .i64 a1_12), (.list 2 a1_13)]), (.int .i64 (2 : Int))]) fun vq87 => (bif vq87 then (some (.bool true)) else (callB (kp E k n ref11_utf [(.str a1_1)]) fun vq89 => (some (.bool vq89))))) else (bif (decide (a2 = (3 : Int))) then (callB (kp E k n ref11_plain [(.int .i64 (2 : Int)), (.agg [(.int .i64 a1_0), (.str a1_1), (.str a1_2), (.int .i64 a1_3), (.int .i64 a1_4), (.int .i64 a1_5), (.int .i64 a1_6), (.int .i64 a1_7), (.int .i64 a1_8), (.str a1_9), (.str a1_10), (.int .i64 a1_11), (.int .i64 a1_12), (.list 2 a1_13)]), (.int .i64 (3 : Int))]) fun vq91 => (bif vq91 then (some (.bool true)) else (callB (kp E k n ref11_utf [(.str a1_2)]) fun vq93 => (some (.bool vq93))))) else (bif (decide (a2 = (9 : Int))) then (callB (kp E k n ref11_plain [(.int .i64 (2 : Int)), (.agg [(.int .i64 a1_0), (.str a1_1), (.str a1_2), (.int .i64 a1_3), (.int .i64 a1_4), (.int .i64 a1_5), (.int .i64 a1_6), (.int .i64 a1_7), (.int .i64 a1_8), (.str a1_9), (.str a1_10), (.int .i64 a1_11), (.int .i64 a1_12), (.list 2 a1_13)]), (.int .i64 (9 : Int))]) fun vq95 => (bif vq95 then (some (.bool true)) else (callB (kp E k n ref11_utf [(.str a1_9)]) fun vq97 => (some (.bool vq97))))) else (bif (decide (a2 = (10 : Int))) then (callB (kp E k n ref11_plain [(.int .i64 (2 : Int)), (.agg [(.int .i64 a1_0), (.str a1_1), (.str a1_2), (.int .i64 a1_3), (.int .i64 a1_4), (.int .i64 a1_5), (.int .i64 a1_6), (.int .i64 a1_7), (.int .i64 a1_8), (.str a1_9), (.str a1_10), (.int .i64 a1_11), (.int .i64 a1_12), (.list 2 a1_13)]), (.int .i64 (10 : Int))]) fun vq99 => (bif vq99 then (some (.bool true)) else (callB (kp E k n ref11_utf [(.str a1_10)]) fun vq101 => (some (.bool vq101))))) else (callB (kp E k n ref11_plain [(.int .i64 (2 : Int)), (.agg [(.int .i64 a1_0), (.str a1_1), (.str a1_2), (.int .i64 a1_3), (.int .i64 a1_4), (.int .i64 a1_5), (.int .i64 a1_6), (.int .i64 a1_7), (.int .i64 a1_8), (.str a1_9), (.str a1_10), (.int .i64 a1_11), (.int .i64 a1_12), (.list 2 a1_13)]), (.int .i64 a2)]) fun vq103 => (some (.bool vq103)))))))))))))) := (kp_at (by kernel_rfl)).trans (by kernel_rfl)
/- oakum/oakumref11.First -/
noncomputable def ref11_First_bd : Code := Tryz.f20.body.getD .skip
noncomputable def ref11_First_L0 (kap : FuncId → List AV → Option AV) (k : Nat) (k0 : Nat) (s0 : Int) (s5 : Int) (b3_0 : Int) (b3_1 : ByteArray) (b3_2 : ByteArray) (b3_3 : Int) (b3_4 : Int) (b3_5 : Int) (b3_6 : Int) (b3_7 : Int) (b3_8 : Int) (b3_9 : ByteArray) (b3_10 : ByteArray) (b3_11 : Int) (b3_12 : Int) (b3_13 : List AV) : Option AV :=
  loop (fun fr K => code ((bs E0 k).cfg kap ref11_First) (sel ref11_First_bd [1, 0, 1, 0, 0]) fr K) (canon ((bs E0 k).cfg kap ref11_First) (firstReg (sel ref11_First_bd [1, 0, 1, 0, 0]))) k0 (mkFr 16 [(0, (.int .i64 s0)), (3, (.loc 3 0)), (5, (.int .i64 s5))] [(3, (.box [(.int .i64 b3_0), (.str b3_1), (.str b3_2), (.int .i64 b3_3), (.int .i64 b3_4), (.int .i64 b3_5), (.int .i64 b3_6), (.int .i64 b3_7), (.int .i64 b3_8), (.str b3_9), (.str b3_10), (.int .i64 b3_11), (.int .i64 b3_12), (.list 2 b3_13)]))]) (plug ((bs E0 k).cfg kap ref11_First) (retK ((bs E0 k).cfg kap ref11_First) [] Tryz.f20 [] some) [.blk 0, .seqR (sel ref11_First_bd [1, 1])])
theorem ref11_First_L0_s (kap : FuncId → List AV → Option AV) (k : Nat) (k0 : Nat) (s0 : Int) (s5 : Int) (b3_0 : Int) (b3_1 : ByteArray) (b3_2 : ByteArray) (b3_3 : Int) (b3_4 : Int) (b3_5 : Int) (b3_6 : Int) (b3_7 : Int) (b3_8 : Int) (b3_9 : ByteArray) (b3_10 : ByteArray) (b3_11 : Int) (b3_12 : Int) (b3_13 : List AV) : ref11_First_L0 kap k (k0 + 1) s0 s5 b3_0 b3_1 b3_2 b3_3 b3_4 b3_5 b3_6 b3_7 b3_8 b3_9 b3_10 b3_11 b3_12 b3_13 =
  (bif (decide (s5 ≤ (14 : Int))) then (callB (kap ref11_Can [(.int .i64 s0), (.agg [(.int .i64 b3_0), (.str b3_1), (.str b3_2), (.int .i64 b3_3), (.int .i64 b3_4), (.int .i64 b3_5), (.int .i64 b3_6), (.int .i64 b3_7), (.int .i64 b3_8), (.str b3_9), (.str b3_10), (.int .i64 b3_11), (.int .i64 b3_12), (.list 2 b3_13)]), (.int .i64 s5)]) fun vq2 => (bif (!vq2) then (some (.int .i64 s5)) else (ref11_First_L0 kap k k0 s0 (IntKind.wrap .i64 (s5 + (1 : Int))) b3_0 b3_1 b3_2 b3_3 b3_4 b3_5 b3_6 b3_7 b3_8 b3_9 b3_10 b3_11 b3_12 b3_13))) else (some (.int .i64 (0 : Int)))) := by kernel_rfl
theorem ref11_First_eq {E : Ext} [Core E] (k n : Nat) (a0 : Int) (a1_0 : Int) (a1_1 : ByteArray) (a1_2 : ByteArray) (a1_3 : Int) (a1_4 : Int) (a1_5 : Int) (a1_6 : Int) (a1_7 : Int) (a1_8 : Int) (a1_9 : ByteArray) (a1_10 : ByteArray) (a1_11 : Int) (a1_12 : Int) (a1_13 : List AV) : kp E k (n + 1) ref11_First [(.int .i64 a0), (.agg [(.int .i64 a1_0), (.str a1_1), (.str a1_2), (.int .i64 a1_3), (.int .i64 a1_4), (.int .i64 a1_5), (.int .i64 a1_6), (.int .i64 a1_7), (.int .i64 a1_8), (.str a1_9), (.str a1_10), (.int .i64 a1_11), (.int .i64 a1_12), (.list 2 a1_13)])] =
  (ref11_First_L0 (kp E k n) k k a0 (1 : Int) a1_0 a1_1 a1_2 a1_3 a1_4 a1_5 a1_6 a1_7 a1_8 a1_9 a1_10 a1_11 a1_12 a1_13) := (kp_at (by kernel_rfl)).trans (by kernel_rfl)
/- oakum/rep.Full -/
/- oakum/oakumref11.Full -/
noncomputable def ref11_Full_bd : Code := Tryz.f22.body.getD .skip
noncomputable def ref11_Full_L0 (kap : FuncId → List AV → Option AV) (k : Nat) (k0 : Nat) (s0 : Int) (s6 : List AV) (s7 : Int) (b3_0 : Int) (b3_1 : ByteArray) (b3_2 : ByteArray) (b3_3 : Int) (b3_4 : Int) (b3_5 : Int) (b3_6 : Int) (b3_7 : Int) (b3_8 : Int) (b3_9 : ByteArray) (b3_10 : ByteArray) (b3_11 : Int) (b3_12 : Int) (b3_13 : List AV) : Option AV :=
  loop (fun fr K => code ((bs E0 k).cfg kap ref11_Full) (sel ref11_Full_bd [1, 1, 0, 1, 0, 0]) fr K) (canon ((bs E0 k).cfg kap ref11_Full) (firstReg (sel ref11_Full_bd [1, 1, 0, 1, 0, 0]))) k0 (mkFr 71 [(0, (.int .i64 s0)), (3, (.loc 3 0)), (6, (.list 1 s6)), (7, (.int .i64 s7))] [(3, (.box [(.int .i64 b3_0), (.str b3_1), (.str b3_2), (.int .i64 b3_3), (.int .i64 b3_4), (.int .i64 b3_5), (.int .i64 b3_6), (.int .i64 b3_7), (.int .i64 b3_8), (.str b3_9), (.str b3_10), (.int .i64 b3_11), (.int .i64 b3_12), (.list 2 b3_13)]))]) (plug ((bs E0 k).cfg kap ref11_Full) (retK ((bs E0 k).cfg kap ref11_Full) [] Tryz.f22 [] some) [.blk 0, .seqR (sel ref11_Full_bd [1, 1, 1])])
theorem ref11_Full_L0_s (kap : FuncId → List AV → Option AV) (k : Nat) (k0 : Nat) (s0 : Int) (s6 : List AV) (s7 : Int) (b3_0 : Int) (b3_1 : ByteArray) (b3_2 : ByteArray) (b3_3 : Int) (b3_4 : Int) (b3_5 : Int) (b3_6 : Int) (b3_7 : Int) (b3_8 : Int) (b3_9 : ByteArray) (b3_10 : ByteArray) (b3_11 : Int) (b3_12 : Int) (b3_13 : List AV) : ref11_Full_L0 kap k (k0 + 1) s0 s6 s7 b3_0 b3_1 b3_2 b3_3 b3_4 b3_5 b3_6 b3_7 b3_8 b3_9 b3_10 b3_11 b3_12 b3_13 =
  (bif (decide (s7 < (((List.length s6) : Nat) : Int))) then (bif (decide (s0 = (1 : Int))) then (bif ((decide ((0 : Int) ≤ s7)) && (decide (s7 < (((List.length s6) : Nat) : Int)))) then ((s6[(Int.toNat s7)]?).bind fun vy3 => (cellS (AV.cells vy3) 0 fun vs4 => (bif (decide ((((ByteArray.size vs4) : Nat) : Int) ≤ (100 : Int))) then (bif (!(decide (b3_0 = (6 : Int)))) then (bif ((decide ((0 : Int) ≤ s7)) && (decide (s7 < (((List.length s6) : Nat) : Int)))) then ((s6[(Int.toNat s7)]?).bind fun vy5 => (cellS (AV.cells vy5) 0 fun vs6 => (some (.tup [(.str vs6), (.bool true)])))) else none) else (bif ((decide ((0 : Int) ≤ s7)) && (decide (s7 < (((List.length s6) : Nat) : Int)))) then ((s6[(Int.toNat s7)]?).bind fun vy7 => (cellS (AV.cells vy7) 0 fun vs8 => (callB (kap ref09_Slash [(.str vs8)]) fun vq10 => (bif vq10 then (bif ((decide ((0 : Int) ≤ s7)) && (decide (s7 < (((List.length s6) : Nat) : Int)))) then ((s6[(Int.toNat s7)]?).bind fun vy11 => (cellS (AV.cells vy11) 0 fun vs12 => (some (.tup [(.str vs12), (.bool true)])))) else none) else (ref11_Full_L0 kap k k0 s0 s6 (IntKind.wrap .i64 (s7 + (1 : Int))) b3_0 b3_1 b3_2 b3_3 b3_4 b3_5 b3_6 b3_7 b3_8 b3_9 b3_10 b3_11 b3_12 b3_13))))) else none)) else (ref11_Full_L0 kap k k0 s0 s6 (IntKind.wrap .i64 (s7 + (1 : Int))) b3_0 b3_1 b3_2 b3_3 b3_4 b3_5 b3_6 b3_7 b3_8 b3_9 b3_10 b3_11 b3_12 b3_13)))) else none) else (bif (decide (s0 = (4 : Int))) then (bif ((decide ((0 : Int) ≤ s7)) && (decide (s7 < (((List.length s6) : Nat) : Int)))) then ((s6[(Int.toNat s7)]?).bind fun vy13 => (cellS (AV.cells vy13) 0 fun vs14 => (bif (decide ((((ByteArray.size vs14) : Nat) : Int) ≤ (65536 : Int))) then (bif ((decide ((0 : Int) ≤ s7)) && (decide (s7 < (((List.length s6) : Nat) : Int)))) then ((s6[(Int.toNat s7)]?).bind fun vy15 => (cellS (AV.cells vy15) 0 fun vs16 => (some (.tup [(.str vs16), (.bool true)])))) else none) else (ref11_Full_L0 kap k k0 s0 s6 (IntKind.wrap .i64 (s7 + (1 : Int))) b3_0 b3_1 b3_2 b3_3 b3_4 b3_5 b3_6 b3_7 b3_8 b3_9 b3_10 b3_11 b3_12 b3_13)))) else none) else (bif ((decide ((0 : Int) ≤ s7)) && (decide (s7 < (((List.length s6) : Nat) : Int)))) then ((s6[(Int.toNat s7)]?).bind fun vy17 => (cellS (AV.cells vy17) 0 fun vs18 => (callT (kap ref10_Split [(.str vs18)]) fun vt20 => (tupS vt20 fun vs21 vt22 => (tupS vt22 fun vs23 vt24 => (tupB vt24 fun vq25 vt26 => (atNil vt26 (bif vq25 then (bif ((decide ((0 : Int) ≤ s7)) && (decide (s7 < (((List.length s6) : Nat) : Int)))) then ((s6[(Int.toNat s7)]?).bind fun vy27 => (cellS (AV.cells vy27) 0 fun vs28 => (some (.tup [(.str vs28), (.bool true)])))) else none) else (ref11_Full_L0 kap k k0 s0 s6 (IntKind.wrap .i64 (s7 + (1 : Int))) b3_0 b3_1 b3_2 b3_3 b3_4 b3_5 b3_6 b3_7 b3_8 b3_9 b3_10 b3_11 b3_12 b3_13))))))))) else none))) else (bif (decide (s0 = (3 : Int))) then (callI .i64 (kap ref05_First [(.str b3_1)]) fun vn30 => (bif (decide (vn30 < (0 : Int))) then (bif (decide ((0 : Int) < (((List.length s6) : Nat) : Int))) then ((s6[0]?).bind fun vy31 => (cellS (AV.cells vy31) 0 fun vs32 => (some (.tup [(.str vs32), (.bool true)])))) else none) else (some (.tup [(.str (str [])), (.bool false)])))) else (some (.tup [(.str (str [])), (.bool false)])))) := by kernel_rfl
theorem ref11_Full_eq {E : Ext} [Core E] (k n : Nat) (a0 : Int) (a1_0 : Int) (a1_1 : ByteArray) (a1_2 : ByteArray) (a1_3 : Int) (a1_4 : Int) (a1_5 : Int) (a1_6 : Int) (a1_7 : Int) (a1_8 : Int) (a1_9 : ByteArray) (a1_10 : ByteArray) (a1_11 : Int) (a1_12 : Int) (a1_13 : List AV) : kp E k (n + 1) ref11_Full [(.int .i64 a0), (.agg [(.int .i64 a1_0), (.str a1_1), (.str a1_2), (.int .i64 a1_3), (.int .i64 a1_4), (.int .i64 a1_5), (.int .i64 a1_6), (.int .i64 a1_7), (.int .i64 a1_8), (.str a1_9), (.str a1_10), (.int .i64 a1_11), (.int .i64 a1_12), (.list 2 a1_13)])] =
  (callL 1 (kp E k n ref09_Fulls [(.agg [(.int .i64 a1_0), (.str a1_1), (.str a1_2), (.int .i64 a1_3), (.int .i64 a1_4), (.int .i64 a1_5), (.int .i64 a1_6), (.int .i64 a1_7), (.int .i64 a1_8), (.str a1_9), (.str a1_10), (.int .i64 a1_11), (.int .i64 a1_12), (.list 2 a1_13)])]) fun vl2 => (ref11_Full_L0 (kp E k n) k k a0 vl2 (0 : Int) a1_0 a1_1 a1_2 a1_3 a1_4 a1_5 a1_6 a1_7 a1_8 a1_9 a1_10 a1_11 a1_12 a1_13)) := (kp_at (by kernel_rfl)).trans (by kernel_rfl)
/- oakum/oakumref11.Records -/
noncomputable def ref11_Records_bd : Code := Tryz.f23.body.getD .skip
noncomputable def ref11_Records_L0 (kap : FuncId → List AV → Option AV) (k : Nat) (k0 : Nat) (s8 : Int) (b1_0 : Int) (b1_1 : ByteArray) (b1_2 : ByteArray) (b1_3 : Int) (b1_4 : Int) (b1_5 : Int) (b1_6 : Int) (b1_7 : Int) (b1_8 : Int) (b1_9 : ByteArray) (b1_10 : ByteArray) (b1_11 : Int) (b1_12 : Int) (b1_13 : List AV) (x4 : List AV) (x5 : List AV) (x6 : List AV) (x7 : List AV) : Option AV :=
  loop (fun fr K => code ((bs E0 k).cfg kap ref11_Records) (sel ref11_Records_bd [1, 1, 1, 1, 1, 1, 0, 1, 0, 0]) fr K) (canon ((bs E0 k).cfg kap ref11_Records) (firstReg (sel ref11_Records_bd [1, 1, 1, 1, 1, 1, 0, 1, 0, 0]))) k0 (mkFr 81 [(1, (.loc 1 0)), (4, (.own 4)), (5, (.own 5)), (6, (.own 6)), (7, (.own 7)), (8, (.int .i64 s8))] [(1, (.box [(.int .i64 b1_0), (.str b1_1), (.str b1_2), (.int .i64 b1_3), (.int .i64 b1_4), (.int .i64 b1_5), (.int .i64 b1_6), (.int .i64 b1_7), (.int .i64 b1_8), (.str b1_9), (.str b1_10), (.int .i64 b1_11), (.int .i64 b1_12), (.list 2 b1_13)])), (4, (.row 9 x4 false)), (5, (.row 3 x5 false)), (6, (.row 9 x6 false)), (7, (.row 50 x7 false))]) (plug ((bs E0 k).cfg kap ref11_Records) (retK ((bs E0 k).cfg kap ref11_Records) [] Tryz.f23 [] some) [.blk 0, .seqR (sel ref11_Records_bd [1, 1, 1, 1, 1, 1, 1])])
theorem ref11_Records_L0_s (kap : FuncId → List AV → Option AV) (k : Nat) (k0 : Nat) (s8 : Int) (b1_0 : Int) (b1_1 : ByteArray) (b1_2 : ByteArray) (b1_3 : Int) (b1_4 : Int) (b1_5 : Int) (b1_6 : Int) (b1_7 : Int) (b1_8 : Int) (b1_9 : ByteArray) (b1_10 : ByteArray) (b1_11 : Int) (b1_12 : Int) (b1_13 : List AV) (x4 : List AV) (x5 : List AV) (x6 : List AV) (x7 : List AV) : ref11_Records_L0 kap k (k0 + 1) s8 b1_0 b1_1 b1_2 b1_3 b1_4 b1_5 b1_6 b1_7 b1_8 b1_9 b1_10 b1_11 b1_12 b1_13 x4 x5 x6 x7 =
  (bif (decide (s8 < (((List.length x4) : Nat) : Int))) then (bif ((decide ((0 : Int) ≤ s8)) && (decide (s8 < (((List.length x5) : Nat) : Int)))) then ((x5[(Int.toNat s8)]?).bind fun vy21 => (cellI .i64 (AV.cells vy21) 0 fun vn22 => (callB (kap ref11_plain [(.int .i64 (2 : Int)), (.agg [(.int .i64 b1_0), (.str b1_1), (.str b1_2), (.int .i64 b1_3), (.int .i64 b1_4), (.int .i64 b1_5), (.int .i64 b1_6), (.int .i64 b1_7), (.int .i64 b1_8), (.str b1_9), (.str b1_10), (.int .i64 b1_11), (.int .i64 b1_12), (.list 2 b1_13)]), (.int .i64 vn22)]) fun vq24 => (bif (!vq24) then (bif ((decide ((0 : Int) ≤ s8)) && (decide (s8 < (((List.length x4) : Nat) : Int)))) then ((x4[(Int.toNat s8)]?).bind fun vy25 => (cellS (AV.cells vy25) 0 fun vs26 => (bif ((decide ((0 : Int) ≤ s8)) && (decide (s8 < (((List.length x6) : Nat) : Int)))) then ((x6[(Int.toNat s8)]?).bind fun vy27 => (cellS (AV.cells vy27) 0 fun vs28 => (bif (decide (((List.length x7) + 1) * 32 ≤ 140737488355328) && decide (((List.length x7) + 1) ≤ 9223372036854775807)) then (ref11_Records_L0 kap k k0 (IntKind.wrap .i64 (s8 + (1 : Int))) b1_0 b1_1 b1_2 b1_3 b1_4 b1_5 b1_6 b1_7 b1_8 b1_9 b1_10 b1_11 b1_12 b1_13 x4 x5 x6 (x7 ++ [(.agg [(.str vs26), (.str vs28)])])) else none))) else none))) else none) else (ref11_Records_L0 kap k k0 (IntKind.wrap .i64 (s8 + (1 : Int))) b1_0 b1_1 b1_2 b1_3 b1_4 b1_5 b1_6 b1_7 b1_8 b1_9 b1_10 b1_11 b1_12 b1_13 x4 x5 x6 x7))))) else none) else (callL 2 (kap ref08_Lay [(.list 2 x7), (.list 2 b1_13)]) fun vl30 => (some (.tup [(.list 2 vl30), (.bool true)])))) := by kernel_rfl
theorem ref11_Records_eq {E : Ext} [Core E] (k n : Nat) (a0_0 : Int) (a0_1 : ByteArray) (a0_2 : ByteArray) (a0_3 : Int) (a0_4 : Int) (a0_5 : Int) (a0_6 : Int) (a0_7 : Int) (a0_8 : Int) (a0_9 : ByteArray) (a0_10 : ByteArray) (a0_11 : Int) (a0_12 : Int) (a0_13 : List AV) : kp E k (n + 1) ref11_Records [(.agg [(.int .i64 a0_0), (.str a0_1), (.str a0_2), (.int .i64 a0_3), (.int .i64 a0_4), (.int .i64 a0_5), (.int .i64 a0_6), (.int .i64 a0_7), (.int .i64 a0_8), (.str a0_9), (.str a0_10), (.int .i64 a0_11), (.int .i64 a0_12), (.list 2 a0_13)])] =
  (callB (kp E k n ref11_Can [(.int .i64 (3 : Int)), (.agg [(.int .i64 a0_0), (.str a0_1), (.str a0_2), (.int .i64 a0_3), (.int .i64 a0_4), (.int .i64 a0_5), (.int .i64 a0_6), (.int .i64 a0_7), (.int .i64 a0_8), (.str a0_9), (.str a0_10), (.int .i64 a0_11), (.int .i64 a0_12), (.list 2 a0_13)]), (.int .i64 (2 : Int))]) fun vq2 => (bif (!vq2) then (some (.tup [(.list 2 []), (.bool false)])) else (callB (kp E k n ref11_Can [(.int .i64 (3 : Int)), (.agg [(.int .i64 a0_0), (.str a0_1), (.str a0_2), (.int .i64 a0_3), (.int .i64 a0_4), (.int .i64 a0_5), (.int .i64 a0_6), (.int .i64 a0_7), (.int .i64 a0_8), (.str a0_9), (.str a0_10), (.int .i64 a0_11), (.int .i64 a0_12), (.list 2 a0_13)]), (.int .i64 (3 : Int))]) fun vq4 => (bif (!vq4) then (some (.tup [(.list 2 []), (.bool false)])) else (callB (kp E k n ref11_Can [(.int .i64 (3 : Int)), (.agg [(.int .i64 a0_0), (.str a0_1), (.str a0_2), (.int .i64 a0_3), (.int .i64 a0_4), (.int .i64 a0_5), (.int .i64 a0_6), (.int .i64 a0_7), (.int .i64 a0_8), (.str a0_9), (.str a0_10), (.int .i64 a0_11), (.int .i64 a0_12), (.list 2 a0_13)]), (.int .i64 (9 : Int))]) fun vq6 => (bif (!vq6) then (some (.tup [(.list 2 []), (.bool false)])) else (callB (kp E k n ref11_Can [(.int .i64 (3 : Int)), (.agg [(.int .i64 a0_0), (.str a0_1), (.str a0_2), (.int .i64 a0_3), (.int .i64 a0_4), (.int .i64 a0_5), (.int .i64 a0_6), (.int .i64 a0_7), (.int .i64 a0_8), (.str a0_9), (.str a0_10), (.int .i64 a0_11), (.int .i64 a0_12), (.list 2 a0_13)]), (.int .i64 (10 : Int))]) fun vq8 => (bif (!vq8) then (some (.tup [(.list 2 []), (.bool false)])) else (callS (kp E k n ref04_Text [(.int .i64 a0_5)]) fun vs10 => (callS (kp E k n ref04_Print [(.agg [(.int .i64 a0_7), (.int .i64 a0_8)])]) fun vs12 => (callL 1 (kp E k n ref09_Fulls [(.agg [(.int .i64 a0_0), (.str a0_1), (.str a0_2), (.int .i64 a0_3), (.int .i64 a0_4), (.int .i64 a0_5), (.int .i64 a0_6), (.int .i64 a0_7), (.int .i64 a0_8), (.str a0_9), (.str a0_10), (.int .i64 a0_11), (.int .i64 a0_12), (.list 2 a0_13)])]) fun vl14 => (bif (decide ((0 : Int) < (((List.length vl14) : Nat) : Int))) then ((vl14[0]?).bind fun vy15 => (cellS (AV.cells vy15) 0 fun vs16 => (callS (kp E k n ref04_Text [(.int .i64 a0_6)]) fun vs18 => (callS (kp E k n ref04_Text [(.int .i64 a0_4)]) fun vs20 => (ref11_Records_L0 (kp E k n) k k (0 : Int) a0_0 a0_1 a0_2 a0_3 a0_4 a0_5 a0_6 a0_7 a0_8 a0_9 a0_10 a0_11 a0_12 a0_13 [(.str (str [103, 105, 100])), (.str (str [103, 110, 97, 109, 101])), (.str (str [108, 105, 110, 107, 112, 97, 116, 104])), (.str (str [109, 116, 105, 109, 101])), (.str (str [112, 97, 116, 104])), (.str (str [115, 105, 122, 101])), (.str (str [117, 105, 100])), (.str (str [117, 110, 97, 109, 101]))] [(.int .i64 (6 : Int)), (.int .i64 (10 : Int)), (.int .i64 (3 : Int)), (.int .i64 (8 : Int)), (.int .i64 (2 : Int)), (.int .i64 (7 : Int)), (.int .i64 (5 : Int)), (.int .i64 (9 : Int))] [(.str vs10), (.str a0_10), (.str a0_2), (.str vs12), (.str vs16), (.str vs18), (.str vs20), (.str a0_9)] []))))) else none)))))))))))) := (kp_at (by kernel_rfl)).trans (by kernel_rfl)
/- oakum/oakumref10.SameInts -/
/- oakum/rep.can -/
theorem rep_can_eq {E : Ext} [Core E] (k n : Nat) (a0 : Int) (a1_0 : Int) (a1_1 : ByteArray) (a1_2 : ByteArray) (a1_3 : Int) (a1_4 : Int) (a1_5 : Int) (a1_6 : Int) (a1_7 : Int) (a1_8 : Int) (a1_9 : ByteArray) (a1_10 : ByteArray) (a1_11 : Int) (a1_12 : Int) (a1_13 : List AV) (a2 : Int) : kp E k (n + 1) rep_can [(.int .i64 a0), (.agg [(.int .i64 a1_0), (.str a1_1), (.str a1_2), (.int .i64 a1_3), (.int .i64 a1_4), (.int .i64 a1_5), (.int .i64 a1_6), (.int .i64 a1_7), (.int .i64 a1_8), (.str a1_9), (.str a1_10), (.int .i64 a1_11), (.int .i64 a1_12), (.list 2 a1_13)]), (.int .i64 a2)] =
  (bif (decide (a2 = (1 : Int))) then (callB (kp E k n rep_kind [(.int .i64 a0), (.int .i64 a1_0)]) fun vq2 => (some (.bool vq2))) else (bif (decide (a2 = (2 : Int))) then (callT (kp E k n rep_full [(.int .i64 a0), (.agg [(.int .i64 a1_0), (.str a1_1), (.str a1_2), (.int .i64 a1_3), (.int .i64 a1_4), (.int .i64 a1_5), (.int .i64 a1_6), (.int .i64 a1_7), (.int .i64 a1_8), (.str a1_9), (.str a1_10), (.int .i64 a1_11), (.int .i64 a1_12), (.list 2 a1_13)])]) fun vt4 => (tupS vt4 fun vs5 vt6 => (tupB vt6 fun vq7 vt8 => (atNil vt8 (some (.bool vq7)))))) else (bif (decide (a2 = (3 : Int))) then (bif (decide (a0 = (4 : Int))) then (some (.bool true)) else (callB (kp E k n rep_text [(.int .i64 a0), (.str a1_2), (.int .i64 (100 : Int))]) fun vq10 => (some (.bool vq10)))) else (bif (decide (a2 = (4 : Int))) then (callB (kp E k n rep_small [(.int .i64 a0), (.int .i64 a1_3)]) fun vq12 => (some (.bool vq12))) else (bif (decide (a2 = (5 : Int))) then (callB (kp E k n rep_owner [(.int .i64 a0), (.int .i64 a1_4)]) fun vq14 => (some (.bool vq14))) else (bif (decide (a2 = (6 : Int))) then (callB (kp E k n rep_owner [(.int .i64 a0), (.int .i64 a1_5)]) fun vq16 => (some (.bool vq16))) else (bif (decide (a2 = (7 : Int))) then (callB (kp E k n rep_great [(.int .i64 a0), (.int .i64 a1_6)]) fun vq18 => (some (.bool vq18))) else (bif (decide (a2 = (8 : Int))) then (callB (kp E k n rep_when [(.int .i64 a0), (.agg [(.int .i64 a1_7), (.int .i64 a1_8)])]) fun vq20 => (some (.bool vq20))) else (bif (decide (a2 = (9 : Int))) then (callB (kp E k n rep_people [(.int .i64 a0), (.str a1_9)]) fun vq22 => (some (.bool vq22))) else (bif (decide (a2 = (10 : Int))) then (callB (kp E k n rep_people [(.int .i64 a0), (.str a1_10)]) fun vq24 => (some (.bool vq24))) else (bif (decide (a2 = (11 : Int))) then (callB (kp E k n rep_small [(.int .i64 a0), (.int .i64 a1_11)]) fun vq26 => (some (.bool vq26))) else (bif (decide (a2 = (12 : Int))) then (callB (kp E k n rep_small [(.int .i64 a0), (.int .i64 a1_12)]) fun vq28 => (some (.bool vq28))) else (bif (decide (a2 = (13 : Int))) then (bif (decide (a0 = (3 : Int))) then (some (.bool true)) else (some (.bool (decide ((((List.length a1_13) : Nat) : Int) = (0 : Int)))))) else (bif (!(decide (a0 = (3 : Int)))) then (some (.bool true)) else (callB (kp E k n rep_fits [(.agg [(.int .i64 a1_0), (.str a1_1), (.str a1_2), (.int .i64 a1_3), (.int .i64 a1_4), (.int .i64 a1_5), (.int .i64 a1_6), (.int .i64 a1_7), (.int .i64 a1_8), (.str a1_9), (.str a1_10), (.int .i64 a1_11), (.int .i64 a1_12), (.list 2 a1_13)])]) fun vq30 => (some (.bool vq30))))))))))))))))) := (kp_at (by kernel_rfl)).trans (by kernel_rfl)
/- oakum/rep.Records$2 -/
/- oakum/oakumref11.plain -/
theorem ref11_plain_eq {E : Ext} [Core E] (k n : Nat) (a0 : Int) (a1_0 : Int) (a1_1 : ByteArray) (a1_2 : ByteArray) (a1_3 : Int) (a1_4 : Int) (a1_5 : Int) (a1_6 : Int) (a1_7 : Int) (a1_8 : Int) (a1_9 : ByteArray) (a1_10 : ByteArray) (a1_11 : Int) (a1_12 : Int) (a1_13 : List AV) (a2 : Int) : kp E k (n + 1) ref11_plain [(.int .i64 a0), (.agg [(.int .i64 a1_0), (.str a1_1), (.str a1_2), (.int .i64 a1_3), (.int .i64 a1_4), (.int .i64 a1_5), (.int .i64 a1_6), (.int .i64 a1_7), (.int .i64 a1_8), (.str a1_9), (.str a1_10), (.int .i64 a1_11), (.int .i64 a1_12), (.list 2 a1_13)]), (.int .i64 a2)] =
  (bif (decide (a0 = (4 : Int))) then (bif (decide (a2 = (1 : Int))) then (bif (!(decide (a0 = (1 : Int)))) then (some (.bool true)) else (bif (decide (a1_0 = (1 : Int))) then (some (.bool true)) else (bif (decide (a1_0 = (2 : Int))) then (some (.bool true)) else (bif (decide (a1_0 = (3 : Int))) then (some (.bool true)) else (some (.bool (decide (a1_0 = (6 : Int))))))))) else (bif (decide (a2 = (2 : Int))) then (callT (kp E k n ref11_Full [(.int .i64 a0), (.agg [(.int .i64 a1_0), (.str a1_1), (.str a1_2), (.int .i64 a1_3), (.int .i64 a1_4), (.int .i64 a1_5), (.int .i64 a1_6), (.int .i64 a1_7), (.int .i64 a1_8), (.str a1_9), (.str a1_10), (.int .i64 a1_11), (.int .i64 a1_12), (.list 2 a1_13)])]) fun vt2 => (tupS vt2 fun vs3 vt4 => (tupB vt4 fun vq5 vt6 => (atNil vt6 (some (.bool vq5)))))) else (bif (decide (a2 = (3 : Int))) then (bif (decide ((((ByteArray.size a1_2) : Nat) : Int) ≤ (100 : Int))) then (some (.bool true)) else (some (.bool (decide (a0 = (4 : Int)))))) else (bif (decide (a2 = (4 : Int))) then (some (.bool (decide (a1_3 ≤ (72057594037927935 : Int))))) else (bif (decide (a2 = (5 : Int))) then (some (.bool (decide (a1_4 ≤ (72057594037927935 : Int))))) else (bif (decide (a2 = (6 : Int))) then (some (.bool (decide (a1_5 ≤ (72057594037927935 : Int))))) else (bif (decide (a2 = (7 : Int))) then (some (.bool (decide (a1_6 ≤ (9223372036854775807 : Int))))) else (bif (decide (a2 = (8 : Int))) then (bif (decide (a1_8 = (0 : Int))) then (bif (decide (a0 = (4 : Int))) then (some (.bool true)) else (bif (decide (a1_7 ≥ (0 : Int))) then (some (.bool (decide (a1_7 ≤ (9223372036854775807 : Int))))) else (some (.bool false)))) else (some (.bool false))) else (bif (decide (a2 = (9 : Int))) then (bif (decide (a1_9 = (str []))) then (some (.bool true)) else (bif (!(decide (a0 = (1 : Int)))) then (some (.bool (decide ((((ByteArray.size a1_9) : Nat) : Int) ≤ (32 : Int))))) else (some (.bool false)))) else (bif (decide (a2 = (10 : Int))) then (bif (decide (a1_10 = (str []))) then (some (.bool true)) else (bif (!(decide (a0 = (1 : Int)))) then (some (.bool (decide ((((ByteArray.size a1_10) : Nat) : Int) ≤ (32 : Int))))) else (some (.bool false)))) else (bif (decide (a2 = (11 : Int))) then (some (.bool (decide (a1_11 ≤ (72057594037927935 : Int))))) else (bif (decide (a2 = (12 : Int))) then (some (.bool (decide (a1_12 ≤ (72057594037927935 : Int))))) else (some (.bool (decide ((((List.length a1_13) : Nat) : Int) = (0 : Int))))))))))))))))) else (bif (decide (a2 = (1 : Int))) then (bif (!(decide (a0 = (1 : Int)))) then (some (.bool true)) else (bif (decide (a1_0 = (1 : Int))) then (some (.bool true)) else (bif (decide (a1_0 = (2 : Int))) then (some (.bool true)) else (bif (decide (a1_0 = (3 : Int))) then (some (.bool true)) else (some (.bool (decide (a1_0 = (6 : Int))))))))) else (bif (decide (a2 = (2 : Int))) then (callT (kp E k n ref11_Full [(.int .i64 a0), (.agg [(.int .i64 a1_0), (.str a1_1), (.str a1_2), (.int .i64 a1_3), (.int .i64 a1_4), (.int .i64 a1_5), (.int .i64 a1_6), (.int .i64 a1_7), (.int .i64 a1_8), (.str a1_9), (.str a1_10), (.int .i64 a1_11), (.int .i64 a1_12), (.list 2 a1_13)])]) fun vt8 => (tupS vt8 fun vs9 vt10 => (tupB vt10 fun vq11 vt12 => (atNil vt12 (some (.bool vq11)))))) else (bif (decide (a2 = (3 : Int))) then (bif (decide ((((ByteArray.size a1_2) : Nat) : Int) ≤ (100 : Int))) then (some (.bool true)) else (some (.bool (decide (a0 = (4 : Int)))))) else (bif (decide (a2 = (4 : Int))) then (some (.bool (decide (a1_3 ≤ (16777215 : Int))))) else (bif (decide (a2 = (5 : Int))) then (some (.bool (decide (a1_4 ≤ (16777215 : Int))))) else (bif (decide (a2 = (6 : Int))) then (some (.bool (decide (a1_5 ≤ (16777215 : Int))))) else (bif (decide (a2 = (7 : Int))) then (some (.bool (decide (a1_6 ≤ (68719476735 : Int))))) else (bif (decide (a2 = (8 : Int))) then (bif (decide (a1_8 = (0 : Int))) then (bif (decide (a0 = (4 : Int))) then (some (.bool true)) else (bif (decide (a1_7 ≥ (0 : Int))) then (some (.bool (decide (a1_7 ≤ (68719476735 : Int))))) else (some (.bool false)))) else (some (.bool false))) else (bif (decide (a2 = (9 : Int))) then (bif (decide (a1_9 = (str []))) then (some (.bool true)) else (bif (!(decide (a0 = (1 : Int)))) then (some (.bool (decide ((((ByteArray.size a1_9) : Nat) : Int) ≤ (32 : Int))))) else (some (.bool false)))) else (bif (decide (a2 = (10 : Int))) then (bif (decide (a1_10 = (str []))) then (some (.bool true)) else (bif (!(decide (a0 = (1 : Int)))) then (some (.bool (decide ((((ByteArray.size a1_10) : Nat) : Int) ≤ (32 : Int))))) else (some (.bool false)))) else (bif (decide (a2 = (11 : Int))) then (some (.bool (decide (a1_11 ≤ (16777215 : Int))))) else (bif (decide (a2 = (12 : Int))) then (some (.bool (decide (a1_12 ≤ (16777215 : Int))))) else (some (.bool (decide ((((List.length a1_13) : Nat) : Int) = (0 : Int)))))))))))))))))) := (kp_at (by kernel_rfl)).trans (by kernel_rfl)
/- oakum/oakumref11.utf -/
theorem ref11_utf_eq {E : Ext} [Core E] (k n : Nat) (a0 : ByteArray) : kp E k (n + 1) ref11_utf [(.str a0)] =
  (callI .i64 (kp E k n ref05_First [(.str a0)]) fun vn2 => (some (.bool (decide (vn2 < (0 : Int)))))) := (kp_at (by kernel_rfl)).trans (by kernel_rfl)
/- oakum/rep.full -/
theorem rep_full_eq {E : Ext} [Core E] (k n : Nat) (a0 : Int) (a1_0 : Int) (a1_1 : ByteArray) (a1_2 : ByteArray) (a1_3 : Int) (a1_4 : Int) (a1_5 : Int) (a1_6 : Int) (a1_7 : Int) (a1_8 : Int) (a1_9 : ByteArray) (a1_10 : ByteArray) (a1_11 : Int) (a1_12 : Int) (a1_13 : List AV) : kp E k (n + 1) rep_full [(.int .i64 a0), (.agg [(.int .i64 a1_0), (.str a1_1), (.str a1_2), (.int .i64 a1_3), (.int .i64 a1_4), (.int .i64 a1_5), (.int .i64 a1_6), (.int .i64 a1_7), (.int .i64 a1_8), (.str a1_9), (.str a1_10), (.int .i64 a1_11), (.int .i64 a1_12), (.list 2 a1_13)])] =
  (callL 1 (kp E k n item_Fulls [(.agg [(.int .i64 a1_0), (.str a1_1), (.str a1_2), (.int .i64 a1_3), (.int .i64 a1_4), (.int .i64 a1_5), (.int .i64 a1_6), (.int .i64 a1_7), (.int .i64 a1_8), (.str a1_9), (.str a1_10), (.int .i64 a1_11), (.int .i64 a1_12), (.list 2 a1_13)])]) fun vl2 => (bif (decide (a0 = (1 : Int))) then (callI .i64 (kp E k n slices_IndexFunc_string [(.list 1 vl2), (.func (.func rep_full_1) [] [(.eptr [(.int .i64 a1_0), (.str a1_1), (.str a1_2), (.int .i64 a1_3), (.int .i64 a1_4), (.int .i64 a1_5), (.int .i64 a1_6), (.int .i64 a1_7), (.int .i64 a1_8), (.str a1_9), (.str a1_10), (.int .i64 a1_11), (.int .i64 a1_12), (.list 2 a1_13)] 0)])]) fun vn4 => (bif (decide (vn4 ≥ (0 : Int))) then (bif ((decide ((0 : Int) ≤ vn4)) && (decide (vn4 < (((List.length vl2) : Nat) : Int)))) then ((vl2[(Int.toNat vn4)]?).bind fun vy5 => (cellS (AV.cells vy5) 0 fun vs6 => (some (.tup [(.str vs6), (.bool true)])))) else none) else (bif (decide (a0 = (3 : Int))) then (callB (kp E k n utf_Right [(.str a1_1)]) fun vq8 => (bif vq8 then (bif (decide ((0 : Int) < (((List.length vl2) : Nat) : Int))) then ((vl2[0]?).bind fun vy9 => (cellS (AV.cells vy9) 0 fun vs10 => (some (.tup [(.str vs10), (.bool true)])))) else none) else (some (.tup [(.str (str [])), (.bool false)])))) else (some (.tup [(.str (str [])), (.bool false)]))))) else (bif (decide (a0 = (4 : Int))) then (callI .i64 (kp E k n slices_IndexFunc_string [(.list 1 vl2), (.func (.func rep_full_2) [] [])]) fun vn12 => (bif (decide (vn12 ≥ (0 : Int))) then (bif ((decide ((0 : Int) ≤ vn12)) && (decide (vn12 < (((List.length vl2) : Nat) : Int)))) then ((vl2[(Int.toNat vn12)]?).bind fun vy13 => (cellS (AV.cells vy13) 0 fun vs14 => (some (.tup [(.str vs14), (.bool true)])))) else none) else (bif (decide (a0 = (3 : Int))) then (callB (kp E k n utf_Right [(.str a1_1)]) fun vq16 => (bif vq16 then (bif (decide ((0 : Int) < (((List.length vl2) : Nat) : Int))) then ((vl2[0]?).bind fun vy17 => (cellS (AV.cells vy17) 0 fun vs18 => (some (.tup [(.str vs18), (.bool true)])))) else none) else (some (.tup [(.str (str [])), (.bool false)])))) else (some (.tup [(.str (str [])), (.bool false)]))))) else (callI .i64 (kp E k n slices_IndexFunc_string [(.list 1 vl2), (.func (.func rep_splits) [] [])]) fun vn20 => (bif (decide (vn20 ≥ (0 : Int))) then (bif ((decide ((0 : Int) ≤ vn20)) && (decide (vn20 < (((List.length vl2) : Nat) : Int)))) then ((vl2[(Int.toNat vn20)]?).bind fun vy21 => (cellS (AV.cells vy21) 0 fun vs22 => (some (.tup [(.str vs22), (.bool true)])))) else none) else (bif (decide (a0 = (3 : Int))) then (callB (kp E k n utf_Right [(.str a1_1)]) fun vq24 => (bif vq24 then (bif (decide ((0 : Int) < (((List.length vl2) : Nat) : Int))) then ((vl2[0]?).bind fun vy25 => (cellS (AV.cells vy25) 0 fun vs26 => (some (.tup [(.str vs26), (.bool true)])))) else none) else (some (.tup [(.str (str [])), (.bool false)])))) else (some (.tup [(.str (str [])), (.bool false)])))))))) := (kp_at (by kernel_rfl)).trans (by kernel_rfl)
/- oakum/oakumref10.Split -/
theorem ref10_Split_eq {E : Ext} [Core E] (k n : Nat) (a0 : ByteArray) : kp E k (n + 1) ref10_Split [(.str a0)] =
  (bif (!(decide (a0 = (str [])))) then (bif (decide ((((ByteArray.size a0) : Nat) : Int) ≤ (100 : Int))) then (some (.tup [(.str (str [])), (.str a0), (.bool true)])) else (callL 1 (kp E k n ref10_Cuts [(.str a0)]) fun vl2 => (bif (decide ((((List.length vl2) : Nat) : Int) = (0 : Int))) then (some (.tup [(.str (str [])), (.str (str [])), (.bool false)])) else (bif ((decide ((0 : Int) ≤ (IntKind.wrap .i64 ((((List.length vl2) : Nat) : Int) - (1 : Int))))) && (decide ((IntKind.wrap .i64 ((((List.length vl2) : Nat) : Int) - (1 : Int))) < (((List.length vl2) : Nat) : Int)))) then ((vl2[(Int.toNat (IntKind.wrap .i64 ((((List.length vl2) : Nat) : Int) - (1 : Int))))]?).bind fun vy3 => (cellI .i64 (AV.cells vy3) 0 fun vn4 => (bif ((decide ((0 : Int) ≤ vn4)) && (decide (vn4 ≤ (((ByteArray.size a0) : Nat) : Int)))) then (bif ((decide ((0 : Int) ≤ (IntKind.wrap .i64 (vn4 + (1 : Int))))) && (decide ((IntKind.wrap .i64 (vn4 + (1 : Int))) ≤ (((ByteArray.size a0) : Nat) : Int)))) then (some (.tup [(.str (ByteArray.extract a0 0 (Int.toNat vn4))), (.str (ByteArray.extract a0 (Int.toNat (IntKind.wrap .i64 (vn4 + (1 : Int)))) (ByteArray.size a0))), (.bool true)])) else none) else none))) else none)))) else (callL 1 (kp E k n ref10_Cuts [(.str a0)]) fun vl6 => (bif (decide ((((List.length vl6) : Nat) : Int) = (0 : Int))) then (some (.tup [(.str (str [])), (.str (str [])), (.bool false)])) else (bif ((decide ((0 : Int) ≤ (IntKind.wrap .i64 ((((List.length vl6) : Nat) : Int) - (1 : Int))))) && (decide ((IntKind.wrap .i64 ((((List.length vl6) : Nat) : Int) - (1 : Int))) < (((List.length vl6) : Nat) : Int)))) then ((vl6[(Int.toNat (IntKind.wrap .i64 ((((List.length vl6) : Nat) : Int) - (1 : Int))))]?).bind fun vy7 => (cellI .i64 (AV.cells vy7) 0 fun vn8 => (bif ((decide ((0 : Int) ≤ vn8)) && (decide (vn8 ≤ (((ByteArray.size a0) : Nat) : Int)))) then (bif ((decide ((0 : Int) ≤ (IntKind.wrap .i64 (vn8 + (1 : Int))))) && (decide ((IntKind.wrap .i64 (vn8 + (1 : Int))) ≤ (((ByteArray.size a0) : Nat) : Int)))) then (some (.tup [(.str (ByteArray.extract a0 0 (Int.toNat vn8))), (.str (ByteArray.extract a0 (Int.toNat (IntKind.wrap .i64 (vn8 + (1 : Int)))) (ByteArray.size a0))), (.bool true)])) else none) else none))) else none)))) := (kp_at (by kernel_rfl)).trans (by kernel_rfl)
/- oakum/rep.kind -/
theorem rep_kind_eq {E : Ext} [Core E] (k n : Nat) (a0 : Int) (a1 : Int) : kp E k (n + 1) rep_kind [(.int .i64 a0), (.int .i64 a1)] =
  (bif (!(decide (a0 = (1 : Int)))) then (some (.bool true)) else (bif (decide (a1 = (1 : Int))) then (some (.bool true)) else (bif (decide (a1 = (2 : Int))) then (some (.bool true)) else (bif (decide (a1 = (3 : Int))) then (some (.bool true)) else (some (.bool (decide (a1 = (6 : Int))))))))) := (kp_at (by kernel_rfl)).trans (by kernel_rfl)
/- oakum/rep.text -/
theorem rep_text_eq {E : Ext} [Core E] (k n : Nat) (a0 : Int) (a1 : ByteArray) (a2 : Int) : kp E k (n + 1) rep_text [(.int .i64 a0), (.str a1), (.int .i64 a2)] =
  (bif (decide ((((ByteArray.size a1) : Nat) : Int) ≤ a2)) then (some (.bool true)) else (bif (decide (a0 = (3 : Int))) then (callB (kp E k n utf_Right [(.str a1)]) fun vq2 => (some (.bool vq2))) else (some (.bool false)))) := (kp_at (by kernel_rfl)).trans (by kernel_rfl)
/- oakum/rep.small -/
theorem rep_small_eq {E : Ext} [Core E] (k n : Nat) (a0 : Int) (a1 : Int) : kp E k (n + 1) rep_small [(.int .i64 a0), (.int .i64 a1)] =
  (callI .i64 (kp E k n num_Most [(.int .i64 (8 : Int))]) fun vn2 => (bif (decide (a1 ≤ vn2)) then (some (.bool true)) else (bif (decide (a0 = (4 : Int))) then (some (.bool (decide (a1 < (72057594037927936 : Int))))) else (some (.bool false))))) := (kp_at (by kernel_rfl)).trans (by kernel_rfl)
/- oakum/rep.owner -/
theorem rep_owner_eq {E : Ext} [Core E] (k n : Nat) (a0 : Int) (a1 : Int) : kp E k (n + 1) rep_owner [(.int .i64 a0), (.int .i64 a1)] =
  (bif (decide (a0 = (3 : Int))) then (some (.bool true)) else (callB (kp E k n rep_small [(.int .i64 a0), (.int .i64 a1)]) fun vq2 => (some (.bool vq2)))) := (kp_at (by kernel_rfl)).trans (by kernel_rfl)
/- oakum/rep.great -/
theorem rep_great_eq {E : Ext} [Core E] (k n : Nat) (a0 : Int) (a1 : Int) : kp E k (n + 1) rep_great [(.int .i64 a0), (.int .i64 a1)] =
  (callI .i64 (kp E k n num_Most [(.int .i64 (12 : Int))]) fun vn2 => (bif (decide (a1 ≤ vn2)) then (some (.bool true)) else (bif (decide (a0 = (3 : Int))) then (some (.bool true)) else (some (.bool (decide (a0 = (4 : Int)))))))) := (kp_at (by kernel_rfl)).trans (by kernel_rfl)
/- oakum/rep.when -/
theorem rep_when_eq {E : Ext} [Core E] (k n : Nat) (a0 : Int) (a1_0 : Int) (a1_1 : Int) : kp E k (n + 1) rep_when [(.int .i64 a0), (.agg [(.int .i64 a1_0), (.int .i64 a1_1)])] =
  (bif (decide (a0 = (3 : Int))) then (some (.bool true)) else (bif (decide (a0 = (4 : Int))) then (some (.bool (decide (a1_1 = (0 : Int))))) else (bif (decide (a1_1 = (0 : Int))) then (bif (decide (a1_0 ≥ (0 : Int))) then (callI .i64 (kp E k n num_Most [(.int .i64 (12 : Int))]) fun vn2 => (some (.bool (decide (a1_0 ≤ vn2))))) else (some (.bool false))) else (some (.bool false))))) := (kp_at (by kernel_rfl)).trans (by kernel_rfl)
/- oakum/rep.people -/
theorem rep_people_eq {E : Ext} [Core E] (k n : Nat) (a0 : Int) (a1 : ByteArray) : kp E k (n + 1) rep_people [(.int .i64 a0), (.str a1)] =
  (bif (decide (a0 = (1 : Int))) then (some (.bool (decide (a1 = (str []))))) else (callB (kp E k n rep_text [(.int .i64 a0), (.str a1), (.int .i64 (32 : Int))]) fun vq2 => (some (.bool vq2)))) := (kp_at (by kernel_rfl)).trans (by kernel_rfl)
/- oakum/rep.fits -/
noncomputable def rep_fits_bd : Code := Tryz.f100.body.getD .skip
noncomputable def rep_fits_L0 (kap : FuncId → List AV → Option AV) (k : Nat) (k0 : Nat) (s4 : Int) (s5 : Int) (s13 : List AV) (s14 : Int) (s15 : Int) : Option AV :=
  loop (fun fr K => code ((bs E0 k).cfg kap rep_fits) (sel rep_fits_bd [1, 1, 1, 0, 1, 0, 0]) fr K) (canon ((bs E0 k).cfg kap rep_fits) (firstReg (sel rep_fits_bd [1, 1, 1, 0, 1, 0, 0]))) k0 (mkFr 32 [(4, (.int .u8 s4)), (5, (.int .i64 s5)), (13, (.list 2 s13)), (14, (.int .i64 s14)), (15, (.int .i64 s15))] []) (plug ((bs E0 k).cfg kap rep_fits) (retK ((bs E0 k).cfg kap rep_fits) [] Tryz.f100 [] some) [.blk 0, .seqR (sel rep_fits_bd [1, 1, 1, 1])])
theorem rep_fits_L0_s (kap : FuncId → List AV → Option AV) (k : Nat) (k0 : Nat) (s4 : Int) (s5 : Int) (s13 : List AV) (s14 : Int) (s15 : Int) : rep_fits_L0 kap k (k0 + 1) s4 s5 s13 s14 s15 =
  (bif (decide (s15 < s14)) then (bif ((decide ((0 : Int) ≤ s15)) && (decide (s15 < (((List.length s13) : Nat) : Int)))) then ((s13[(Int.toNat s15)]?).bind fun vy7 => (cellS (AV.cells vy7) 0 fun vs8 => (cellS (AV.cells vy7) 1 fun vs9 => (bif (decide (s5 > (65536 : Int))) then (bif (!(decide (s4 = (0 : Int)))) then (some (.bool true)) else (some (.bool (decide (s5 ≤ (65536 : Int)))))) else (callI .i64 (kap pax_Len [(.agg [(.str vs8), (.str vs9)])]) fun vn11 => (rep_fits_L0 kap k k0 s4 (IntKind.wrap .i64 (s5 + vn11)) s13 s14 (IntKind.wrap .i64 (s15 + (1 : Int))))))))) else none) else (bif (!(decide (s4 = (0 : Int)))) then (some (.bool true)) else (some (.bool (decide (s5 ≤ (65536 : Int))))))) := by kernel_rfl
theorem rep_fits_eq {E : Ext} [Core E] (k n : Nat) (a0_0 : Int) (a0_1 : ByteArray) (a0_2 : ByteArray) (a0_3 : Int) (a0_4 : Int) (a0_5 : Int) (a0_6 : Int) (a0_7 : Int) (a0_8 : Int) (a0_9 : ByteArray) (a0_10 : ByteArray) (a0_11 : Int) (a0_12 : Int) (a0_13 : List AV) : kp E k (n + 1) rep_fits [(.agg [(.int .i64 a0_0), (.str a0_1), (.str a0_2), (.int .i64 a0_3), (.int .i64 a0_4), (.int .i64 a0_5), (.int .i64 a0_6), (.int .i64 a0_7), (.int .i64 a0_8), (.str a0_9), (.str a0_10), (.int .i64 a0_11), (.int .i64 a0_12), (.list 2 a0_13)])] =
  (callT (kp E k n rep_Records [(.agg [(.int .i64 a0_0), (.str a0_1), (.str a0_2), (.int .i64 a0_3), (.int .i64 a0_4), (.int .i64 a0_5), (.int .i64 a0_6), (.int .i64 a0_7), (.int .i64 a0_8), (.str a0_9), (.str a0_10), (.int .i64 a0_11), (.int .i64 a0_12), (.list 2 a0_13)])]) fun vt2 => (tupL 2 vt2 fun vl3 vt4 => (tupI .u8 vt4 fun vn5 vt6 => (atNil vt6 (rep_fits_L0 (kp E k n) k k vn5 (0 : Int) vl3 (((List.length vl3) : Nat) : Int) (0 : Int)))))) := (kp_at (by kernel_rfl)).trans (by kernel_rfl)
/- internal/bytealg.CompareString -/
/- oakum/rep.splits -/
theorem rep_splits_eq {E : Ext} [Core E] (k n : Nat) (a0 : ByteArray) : kp E k (n + 1) rep_splits [(.str a0)] =
  (callT (kp E k n split_Split [(.str a0)]) fun vt2 => (tupS vt2 fun vs3 vt4 => (tupS vt4 fun vs5 vt6 => (tupB vt6 fun vq7 vt8 => (atNil vt8 (some (.bool vq7))))))) := (kp_at (by kernel_rfl)).trans (by kernel_rfl)
/- oakum/rep.full$1 -/
theorem rep_full_1_eq {E : Ext} [Core E] (k n : Nat) (a0 : ByteArray) (c_v0_0 : Int) (c_v0_1 : ByteArray) (c_v0_2 : ByteArray) (c_v0_3 : Int) (c_v0_4 : Int) (c_v0_5 : Int) (c_v0_6 : Int) (c_v0_7 : Int) (c_v0_8 : Int) (c_v0_9 : ByteArray) (c_v0_10 : ByteArray) (c_v0_11 : Int) (c_v0_12 : Int) (c_v0_13 : List AV) : kp E k (n + 1) rep_full_1 [(.str a0), (.eptr [(.int .i64 c_v0_0), (.str c_v0_1), (.str c_v0_2), (.int .i64 c_v0_3), (.int .i64 c_v0_4), (.int .i64 c_v0_5), (.int .i64 c_v0_6), (.int .i64 c_v0_7), (.int .i64 c_v0_8), (.str c_v0_9), (.str c_v0_10), (.int .i64 c_v0_11), (.int .i64 c_v0_12), (.list 2 c_v0_13)] 0)] =
  (bif (decide ((((ByteArray.size a0) : Nat) : Int) ≤ (100 : Int))) then (bif (!(decide (c_v0_0 = (6 : Int)))) then (some (.bool true)) else (callB (kp E k n strings_HasSuffix [(.str a0), (.str (str [47]))]) fun vq2 => (some (.bool vq2)))) else (some (.bool false))) := (kp_at (by kernel_rfl)).trans (by kernel_rfl)
/- oakum/rep.full$2 -/
theorem rep_full_2_eq {E : Ext} [Core E] (k n : Nat) (a0 : ByteArray) : kp E k (n + 1) rep_full_2 [(.str a0)] =
  (some (.bool (decide ((((ByteArray.size a0) : Nat) : Int) ≤ (65536 : Int))))) := (kp_at (by kernel_rfl)).trans (by kernel_rfl)
/- slices.IndexFunc[[]string,string] -/
noncomputable def slices_IndexFunc_string_at_rep_splits_bd : Code := Tryz.f117.body.getD .skip
noncomputable def slices_IndexFunc_string_at_rep_splits_L0 (kap : FuncId → List AV → Option AV) (k : Nat) (k0 : Nat) (s0 : List AV) (s7 : Int) (s8 : Int) : Option AV :=
  loop (fun fr K => code ((bs E0 k).cfg kap slices_IndexFunc_string) (sel slices_IndexFunc_string_at_rep_splits_bd [1, 0, 1, 0, 0]) fr K) (canon ((bs E0 k).cfg kap slices_IndexFunc_string) (firstReg (sel slices_IndexFunc_string_at_rep_splits_bd [1, 0, 1, 0, 0]))) k0 (mkFr 19 [(0, (.list 1 s0)), (1, (.func (.func rep_splits) [] [])), (7, (.int .i64 s7)), (8, (.int .i64 s8))] []) (plug ((bs E0 k).cfg kap slices_IndexFunc_string) (retK ((bs E0 k).cfg kap slices_IndexFunc_string) [] Tryz.f117 [] some) [.blk 0, .seqR (sel slices_IndexFunc_string_at_rep_splits_bd [1, 1])])
theorem slices_IndexFunc_string_at_rep_splits_L0_s (kap : FuncId → List AV → Option AV) (k : Nat) (k0 : Nat) (s0 : List AV) (s7 : Int) (s8 : Int) : slices_IndexFunc_string_at_rep_splits_L0 kap k (k0 + 1) s0 s7 s8 =
  (bif (decide (s8 < s7)) then (bif ((decide ((0 : Int) ≤ s8)) && (decide (s8 < (((List.length s0) : Nat) : Int)))) then ((s0[(Int.toNat s8)]?).bind fun vy1 => (cellS (AV.cells vy1) 0 fun vs2 => (callB (kap rep_splits [(.str vs2)]) fun vq4 => (bif vq4 then (some (.int .i64 s8)) else (slices_IndexFunc_string_at_rep_splits_L0 kap k k0 s0 s7 (IntKind.wrap .i64 (s8 + (1 : Int)))))))) else none) else (some (.int .i64 (-1 : Int)))) := by kernel_rfl
theorem slices_IndexFunc_string_at_rep_splits_eq {E : Ext} [Core E] (k n : Nat) (a0 : List AV) : kp E k (n + 1) slices_IndexFunc_string [(.list 1 a0), (.func (.func rep_splits) [] [])] =
  (slices_IndexFunc_string_at_rep_splits_L0 (kp E k n) k k a0 (((List.length a0) : Nat) : Int) (0 : Int)) := (kp_at (by kernel_rfl)).trans (by kernel_rfl)
/- slices.IndexFunc[[]string,string] -/
noncomputable def slices_IndexFunc_string_at_rep_full_1_bd : Code := Tryz.f117.body.getD .skip
noncomputable def slices_IndexFunc_string_at_rep_full_1_L0 (kap : FuncId → List AV → Option AV) (k : Nat) (k0 : Nat) (s0 : List AV) (s1_c0_0 : Int) (s1_c0_1 : ByteArray) (s1_c0_2 : ByteArray) (s1_c0_3 : Int) (s1_c0_4 : Int) (s1_c0_5 : Int) (s1_c0_6 : Int) (s1_c0_7 : Int) (s1_c0_8 : Int) (s1_c0_9 : ByteArray) (s1_c0_10 : ByteArray) (s1_c0_11 : Int) (s1_c0_12 : Int) (s1_c0_13 : List AV) (s7 : Int) (s8 : Int) : Option AV :=
  loop (fun fr K => code ((bs E0 k).cfg kap slices_IndexFunc_string) (sel slices_IndexFunc_string_at_rep_full_1_bd [1, 0, 1, 0, 0]) fr K) (canon ((bs E0 k).cfg kap slices_IndexFunc_string) (firstReg (sel slices_IndexFunc_string_at_rep_full_1_bd [1, 0, 1, 0, 0]))) k0 (mkFr 19 [(0, (.list 1 s0)), (1, (.func (.func rep_full_1) [] [(.eptr [(.int .i64 s1_c0_0), (.str s1_c0_1), (.str s1_c0_2), (.int .i64 s1_c0_3), (.int .i64 s1_c0_4), (.int .i64 s1_c0_5), (.int .i64 s1_c0_6), (.int .i64 s1_c0_7), (.int .i64 s1_c0_8), (.str s1_c0_9), (.str s1_c0_10), (.int .i64 s1_c0_11), (.int .i64 s1_c0_12), (.list 2 s1_c0_13)] 0)])), (7, (.int .i64 s7)), (8, (.int .i64 s8))] []) (plug ((bs E0 k).cfg kap slices_IndexFunc_string) (retK ((bs E0 k).cfg kap slices_IndexFunc_string) [] Tryz.f117 [] some) [.blk 0, .seqR (sel slices_IndexFunc_string_at_rep_full_1_bd [1, 1])])
theorem slices_IndexFunc_string_at_rep_full_1_L0_s (kap : FuncId → List AV → Option AV) (k : Nat) (k0 : Nat) (s0 : List AV) (s1_c0_0 : Int) (s1_c0_1 : ByteArray) (s1_c0_2 : ByteArray) (s1_c0_3 : Int) (s1_c0_4 : Int) (s1_c0_5 : Int) (s1_c0_6 : Int) (s1_c0_7 : Int) (s1_c0_8 : Int) (s1_c0_9 : ByteArray) (s1_c0_10 : ByteArray) (s1_c0_11 : Int) (s1_c0_12 : Int) (s1_c0_13 : List AV) (s7 : Int) (s8 : Int) : slices_IndexFunc_string_at_rep_full_1_L0 kap k (k0 + 1) s0 s1_c0_0 s1_c0_1 s1_c0_2 s1_c0_3 s1_c0_4 s1_c0_5 s1_c0_6 s1_c0_7 s1_c0_8 s1_c0_9 s1_c0_10 s1_c0_11 s1_c0_12 s1_c0_13 s7 s8 =
  (bif (decide (s8 < s7)) then (bif ((decide ((0 : Int) ≤ s8)) && (decide (s8 < (((List.length s0) : Nat) : Int)))) then ((s0[(Int.toNat s8)]?).bind fun vy1 => (cellS (AV.cells vy1) 0 fun vs2 => (callB (kap rep_full_1 [(.str vs2), (.eptr [(.int .i64 s1_c0_0), (.str s1_c0_1), (.str s1_c0_2), (.int .i64 s1_c0_3), (.int .i64 s1_c0_4), (.int .i64 s1_c0_5), (.int .i64 s1_c0_6), (.int .i64 s1_c0_7), (.int .i64 s1_c0_8), (.str s1_c0_9), (.str s1_c0_10), (.int .i64 s1_c0_11), (.int .i64 s1_c0_12), (.list 2 s1_c0_13)] 0)]) fun vq4 => (bif vq4 then (some (.int .i64 s8)) else (slices_IndexFunc_string_at_rep_full_1_L0 kap k k0 s0 s1_c0_0 s1_c0_1 s1_c0_2 s1_c0_3 s1_c0_4 s1_c0_5 s1_c0_6 s1_c0_7 s1_c0_8 s1_c0_9 s1_c0_10 s1_c0_11 s1_c0_12 s1_c0_13 s7 (IntKind.wrap .i64 (s8 + (1 : Int)))))))) else none) else (some (.int .i64 (-1 : Int)))) := by kernel_rfl
theorem slices_IndexFunc_string_at_rep_full_1_eq {E : Ext} [Core E] (k n : Nat) (a0 : List AV) (a1_v0_0 : Int) (a1_v0_1 : ByteArray) (a1_v0_2 : ByteArray) (a1_v0_3 : Int) (a1_v0_4 : Int) (a1_v0_5 : Int) (a1_v0_6 : Int) (a1_v0_7 : Int) (a1_v0_8 : Int) (a1_v0_9 : ByteArray) (a1_v0_10 : ByteArray) (a1_v0_11 : Int) (a1_v0_12 : Int) (a1_v0_13 : List AV) : kp E k (n + 1) slices_IndexFunc_string [(.list 1 a0), (.func (.func rep_full_1) [] [(.eptr [(.int .i64 a1_v0_0), (.str a1_v0_1), (.str a1_v0_2), (.int .i64 a1_v0_3), (.int .i64 a1_v0_4), (.int .i64 a1_v0_5), (.int .i64 a1_v0_6), (.int .i64 a1_v0_7), (.int .i64 a1_v0_8), (.str a1_v0_9), (.str a1_v0_10), (.int .i64 a1_v0_11), (.int .i64 a1_v0_12), (.list 2 a1_v0_13)] 0)])] =
  (slices_IndexFunc_string_at_rep_full_1_L0 (kp E k n) k k a0 a1_v0_0 a1_v0_1 a1_v0_2 a1_v0_3 a1_v0_4 a1_v0_5 a1_v0_6 a1_v0_7 a1_v0_8 a1_v0_9 a1_v0_10 a1_v0_11 a1_v0_12 a1_v0_13 (((List.length a0) : Nat) : Int) (0 : Int)) := (kp_at (by kernel_rfl)).trans (by kernel_rfl)
/- slices.IndexFunc[[]string,string] -/
noncomputable def slices_IndexFunc_string_at_rep_full_2_bd : Code := Tryz.f117.body.getD .skip
noncomputable def slices_IndexFunc_string_at_rep_full_2_L0 (kap : FuncId → List AV → Option AV) (k : Nat) (k0 : Nat) (s0 : List AV) (s7 : Int) (s8 : Int) : Option AV :=
  loop (fun fr K => code ((bs E0 k).cfg kap slices_IndexFunc_string) (sel slices_IndexFunc_string_at_rep_full_2_bd [1, 0, 1, 0, 0]) fr K) (canon ((bs E0 k).cfg kap slices_IndexFunc_string) (firstReg (sel slices_IndexFunc_string_at_rep_full_2_bd [1, 0, 1, 0, 0]))) k0 (mkFr 19 [(0, (.list 1 s0)), (1, (.func (.func rep_full_2) [] [])), (7, (.int .i64 s7)), (8, (.int .i64 s8))] []) (plug ((bs E0 k).cfg kap slices_IndexFunc_string) (retK ((bs E0 k).cfg kap slices_IndexFunc_string) [] Tryz.f117 [] some) [.blk 0, .seqR (sel slices_IndexFunc_string_at_rep_full_2_bd [1, 1])])
theorem slices_IndexFunc_string_at_rep_full_2_L0_s (kap : FuncId → List AV → Option AV) (k : Nat) (k0 : Nat) (s0 : List AV) (s7 : Int) (s8 : Int) : slices_IndexFunc_string_at_rep_full_2_L0 kap k (k0 + 1) s0 s7 s8 =
  (bif (decide (s8 < s7)) then (bif ((decide ((0 : Int) ≤ s8)) && (decide (s8 < (((List.length s0) : Nat) : Int)))) then ((s0[(Int.toNat s8)]?).bind fun vy1 => (cellS (AV.cells vy1) 0 fun vs2 => (callB (kap rep_full_2 [(.str vs2)]) fun vq4 => (bif vq4 then (some (.int .i64 s8)) else (slices_IndexFunc_string_at_rep_full_2_L0 kap k k0 s0 s7 (IntKind.wrap .i64 (s8 + (1 : Int)))))))) else none) else (some (.int .i64 (-1 : Int)))) := by kernel_rfl
theorem slices_IndexFunc_string_at_rep_full_2_eq {E : Ext} [Core E] (k n : Nat) (a0 : List AV) : kp E k (n + 1) slices_IndexFunc_string [(.list 1 a0), (.func (.func rep_full_2) [] [])] =
  (slices_IndexFunc_string_at_rep_full_2_L0 (kp E k n) k k a0 (((List.length a0) : Nat) : Int) (0 : Int)) := (kp_at (by kernel_rfl)).trans (by kernel_rfl)
/- oakum/oakumref10.Cuts -/
noncomputable def ref10_Cuts_bd : Code := Tryz.f118.body.getD .skip
noncomputable def ref10_Cuts_L0 (kap : FuncId → List AV → Option AV) (k : Nat) (k0 : Nat) (s0 : ByteArray) (s4 : Int) (x3 : List AV) : Option AV :=
  loop (fun fr K => code ((bs E0 k).cfg kap ref10_Cuts) (sel ref10_Cuts_bd [1, 1, 0, 1, 0, 0]) fr K) (canon ((bs E0 k).cfg kap ref10_Cuts) (firstReg (sel ref10_Cuts_bd [1, 1, 0, 1, 0, 0]))) k0 (mkFr 42 [(0, (.str s0)), (3, (.own 3)), (4, (.int .i64 s4))] [(3, (.row 3 x3 false))]) (plug ((bs E0 k).cfg kap ref10_Cuts) (retK ((bs E0 k).cfg kap ref10_Cuts) [] Tryz.f118 [] some) [.blk 0, .seqR (sel ref10_Cuts_bd [1, 1, 1])])
theorem ref10_Cuts_L0_s (kap : FuncId → List AV → Option AV) (k : Nat) (k0 : Nat) (s0 : ByteArray) (s4 : Int) (x3 : List AV) : ref10_Cuts_L0 kap k (k0 + 1) s0 s4 x3 =
  (bif (decide (s4 < (((ByteArray.size s0) : Nat) : Int))) then (bif ((decide ((0 : Int) ≤ s4)) && (decide (s4 < (((ByteArray.size s0) : Nat) : Int)))) then (bif (decide ((byteAt s0 (Int.toNat s4)) = (47 : Int))) then (bif (decide (s4 ≥ (1 : Int))) then (bif (decide (s4 ≤ (155 : Int))) then (bif (decide ((IntKind.wrap .i64 ((((ByteArray.size s0) : Nat) : Int) - s4)) ≥ (2 : Int))) then (bif (decide ((IntKind.wrap .i64 ((((ByteArray.size s0) : Nat) : Int) - s4)) ≤ (101 : Int))) then (bif (decide (((List.length x3) + 1) * 8 ≤ 140737488355328) && decide (((List.length x3) + 1) ≤ 9223372036854775807)) then (ref10_Cuts_L0 kap k k0 s0 (IntKind.wrap .i64 (s4 + (1 : Int))) (x3 ++ [(.int .i64 s4)])) else none) else (ref10_Cuts_L0 kap k k0 s0 (IntKind.wrap .i64 (s4 + (1 : Int))) x3)) else (ref10_Cuts_L0 kap k k0 s0 (IntKind.wrap .i64 (s4 + (1 : Int))) x3)) else (ref10_Cuts_L0 kap k k0 s0 (IntKind.wrap .i64 (s4 + (1 : Int))) x3)) else (ref10_Cuts_L0 kap k k0 s0 (IntKind.wrap .i64 (s4 + (1 : Int))) x3)) else (ref10_Cuts_L0 kap k k0 s0 (IntKind.wrap .i64 (s4 + (1 : Int))) x3)) else none) else (some (.list 1 x3))) := by kernel_rfl
theorem ref10_Cuts_eq {E : Ext} [Core E] (k n : Nat) (a0 : ByteArray) : kp E k (n + 1) ref10_Cuts [(.str a0)] =
  (ref10_Cuts_L0 (kp E k n) k k a0 (0 : Int) []) := (kp_at (by kernel_rfl)).trans (by kernel_rfl)
/- slices.IndexFunc[[]oakum/api.Item,oakum/api.Item] -/
/- oakum/num.Most -/
theorem num_Most_eq {E : Ext} [Core E] (k n : Nat) (a0 : Int) : kp E k (n + 1) num_Most [(.int .i64 a0)] =
  (bif (decide (a0 < (1 : Int))) then (some (.int .i64 (0 : Int))) else (bif (decide (a0 > (20 : Int))) then (some (.int .i64 (9223372036854775807 : Int))) else (bif (decide ((IntKind.wrap .i64 ((3 : Int) * a0)) < (0 : Int))) then none else (some (.int .i64 (IntKind.wrap .i64 ((IntKind.wrap .i64 ((1 : Int) * 2 ^ (min (Int.toNat (IntKind.wrap .i64 ((3 : Int) * a0))) (IntKind.bits .i64)))) - (1 : Int)))))))) := (kp_at (by kernel_rfl)).trans (by kernel_rfl)
/- oakum/split.Split -/
theorem split_Split_eq {E : Ext} [Core E] (k n : Nat) (a0 : ByteArray) : kp E k (n + 1) split_Split [(.str a0)] =
  (bif (decide (a0 = (str []))) then (some (.tup [(.str (str [])), (.str (str [])), (.bool false)])) else (callI .i64 (kp E k n split_Most []) fun vn2 => (bif (decide ((((ByteArray.size a0) : Nat) : Int) > vn2)) then (some (.tup [(.str (str [])), (.str (str [])), (.bool false)])) else (bif (decide ((((ByteArray.size a0) : Nat) : Int) ≤ (100 : Int))) then (some (.tup [(.str (str [])), (.str a0), (.bool true)])) else (bif ((decide ((0 : Int) ≤ (if (156 : Int) < (((ByteArray.size a0) : Nat) : Int) then (156 : Int) else (((ByteArray.size a0) : Nat) : Int)))) && (decide ((if (156 : Int) < (((ByteArray.size a0) : Nat) : Int) then (156 : Int) else (((ByteArray.size a0) : Nat) : Int)) ≤ (((ByteArray.size a0) : Nat) : Int)))) then (callI .i64 (kp E k n strings_LastIndexByte [(.str (ByteArray.extract a0 0 (Int.toNat (if (156 : Int) < (((ByteArray.size a0) : Nat) : Int) then (156 : Int) else (((ByteArray.size a0) : Nat) : Int))))), (.int .u8 (47 : Int))]) fun vn4 => (bif (decide (vn4 = (IntKind.wrap .i64 ((((ByteArray.size a0) : Nat) : Int) - (1 : Int))))) then (bif ((decide ((0 : Int) ≤ vn4)) && (decide (vn4 ≤ (((ByteArray.size a0) : Nat) : Int)))) then (callI .i64 (kp E k n strings_LastIndexByte [(.str (ByteArray.extract a0 0 (Int.toNat vn4))), (.int .u8 (47 : Int))]) fun vn6 => (bif (decide (vn6 < (0 : Int))) then (some (.tup [(.str (str [])), (.str (str [])), (.bool false)])) else (callB (kp E k n split_cut [(.str a0), (.int .i64 vn6)]) fun vq8 => (bif (!vq8) then (some (.tup [(.str (str [])), (.str (str [])), (.bool false)])) else (bif ((decide ((0 : Int) ≤ vn6)) && (decide (vn6 ≤ (((ByteArray.size a0) : Nat) : Int)))) then (bif ((decide ((0 : Int) ≤ (IntKind.wrap .i64 (vn6 + (1 : Int))))) && (decide ((IntKind.wrap .i64 (vn6 + (1 : Int))) ≤ (((ByteArray.size a0) : Nat) : Int)))) then (some (.tup [(.str (ByteArray.extract a0 0 (Int.toNat vn6))), (.str (ByteArray.extract a0 (Int.toNat (IntKind.wrap .i64 (vn6 + (1 : Int)))) (ByteArray.size a0))), (.bool true)])) else none) else none))))) else none) else (bif (decide (vn4 < (0 : Int))) then (some (.tup [(.str (str [])), (.str (str [])), (.bool false)])) else (callB (kp E k n split_cut [(.str a0), (.int .i64 vn4)]) fun vq10 => (bif (!vq10) then (some (.tup [(.str (str [])), (.str (str [])), (.bool false)])) else (bif ((decide ((0 : Int) ≤ vn4)) && (decide (vn4 ≤ (((ByteArray.size a0) : Nat) : Int)))) then (bif ((decide ((0 : Int) ≤ (IntKind.wrap .i64 (vn4 + (1 : Int))))) && (decide ((IntKind.wrap .i64 (vn4 + (1 : Int))) ≤ (((ByteArray.size a0) : Nat) : Int)))) then (some (.tup [(.str (ByteArray.extract a0 0 (Int.toNat vn4))), (.str (ByteArray.extract a0 (Int.toNat (IntKind.wrap .i64 (vn4 + (1 : Int)))) (ByteArray.size a0))), (.bool true)])) else none) else none)))))) else none))))) := (kp_at (by kernel_rfl)).trans (by kernel_rfl)
/- internal/stringslite.IndexByte -/
/- oakum/split.Most -/
theorem split_Most_eq {E : Ext} [Core E] (k n : Nat)  : kp E k (n + 1) split_Most [] =
  (some (.int .i64 (256 : Int))) := (kp_at (by kernel_rfl)).trans (by kernel_rfl)
/- strings.LastIndexByte -/
theorem strings_LastIndexByte_eq {E : Ext} [Core E] (k n : Nat) (a0 : ByteArray) (a1 : Int) : kp E k (n + 1) strings_LastIndexByte [(.str a0), (.int .u8 a1)] =
  (callI .i64 (kp E k n bytealg_LastIndexByteString [(.str a0), (.int .u8 a1)]) fun vn2 => (some (.int .i64 vn2))) := (kp_at (by kernel_rfl)).trans (by kernel_rfl)
/- oakum/split.cut -/
theorem split_cut_eq {E : Ext} [Core E] (k n : Nat) (a0 : ByteArray) (a1 : Int) : kp E k (n + 1) split_cut [(.str a0), (.int .i64 a1)] =
  (bif (decide (a1 ≥ (1 : Int))) then (bif (decide (a1 ≤ (155 : Int))) then (bif (decide ((IntKind.wrap .i64 ((IntKind.wrap .i64 ((((ByteArray.size a0) : Nat) : Int) - a1)) - (1 : Int))) ≥ (1 : Int))) then (some (.bool (decide ((IntKind.wrap .i64 ((IntKind.wrap .i64 ((((ByteArray.size a0) : Nat) : Int) - a1)) - (1 : Int))) ≤ (100 : Int))))) else (some (.bool false))) else (some (.bool false))) else (some (.bool false))) := (kp_at (by kernel_rfl)).trans (by kernel_rfl)
/- internal/bytealg.Cutover -/
/- internal/bytealg.LastIndexByteString -/
noncomputable def bytealg_LastIndexByteString_bd : Code := Tryz.f232.body.getD .skip
noncomputable def bytealg_LastIndexByteString_L0 (kap : FuncId → List AV → Option AV) (k : Nat) (k0 : Nat) (s0 : ByteArray) (s1 : Int) (s5 : Int) : Option AV :=
  loop (fun fr K => code ((bs E0 k).cfg kap bytealg_LastIndexByteString) (sel bytealg_LastIndexByteString_bd [1, 0, 1, 0, 0]) fr K) (canon ((bs E0 k).cfg kap bytealg_LastIndexByteString) (firstReg (sel bytealg_LastIndexByteString_bd [1, 0, 1, 0, 0]))) k0 (mkFr 19 [(0, (.str s0)), (1, (.int .u8 s1)), (5, (.int .i64 s5))] []) (plug ((bs E0 k).cfg kap bytealg_LastIndexByteString) (retK ((bs E0 k).cfg kap bytealg_LastIndexByteString) [] Tryz.f232 [] some) [.blk 0, .seqR (sel bytealg_LastIndexByteString_bd [1, 1])])
theorem bytealg_LastIndexByteString_L0_s (kap : FuncId → List AV → Option AV) (k : Nat) (k0 : Nat) (s0 : ByteArray) (s1 : Int) (s5 : Int) : bytealg_LastIndexByteString_L0 kap k (k0 + 1) s0 s1 s5 =
  (bif (decide (s5 ≥ (0 : Int))) then (bif ((decide ((0 : Int) ≤ s5)) && (decide (s5 < (((ByteArray.size s0) : Nat) : Int)))) then (bif (decide ((byteAt s0 (Int.toNat s5)) = s1)) then (some (.int .i64 s5)) else (bytealg_LastIndexByteString_L0 kap k k0 s0 s1 (IntKind.wrap .i64 (s5 - (1 : Int))))) else none) else (some (.int .i64 (-1 : Int)))) := by kernel_rfl
theorem bytealg_LastIndexByteString_eq {E : Ext} [Core E] (k n : Nat) (a0 : ByteArray) (a1 : Int) : kp E k (n + 1) bytealg_LastIndexByteString [(.str a0), (.int .u8 a1)] =
  (bytealg_LastIndexByteString_L0 (kp E k n) k k a0 a1 (IntKind.wrap .i64 ((((ByteArray.size a0) : Nat) : Int) - (1 : Int)))) := (kp_at (by kernel_rfl)).trans (by kernel_rfl)
/- internal/stringslite.HasPrefix -/
/- internal/bytealg.IndexRabinKarp[string] -/
/- internal/bytealg.hashStr[string] -/
end Go.Proofs.YtbkhmkcmbaffoaaGreatDoor.Eng.U


/- Which names split: by the program and by the definition, in plain words. -/
set_option linter.unusedVariables false
set_option linter.unusedSectionVars false
set_option linter.unusedSimpArgs false
namespace Go.Proofs.YtbkhmkcmbaffoaaGreatDoor.Eng.U
open Go Go.Proofs Go.Proofs.YtbkhmkcmbaffoaaGreatDoor.Eng
variable {E : Ext} [Core E] [HasNum E] {k n : Nat}

/-- The place of the last slash among the first bytes. -/
def lastU (s : Tx) : Nat → Int
  | 0 => -1
  | m + 1 => if s.getD m 0 = 47 then ((m : Nat) : Int) else lastU s m
theorem lastByte_loop (kap : FuncId → List AV → Option AV) (s : Tx) (hs : s.length < 1000000000) : ∀ (m k0 : Nat), m < k0 → m ≤ s.length →
    bytealg_LastIndexByteString_L0 kap k k0 (str s) 47 (((m : Nat) : Int) - 1) = some (.int .i64 (lastU s m))
  | 0, k0 + 1, hk, hm => by
    rw [bytealg_LastIndexByteString_L0_s, bif_f (by omega)]
    rfl
  | m + 1, k0 + 1, hk, hm => by
    have e : (((m + 1 : Nat) : Int) - 1) = ((m : Nat) : Int) := by omega
    have hw : IntKind.wrap .i64 (((m : Nat) : Int) - 1) = ((m : Nat) : Int) - 1 := i64w (by omega)
    have hb : decide (byteAt (str s) m = 47) = decide (s.getD m 0 = 47) := by rw [str_byte]; exact byte_is _ 47 (by omega)
    rw [bytealg_LastIndexByteString_L0_s, e, bif_t (by omega), str_size, inb (by omega), cond_true, Int.toNat_natCast, hb, hw]
    unfold lastU
    by_cases h : s.getD m 0 = 47
    · rw [decide_eq_true h, if_pos h]; rfl
    · rw [decide_eq_false h, if_neg h]; exact lastByte_loop kap s hs m k0 (by omega) (by omega)
theorem lastByte_k (s : Tx) (hs : s.length < 1000000000) (hk : s.length < k) : kp E k (n + 2) strings_LastIndexByte [.str (str s), .int .u8 47] = some (.int .i64 (lastU s s.length)) := by
  have h := lastByte_loop (k := k) (kp E k n) s hs s.length k hk (Nat.le_refl _)
  rw [strings_LastIndexByte_eq, bytealg_LastIndexByteString_eq, str_size, i64w (x := ((s.length : Nat) : Int) - 1) (by omega), h, callI_ok]
theorem lastU_spec (s : Tx) : ∀ m : Nat, (lastU s m = -1 ∧ ∀ i, i < m → s.getD i 0 ≠ 47) ∨ ∃ j, j < m ∧ lastU s m = ((j : Nat) : Int) ∧ s.getD j 0 = 47 ∧ ∀ i, j < i → i < m → s.getD i 0 ≠ 47
  | 0 => .inl ⟨rfl, fun i h => by omega⟩
  | m + 1 => by
    have ih := lastU_spec s m
    unfold lastU
    by_cases h : s.getD m 0 = 47
    · rw [if_pos h]
      exact .inr ⟨m, by omega, rfl, h, fun i h1 h2 => by omega⟩
    · rw [if_neg h]
      rcases ih with ⟨h1, h2⟩ | ⟨j, h1, h2, h3, h4⟩
      · refine .inl ⟨h1, fun i hi => ?_⟩
        by_cases e : i = m
        · subst e; exact h
        · exact h2 i (by omega)
      · refine .inr ⟨j, by omega, h2, h3, fun i hi hm => ?_⟩
        by_cases e : i = m
        · subst e; exact h
        · exact h4 i hi (by omega)
theorem lastU_take (s : Tx) (t : Nat) : ∀ m : Nat, m ≤ t → lastU (s.take t) m = lastU s m
  | 0, _ => rfl
  | m + 1, h => by
    have ih := lastU_take s t m (by omega)
    have e : (s.take t).getD m 0 = s.getD m 0 := by
      rw [List.getD_eq_getElem?_getD, List.getD_eq_getElem?_getD, List.getElem?_take_of_lt (by omega)]
    unfold lastU
    rw [e, ih]
/-- May a name be cut there? -/
def cutAt (s : Tx) (i : Nat) : Bool := decide (s.getD i 0 = 47) && (decide (1 ≤ i) && (decide (i ≤ 155) && (decide (i + 2 ≤ s.length) && decide (s.length ≤ i + 101))))
def splitB (s : Tx) : Bool := decide (s ≠ []) && (decide (s.length ≤ 100) || (List.range s.length).any (cutAt s))
theorem cutAt_iff {s : Tx} {i : Nat} : cutAt s i = true ↔ s.getD i 0 = 47 ∧ 1 ≤ i ∧ i ≤ 155 ∧ i + 2 ≤ s.length ∧ s.length ≤ i + 101 := by
  unfold cutAt
  simp only [Bool.and_eq_true, decide_eq_true_eq]
theorem splitB_long {s : Tx} (h : 100 < s.length) : splitB s = (List.range s.length).any (cutAt s) := by
  have hne : s ≠ [] := fun e => by rw [e] at h; simp at h
  unfold splitB
  rw [decide_eq_true hne, decide_eq_false (by omega : ¬ s.length ≤ 100), Bool.true_and, Bool.false_or]
theorem splitB_no {s : Tx} (h : 100 < s.length) (hn : ∀ i, cutAt s i = false) : splitB s = false := by
  rw [splitB_long h, List.any_eq_false]
  intro i _
  rw [hn i]; simp
theorem splitB_yes {s : Tx} (h : 100 < s.length) {i : Nat} (hi : cutAt s i = true) : splitB s = true := by
  have := cutAt_iff.1 hi
  rw [splitB_long h, List.any_eq_true]
  exact ⟨i, List.mem_range.2 (by omega), hi⟩
theorem cut_k' (s : Tx) (j : Nat) (hj : j < s.length) (hs : s.length < 1000000000) (hc : s.getD j 0 = 47) : kp E k (n + 1) split_cut [.str (str s), .int .i64 ((j : Nat) : Int)] = some (.bool (cutAt s j)) := by
  have w1 : IntKind.wrap .i64 (IntKind.wrap .i64 (((s.length : Nat) : Int) - ((j : Nat) : Int)) - 1) = ((s.length - j - 1 : Nat) : Int) := by
    rw [i64w (x := ((s.length : Nat) : Int) - ((j : Nat) : Int)) (by omega), i64w (by omega)]; omega
  rw [split_cut_eq, str_size, w1]
  unfold cutAt
  rw [decide_eq_true hc, Bool.true_and]
  by_cases h1 : 1 ≤ j
  · rw [bif_t (by omega), decide_eq_true h1, Bool.true_and]
    by_cases h2 : j ≤ 155
    · rw [bif_t (by omega), decide_eq_true h2, Bool.true_and]
      by_cases h3 : j + 2 ≤ s.length
      · rw [bif_t (by omega), decide_eq_true h3, Bool.true_and]
        congr 2
        rw [decide_eq_decide]
        omega
      · rw [bif_f (by omega), decide_eq_false h3]; rfl
    · rw [bif_f (by omega), decide_eq_false h2]; rfl
  · rw [bif_f (by omega), decide_eq_false h1]; rfl
theorem split_end (s : Tx) (h : 100 < s.length) (hs : s.length < 1000000000) (m : Nat) (hm : m ≤ s.length) (hm2 : m ≤ 156) (hall : ∀ i, cutAt s i = true → i < m) (hlast : ∀ j, lastU s m = ((j : Nat) : Int) → j + 1 ≠ s.length) :
    ∃ a b : ByteArray, (bif (decide (lastU s m < (0 : Int))) then (some (AV.tup [(.str (str [])), (.str (str [])), (.bool false)])) else (callB (kp E k (n + 1) split_cut [(.str (str s)), (.int .i64 (lastU s m))]) fun vq8 => (bif (!vq8) then (some (.tup [(.str (str [])), (.str (str [])), (.bool false)])) else (bif ((decide ((0 : Int) ≤ lastU s m)) && (decide (lastU s m ≤ (((ByteArray.size (str s)) : Nat) : Int)))) then (bif ((decide ((0 : Int) ≤ (IntKind.wrap .i64 (lastU s m + (1 : Int))))) && (decide ((IntKind.wrap .i64 (lastU s m + (1 : Int))) ≤ (((ByteArray.size (str s)) : Nat) : Int)))) then (some (.tup [(.str (ByteArray.extract (str s) 0 (Int.toNat (lastU s m)))), (.str (ByteArray.extract (str s) (Int.toNat (IntKind.wrap .i64 (lastU s m + (1 : Int)))) (ByteArray.size (str s)))), (.bool true)])) else none) else none)))) = some (.tup [.str a, .str b, .bool (splitB s)]) := by
  rcases lastU_spec s m with ⟨h1, h2⟩ | ⟨j, h1, h2, h3, h4⟩
  · rw [h1, bif_t (by omega)]
    have hn : splitB s = false := splitB_no h fun i => by
      cases hc : cutAt s i with
      | false => rfl
      | true => exact absurd (cutAt_iff.1 hc).1 (h2 i (hall i hc))
    rw [hn]
    exact ⟨_, _, rfl⟩
  · have hjs := hlast j h2
    rw [h2, bif_f (by omega), cut_k' s j (by omega) hs h3, callB_ok]
    cases hc : cutAt s j with
    | false =>
      have hn : splitB s = false := splitB_no h fun i => by
        cases hci : cutAt s i with
        | false => rfl
        | true =>
          have hi := cutAt_iff.1 hci
          have hij : i ≤ j := by
            apply Classical.byContradiction
            intro hlt
            exact h4 i (by omega) (hall i hci) hi.1
          have : cutAt s j = true := cutAt_iff.2 ⟨h3, by omega, by omega, by omega, by omega⟩
          rw [this] at hc; cases hc
      rw [hn]
      exact ⟨_, _, rfl⟩
    | true =>
      rw [splitB_yes h hc, Bool.not_true, cond_false, str_size, inbE (by omega), cond_true, wrap1 (by omega), inbE (by omega), cond_true]
      exact ⟨_, _, rfl⟩
theorem split10_k (s : Tx) (hs : s.length < 1000000000) (hk : s.length < k) : ∃ a b : ByteArray, kp E k (n + 3) split_Split [.str (str s)] = some (.tup [.str a, .str b, .bool (splitB s)]) := by
  rw [split_Split_eq, split_Most_eq, callI_ok, str_dec]
  by_cases h0 : s = []
  · subst h0
    rw [decide_eq_true rfl, cond_true]
    exact ⟨_, _, rfl⟩
  rw [decide_eq_false h0, cond_false, str_size]
  by_cases h1 : s.length > 256
  · have hn : splitB s = false := splitB_no (by omega) fun i => by
      cases hc : cutAt s i with
      | false => rfl
      | true => have := cutAt_iff.1 hc; omega
    rw [bif_t (by omega), hn]
    exact ⟨_, _, rfl⟩
  rw [bif_f (by omega)]
  by_cases h2 : s.length ≤ 100
  · have hy : splitB s = true := by unfold splitB; rw [decide_eq_true h0, decide_eq_true h2]; rfl
    rw [bif_t (by omega), hy]
    exact ⟨_, _, rfl⟩
  rw [bif_f (by omega)]
  have ht : (if (156 : Int) < ((s.length : Nat) : Int) then (156 : Int) else ((s.length : Nat) : Int)) = ((min 156 s.length : Nat) : Int) := by split <;> omega
  have hw : IntKind.wrap .i64 (((s.length : Nat) : Int) - 1) = ((s.length - 1 : Nat) : Int) := by rw [i64w (by omega)]; omega
  generalize hm : min 156 s.length = m at ht
  have l1 := lastByte_k (E := E) (k := k) (n := n) (s.take m) (by rw [List.length_take]; omega) (by rw [List.length_take]; omega)
  have hlm : (s.take m).length = m := by rw [List.length_take]; omega
  rw [hlm, lastU_take s m m (Nat.le_refl _)] at l1
  rw [ht, inbE (by omega), cond_true, Int.toNat_natCast, str_ext, List.drop_zero, l1, callI_ok, hw]
  by_cases hv : lastU s m = ((s.length - 1 : Nat) : Int)
  · have hml : m = s.length := by
      rcases lastU_spec s m with ⟨g1, _⟩ | ⟨j, g1, g2, _, _⟩
      · omega
      · omega
    have l2 := lastByte_k (E := E) (k := k) (n := n) (s.take (s.length - 1)) (by rw [List.length_take]; omega) (by rw [List.length_take]; omega)
    have hl2 : (s.take (s.length - 1)).length = s.length - 1 := by rw [List.length_take]; omega
    rw [hl2, lastU_take s (s.length - 1) (s.length - 1) (Nat.le_refl _)] at l2
    rw [decide_eq_true hv, cond_true, hv, inbE (by omega), cond_true, Int.toNat_natCast, str_ext, List.drop_zero, l2, callI_ok]
    have h := split_end (E := E) (k := k) (n := n + 1) s (by omega) hs (s.length - 1) (by omega) (by omega) (fun i hi => by have := cutAt_iff.1 hi; omega) (fun j hj => by
      rcases lastU_spec s (s.length - 1) with ⟨g1, _⟩ | ⟨j', g1, g2, _, _⟩
      · omega
      · omega)
    rw [str_size] at h
    exact h
  · rw [decide_eq_false hv, cond_false]
    have h := split_end (E := E) (k := k) (n := n + 1) s (by omega) hs m (by omega) (by omega) (fun i hi => by have := cutAt_iff.1 hi; omega) (fun j hj => by omega)
    rw [str_size] at h
    exact h
theorem splits_k (s : Tx) (hs : s.length < 1000000000) (hk : s.length < k) : kp E k (n + 4) rep_splits [.str (str s)] = some (.bool (splitB s)) := by
  obtain ⟨a, b, h⟩ := split10_k (E := E) (k := k) (n := n) s hs hk
  rw [rep_splits_eq, h, callT_ok, tupS_ok, tupS_ok, tupB_ok, atNil_ok]
/-! The definition's cuts. -/
def cutsL (s : Tx) (m : Nat) : List Int := ((List.range m).filter (cutAt s)).map fun i => ((i : Nat) : Int)
theorem cutsL_succ (s : Tx) (m : Nat) : cutsL s (m + 1) = cutsL s m ++ (if cutAt s m = true then [((m : Nat) : Int)] else []) := by
  unfold cutsL
  rw [List.range_succ, List.filter_append, List.map_append]
  congr 1
  by_cases h : cutAt s m = true
  · rw [if_pos h, List.filter_cons, if_pos h]; rfl
  · rw [if_neg h, List.filter_cons, if_neg h]; rfl
theorem cutsL_len (s : Tx) (m : Nat) : (cutsL s m).length ≤ m := by
  unfold cutsL
  rw [List.length_map]
  exact Nat.le_trans (List.length_filter_le _ _) (by simp)
theorem ivs_app (a : List Int) (x : Int) : ivs a ++ [AV.int .i64 x] = ivs (a ++ [x]) := by simp [ivs, iv]
theorem cuts_loop (kap : FuncId → List AV → Option AV) (s : Tx) (hs : s.length < 100000000) : ∀ (d m k0 : Nat), m + d = s.length → d < k0 →
    ref10_Cuts_L0 kap k k0 (str s) ((m : Nat) : Int) (ivs (cutsL s m)) = some (.list 1 (ivs (cutsL s s.length)))
  | 0, m, k0 + 1, hm, hk => by
    rw [ref10_Cuts_L0_s, str_size, bif_f (by omega), show m = s.length by omega]
  | d + 1, m, k0 + 1, hm, hk => by
    have ih := cuts_loop kap s hs d (m + 1) k0 (by omega) (by omega)
    rw [cutsL_succ] at ih
    have hb : decide (byteAt (str s) m = 47) = decide (s.getD m 0 = 47) := by rw [str_byte]; exact byte_is _ 47 (by omega)
    have w1 : IntKind.wrap .i64 (((s.length : Nat) : Int) - ((m : Nat) : Int)) = ((s.length - m : Nat) : Int) := by rw [i64w (by omega)]; omega
    have hl := cutsL_len s m
    have hroom : (decide (((ivs (cutsL s m)).length + 1) * 8 ≤ 140737488355328) && decide (((ivs (cutsL s m)).length + 1) ≤ 9223372036854775807)) = true := by rw [ivs_len]; simp; omega
    rw [ref10_Cuts_L0_s, str_size, bif_t (by omega), inb (by omega), cond_true, Int.toNat_natCast, hb, w1, wrap1 (by omega), hroom, cond_true, ivs_app]
    have hno : cutAt s m = false → ref10_Cuts_L0 kap k k0 (str s) ((m + 1 : Nat) : Int) (ivs (cutsL s m)) = some (.list 1 (ivs (cutsL s s.length))) := fun hc => by
      rw [hc, if_neg (by simp), List.append_nil] at ih
      exact ih
    by_cases g0 : s.getD m 0 = 47
    · rw [decide_eq_true g0, cond_true]
      by_cases g1 : 1 ≤ m
      · rw [bif_t (by omega)]
        by_cases g2 : m ≤ 155
        · rw [bif_t (by omega)]
          by_cases g3 : m + 2 ≤ s.length
          · rw [bif_t (by omega)]
            by_cases g4 : s.length ≤ m + 101
            · have hc : cutAt s m = true := cutAt_iff.2 ⟨g0, g1, g2, g3, g4⟩
              rw [bif_t (by omega)]
              rw [hc, if_pos rfl] at ih
              exact ih
            · rw [bif_f (by omega)]
              exact hno (Bool.eq_false_iff.2 fun h => g4 (cutAt_iff.1 h).2.2.2.2)
          · rw [bif_f (by omega)]
            exact hno (Bool.eq_false_iff.2 fun h => g3 (cutAt_iff.1 h).2.2.2.1)
        · rw [bif_f (by omega)]
          exact hno (Bool.eq_false_iff.2 fun h => g2 (cutAt_iff.1 h).2.2.1)
      · rw [bif_f (by omega)]
        exact hno (Bool.eq_false_iff.2 fun h => g1 (cutAt_iff.1 h).2.1)
    · rw [decide_eq_false g0, cond_false]
      exact hno (Bool.eq_false_iff.2 fun h => g0 (cutAt_iff.1 h).1)
theorem cuts_k (s : Tx) (hs : s.length < 100000000) (hk : s.length < k) : kp E k (n + 1) ref10_Cuts [.str (str s)] = some (.list 1 (ivs (cutsL s s.length))) := by
  rw [ref10_Cuts_eq]
  exact cuts_loop (k := k) (kp E k n) s hs s.length 0 k (by omega) hk
theorem cuts_mem {s : Tx} {v : Int} (h : v ∈ cutsL s s.length) : ∃ i : Nat, v = (i : Int) ∧ i < s.length ∧ cutAt s i = true := by
  unfold cutsL at h
  obtain ⟨i, hi, rfl⟩ := List.mem_map.1 h
  obtain ⟨h1, h2⟩ := List.mem_filter.1 hi
  exact ⟨i, rfl, List.mem_range.1 h1, h2⟩
theorem cuts_none (s : Tx) : cutsL s s.length = [] ↔ (List.range s.length).any (cutAt s) = false := by
  unfold cutsL
  rw [List.map_eq_nil_iff, List.filter_eq_nil_iff, List.any_eq_false]
theorem refSplit_tail (s : Tx) (hs : s.length < 100000000) (hk : s.length < k) (hl : s = [] ∨ 100 < s.length) : ∃ a b : ByteArray, (callL 1 (kp E k (n + 1) ref10_Cuts [(.str (str s))]) fun vl2 => (bif (decide ((((List.length vl2) : Nat) : Int) = (0 : Int))) then (some (AV.tup [(.str (str [])), (.str (str [])), (.bool false)])) else (bif ((decide ((0 : Int) ≤ (IntKind.wrap .i64 ((((List.length vl2) : Nat) : Int) - (1 : Int))))) && (decide ((IntKind.wrap .i64 ((((List.length vl2) : Nat) : Int) - (1 : Int))) < (((List.length vl2) : Nat) : Int)))) then ((vl2[(Int.toNat (IntKind.wrap .i64 ((((List.length vl2) : Nat) : Int) - (1 : Int))))]?).bind fun vy3 => (cellI .i64 (AV.cells vy3) 0 fun vn4 => (bif ((decide ((0 : Int) ≤ vn4)) && (decide (vn4 ≤ (((ByteArray.size (str s)) : Nat) : Int)))) then (bif ((decide ((0 : Int) ≤ (IntKind.wrap .i64 (vn4 + (1 : Int))))) && (decide ((IntKind.wrap .i64 (vn4 + (1 : Int))) ≤ (((ByteArray.size (str s)) : Nat) : Int)))) then (some (.tup [(.str (ByteArray.extract (str s) 0 (Int.toNat vn4))), (.str (ByteArray.extract (str s) (Int.toNat (IntKind.wrap .i64 (vn4 + (1 : Int)))) (ByteArray.size (str s)))), (.bool true)])) else none) else none))) else none))) = some (.tup [.str a, .str b, .bool (splitB s)]) := by
  rw [cuts_k s hs hk, callL_ok, ivs_len]
  have hlen := cutsL_len s s.length
  have hsp : splitB s = (List.range s.length).any (cutAt s) := by
    rcases hl with rfl | hl
    · rfl
    · exact splitB_long hl
  by_cases h0 : cutsL s s.length = []
  · rw [hsp, (cuts_none s).1 h0, h0]
    exact ⟨_, _, rfl⟩
  · have hy : (List.range s.length).any (cutAt s) = true := by
      cases hx : (List.range s.length).any (cutAt s) with
      | true => rfl
      | false => exact absurd ((cuts_none s).2 hx) h0
    have hpos : 0 < (cutsL s s.length).length := List.length_pos_iff.2 h0
    obtain ⟨v, hv⟩ : ∃ v, (cutsL s s.length)[(cutsL s s.length).length - 1]? = some v := ⟨_, List.getElem?_eq_getElem (by omega)⟩
    obtain ⟨i, rfl, hi, hc⟩ := cuts_mem (List.mem_of_getElem? hv)
    have w1 : IntKind.wrap .i64 ((((cutsL s s.length).length : Nat) : Int) - 1) = (((cutsL s s.length).length - 1 : Nat) : Int) := by rw [i64w (by omega)]; omega
    have hg : ∀ F : AV → Option AV, ((ivs (cutsL s s.length))[(cutsL s s.length).length - 1]?).bind F = F (.int .i64 ((i : Nat) : Int)) := fun F => by
      unfold ivs
      rw [List.getElem?_map, hv]
      rfl
    rw [hsp, hy, bif_f (by omega), w1, inb (by omega), cond_true, Int.toNat_natCast, hg]
    show ∃ a b : ByteArray, cellI .i64 [AV.int .i64 ((i : Nat) : Int)] 0 _ = _
    rw [cellI_0, str_size, inbE (by omega), cond_true, wrap1 (by omega), inbE (by omega), cond_true]
    exact ⟨_, _, rfl⟩
theorem refSplit_k (s : Tx) (hs : s.length < 100000000) (hk : s.length < k) : ∃ a b : ByteArray, kp E k (n + 2) ref10_Split [.str (str s)] = some (.tup [.str a, .str b, .bool (splitB s)]) := by
  rw [ref10_Split_eq, str_dec]
  by_cases h0 : s = []
  · rw [decide_eq_true h0, Bool.not_true, cond_false]
    exact refSplit_tail s hs hk (.inl h0)
  · rw [decide_eq_false h0, Bool.not_false, cond_true]
    by_cases h2 : s.length ≤ 100
    · have hy : splitB s = true := by unfold splitB; rw [decide_eq_true h0, decide_eq_true h2]; rfl
      have hle : decide ((((str s).size : Nat) : Int) ≤ 100) = true := by rw [str_size]; exact decide_eq_true (by omega)
      rw [hle, cond_true, hy]
      exact ⟨_, _, rfl⟩
    · have hle : decide ((((str s).size : Nat) : Int) ≤ 100) = false := by rw [str_size]; exact decide_eq_false (by omega)
      rw [hle, cond_false]
      exact refSplit_tail s hs hk (.inr (by omega))
end Go.Proofs.YtbkhmkcmbaffoaaGreatDoor.Eng.U


/- Which field of a head is the first that isn't right: the reference's side. -/
set_option linter.unusedVariables false
set_option linter.unusedSectionVars false
set_option linter.unusedSimpArgs false
namespace Go.Proofs.YtbkhmkcmbaffoaaGreatDoor.Eng.U
open Go Go.Proofs Go.Proofs.YtbkhmkcmbaffoaaGreatDoor.Eng Go.Proofs.YtbkhmkcmbaffoaaGreatDoor.P04
variable {E : Ext} [Core E] [HasNum E] {k n k0 : Nat}

theorem fld0 (kap : FuncId → List AV → Option AV) (h : Head) (hb : BdF h) (K : Nat) : ref09_fields_J0 kap (K + 1) (K + 1) (links h) h.kind (str h.name) (str h.link) h.mode h.uid h.gid h.size h.sec h.nano (str h.user) (str h.group) h.major h.minor (prs h.extra) false false false false false false false false false false false false false false = ref09_fields_J1 kap (K + 1) (K + 1) (links h) (devs h) h.kind (str h.name) (str h.link) h.mode h.uid h.gid h.size h.sec h.nano (str h.user) (str h.group) h.major h.minor (prs h.extra) false false false false false false false false false false false false false false := by
  rw [ref09_fields_J0_s]
  cases hx : decide (h.kind = 4)
  · have e : devs h = decide (h.kind = 5) := by unfold devs; rw [hx, Bool.false_or]
    rw [e, cond_false]
  · have e : devs h = true := by unfold devs; rw [hx, Bool.true_or]
    rw [e, cond_true]
theorem fld1 (kap : FuncId → List AV → Option AV) (h : Head) (hb : BdF h) (K : Nat) : ref09_fields_J1 kap (K + 1) (K + 1) (links h) (devs h) h.kind (str h.name) (str h.link) h.mode h.uid h.gid h.size h.sec h.nano (str h.user) (str h.group) h.major h.minor (prs h.extra) false false false false false false false false false false false false false false = ref09_fields_J2 kap (K + 1) (K + 1) (links h) (devs h) h.kind (str h.name) (str h.link) h.mode h.uid h.gid h.size h.sec h.nano (str h.user) (str h.group) h.major h.minor (prs h.extra) false false false false false false false false false false false false false false false (f1 h) false false false false false false false false false false false false := by
  rw [ref09_fields_J1_s]
  cases hx : decide (h.kind ≥ 1)
  · have e : f1 h = false := by unfold f1; rw [hx, Bool.false_and]
    rw [e, cond_false]
  · have e : f1 h = decide (h.kind ≤ 7) := by unfold f1; rw [hx, Bool.true_and]
    rw [e, cond_true]
theorem fld2 (kap : FuncId → List AV → Option AV) (h : Head) (hb : BdF h) (hname : ∀ s : List UInt8, s.length ≤ 400000 → kap ref09_name [.str (str s)] = some (.bool (nameOk s))) (hslash : kap ref09_Slash [.str (str h.name)] = some (.bool (sl h.name))) (K : Nat) : ref09_fields_J2 kap (K + 1) (K + 1) (links h) (devs h) h.kind (str h.name) (str h.link) h.mode h.uid h.gid h.size h.sec h.nano (str h.user) (str h.group) h.major h.minor (prs h.extra) false false false false false false false false false false false false false false false (f1 h) false false false false false false false false false false false false = ref09_fields_J3 kap (K + 1) (K + 1) (links h) (devs h) h.kind (str h.name) (str h.link) h.mode h.uid h.gid h.size h.sec h.nano (str h.user) (str h.group) h.major h.minor (prs h.extra) false false false false false false false false false false false false false false false (f1 h) (f2 h) false false false false false false false false false false false := by
  rw [ref09_fields_J2_s]
  rw [hname h.name hb.1, callB_ok]
  cases hn : nameOk h.name
  · have e : f2 h = false := by unfold f2; rw [hn, Bool.false_and]
    rw [e, cond_false]
  · rw [cond_true]
    cases hk : decide (h.kind = 1)
    · have e : f2 h = true := by unfold f2; rw [hn, hk]; rfl
      rw [e, cond_false]
    · have e : f2 h = !sl h.name := by unfold f2; rw [hn, hk, Bool.true_and, Bool.true_and]
      rw [cond_true, hslash, callB_ok, e]
theorem fld3 (kap : FuncId → List AV → Option AV) (h : Head) (hb : BdF h) (hname : ∀ s : List UInt8, s.length ≤ 400000 → kap ref09_name [.str (str s)] = some (.bool (nameOk s))) (K : Nat) : ref09_fields_J3 kap (K + 1) (K + 1) (links h) (devs h) h.kind (str h.name) (str h.link) h.mode h.uid h.gid h.size h.sec h.nano (str h.user) (str h.group) h.major h.minor (prs h.extra) false false false false false false false false false false false false false false false (f1 h) (f2 h) false false false false false false false false false false false = ref09_fields_J4 kap (K + 1) (K + 1) (devs h) h.kind (str h.name) (str h.link) h.mode h.uid h.gid h.size h.sec h.nano (str h.user) (str h.group) h.major h.minor (prs h.extra) false false false false false false false false false false false false false false false (f1 h) (f2 h) (f3 h) false false false false false false false false false false := by
  rw [ref09_fields_J3_s]
  cases hl : links h
  · have e : f3 h = decide (h.link = []) := by unfold f3; rw [hl, cond_false]
    rw [cond_false, Bool.not_false, cond_true, str_dec, e]
  · rw [cond_true, hname h.link hb.2.1, callB_ok]
    cases hn : nameOk h.link
    · have e : f3 h = false := by unfold f3; rw [hl, cond_true, hn]
      rw [cond_false, Bool.not_true, cond_false, e]
    · have e : f3 h = true := by unfold f3; rw [hl, cond_true, hn]
      rw [cond_true, e]
theorem fld4 (kap : FuncId → List AV → Option AV) (h : Head) (hb : BdF h) (K : Nat) : ref09_fields_J4 kap (K + 1) (K + 1) (devs h) h.kind (str h.name) (str h.link) h.mode h.uid h.gid h.size h.sec h.nano (str h.user) (str h.group) h.major h.minor (prs h.extra) false false false false false false false false false false false false false false false (f1 h) (f2 h) (f3 h) false false false false false false false false false false = ref09_fields_J5 kap (K + 1) (K + 1) (devs h) h.kind (str h.name) (str h.link) h.mode h.uid h.gid h.size h.sec h.nano (str h.user) (str h.group) h.major h.minor (prs h.extra) false false false false false false false false false false false false false false false (f1 h) (f2 h) (f3 h) (f4 h) (f5 h) (f6 h) (f7 h) false false false false false false := by
  rw [ref09_fields_J4_s]
  rw [show decide (h.mode ≥ 0) = f4 h from rfl, show decide (h.uid ≥ 0) = f5 h from rfl, show decide (h.gid ≥ 0) = f6 h from rfl]
  cases hz : decide (h.size = 0)
  · rw [cond_false]
    cases hp : decide (h.size > 0)
    · have e : f7 h = false := by unfold f7; rw [hz, hp]; rfl
      rw [cond_false, e]
    · have e : f7 h = decide (h.kind = 1) := by unfold f7; rw [hz, hp, Bool.false_or, Bool.true_and]
      rw [cond_true, e]
  · have e : f7 h = true := by unfold f7; rw [hz, Bool.true_or]
    rw [cond_true, e]
theorem fld5 (kap : FuncId → List AV → Option AV) (h : Head) (hb : BdF h) (hname : ∀ s : List UInt8, s.length ≤ 400000 → kap ref09_name [.str (str s)] = some (.bool (nameOk s))) (hright : ∀ s t : Int, kap ref04_Right [.agg [.int .i64 s, .int .i64 t]] = some (.bool (rightT t))) (K : Nat) : ref09_fields_J5 kap (K + 1) (K + 1) (devs h) h.kind (str h.name) (str h.link) h.mode h.uid h.gid h.size h.sec h.nano (str h.user) (str h.group) h.major h.minor (prs h.extra) false false false false false false false false false false false false false false false (f1 h) (f2 h) (f3 h) (f4 h) (f5 h) (f6 h) (f7 h) false false false false false false = ref09_fields_J6 kap (K + 1) (K + 1) (devs h) h.kind (str h.name) (str h.link) h.mode h.uid h.gid h.size h.sec h.nano (str h.user) (str h.group) h.major h.minor (prs h.extra) false false false false false false false false false false false false false false false (f1 h) (f2 h) (f3 h) (f4 h) (f5 h) (f6 h) (f7 h) (f8 h) (f9 h) false false false false := by
  rw [ref09_fields_J5_s]
  rw [hright, callB_ok, show rightT h.nano = f8 h from rfl, str_dec]
  cases hu : decide (h.user = [])
  · have e : f9 h = nameOk h.user := by unfold f9; rw [← plain_name, hu, cond_false]
    rw [cond_false, hname h.user hb.2.2.1, callB_ok, e]
  · have e : f9 h = true := by unfold f9; rw [← plain_name, hu, cond_true]
    rw [cond_true, e]
theorem fld6 (kap : FuncId → List AV → Option AV) (h : Head) (hb : BdF h) (hname : ∀ s : List UInt8, s.length ≤ 400000 → kap ref09_name [.str (str s)] = some (.bool (nameOk s))) (K : Nat) : ref09_fields_J6 kap (K + 1) (K + 1) (devs h) h.kind (str h.name) (str h.link) h.mode h.uid h.gid h.size h.sec h.nano (str h.user) (str h.group) h.major h.minor (prs h.extra) false false false false false false false false false false false false false false false (f1 h) (f2 h) (f3 h) (f4 h) (f5 h) (f6 h) (f7 h) (f8 h) (f9 h) false false false false = ref09_fields_J7 kap (K + 1) (K + 1) (devs h) h.kind (str h.name) (str h.link) h.mode h.uid h.gid h.size h.sec h.nano (str h.user) (str h.group) h.major h.minor (prs h.extra) false false false false false false false false false false false false false false false (f1 h) (f2 h) (f3 h) (f4 h) (f5 h) (f6 h) (f7 h) (f8 h) (f9 h) (f10 h) false false false := by
  rw [ref09_fields_J6_s]
  rw [str_dec]
  cases hu : decide (h.group = [])
  · have e : f10 h = nameOk h.group := by unfold f10; rw [← plain_name, hu, cond_false]
    rw [cond_false, hname h.group hb.2.2.2.1, callB_ok, e]
  · have e : f10 h = true := by unfold f10; rw [← plain_name, hu, cond_true]
    rw [cond_true, e]
theorem fld7 (kap : FuncId → List AV → Option AV) (h : Head) (hb : BdF h) (K : Nat) : ref09_fields_J7 kap (K + 1) (K + 1) (devs h) h.kind (str h.name) (str h.link) h.mode h.uid h.gid h.size h.sec h.nano (str h.user) (str h.group) h.major h.minor (prs h.extra) false false false false false false false false false false false false false false false (f1 h) (f2 h) (f3 h) (f4 h) (f5 h) (f6 h) (f7 h) (f8 h) (f9 h) (f10 h) false false false = ref09_fields_J8 kap (K + 1) (K + 1) (devs h) h.kind (str h.name) (str h.link) h.mode h.uid h.gid h.size h.sec h.nano (str h.user) (str h.group) h.major h.minor (prs h.extra) false false false false false false false false false false false false false false false (f1 h) (f2 h) (f3 h) (f4 h) (f5 h) (f6 h) (f7 h) (f8 h) (f9 h) (f10 h) (f11 h) false false := by
  rw [ref09_fields_J7_s]
  cases hz : decide (h.major = 0)
  · rw [cond_false]
    cases hp : decide (h.major > 0)
    · have e : f11 h = false := by unfold f11 devOk; rw [hz, hp]; rfl
      rw [cond_false, e]
    · have e : f11 h = devs h := by unfold f11 devOk; rw [hz, hp, Bool.false_or, Bool.true_and]
      rw [cond_true, e]
  · have e : f11 h = true := by unfold f11 devOk; rw [hz, Bool.true_or]
    rw [cond_true, e]
theorem fld8 (kap : FuncId → List AV → Option AV) (h : Head) (hb : BdF h) (K : Nat) : ref09_fields_J8 kap (K + 1) (K + 1) (devs h) h.kind (str h.name) (str h.link) h.mode h.uid h.gid h.size h.sec h.nano (str h.user) (str h.group) h.major h.minor (prs h.extra) false false false false false false false false false false false false false false false (f1 h) (f2 h) (f3 h) (f4 h) (f5 h) (f6 h) (f7 h) (f8 h) (f9 h) (f10 h) (f11 h) false false = ref09_fields_J9 kap (K + 1) (K + 1)  h.kind (str h.name) (str h.link) h.mode h.uid h.gid h.size h.sec h.nano (str h.user) (str h.group) h.major h.minor (prs h.extra) false false false false false false false false false false false false false false false (f1 h) (f2 h) (f3 h) (f4 h) (f5 h) (f6 h) (f7 h) (f8 h) (f9 h) (f10 h) (f11 h) (f12 h) false := by
  rw [ref09_fields_J8_s]
  cases hz : decide (h.minor = 0)
  · rw [cond_false]
    cases hp : decide (h.minor > 0)
    · have e : f12 h = false := by unfold f12 devOk; rw [hz, hp]; rfl
      rw [cond_false, e]
    · have e : f12 h = devs h := by unfold f12 devOk; rw [hz, hp, Bool.false_or, Bool.true_and]
      rw [cond_true, e]
  · have e : f12 h = true := by unfold f12 devOk; rw [hz, Bool.true_or]
    rw [cond_true, e]
end Go.Proofs.YtbkhmkcmbaffoaaGreatDoor.Eng.U


/- Which field of a head is the first that isn't right: the reference's side. -/
set_option linter.unusedVariables false
set_option linter.unusedSectionVars false
set_option linter.unusedSimpArgs false
namespace Go.Proofs.YtbkhmkcmbaffoaaGreatDoor.Eng.U
open Go Go.Proofs Go.Proofs.YtbkhmkcmbaffoaaGreatDoor.Eng Go.Proofs.YtbkhmkcmbaffoaaGreatDoor.P04
variable {E : Ext} [Core E] [HasNum E] {k n k0 : Nat}

set_option maxRecDepth 100000 in
theorem wrong_loop (kap : FuncId → List AV → Option AV) (b0 b1 b2 b3 b4 b5 b6 b7 b8 b9 b10 b11 b12 b13 : Bool) : ref09_Wrong_L0 kap k (k0 + 14) (1 : Int) b0 b1 b2 b3 b4 b5 b6 b7 b8 b9 b10 b11 b12 b13 = some (.int .i64 (bif !b1 then 1 else bif !b2 then 2 else bif !b3 then 3 else bif !b4 then 4 else bif !b5 then 5 else bif !b6 then 6 else bif !b7 then 7 else bif !b8 then 8 else bif !b9 then 9 else bif !b10 then 10 else bif !b11 then 11 else bif !b12 then 12 else bif !b13 then 13 else 0)) := by
  have t1 : ∀ m, ref09_Wrong_L0 kap k (m + 1) (1 : Int) b0 b1 b2 b3 b4 b5 b6 b7 b8 b9 b10 b11 b12 b13 = bif !b1 then some (.int .i64 1) else ref09_Wrong_L0 kap k m (2 : Int) b0 b1 b2 b3 b4 b5 b6 b7 b8 b9 b10 b11 b12 b13 := fun m => (ref09_Wrong_L0_s ..).trans rfl
  have t2 : ∀ m, ref09_Wrong_L0 kap k (m + 1) (2 : Int) b0 b1 b2 b3 b4 b5 b6 b7 b8 b9 b10 b11 b12 b13 = bif !b2 then some (.int .i64 2) else ref09_Wrong_L0 kap k m (3 : Int) b0 b1 b2 b3 b4 b5 b6 b7 b8 b9 b10 b11 b12 b13 := fun m => (ref09_Wrong_L0_s ..).trans rfl
  have t3 : ∀ m, ref09_Wrong_L0 kap k (m + 1) (3 : Int) b0 b1 b2 b3 b4 b5 b6 b7 b8 b9 b10 b11 b12 b13 = bif !b3 then some (.int .i64 3) else ref09_Wrong_L0 kap k m (4 : Int) b0 b1 b2 b3 b4 b5 b6 b7 b8 b9 b10 b11 b12 b13 := fun m => (ref09_Wrong_L0_s ..).trans rfl
  have t4 : ∀ m, ref09_Wrong_L0 kap k (m + 1) (4 : Int) b0 b1 b2 b3 b4 b5 b6 b7 b8 b9 b10 b11 b12 b13 = bif !b4 then some (.int .i64 4) else ref09_Wrong_L0 kap k m (5 : Int) b0 b1 b2 b3 b4 b5 b6 b7 b8 b9 b10 b11 b12 b13 := fun m => (ref09_Wrong_L0_s ..).trans rfl
  have t5 : ∀ m, ref09_Wrong_L0 kap k (m + 1) (5 : Int) b0 b1 b2 b3 b4 b5 b6 b7 b8 b9 b10 b11 b12 b13 = bif !b5 then some (.int .i64 5) else ref09_Wrong_L0 kap k m (6 : Int) b0 b1 b2 b3 b4 b5 b6 b7 b8 b9 b10 b11 b12 b13 := fun m => (ref09_Wrong_L0_s ..).trans rfl
  have t6 : ∀ m, ref09_Wrong_L0 kap k (m + 1) (6 : Int) b0 b1 b2 b3 b4 b5 b6 b7 b8 b9 b10 b11 b12 b13 = bif !b6 then some (.int .i64 6) else ref09_Wrong_L0 kap k m (7 : Int) b0 b1 b2 b3 b4 b5 b6 b7 b8 b9 b10 b11 b12 b13 := fun m => (ref09_Wrong_L0_s ..).trans rfl
  have t7 : ∀ m, ref09_Wrong_L0 kap k (m + 1) (7 : Int) b0 b1 b2 b3 b4 b5 b6 b7 b8 b9 b10 b11 b12 b13 = bif !b7 then some (.int .i64 7) else ref09_Wrong_L0 kap k m (8 : Int) b0 b1 b2 b3 b4 b5 b6 b7 b8 b9 b10 b11 b12 b13 := fun m => (ref09_Wrong_L0_s ..).trans rfl
  have t8 : ∀ m, ref09_Wrong_L0 kap k (m + 1) (8 : Int) b0 b1 b2 b3 b4 b5 b6 b7 b8 b9 b10 b11 b12 b13 = bif !b8 then some (.int .i64 8) else ref09_Wrong_L0 kap k m (9 : Int) b0 b1 b2 b3 b4 b5 b6 b7 b8 b9 b10 b11 b12 b13 := fun m => (ref09_Wrong_L0_s ..).trans rfl
  have t9 : ∀ m, ref09_Wrong_L0 kap k (m + 1) (9 : Int) b0 b1 b2 b3 b4 b5 b6 b7 b8 b9 b10 b11 b12 b13 = bif !b9 then some (.int .i64 9) else ref09_Wrong_L0 kap k m (10 : Int) b0 b1 b2 b3 b4 b5 b6 b7 b8 b9 b10 b11 b12 b13 := fun m => (ref09_Wrong_L0_s ..).trans rfl
  have t10 : ∀ m, ref09_Wrong_L0 kap k (m + 1) (10 : Int) b0 b1 b2 b3 b4 b5 b6 b7 b8 b9 b10 b11 b12 b13 = bif !b10 then some (.int .i64 10) else ref09_Wrong_L0 kap k m (11 : Int) b0 b1 b2 b3 b4 b5 b6 b7 b8 b9 b10 b11 b12 b13 := fun m => (ref09_Wrong_L0_s ..).trans rfl
  have t11 : ∀ m, ref09_Wrong_L0 kap k (m + 1) (11 : Int) b0 b1 b2 b3 b4 b5 b6 b7 b8 b9 b10 b11 b12 b13 = bif !b11 then some (.int .i64 11) else ref09_Wrong_L0 kap k m (12 : Int) b0 b1 b2 b3 b4 b5 b6 b7 b8 b9 b10 b11 b12 b13 := fun m => (ref09_Wrong_L0_s ..).trans rfl
  have t12 : ∀ m, ref09_Wrong_L0 kap k (m + 1) (12 : Int) b0 b1 b2 b3 b4 b5 b6 b7 b8 b9 b10 b11 b12 b13 = bif !b12 then some (.int .i64 12) else ref09_Wrong_L0 kap k m (13 : Int) b0 b1 b2 b3 b4 b5 b6 b7 b8 b9 b10 b11 b12 b13 := fun m => (ref09_Wrong_L0_s ..).trans rfl
  have t13 : ∀ m, ref09_Wrong_L0 kap k (m + 1) (13 : Int) b0 b1 b2 b3 b4 b5 b6 b7 b8 b9 b10 b11 b12 b13 = bif !b13 then some (.int .i64 13) else ref09_Wrong_L0 kap k m (14 : Int) b0 b1 b2 b3 b4 b5 b6 b7 b8 b9 b10 b11 b12 b13 := fun m => (ref09_Wrong_L0_s ..).trans rfl
  have t14 : ∀ m, ref09_Wrong_L0 kap k (m + 1) (14 : Int) b0 b1 b2 b3 b4 b5 b6 b7 b8 b9 b10 b11 b12 b13 = some (.int .i64 0) := fun m => (ref09_Wrong_L0_s ..).trans rfl
  rw [t1]
  cases b1
  · rfl
  rw [Bool.not_true, cond_false, cond_false]
  rw [t2]
  cases b2
  · rfl
  rw [Bool.not_true, cond_false, cond_false]
  rw [t3]
  cases b3
  · rfl
  rw [Bool.not_true, cond_false, cond_false]
  rw [t4]
  cases b4
  · rfl
  rw [Bool.not_true, cond_false, cond_false]
  rw [t5]
  cases b5
  · rfl
  rw [Bool.not_true, cond_false, cond_false]
  rw [t6]
  cases b6
  · rfl
  rw [Bool.not_true, cond_false, cond_false]
  rw [t7]
  cases b7
  · rfl
  rw [Bool.not_true, cond_false, cond_false]
  rw [t8]
  cases b8
  · rfl
  rw [Bool.not_true, cond_false, cond_false]
  rw [t9]
  cases b9
  · rfl
  rw [Bool.not_true, cond_false, cond_false]
  rw [t10]
  cases b10
  · rfl
  rw [Bool.not_true, cond_false, cond_false]
  rw [t11]
  cases b11
  · rfl
  rw [Bool.not_true, cond_false, cond_false]
  rw [t12]
  cases b12
  · rfl
  rw [Bool.not_true, cond_false, cond_false]
  rw [t13]
  cases b13
  · rfl
  rw [Bool.not_true, cond_false, cond_false]
  rw [t14]
end Go.Proofs.YtbkhmkcmbaffoaaGreatDoor.Eng.U


/- Which field of a head is the first that isn't right: the reference's side. -/
set_option linter.unusedVariables false
set_option linter.unusedSectionVars false
set_option linter.unusedSimpArgs false
namespace Go.Proofs.YtbkhmkcmbaffoaaGreatDoor.Eng.U
open Go Go.Proofs Go.Proofs.YtbkhmkcmbaffoaaGreatDoor.Eng Go.Proofs.YtbkhmkcmbaffoaaGreatDoor.P04
variable {E : Ext} [Core E] [HasNum E] {k n k0 : Nat}

theorem fields_k [HasTextV E] (h : Head) (hb : BdF h) (hk : 2000000 < k) : kp E k (n + 7) ref09_fields [.agg (encHead h)] = some (.agg [.bool false, .bool (f1 h), .bool (f2 h), .bool (f3 h), .bool (f4 h), .bool (f5 h), .bool (f6 h), .bool (f7 h), .bool (f8 h), .bool (f9 h), .bool (f10 h), .bool (f11 h), .bool (f12 h), .bool (f13 h)]) := by
  obtain ⟨K, rfl⟩ : ∃ K, k = K + 1 := ⟨k - 1, by omega⟩
  have hname : ∀ s : List UInt8, s.length ≤ 400000 → kp E (K + 1) (n + 6) ref09_name [.str (str s)] = some (.bool (nameOk s)) := fun s hs => refName_k (n := n + 3) s (by omega) (by omega)
  have hslash : kp E (K + 1) (n + 6) ref09_Slash [.str (str h.name)] = some (.bool (sl h.name)) := refSlash_k (n := n + 5) h.name (by have := hb.1; omega)
  have hright : ∀ s t : Int, kp E (K + 1) (n + 6) ref04_Right [.agg [.int .i64 s, .int .i64 t]] = some (.bool (rightT t)) := fun s t => refRight_k (n := n + 5) s t
  have hover : kp E (K + 1) (n + 6) ref08_Right [.list 2 (prs h.extra)] = some (.bool (overOk h.extra)) := refOver_k (n := n + 1) h.extra hb.2.2.2.2.1 hb.2.2.2.2.2 (by omega)
  have hl := known_loop (k := K + 1) (kp E (K + 1) (n + 6)) (fun key => which_k (n := n + 4) key (by omega)) h (f1 h) (f2 h) (f3 h) (f4 h) (f5 h) (f6 h) (f7 h) (f8 h) (f9 h) (f10 h) (f11 h) (f12 h) h.extra [] (K + 1) (overOk h.extra) rfl (by have := hb.2.2.2.2.1; omega) (by have := hb.2.2.2.2.1; omega)
  unfold encHead
  rw [ref09_fields_eq]
  have s : (bif decide (h.kind = 2) then ref09_fields_J0 (kp E (K + 1) (n + 6)) (K + 1) (K + 1) true h.kind (str h.name) (str h.link) h.mode h.uid h.gid h.size h.sec h.nano (str h.user) (str h.group) h.major h.minor (prs h.extra) false false false false false false false false false false false false false false else ref09_fields_J0 (kp E (K + 1) (n + 6)) (K + 1) (K + 1) (decide (h.kind = 3)) h.kind (str h.name) (str h.link) h.mode h.uid h.gid h.size h.sec h.nano (str h.user) (str h.group) h.major h.minor (prs h.extra) false false false false false false false false false false false false false false) = ref09_fields_J0 (kp E (K + 1) (n + 6)) (K + 1) (K + 1) (links h) h.kind (str h.name) (str h.link) h.mode h.uid h.gid h.size h.sec h.nano (str h.user) (str h.group) h.major h.minor (prs h.extra) false false false false false false false false false false false false false false := by
    cases hx : decide (h.kind = 2)
    · have e : links h = decide (h.kind = 3) := by unfold links; rw [hx, Bool.false_or]
      rw [e, cond_false]
    · have e : links h = true := by unfold links; rw [hx, Bool.true_or]
      rw [e, cond_true]
  refine s.trans ?_
  refine (fld0 _ h hb K).trans ?_
  refine (fld1 _ h hb K).trans ?_
  refine (fld2 _ h hb hname hslash K).trans ?_
  refine (fld3 _ h hb hname K).trans ?_
  refine (fld4 _ h hb K).trans ?_
  refine (fld5 _ h hb hname hright K).trans ?_
  refine (fld6 _ h hb hname K).trans ?_
  refine (fld7 _ h hb K).trans ?_
  refine (fld8 _ h hb K).trans ?_
  rw [ref09_fields_J9_s, hover, callB_ok]
  exact hl
theorem callG14 {β : Type} (b0 b1 b2 b3 b4 b5 b6 b7 b8 b9 b10 b11 b12 b13 : Bool) (F : Bool → Bool → Bool → Bool → Bool → Bool → Bool → Bool → Bool → Bool → Bool → Bool → Bool → Bool → Option β) : (callG 14 (some (.agg [.bool b0, .bool b1, .bool b2, .bool b3, .bool b4, .bool b5, .bool b6, .bool b7, .bool b8, .bool b9, .bool b10, .bool b11, .bool b12, .bool b13])) fun vg2 => (cellB vg2 0 fun q0 => (cellB vg2 1 fun q1 => (cellB vg2 2 fun q2 => (cellB vg2 3 fun q3 => (cellB vg2 4 fun q4 => (cellB vg2 5 fun q5 => (cellB vg2 6 fun q6 => (cellB vg2 7 fun q7 => (cellB vg2 8 fun q8 => (cellB vg2 9 fun q9 => (cellB vg2 10 fun q10 => (cellB vg2 11 fun q11 => (cellB vg2 12 fun q12 => (cellB vg2 13 fun q13 => (F q0 q1 q2 q3 q4 q5 q6 q7 q8 q9 q10 q11 q12 q13)))))))))))))))) = F b0 b1 b2 b3 b4 b5 b6 b7 b8 b9 b10 b11 b12 b13 := rfl
theorem refWrong_k [HasTextV E] (h : Head) (hb : BdF h) (hk : 2000000 < k) : kp E k (n + 8) ref09_Wrong [.agg (encHead h)] = some (.int .i64 (wrongH h)) := by
  have hf := fields_k (E := E) (k := k) (n := n) h hb hk
  obtain ⟨K, rfl⟩ : ∃ K, k = K + 14 := ⟨k - 14, by omega⟩
  have hw := wrong_loop (k := K + 14) (k0 := K) (kp E (K + 14) (n + 7)) false (f1 h) (f2 h) (f3 h) (f4 h) (f5 h) (f6 h) (f7 h) (f8 h) (f9 h) (f10 h) (f11 h) (f12 h) (f13 h)
  unfold encHead at hf ⊢
  unfold wrongH
  rw [ref09_Wrong_eq, hf]
  exact (callG14 _ _ _ _ _ _ _ _ _ _ _ _ _ _ fun q0 q1 q2 q3 q4 q5 q6 q7 q8 q9 q10 q11 q12 q13 => ref09_Wrong_L0 (kp E (K + 14) (n + 7)) (K + 14) (K + 14) (1 : Int) q0 q1 q2 q3 q4 q5 q6 q7 q8 q9 q10 q11 q12 q13).trans hw
end Go.Proofs.YtbkhmkcmbaffoaaGreatDoor.Eng.U


/- ItemWrong in plain words: it answers true. -/
set_option linter.unusedVariables false
set_option linter.unusedSectionVars false
set_option linter.unusedSimpArgs false
namespace Go.Proofs.YtbkhmkcmbaffoaaGreatDoor.Eng.U
open Go Go.Proofs Go.Proofs.YtbkhmkcmbaffoaaGreatDoor.Eng Go.Proofs.YtbkhmkcmbaffoaaGreatDoor.P04
variable {E : Ext} [Core E] [HasNum E] {k n : Nat}

theorem refFulls_k (h : Head) (hl : h.name.length < 1000000000) : kp E k (n + 2) ref09_Fulls [.agg (encHead h)] = some (.list 1 (svs (fulls h.kind h.name))) := by
  unfold encHead
  rw [ref09_Fulls_eq, str_size]
  unfold fulls
  by_cases h6 : h.kind = 6
  · rw [decide_eq_true h6, Bool.not_true, cond_false, bif_t (by omega), refSlash_k _ hl, callB_ok, if_pos h6, str_app, str_dec]
    cases hs : sl h.name with
    | false => rw [cond_false, bif_t (by omega), if_neg (by simp)]; rfl
    | true =>
      have hne : decide (h.name = [47]) = !decide (1 < h.name.length) := by
        rw [← decide_not, decide_eq_decide]
        constructor
        · intro e; rw [e]; simp
        · intro hx
          rcases snoc_cases h.name with e | ⟨l, c, e⟩
          · rw [e] at hs; simp [sl] at hs
          · rw [e] at hs hx ⊢
            have : l = [] := List.length_eq_zero_iff.1 (by simp only [List.length_append, List.length_cons, List.length_nil] at hx; omega)
            subst this
            simp [sl] at hs
            rw [hs]; rfl
      rw [cond_true, hne, Bool.not_not]
      by_cases hl2 : 1 < h.name.length
      · rw [decide_eq_true hl2, cond_true, if_pos ⟨rfl, hl2⟩]; rfl
      · rw [decide_eq_false hl2, cond_false, bif_t (by omega), if_neg (fun h => hl2 h.2)]; rfl
  · rw [decide_eq_false h6, Bool.not_false, cond_true, if_neg h6]; rfl
end Go.Proofs.YtbkhmkcmbaffoaaGreatDoor.Eng.U


/- What each dialect can tell of a head, by the program and by the definition, in plain words. Written by gen/u11b.py. -/
set_option linter.unusedVariables false
set_option linter.unusedSectionVars false
set_option linter.unusedSimpArgs false
namespace Go.Proofs.YtbkhmkcmbaffoaaGreatDoor.Eng.U
open Go Go.Proofs Go.Proofs.YtbkhmkcmbaffoaaGreatDoor.Eng
variable {E : Ext} [Core E] [HasNum E] [HasTextV E] {k n : Nat}

/-- The first of a list of which something holds: its place. -/
def idxF (p : Tx → Bool) : Nat → List Tx → Int
  | _, [] => -1
  | i, s :: l => bif p s then ((i : Nat) : Int) else idxF p (i + 1) l
theorem idxF_spec (p : Tx → Bool) : ∀ (l : List Tx) (i : Nat), (l.find? p = none ∧ idxF p i l = -1) ∨ ∃ a x b, l = a ++ x :: b ∧ l.find? p = some x ∧ idxF p i l = ((i + a.length : Nat) : Int)
  | [], i => .inl ⟨rfl, rfl⟩
  | s :: l, i => by
    unfold idxF
    cases hp : p s with
    | true => exact .inr ⟨[], s, l, rfl, by rw [List.find?_cons_of_pos hp], rfl⟩
    | false =>
      rw [cond_false, List.find?_cons_of_neg (by rw [hp]; simp)]
      rcases idxF_spec p l (i + 1) with ⟨h1, h2⟩ | ⟨a, x, b, h1, h2, h3⟩
      · exact .inl ⟨h1, h2⟩
      · exact .inr ⟨s :: a, x, b, by rw [h1]; rfl, h2, by rw [h3, List.length_cons]; omega⟩
/-- May a full name stand in a dialect? -/
def mayB (d kind : Int) (s : Tx) : Bool := bif decide (d = 1) then decide (s.length ≤ 100) && (!decide (kind = 6) || sl s) else bif decide (d = 4) then decide (s.length ≤ 65536) else splitB s
def fullO (d : Int) (h : Head) : Option Tx := match (fulls h.kind h.name).find? (mayB d h.kind) with
  | some s => some s
  | none => bif decide (d = 3) && utfOk h.name then some ((fulls h.kind h.name).headD []) else none
def fullA (o : Option Tx) : AV := match o with
  | some s => .tup [.str (str s), .bool true]
  | none => .tup [.str (str []), .bool false]
theorem fulls_ne (kind : Int) (s : Tx) : fulls kind s ≠ [] := by
  unfold fulls
  split
  · split <;> simp
  · simp
theorem fulls_len (kind : Int) (s : Tx) : (fulls kind s).length ≤ 2 := by
  unfold fulls
  split
  · split <;> simp
  · simp
theorem fulls_mem {kind : Int} {s f : Tx} (h : f ∈ fulls kind s) : f.length ≤ s.length + 1 := by
  unfold fulls at h
  split at h
  · split at h
    · rw [List.mem_singleton.1 h, List.length_append, List.length_singleton]; omega
    · rcases List.mem_cons.1 h with rfl | h
      · omega
      · rw [List.mem_singleton.1 h, List.length_append, List.length_singleton]; omega
  · rw [List.mem_singleton.1 h]; omega
theorem svs_head {β : Type} (l : List Tx) (h : l ≠ []) (K : ByteArray → Option β) : (((svs l)[0]?).bind fun y => cellS (AV.cells y) 0 K) = K (str (l.headD [])) := by
  cases l with
  | nil => exact absurd rfl h
  | cons a l => rfl
theorem full_tail (d : Int) (h : Head) (p : Tx → Bool) (kap : FuncId → List AV → Option AV) (hu : kap utf_Right [.str (str h.name)] = some (.bool (utfOk h.name))) (l : List Tx) (hl : l ≠ []) (hl2 : l.length ≤ 2) :
    (bif (decide (idxF p 0 l ≥ (0 : Int))) then (bif ((decide ((0 : Int) ≤ idxF p 0 l)) && (decide (idxF p 0 l < (((List.length (svs l)) : Nat) : Int)))) then (((svs l)[(Int.toNat (idxF p 0 l))]?).bind fun vy5 => (cellS (AV.cells vy5) 0 fun vs6 => (some (AV.tup [(.str vs6), (.bool true)])))) else none) else (bif (decide (d = (3 : Int))) then (callB (kap utf_Right [(.str (str h.name))]) fun vq8 => (bif vq8 then (bif (decide ((0 : Int) < (((List.length (svs l)) : Nat) : Int))) then (((svs l)[0]?).bind fun vy9 => (cellS (AV.cells vy9) 0 fun vs10 => (some (.tup [(.str vs10), (.bool true)])))) else none) else (some (.tup [(.str (str [])), (.bool false)])))) else (some (.tup [(.str (str [])), (.bool false)])))) =
    some (fullA (match l.find? p with | some s => some s | none => bif decide (d = 3) && utfOk h.name then some (l.headD []) else none)) := by
  have hpos : 0 < l.length := List.length_pos_iff.2 hl
  rcases idxF_spec p l 0 with ⟨h1, h2⟩ | ⟨a, x, b, h1, h2, h3⟩
  · rw [h1, h2, bif_f (by omega)]
    by_cases h3 : d = 3
    · rw [bif_t h3, hu, callB_ok, decide_eq_true h3, Bool.true_and]
      cases utfOk h.name with
      | false => rfl
      | true => rw [cond_true, svs_len, bif_t (by omega), svs_head l hl]; rfl
    · rw [bif_f h3, decide_eq_false h3]; rfl
  · have hla : l.length = a.length + b.length + 1 := by rw [h1]; exact mid_len a b x
    have hg : ∀ K : ByteArray → Option AV, (((svs l)[a.length]?).bind fun y => cellS (AV.cells y) 0 K) = K (str x) := fun K => by rw [h1]; exact svs_mid _ _ _ _
    rw [h2, h3, Nat.zero_add, bif_t (by omega), svs_len, inb (by omega), cond_true, Int.toNat_natCast, hg]
    rfl

theorem index_rep_full_1 (kap : FuncId → List AV → Option AV) (h : Head) (p : Tx → Bool) (l : List Tx) (hK : ∀ s ∈ l, kap rep_full_1 [.str (str s), .eptr (encHead h) 0] = some (.bool (p s))) (hl : l.length ≤ 2) : ∀ (suf pre : List Tx) (k0 : Nat), suf.length < k0 → l = pre ++ suf →
    slices_IndexFunc_string_at_rep_full_1_L0 kap k k0 (svs l) h.kind (str h.name) (str h.link) h.mode h.uid h.gid h.size h.sec h.nano (str h.user) (str h.group) h.major h.minor (prs h.extra) ((l.length : Nat) : Int) ((pre.length : Nat) : Int) = some (.int .i64 (idxF p pre.length suf))
  | [], pre, k0 + 1, hk, he => by
    have hll : l.length = pre.length := by rw [he]; simp
    rw [slices_IndexFunc_string_at_rep_full_1_L0_s, bif_f (by omega)]
    rfl
  | s :: suf, pre, k0 + 1, hk, he => by
    have hll : l.length = pre.length + suf.length + 1 := by rw [he]; exact mid_len pre suf s
    have hs : kap rep_full_1 [.str (str s), .eptr (encHead h) 0] = _ := hK s (by rw [he]; simp)
    have hg : ∀ K : ByteArray → Option AV, (((svs l)[pre.length]?).bind fun y => cellS (AV.cells y) 0 K) = K (str s) := fun K => by rw [he]; exact svs_mid _ _ _ _
    have ih := index_rep_full_1 kap h p l hK hl suf (pre ++ [s]) k0 (by simpa using hk) (by rw [he]; simp)
    rw [List.length_append, List.length_singleton] at ih
    rw [slices_IndexFunc_string_at_rep_full_1_L0_s, bif_t (by omega), svs_len, inb (by omega), cond_true, Int.toNat_natCast, hg]
    refine (congrArg (fun z => callB z _) hs).trans ?_
    rw [callB_ok, wrap1 (by omega)]
    unfold idxF
    cases p s with
    | true => rfl
    | false => exact ih
theorem index_rep_full_2 (kap : FuncId → List AV → Option AV) (h : Head) (p : Tx → Bool) (l : List Tx) (hK : ∀ s ∈ l, kap rep_full_2 [.str (str s)] = some (.bool (p s))) (hl : l.length ≤ 2) : ∀ (suf pre : List Tx) (k0 : Nat), suf.length < k0 → l = pre ++ suf →
    slices_IndexFunc_string_at_rep_full_2_L0 kap k k0 (svs l)  ((l.length : Nat) : Int) ((pre.length : Nat) : Int) = some (.int .i64 (idxF p pre.length suf))
  | [], pre, k0 + 1, hk, he => by
    have hll : l.length = pre.length := by rw [he]; simp
    rw [slices_IndexFunc_string_at_rep_full_2_L0_s, bif_f (by omega)]
    rfl
  | s :: suf, pre, k0 + 1, hk, he => by
    have hll : l.length = pre.length + suf.length + 1 := by rw [he]; exact mid_len pre suf s
    have hs : kap rep_full_2 [.str (str s)] = _ := hK s (by rw [he]; simp)
    have hg : ∀ K : ByteArray → Option AV, (((svs l)[pre.length]?).bind fun y => cellS (AV.cells y) 0 K) = K (str s) := fun K => by rw [he]; exact svs_mid _ _ _ _
    have ih := index_rep_full_2 kap h p l hK hl suf (pre ++ [s]) k0 (by simpa using hk) (by rw [he]; simp)
    rw [List.length_append, List.length_singleton] at ih
    rw [slices_IndexFunc_string_at_rep_full_2_L0_s, bif_t (by omega), svs_len, inb (by omega), cond_true, Int.toNat_natCast, hg]
    refine (congrArg (fun z => callB z _) hs).trans ?_
    rw [callB_ok, wrap1 (by omega)]
    unfold idxF
    cases p s with
    | true => rfl
    | false => exact ih
theorem index_rep_splits (kap : FuncId → List AV → Option AV) (h : Head) (p : Tx → Bool) (l : List Tx) (hK : ∀ s ∈ l, kap rep_splits [.str (str s)] = some (.bool (p s))) (hl : l.length ≤ 2) : ∀ (suf pre : List Tx) (k0 : Nat), suf.length < k0 → l = pre ++ suf →
    slices_IndexFunc_string_at_rep_splits_L0 kap k k0 (svs l)  ((l.length : Nat) : Int) ((pre.length : Nat) : Int) = some (.int .i64 (idxF p pre.length suf))
  | [], pre, k0 + 1, hk, he => by
    have hll : l.length = pre.length := by rw [he]; simp
    rw [slices_IndexFunc_string_at_rep_splits_L0_s, bif_f (by omega)]
    rfl
  | s :: suf, pre, k0 + 1, hk, he => by
    have hll : l.length = pre.length + suf.length + 1 := by rw [he]; exact mid_len pre suf s
    have hs : kap rep_splits [.str (str s)] = _ := hK s (by rw [he]; simp)
    have hg : ∀ K : ByteArray → Option AV, (((svs l)[pre.length]?).bind fun y => cellS (AV.cells y) 0 K) = K (str s) := fun K => by rw [he]; exact svs_mid _ _ _ _
    have ih := index_rep_splits kap h p l hK hl suf (pre ++ [s]) k0 (by simpa using hk) (by rw [he]; simp)
    rw [List.length_append, List.length_singleton] at ih
    rw [slices_IndexFunc_string_at_rep_splits_L0_s, bif_t (by omega), svs_len, inb (by omega), cond_true, Int.toNat_natCast, hg]
    refine (congrArg (fun z => callB z _) hs).trans ?_
    rw [callB_ok, wrap1 (by omega)]
    unfold idxF
    cases p s with
    | true => rfl
    | false => exact ih
theorem may1_k (h : Head) (s : Tx) (hs : s.length ≤ 1000000) : kp E k (n + 3) rep_full_1 [.str (str s), .eptr (encHead h) 0] = some (.bool (mayB 1 h.kind s)) := by
  have e := suffix_k (E := E) (k := k) (n := n) s (by omega)
  unfold encHead
  rw [rep_full_1_eq, str_size]
  show _ = some (AV.bool (decide (s.length ≤ 100) && (!decide (h.kind = 6) || sl s)))
  by_cases h1 : s.length ≤ 100
  · rw [bif_t (by omega), decide_eq_true h1, Bool.true_and]
    by_cases h2 : h.kind = 6
    · rw [decide_eq_true h2, Bool.not_true, cond_false, e, callB_ok, Bool.false_or]
    · rw [decide_eq_false h2]; rfl
  · rw [bif_f (by omega), decide_eq_false h1]; rfl
theorem may4_k (kind : Int) (s : Tx) : kp E k (n + 1) rep_full_2 [.str (str s)] = some (.bool (mayB 4 kind s)) := by
  rw [rep_full_2_eq, str_size]
  show some (AV.bool _) = some (AV.bool (decide (s.length ≤ 65536)))
  congr 2
  rw [decide_eq_decide]
  omega
theorem full_k (d : Int) (h : Head) (hn : h.name.length ≤ 400000) (hk : 1000000 < k) : kp E k (n + 6) rep_full [.int .i64 d, .agg (encHead h)] = some (fullA (fullO d h)) := by
  have e1 := fulls_k (E := E) (k := k) (n := n + 2) h (by omega)
  have hu := utf_k (E := E) (k := k) (n := n + 2) h.name (by omega)
  have hlen := fulls_len h.kind h.name
  have hm : ∀ f ∈ fulls h.kind h.name, f.length ≤ 400001 := fun f hf => by have := fulls_mem hf; omega
  unfold fullO
  by_cases h1 : d = 1
  · subst h1
    have hi := index_rep_full_1 (k := k) (kp E k (n + 4)) h (mayB 1 h.kind) (fulls h.kind h.name) (fun s hs => may1_k (n := n + 1) h s (by have := hm s hs; omega)) hlen (fulls h.kind h.name) [] k (by omega) rfl
    have hix : kp E k (n + 5) slices_IndexFunc_string [.list 1 (svs (fulls h.kind h.name)), .func (.func rep_full_1) [] [.eptr (encHead h) 0]] = some (.int .i64 (idxF (mayB 1 h.kind) 0 (fulls h.kind h.name))) := by
      unfold encHead
      rw [slices_IndexFunc_string_at_rep_full_1_eq, svs_len]
      exact hi
    unfold encHead at e1 hix ⊢
    rw [rep_full_eq, e1, callL_ok, bif_t rfl, hix, callI_ok]
    exact full_tail 1 h (mayB 1 h.kind) (kp E k (n + 5)) hu _ (fulls_ne _ _) hlen
  · by_cases h4 : d = 4
    · subst h4
      have hi := index_rep_full_2 (k := k) (kp E k (n + 4)) h (mayB 4 h.kind) (fulls h.kind h.name) (fun s hs => may4_k (n := n + 3) h.kind s) hlen (fulls h.kind h.name) [] k (by omega) rfl
      have hix : kp E k (n + 5) slices_IndexFunc_string [.list 1 (svs (fulls h.kind h.name)), .func (.func rep_full_2) [] []] = some (.int .i64 (idxF (mayB 4 h.kind) 0 (fulls h.kind h.name))) := by
        rw [slices_IndexFunc_string_at_rep_full_2_eq, svs_len]
        exact hi
      unfold encHead at e1 ⊢
      rw [rep_full_eq, e1, callL_ok, bif_f (by omega), bif_t rfl, hix, callI_ok]
      exact full_tail 4 h (mayB 4 h.kind) (kp E k (n + 5)) hu _ (fulls_ne _ _) hlen
    · have hmay : ∀ s, mayB d h.kind s = splitB s := fun s => by unfold mayB; rw [decide_eq_false h1, decide_eq_false h4]; rfl
      have hi := index_rep_splits (k := k) (kp E k (n + 4)) h (mayB d h.kind) (fulls h.kind h.name) (fun s hs => by rw [hmay]; exact splits_k (n := n) s (by have := hm s hs; omega) (by have := hm s hs; omega)) hlen (fulls h.kind h.name) [] k (by omega) rfl
      have hix : kp E k (n + 5) slices_IndexFunc_string [.list 1 (svs (fulls h.kind h.name)), .func (.func rep_splits) [] []] = some (.int .i64 (idxF (mayB d h.kind) 0 (fulls h.kind h.name))) := by
        rw [slices_IndexFunc_string_at_rep_splits_eq, svs_len]
        exact hi
      unfold encHead at e1 ⊢
      rw [rep_full_eq, e1, callL_ok, bif_f h1, bif_f h4, hix, callI_ok]
      exact full_tail d h (mayB d h.kind) (kp E k (n + 5)) hu _ (fulls_ne _ _) hlen
/-! By the definition. -/
theorem refFull_loop (d : Int) (h : Head) (kap : FuncId → List AV → Option AV) (l : List Tx) (hl : l ≠ []) (hl2 : l.length ≤ 2)
    (hu : kap ref05_First [.str (str h.name)] = some (.int .i64 (first (str h.name)))) (hS : ∀ s ∈ l, kap ref09_Slash [.str (str s)] = some (.bool (sl s))) (hT : ∀ s ∈ l, ∃ a b : ByteArray, kap ref10_Split [.str (str s)] = some (.tup [.str a, .str b, .bool (splitB s)])) :
    ∀ (suf pre : List Tx) (k0 : Nat), suf.length < k0 → l = pre ++ suf →
    ref11_Full_L0 kap k k0 d (svs l) ((pre.length : Nat) : Int) h.kind (str h.name) (str h.link) h.mode h.uid h.gid h.size h.sec h.nano (str h.user) (str h.group) h.major h.minor (prs h.extra) = some (fullA (match suf.find? (mayB d h.kind) with | some s => some s | none => bif decide (d = 3) && utfOk h.name then some (l.headD []) else none))
  | [], pre, k0 + 1, hk, he => by
    have hll : l.length = pre.length := by rw [he]; simp
    have hpos : 0 < l.length := List.length_pos_iff.2 hl
    rw [ref11_Full_L0_s, svs_len, bif_f (by omega)]
    by_cases h3 : d = 3
    · rw [bif_t h3, hu, callI_ok, decide_eq_true h3]
      show _ = some (fullA (bif true && decide (first (str h.name) < 0) then some (l.headD []) else none))
      by_cases hf : first (str h.name) < 0
      · rw [bif_t hf, bif_t (by omega), svs_head l hl, decide_eq_true hf]; rfl
      · rw [bif_f hf, decide_eq_false hf]; rfl
    · rw [bif_f h3, decide_eq_false h3]; rfl
  | s :: suf, pre, k0 + 1, hk, he => by
    have hll : l.length = pre.length + suf.length + 1 := by rw [he]; exact mid_len pre suf s
    have hs : s ∈ l := by rw [he]; simp
    have hg : ∀ K : ByteArray → Option AV, (((svs l)[pre.length]?).bind fun y => cellS (AV.cells y) 0 K) = K (str s) := fun K => by rw [he]; exact svs_mid _ _ _ _
    have ih := refFull_loop d h kap l hl hl2 hu hS hT suf (pre ++ [s]) k0 (by simpa using hk) (by rw [he]; simp)
    rw [List.length_append, List.length_singleton] at ih
    have hyes : mayB d h.kind s = true → some (AV.tup [.str (str s), .bool true]) = some (fullA (match (s :: suf).find? (mayB d h.kind) with | some s => some s | none => bif decide (d = 3) && utfOk h.name then some (l.headD []) else none)) := fun hm => by
      rw [List.find?_cons_of_pos hm]; rfl
    have hno : mayB d h.kind s = false → ref11_Full_L0 kap k k0 d (svs l) ((pre.length + 1 : Nat) : Int) h.kind (str h.name) (str h.link) h.mode h.uid h.gid h.size h.sec h.nano (str h.user) (str h.group) h.major h.minor (prs h.extra) = some (fullA (match (s :: suf).find? (mayB d h.kind) with | some s => some s | none => bif decide (d = 3) && utfOk h.name then some (l.headD []) else none)) := fun hm => by
      rw [List.find?_cons_of_neg (by rw [hm]; simp)]; exact ih
    rw [ref11_Full_L0_s, svs_len, bif_t (by omega), inb (by omega), wrap1 (by omega)]
    simp only [Int.toNat_natCast, hg, cond_true, str_size]
    by_cases h1 : d = 1
    · rw [bif_t h1]
      have hm : mayB d h.kind s = (decide (s.length ≤ 100) && (!decide (h.kind = 6) || sl s)) := by unfold mayB; rw [decide_eq_true h1]; rfl
      by_cases h2 : s.length ≤ 100
      · rw [bif_t (by omega)]
        by_cases h6 : h.kind = 6
        · rw [decide_eq_true h6, Bool.not_true, cond_false, hS s hs, callB_ok]
          rw [decide_eq_true h2, decide_eq_true h6, Bool.true_and, Bool.not_true, Bool.false_or] at hm
          cases hsl : sl s with
          | true => exact hyes (by rw [hm, hsl])
          | false => exact hno (by rw [hm, hsl])
        · rw [decide_eq_false h6]
          exact hyes (by rw [hm, decide_eq_true h2, decide_eq_false h6]; rfl)
      · rw [bif_f (by omega)]
        exact hno (by rw [hm, decide_eq_false h2]; rfl)
    · rw [bif_f h1]
      by_cases h4 : d = 4
      · rw [bif_t h4]
        have hm : mayB d h.kind s = decide (s.length ≤ 65536) := by unfold mayB; rw [decide_eq_false h1, decide_eq_true h4]; rfl
        by_cases h2 : s.length ≤ 65536
        · rw [bif_t (by omega)]; exact hyes (by rw [hm, decide_eq_true h2])
        · rw [bif_f (by omega)]; exact hno (by rw [hm, decide_eq_false h2])
      · rw [bif_f h4]
        have hm : mayB d h.kind s = splitB s := by unfold mayB; rw [decide_eq_false h1, decide_eq_false h4]; rfl
        obtain ⟨a, b, ht⟩ := hT s hs
        rw [ht, callT_ok, tupS_ok, tupS_ok, tupB_ok, atNil_ok]
        cases hsp : splitB s with
        | true => exact hyes (by rw [hm, hsp])
        | false => exact hno (by rw [hm, hsp])
theorem refFull_k (d : Int) (h : Head) (hn : h.name.length ≤ 400000) (hk : 1000000 < k) : kp E k (n + 5) ref11_Full [.int .i64 d, .agg (encHead h)] = some (fullA (fullO d h)) := by
  have e1 := refFulls_k (E := E) (k := k) (n := n + 2) h (by omega)
  have hm : ∀ f ∈ fulls h.kind h.name, f.length ≤ 400001 := fun f hf => by have := fulls_mem hf; omega
  have hi := refFull_loop (k := k) d h (kp E k (n + 4)) (fulls h.kind h.name) (fulls_ne _ _) (fulls_len _ _) (refFirst_k (n := n + 1) h.name (by omega) (by omega)) (fun s hs => refSlash_k (n := n + 3) s (by have := hm s hs; omega)) (fun s hs => refSplit_k (n := n + 2) s (by have := hm s hs; omega) (by have := hm s hs; omega)) (fulls h.kind h.name) [] k (by have := fulls_len h.kind h.name; omega) rfl
  unfold encHead at e1 ⊢
  rw [ref11_Full_eq, e1, callL_ok]
  exact hi
end Go.Proofs.YtbkhmkcmbaffoaaGreatDoor.Eng.U


/- Which fields a dialect can tell: by the program and by the definition, in plain words. Written by gen/u11c.py. -/
set_option linter.unusedVariables false
set_option linter.unusedSectionVars false
set_option linter.unusedSimpArgs false
namespace Go.Proofs.YtbkhmkcmbaffoaaGreatDoor.Eng.U
open Go Go.Proofs Go.Proofs.YtbkhmkcmbaffoaaGreatDoor.Eng
variable {E : Ext} [Core E] [HasNum E] [HasTextV E] {k n : Nat}

def kindB (d v : Int) : Bool := bif !(decide (d = 1)) then true else bif decide (v = 1) then true else bif decide (v = 2) then true else bif decide (v = 3) then true else decide (v = 6)
def textB (d : Int) (s : Tx) (m : Nat) : Bool := bif decide (s.length ≤ m) then true else bif decide (d = 3) then utfOk s else false
def smallB (d v : Int) : Bool := bif decide (v ≤ 16777215) then true else bif decide (d = 4) then decide (v < 72057594037927936) else false
def ownerB (d v : Int) : Bool := bif decide (d = 3) then true else smallB d v
def greatB (d v : Int) : Bool := bif decide (v ≤ 68719476735) then true else bif decide (d = 3) then true else decide (d = 4)
def whenB (d sec nano : Int) : Bool := bif decide (d = 3) then true else bif decide (d = 4) then decide (nano = 0) else bif decide (nano = 0) then (bif decide (sec ≥ 0) then decide (sec ≤ 68719476735) else false) else false
def peopleB (d : Int) (s : Tx) : Bool := bif decide (d = 1) then decide (s = []) else textB d s 32
def linkB (d : Int) (s : Tx) : Bool := bif decide (d = 4) then true else textB d s 100
def extraB (d : Int) (l : List Pair) : Bool := bif decide (d = 3) then true else decide (l.length = 0)
/-- Can a dialect tell a field? The last one is told apart. -/
def canF (d : Int) (h : Head) (f : Int) (x : Bool) : Bool :=
  bif decide (f = 1) then kindB d h.kind else bif decide (f = 2) then (fullO d h).isSome else bif decide (f = 3) then linkB d h.link else bif decide (f = 4) then smallB d h.mode else bif decide (f = 5) then ownerB d h.uid else
  bif decide (f = 6) then ownerB d h.gid else bif decide (f = 7) then greatB d h.size else bif decide (f = 8) then whenB d h.sec h.nano else bif decide (f = 9) then peopleB d h.user else bif decide (f = 10) then peopleB d h.group else
  bif decide (f = 11) then smallB d h.major else bif decide (f = 12) then smallB d h.minor else bif decide (f = 13) then extraB d h.extra else bif !(decide (d = 3)) then true else x
def canB (d : Int) (h : Head) (f : Int) : Bool := canF d h f true
theorem most8 : kp E k (n + 1) num_Most [.int .i64 8] = some (.int .i64 16777215) := by rw [num_Most_eq]; rfl
theorem most12 : kp E k (n + 1) num_Most [.int .i64 12] = some (.int .i64 68719476735) := by rw [num_Most_eq]; rfl
theorem kind_k (d v : Int) : kp E k (n + 1) rep_kind [.int .i64 d, .int .i64 v] = some (.bool (kindB d v)) := by
  rw [rep_kind_eq]
  unfold kindB
  cases decide (d = 1) <;> cases decide (v = 1) <;> cases decide (v = 2) <;> cases decide (v = 3) <;> rfl
theorem text11_k (d : Int) (s : Tx) (m : Int) (M : Nat) (hm : m = ((M : Nat) : Int)) (hs : s.length < k) : kp E k (n + 4) rep_text [.int .i64 d, .str (str s), .int .i64 m] = some (.bool (textB d s M)) := by
  subst hm
  rw [rep_text_eq, str_size, nle, utf_k (n := n) s hs, callB_ok]
  unfold textB
  cases decide (s.length ≤ M) <;> cases decide (d = 3) <;> rfl
theorem small_k (d v : Int) : kp E k (n + 2) rep_small [.int .i64 d, .int .i64 v] = some (.bool (smallB d v)) := by
  rw [rep_small_eq, most8, callI_ok]
  unfold smallB
  cases decide (v ≤ 16777215) <;> cases decide (d = 4) <;> rfl
theorem owner_k (d v : Int) : kp E k (n + 3) rep_owner [.int .i64 d, .int .i64 v] = some (.bool (ownerB d v)) := by
  rw [rep_owner_eq, small_k, callB_ok]
  unfold ownerB
  cases decide (d = 3) <;> rfl
theorem great_k (d v : Int) : kp E k (n + 2) rep_great [.int .i64 d, .int .i64 v] = some (.bool (greatB d v)) := by
  rw [rep_great_eq, most12, callI_ok]
  unfold greatB
  cases decide (v ≤ 68719476735) <;> cases decide (d = 3) <;> rfl
theorem when_k (d a b : Int) : kp E k (n + 2) rep_when [.int .i64 d, .agg [.int .i64 a, .int .i64 b]] = some (.bool (whenB d a b)) := by
  rw [rep_when_eq, most12, callI_ok]
  unfold whenB
  cases decide (d = 3) <;> cases decide (d = 4) <;> cases decide (b = 0) <;> cases decide (a ≥ 0) <;> rfl
theorem people_k (d : Int) (s : Tx) (hs : s.length < k) : kp E k (n + 5) rep_people [.int .i64 d, .str (str s)] = some (.bool (peopleB d s)) := by
  rw [rep_people_eq, text11_k (n := n) d s 32 32 rfl hs, callB_ok, str_dec]
  unfold peopleB
  cases decide (d = 1) <;> rfl
theorem can_k (d : Int) (h : Head) (f : Int) (x : Bool) (hn : h.name.length ≤ 400000) (hl : h.link.length ≤ 400000) (hu : h.user.length ≤ 400000) (hg : h.group.length ≤ 400000) (hk : 1000000 < k)
    (hx : d = 3 → ¬ (1 ≤ f ∧ f ≤ 13) → kp E k (n + 7) rep_fits [.agg (encHead h)] = some (.bool x)) : kp E k (n + 8) rep_can [.int .i64 d, .agg (encHead h), .int .i64 f] = some (.bool (canF d h f x)) := by
  have e1 := kind_k (E := E) (k := k) (n := n + 6) d h.kind
  have e2 := full_k (E := E) (k := k) (n := n + 1) d h hn hk
  have e3 := text11_k (E := E) (k := k) (n := n + 3) d h.link 100 100 rfl (by omega)
  have e4 := fun v => small_k (E := E) (k := k) (n := n + 5) d v
  have e5 := fun v => owner_k (E := E) (k := k) (n := n + 4) d v
  have e7 := great_k (E := E) (k := k) (n := n + 5) d h.size
  have e8 := when_k (E := E) (k := k) (n := n + 5) d h.sec h.nano
  have e9 := people_k (E := E) (k := k) (n := n + 2) d h.user (by omega)
  have e10 := people_k (E := E) (k := k) (n := n + 2) d h.group (by omega)
  unfold encHead at e2 hx ⊢
  rw [rep_can_eq]
  unfold canF
  by_cases h1 : f = 1
  · rw [bif_t h1, bif_t h1, e1, callB_ok]
  rw [bif_f h1, bif_f h1]
  by_cases h2 : f = 2
  · rw [bif_t h2, bif_t h2, e2]
    cases fullO d h <;> rfl
  rw [bif_f h2, bif_f h2]
  by_cases h3 : f = 3
  · rw [bif_t h3, bif_t h3, e3, callB_ok]
    unfold linkB
    cases decide (d = 4) <;> rfl
  rw [bif_f h3, bif_f h3]
  by_cases h4 : f = 4
  · rw [bif_t h4, bif_t h4, e4 h.mode, callB_ok]
  rw [bif_f h4, bif_f h4]
  by_cases h5 : f = 5
  · rw [bif_t h5, bif_t h5, e5 h.uid, callB_ok]
  rw [bif_f h5, bif_f h5]
  by_cases h6 : f = 6
  · rw [bif_t h6, bif_t h6, e5 h.gid, callB_ok]
  rw [bif_f h6, bif_f h6]
  by_cases h7 : f = 7
  · rw [bif_t h7, bif_t h7, e7, callB_ok]
  rw [bif_f h7, bif_f h7]
  by_cases h8 : f = 8
  · rw [bif_t h8, bif_t h8, e8, callB_ok]
  rw [bif_f h8, bif_f h8]
  by_cases h9 : f = 9
  · rw [bif_t h9, bif_t h9, e9, callB_ok]
  rw [bif_f h9, bif_f h9]
  by_cases h10 : f = 10
  · rw [bif_t h10, bif_t h10, e10, callB_ok]
  rw [bif_f h10, bif_f h10]
  by_cases h11 : f = 11
  · rw [bif_t h11, bif_t h11, e4 h.major, callB_ok]
  rw [bif_f h11, bif_f h11]
  by_cases h12 : f = 12
  · rw [bif_t h12, bif_t h12, e4 h.minor, callB_ok]
  rw [bif_f h12, bif_f h12]
  by_cases h13 : f = 13
  · rw [bif_t h13, bif_t h13, prs_len]
    unfold extraB
    have : decide (((h.extra.length : Nat) : Int) = 0) = decide (h.extra.length = 0) := by rw [decide_eq_decide]; omega
    rw [this]
    cases decide (d = 3) <;> rfl
  rw [bif_f h13, bif_f h13]
  by_cases hd : d = 3
  · rw [decide_eq_true hd, Bool.not_true, cond_false, cond_false, hx hd (by omega), callB_ok]
  · rw [decide_eq_false hd]; rfl
/-! By the definition. -/
theorem f13_cases {f : Int} (hf : 1 ≤ f ∧ f ≤ 13) : f = 1 ∨ f = 2 ∨ f = 3 ∨ f = 4 ∨ f = 5 ∨ f = 6 ∨ f = 7 ∨ f = 8 ∨ f = 9 ∨ f = 10 ∨ f = 11 ∨ f = 12 ∨ f = 13 := by omega
theorem refPlain_k (d : Int) (h : Head) (f : Int) (hd : d = 1 ∨ d = 2 ∨ d = 4) (hf : 1 ≤ f ∧ f ≤ 13) (hsz : h.size ≤ 9223372036854775807) (hn : h.name.length ≤ 400000) (hk : 1000000 < k) :
    kp E k (n + 6) ref11_plain [.int .i64 d, .agg (encHead h), .int .i64 f] = some (.bool (canB d h f)) := by
  have e2 := refFull_k (E := E) (k := k) (n := n) d h hn hk
  have h0 : ∀ s : Tx, decide (s.length ≤ 32) = (bif decide (s = []) then true else decide (s.length ≤ 32)) := fun s => by
    by_cases hs : s = []
    · subst hs; rfl
    · rw [decide_eq_false hs]; rfl
  have hdx : decide (((h.extra.length : Nat) : Int) = 0) = decide (h.extra.length = 0) := by rw [decide_eq_decide]; omega
  have h100 : decide (((h.link.length : Nat) : Int) ≤ 100) = decide (h.link.length ≤ 100) := by rw [decide_eq_decide]; omega
  have hu32 : decide (((h.user.length : Nat) : Int) ≤ 32) = decide (h.user.length ≤ 32) := by rw [decide_eq_decide]; omega
  have hg32 : decide (((h.group.length : Nat) : Int) ≤ 32) = decide (h.group.length ≤ 32) := by rw [decide_eq_decide]; omega
  have hb : ∀ v : Int, (bif decide (v ≤ 16777215) then true else decide (v < 72057594037927936)) = decide (v ≤ 72057594037927935) := fun v => by
    by_cases hv : v ≤ 16777215
    · rw [bif_t hv, decide_eq_true (by omega)]
    · rw [bif_f hv, decide_eq_decide]; omega
  have hz : decide (h.size ≤ 9223372036854775807) = true := decide_eq_true hsz
  unfold encHead at e2 ⊢
  rw [ref11_plain_eq]
  unfold canB canF
  rcases f13_cases hf with rfl | rfl | rfl | rfl | rfl | rfl | rfl | rfl | rfl | rfl | rfl | rfl | rfl <;> rcases hd with rfl | rfl | rfl <;>
    simp only [Int.reduceEq, decide_true, decide_false, cond_true, cond_false, Bool.not_true, Bool.not_false, str_size, str_dec, prs_len, kindB, linkB, textB, smallB, ownerB, greatB, whenB, peopleB, extraB, hdx, h100, hu32, hg32, hz, e2] <;>
    first
    | rfl
    | (cases fullO _ h <;> rfl)
    | (cases decide (h.kind = 1) <;> cases decide (h.kind = 2) <;> cases decide (h.kind = 3) <;> rfl)
    | (cases decide (h.link.length ≤ 100) <;> rfl)
    | (rw [hb])
    | (cases decide (h.mode ≤ 16777215) <;> rfl)
    | (cases decide (h.uid ≤ 16777215) <;> rfl)
    | (cases decide (h.gid ≤ 16777215) <;> rfl)
    | (cases decide (h.major ≤ 16777215) <;> rfl)
    | (cases decide (h.minor ≤ 16777215) <;> rfl)
    | (cases decide (h.size ≤ 68719476735) <;> rfl)
    | (cases decide (h.nano = 0) <;> cases decide (h.sec ≥ 0) <;> rfl)
    | (rw [h0 h.user]; cases decide (h.user = []) <;> cases decide (h.user.length ≤ 32) <;> rfl)
    | (rw [h0 h.group]; cases decide (h.group = []) <;> cases decide (h.group.length ≤ 32) <;> rfl)
    | (cases decide (h.user = []) <;> rfl)
    | (cases decide (h.group = []) <;> rfl)
theorem refUtf_k (s : Tx) (hs : s.length ≤ 1000000) (hk : s.length + 5 < k) : kp E k (n + 4) ref11_utf [.str (str s)] = some (.bool (utfOk s)) := by
  rw [ref11_utf_eq, refFirst_k (n := n) s hs hk, callI_ok]
  rfl
theorem may23 (kind : Int) : mayB 3 kind = mayB 2 kind := by
  funext s
  rfl
theorem full_23 (h : Head) : (fullO 3 h).isSome = ((fullO 2 h).isSome || utfOk h.name) := by
  unfold fullO
  rw [may23]
  cases (fulls h.kind h.name).find? (mayB 2 h.kind) with
  | some s => rfl
  | none =>
    show (bif utfOk h.name then some _ else none).isSome = _
    cases utfOk h.name <;> rfl
theorem refCan_k (d : Int) (h : Head) (f : Int) (hd : d = 1 ∨ d = 2 ∨ d = 3 ∨ d = 4) (hf : 1 ≤ f ∧ f ≤ 13) (hsz : h.size ≤ 9223372036854775807) (hn : h.name.length ≤ 400000) (hl : h.link.length ≤ 400000) (hu : h.user.length ≤ 400000) (hg : h.group.length ≤ 400000) (hk : 1000000 < k) :
    kp E k (n + 7) ref11_Can [.int .i64 d, .agg (encHead h), .int .i64 f] = some (.bool (canB d h f)) := by
  have hp := fun d f hd hf => refPlain_k (E := E) (k := k) (n := n) d h f hd hf hsz hn hk
  have u1 := refUtf_k (E := E) (k := k) (n := n + 2) h.name (by omega) (by omega)
  have u2 := refUtf_k (E := E) (k := k) (n := n + 2) h.link (by omega) (by omega)
  have u3 := refUtf_k (E := E) (k := k) (n := n + 2) h.user (by omega) (by omega)
  have u4 := refUtf_k (E := E) (k := k) (n := n + 2) h.group (by omega) (by omega)
  unfold encHead at hp ⊢
  rw [ref11_Can_eq, bif_f (by omega)]
  by_cases h3 : d = 3
  · subst h3
    rw [decide_eq_true rfl, Bool.not_true, cond_false]
    have q := fun (f : Int) (hf : 1 ≤ f ∧ f ≤ 13) => hp 2 f (by omega) hf
    rcases f13_cases hf with rfl | rfl | rfl | rfl | rfl | rfl | rfl | rfl | rfl | rfl | rfl | rfl | rfl
    all_goals simp only [Int.reduceEq, decide_true, decide_false, cond_true, cond_false]
    · rw [q 1 (by omega), callB_ok]; rfl
    · rw [q 2 (by omega), callB_ok, u1, callB_ok]
      show (bif (fullO 2 h).isSome then _ else _) = some (AV.bool (fullO 3 h).isSome)
      rw [full_23]
      cases (fullO 2 h).isSome <;> rfl
    · rw [q 3 (by omega), callB_ok, u2, callB_ok]
      show (bif textB 2 h.link 100 then _ else _) = some (AV.bool (textB 3 h.link 100))
      unfold textB
      cases decide (h.link.length ≤ 100) <;> rfl
    · rw [q 4 (by omega), callB_ok]; rfl
    · rfl
    · rfl
    · show some (AV.bool true) = some (AV.bool (greatB 3 h.size))
      unfold greatB
      cases decide (h.size ≤ 68719476735) <;> rfl
    · rfl
    · rw [q 9 (by omega), callB_ok, u3, callB_ok]
      show (bif textB 2 h.user 32 then _ else _) = some (AV.bool (textB 3 h.user 32))
      unfold textB
      cases decide (h.user.length ≤ 32) <;> rfl
    · rw [q 10 (by omega), callB_ok, u4, callB_ok]
      show (bif textB 2 h.group 32 then _ else _) = some (AV.bool (textB 3 h.group 32))
      unfold textB
      cases decide (h.group.length ≤ 32) <;> rfl
    · rw [q 11 (by omega), callB_ok]; rfl
    · rw [q 12 (by omega), callB_ok]; rfl
    · rfl
  · rw [decide_eq_false h3, Bool.not_false, cond_true, hp d f (by omega) hf, callB_ok]
end Go.Proofs.YtbkhmkcmbaffoaaGreatDoor.Eng.U


/- Given functions in pieces: each with what it answers, and that it does. -/
set_option linter.unusedVariables false
set_option linter.unusedSectionVars false
set_option linter.unusedSimpArgs false
namespace Go.Proofs.YtbkhmkcmbaffoaaGreatDoor.Eng.U
open Go Go.Proofs Go.Proofs.YtbkhmkcmbaffoaaGreatDoor.Eng Go.RowKit

structure Piece where
  f : FuncId
  ans : List AV → Option AV
def extOf (ps : List Piece) : Ext := { fs := coreFs, isBase := fun f => ps.any fun p => p.f == f, base := fun f args => (ps.find? fun p => p.f == f).bind fun p => p.ans args }
def Piece.Right (p : Piece) : Prop := Enters Tryz.prog p.f ∧ ∀ args res, p.ans args = some res → Ok Tryz.prog glob p.f args res
theorem core_of {ps : List Piece} (h : coreFs.all (fun f => !ps.any fun p => p.f == f) = true) : Core (extOf ps) where
  isB f hf := by
    have := List.all_eq_true.1 h f (List.contains_iff_mem.1 hf)
    simpa [extOf] using this
  has f hf := hf
theorem good_of {ps : List Piece} (h : ∀ p ∈ ps, p.Right) (hn : coreFs.all (namedOk Tryz.prog) = true) (k : Nat) : (bs (extOf ps) k).Good where
  mixed := by kernel_rfl
  names := hn
  base f args res hb hr := by
    change ((ps.find? fun p => p.f == f).bind fun p => p.ans args) = some res at hr
    obtain ⟨p, hp, ha⟩ := Option.bind_eq_some_iff.1 hr
    have hm := List.mem_of_find?_eq_some hp
    have hf : (p.f == f) = true := List.find?_some (p := fun q : Piece => q.f == f) hp
    have hf : p.f = f := by simpa using hf
    obtain ⟨h1, h2⟩ := h p hm
    rw [hf] at h1 h2
    exact ⟨h1, h2 args res ha⟩
theorem names_ok : coreFs.all (namedOk Tryz.prog) = true := by kernel_rfl
theorem kp_piece {ps : List Piece} {p : Piece} {k n : Nat} {args : List AV} (hp : ps.find? (fun q => q.f == p.f) = some p) : kp (extOf ps) k n p.f args = p.ans args := by
  rw [kp_base (by
    show (ps.any fun q => q.f == p.f) = true
    have := List.find?_some (p := fun q : Piece => q.f == p.f) hp
    exact List.any_eq_true.2 ⟨p, List.mem_of_find?_eq_some hp, this⟩)]
  show ((ps.find? fun q => q.f == p.f).bind fun q => q.ans args) = _
  rw [hp]
  rfl
theorem VL_1 {S : Stab} {x : AV} {vals : List Value} (h : VL S [x] vals) : ∃ v, vals = [v] ∧ V S x v := by
  obtain ⟨h1, h2⟩ := h
  match vals, h1 with
  | [v], _ => exact ⟨v, rfl, h2 0 _ _ rfl rfl⟩
theorem VL_2 {S : Stab} {x y : AV} {vals : List Value} (h : VL S [x, y] vals) : ∃ v u, vals = [v, u] ∧ V S x v ∧ V S y u := by
  obtain ⟨h1, h2⟩ := h
  match vals, h1 with
  | [v, u], _ => exact ⟨v, u, rfl, h2 0 _ _ rfl rfl, h2 1 _ _ rfl rfl⟩
theorem VL_3 {S : Stab} {x y z : AV} {vals : List Value} (h : VL S [x, y, z] vals) : ∃ v u t, vals = [v, u, t] ∧ V S x v ∧ V S y u ∧ V S z t := by
  obtain ⟨h1, h2⟩ := h
  match vals, h1 with
  | [v, u, t], _ => exact ⟨v, u, t, rfl, h2 0 _ _ rfl rfl, h2 1 _ _ rfl rfl, h2 2 _ _ rfl rfl⟩
theorem V_str {S : Stab} {s : ByteArray} {v : Value} (h : V S (.str s) v) : v = .string s := by cases h; rfl
theorem V_int {S : Stab} {k : IntKind} {n : Int} {v : Value} (h : V S (.int k n) v) : v = .int k n := by cases h; rfl
theorem agree_below {S : Stab} {w w' : World} (h : Agree S w) (hb : Below w.heap.size w w') : Agree S w' := fun x v hx =>
  (World.cell?_of_block (hb.block _ (World.block_lt_of_cell? w x (h x v hx)))).trans (h x v hx)
/-- A result that is pure, and nothing that lay has turned. -/
theorem ok_pure {f : FuncId} {args : List AV} {res : AV} (hres : res.isTup = false ∧ res.isFresh = false) (h : ∀ (S : Stab) (w : World) (vals : List Value), Agree S w → GlobOk glob S w → VL S args vals → Calls Tryz.prog f vals.toArray w fun e w' => ∃ v, e = .returned v ∧ (∀ S', V S' res v) ∧ Below w.heap.size w w') (hr : (args.all fun c => !c.isRes) = true := by rfl) : Ok Tryz.prog glob f args res := by
  refine Ok.of_plain (fun c hc => by simpa using List.all_eq_true.1 hr c hc) fun S w vals hag hG hV => ?_
  refine (h S w vals hag hG hV).mono ?_
  rintro e w' ⟨v, rfl, hv, hb⟩
  refine ⟨v, S, rfl, fun _ _ h => h, agree_below hag hb, fun _ _ h => .inl h, hb, ?_⟩
  have := hv S
  cases res <;> first | (cases hres.1; done) | (cases hres.2; done) | exact this
/-- A new row, frozen as it comes. -/
theorem row_V {S : Stab} {B : Nat} {w : World} {e : TypeId} {sz : Nat} {v : Value} {us : List Value} {xs : List AV} (hag : Agree S w) (hown : w.ownsRow B e sz v xs.length us) (hone : ∀ (i : Nat) (x : AV), xs[i]? = some x → x.cells.length = sz ∧ ∀ (j : Nat) (c : AV), x.cells[j]? = some c → c.leaf = true ∧ ∀ u, us[i * sz + j]? = some u → V S c u) :
    ∃ S', S.le S' ∧ Agree S' w ∧ (∀ x u, S' x = some u → S x = some u ∨ B ≤ x.block) ∧ V S' (.list sz xs) v := by
  have hul : us.length = xs.length * sz := hown.1
  rcases ownsRow_form hown with ⟨rfl, hn⟩ | ⟨g, cap, rfl, hb⟩
  · have hx : xs = [] := List.eq_nil_of_length_eq_zero hn
    subst hx
    exact ⟨S, fun _ _ h => h, hag, fun _ _ h => .inl h, .listn _⟩
  · let S' : Stab := fun x => if x.block = g ∧ x.spot = none ∧ x.off < xs.length * sz then w.cell? x else S x
    have hle : S.le S' := by
      intro x v hx
      show (if _ then _ else _) = _
      split
      · exact hag x v hx
      · exact hx
    have hS'g : ∀ k u, us[k]? = some u → S' ⟨g, k, none⟩ = some u := by
      intro k u hu
      have hk : k < xs.length * sz := by rw [← hul]; exact (List.getElem?_eq_some_iff.1 hu).1
      show (if _ then _ else _) = _
      rw [if_pos ⟨rfl, rfl, hk⟩]
      exact cell_of_us hown rfl hu
    refine ⟨S', hle, fun x v hx => ?_, fun x u hx => ?_, ?_⟩
    · have hx : (if x.block = g ∧ x.spot = none ∧ x.off < xs.length * sz then w.cell? x else S x) = some v := hx
      split at hx
      · exact hx
      · exact hag x v hx
    · have hx : (if x.block = g ∧ x.spot = none ∧ x.off < xs.length * sz then w.cell? x else S x) = some u := hx
      split at hx
      · rename_i hh; exact .inr (by rw [hh.1]; exact hb)
      · exact .inl hx
    · have hcle : xs.length ≤ cap := by
        rcases hown.2 with ⟨hv2, _⟩ | ⟨g2, cap2, cur2, hv2, _, _, hnc, _⟩
        · cases hv2
        · cases hv2; exact hnc
      have hval : ∀ (i : Nat) (x : AV) (j : Nat) (c : AV), xs[i]? = some x → x.cells[j]? = some c → us[i * sz + j]? = some (us.getD (i * sz + j) undef) := by
        intro i x j c hx hj
        have hi : i < xs.length := (List.getElem?_eq_some_iff.1 hx).1
        have hj' : j < sz := by rw [← (hone i x hx).1]; exact (List.getElem?_eq_some_iff.1 hj).1
        have hlt : i * sz + j < us.length := by rw [hul]; exact flat_lt hi hj'
        rw [List.getD_eq_getElem?_getD, List.getElem?_eq_getElem hlt]; rfl
      exact .list _ _ _ _ (fun i j => us.getD (i * sz + j) undef) hcle (fun i x hx => (hone i x hx).1) (fun i x j c hx hj => ((hone i x hx).2 j c hj).1)
        (fun i x j c hx hj => by rw [add_lit', Nat.zero_add]; exact hS'g _ _ (hval i x j c hx hj))
        (fun i x j c hx hj => (((hone i x hx).2 j c hj).2 _ (hval i x j c hx hj)).mono hle)
end Go.Proofs.YtbkhmkcmbaffoaaGreatDoor.Eng.U


/- The program's own data as a row hands them in: what is read is some item, with bounds. -/
set_option linter.unusedVariables false
set_option linter.unusedSimpArgs false
namespace Go.Proofs.YtbkhmkcmbaffoaaGreatDoor.Eng.U
open Go Go.Proofs Go.Proofs.YtbkhmkcmbaffoaaGreatDoor.Eng Go.Proofs.YtbkhmkcmbaffoaaGreatDoor.Eng.Rdv

def InR (n : Int) : Prop := -9223372036854775808 ≤ n ∧ n ≤ 9223372036854775807
structure G_apiPair (p : Pair) : Prop where
  key : p.key.length ≤ 140737488351232
  val : p.val.length ≤ 140737488351232
structure G_apiTime (t : Time) : Prop where
  sec : InR t.sec
  nano : InR t.nano
structure G_apiHead (h : Head) : Prop where
  kind : InR h.kind
  name : h.name.length ≤ 140737488351232
  link : h.link.length ≤ 140737488351232
  mode : InR h.mode
  uid : InR h.uid
  gid : InR h.gid
  size : InR h.size
  sec : InR h.sec
  nano : InR h.nano
  user : h.user.length ≤ 140737488351232
  group : h.group.length ≤ 140737488351232
  major : InR h.major
  minor : InR h.minor
  extra : h.extra.length * 32 ≤ 140737488351232
  pairs : ∀ p ∈ h.extra, G_apiPair p
structure G_apiItem (x : Item) : Prop where
  head : G_apiHead x.head
  data : x.data.length ≤ 140737488351232
def G_LapiPair (l : List Pair) : Prop := l.length * 32 ≤ 140737488351232 ∧ ∀ x ∈ l, G_apiPair x
theorem rdi {t : TypeId} (hu : Tryz.prog.underlying t = some (.int .i64)) (hc : Tryz.prog.cellsOf t = 1) : Rd Tryz.prog t (fun n : Int => [.int .i64 n]) InR := int hu hc
theorem rds {t : TypeId} (hu : Tryz.prog.underlying t = some .string) (hc : Tryz.prog.cellsOf t = 1) : Rd Tryz.prog t (fun s : Tx => [.str (str s)]) (fun s => s.length ≤ 140737488351232) := string hu hc
theorem rd_pair : Rd Tryz.prog 50 encPair G_apiPair :=
  weaken (struct (P := Tryz.prog) (t := 50) Tryz.underlying50 rfl (by kernel_rfl) (by kernel_rfl)
    (iso encPair (fun p : Pair => (p.key, p.val)) (fun y => ⟨y.1, y.2⟩) (fun _ => rfl) (fun _ => rfl)
      (cons (rds (by kernel_rfl) (by kernel_rfl)) (Rdv.one (rds (by kernel_rfl) (by kernel_rfl)))))) (fun _ h => ⟨h.1, h.2⟩)
theorem rd_time : Rd Tryz.prog 23 encTime G_apiTime :=
  weaken (struct (P := Tryz.prog) (t := 23) Tryz.underlying23 rfl (by kernel_rfl) (by kernel_rfl)
    (iso encTime (fun p : Time => (p.sec, p.nano)) (fun y => ⟨y.1, y.2⟩) (fun _ => rfl) (fun _ => rfl)
      (cons (rdi (by kernel_rfl) (by kernel_rfl)) (Rdv.one (rdi (by kernel_rfl) (by kernel_rfl)))))) (fun _ h => ⟨h.1, h.2⟩)
theorem rd_pairs : Rd Tryz.prog 24 (fun l : List Pair => [.list 2 (prs l)]) G_LapiPair :=
  weaken (sliceAt (B := 32) elPair (fun _ => rfl) Tryz.underlying24 (by kernel_rfl) (by kernel_rfl) (by kernel_rfl) rd_pair) (fun _ h => h)
theorem rd_head : Rd Tryz.prog 26 encHead G_apiHead :=
  weaken (struct (P := Tryz.prog) (t := 26) Tryz.underlying26 rfl (by kernel_rfl) (by kernel_rfl)
    (iso encHead (fun h : Head => (h.kind, h.name, h.link, h.mode, h.uid, h.gid, h.size, (⟨h.sec, h.nano⟩ : Time), h.user, h.group, h.major, h.minor, h.extra))
      (fun y => ⟨y.1, y.2.1, y.2.2.1, y.2.2.2.1, y.2.2.2.2.1, y.2.2.2.2.2.1, y.2.2.2.2.2.2.1, y.2.2.2.2.2.2.2.1.sec, y.2.2.2.2.2.2.2.1.nano, y.2.2.2.2.2.2.2.2.1, y.2.2.2.2.2.2.2.2.2.1, y.2.2.2.2.2.2.2.2.2.2.1, y.2.2.2.2.2.2.2.2.2.2.2.1, y.2.2.2.2.2.2.2.2.2.2.2.2⟩) (fun _ => rfl) (fun _ => rfl)
      (cons (rdi (by kernel_rfl) (by kernel_rfl)) (cons (rds (by kernel_rfl) (by kernel_rfl)) (cons (rds (by kernel_rfl) (by kernel_rfl))
        (cons (rdi (by kernel_rfl) (by kernel_rfl)) (cons (rdi (by kernel_rfl) (by kernel_rfl)) (cons (rdi (by kernel_rfl) (by kernel_rfl)) (cons (rdi (by kernel_rfl) (by kernel_rfl))
          (cons rd_time (cons (rds (by kernel_rfl) (by kernel_rfl)) (cons (rds (by kernel_rfl) (by kernel_rfl))
            (cons (rdi (by kernel_rfl) (by kernel_rfl)) (cons (rdi (by kernel_rfl) (by kernel_rfl)) (Rdv.one rd_pairs))))))))))))))) (fun h g =>
      ⟨g.1, g.2.1, g.2.2.1, g.2.2.2.1, g.2.2.2.2.1, g.2.2.2.2.2.1, g.2.2.2.2.2.2.1, g.2.2.2.2.2.2.2.1.sec, g.2.2.2.2.2.2.2.1.nano, g.2.2.2.2.2.2.2.2.1, g.2.2.2.2.2.2.2.2.2.1, g.2.2.2.2.2.2.2.2.2.2.1, g.2.2.2.2.2.2.2.2.2.2.2.1, g.2.2.2.2.2.2.2.2.2.2.2.2.1, g.2.2.2.2.2.2.2.2.2.2.2.2.2⟩)
end Go.Proofs.YtbkhmkcmbaffoaaGreatDoor.Eng.U


/- rep.Records, walked: its closures. -/
set_option linter.unusedVariables false
set_option linter.unusedSectionVars false
set_option linter.unusedSimpArgs false
namespace Go.Proofs.YtbkhmkcmbaffoaaGreatDoor.S11
open Go Go.RowKit Go.Shelf Go.Proofs Go.Proofs.YtbkhmkcmbaffoaaGreatDoor.Eng Go.Proofs.YtbkhmkcmbaffoaaGreatDoor.Eng.U

theorem infoP : (Tryz.prog.info? 50).map (fun i => (i.zero, i.size, i.bytes)) = some (some (.agg #[.string ⟨#[]⟩, .string ⟨#[]⟩]), 2, 32) := by kernel_rfl
/-- The cells of a head. -/
def headV (h : Head) (sv : Value) : Array Value := #[.int .i64 h.kind, .string (str h.name), .string (str h.link), .int .i64 h.mode, .int .i64 h.uid, .int .i64 h.gid, .int .i64 h.size, .int .i64 h.sec, .int .i64 h.nano, .string (str h.user), .string (str h.group), .int .i64 h.major, .int .i64 h.minor, sv]
theorem own_below {w w' : World} {B e size n : Nat} {v : Value} {xs : List Value} (h : w.ownsRow B e size v n xs) (hb : Below w.heap.size w w') : w'.ownsRow B e size v n xs := by
  refine ⟨h.1, ?_⟩
  rcases h.2 with h | ⟨g, cap, cur, hv, hg, hc, r⟩
  · exact .inl h
  · exact .inr ⟨g, cap, cur, hv, hg, (hb.block g (Array.getElem?_eq_some_iff.1 hc).1).trans hc, r⟩
/-- A box of a head. -/
def HBox (W : World) (b : Nat) (h : Head) (sv : Value) : Prop := W.heap[b]? = some (.cells (headV h sv) 26 (0, 0))
theorem HBox.cell {W : World} {b : Nat} {h : Head} {sv : Value} (hb : HBox W b h sv) (i : Nat) (v : Value) (hv : (headV h sv)[i]? = some v) : W.cell? ⟨b, i, none⟩ = some v := by
  unfold World.cell?
  simp only
  rw [show W.heap[b]? = some (.cells (headV h sv) 26 (0, 0)) from hb]
  simpa using hv
theorem cell_two_new (w : World) (x y : Value) (t : TypeId) : ∀ j u, [x, y][j]? = some u → (w.alloc (.cells #[x, y] t)).cell? ((⟨w.heap.size, 0, none⟩ : Addr).add j) = some u := by
  intro j u hj
  match j, hj with
  | 0, hj => simp at hj; subst hj; simp [Addr.add]
  | 1, hj => simp at hj; subst hj; simp [Addr.add]
  | (j + 2), hj => simp at hj
/-- 'l = append(l, ..)' with a row that lies beyond n₁ and a box beyond n₀. -/
theorem appended3 {W w1 : World} {n₀ n₁ B : Nat} {t e : TypeId} {size : Nat} {v v' : Value} {k m : Nat} {xs ys : List Value} {tmp : Obj}
    (hv : Boxed W B t v) (hte : t ≠ e) (hrow : W.ownsRow n₁ e size v k xs) (h01 : n₀ ≤ n₁) (hn₁ : n₁ ≤ W.heap.size) (hB : n₀ ≤ B)
    (hown' : w1.ownsRow n₁ e size v' m ys) (hgrow : (W.alloc tmp).grownBy w1 v.ownBlock) :
    Boxed w1 B t v ∧ Boxed (w1.setCell ⟨B, 0, none⟩ v') B t v' ∧ (w1.setCell ⟨B, 0, none⟩ v').ownsRow n₁ e size v' m ys ∧ Below n₀ W (w1.setCell ⟨B, 0, none⟩ v') ∧ (∀ b, b < n₁ → b ≠ B → (w1.setCell ⟨B, 0, none⟩ v').heap[b]? = W.heap[b]?) ∧ W.heap.size ≤ (w1.setCell ⟨B, 0, none⟩ v').heap.size := by
  have hv1 : Boxed w1 B t v := (hv.alloc tmp).kept hgrow (hv.not_row hte hrow)
  have hbk : ∀ j, v.ownBlock = some j → n₁ ≤ j := fun j ej => by
    rcases hrow.2 with ⟨rfl, _⟩ | ⟨g, cap, cur, rfl, hb, _, _⟩
    · simp [Value.ownBlock] at ej
    · obtain rfl : g = j := by simpa [Value.ownBlock] using ej
      exact hb
  have hsz : W.heap.size ≤ (w1.setCell ⟨B, 0, none⟩ v').heap.size := by
    have h1 := hgrow.size
    have h2 := (grownBy_setCell' w1 B v').size
    simp at h1
    omega
  refine ⟨hv1, hv1.set v', hown'.kept (grownBy_setCell' w1 B v') (.inr (hv1.not_row hte hown').symm), ?_, fun b hb hbB => ?_, hsz⟩
  · exact (((Below.refl n₀ W).alloc (by omega) tmp).grown hgrow (by simp; omega) fun j ej => by have := hbk j ej; omega).setCell (p := ⟨B, 0, none⟩) hB v'
  · refine (Below.heap_setCell _ _ _ _ hbB).trans ((hgrow.block b (by simp; omega) fun e => ?_).trans (Below.heap_alloc _ _ _ (by omega)))
    have := hbk b e.symm
    omega
/-- What 'add' keeps: the head's box, the list's box, the row, all else below. -/
structure St (w0 : World) (n1 bh bl : Nat) (h : Head) (sv : Value) (l : List Value) (m : Nat) (W : World) : Prop where
  head : HBox W bh h sv
  box : ∃ lv, Boxed W bl 24 lv ∧ W.ownsRow n1 50 2 lv m l
  below : Below w0.heap.size w0 W
theorem St.next {w0 : World} {n1 bh bl : Nat} {h : Head} {sv : Value} {l : List Value} {m : Nat} {W W' : World} (s : St w0 n1 bh bl h sv l m W) (hb : Below W.heap.size W W') : St w0 n1 bh bl h sv l m W' := by
  obtain ⟨lv, h1, h2⟩ := s.box
  have hh : bh < W.heap.size := (Array.getElem?_eq_some_iff.1 s.head).1
  exact ⟨(hb.block bh hh).trans s.head, ⟨lv, (hb.block bl h1.lt).trans h1, own_below h2 hb⟩, s.below.trans (hb.mono s.below.size)⟩
set_option maxHeartbeats 4000000 in
set_option maxRecDepth 1000000 in
theorem add_walk (w0 : World) (n1 bh bl : Nat) (h : Head) (sv : Value) (l : List Value) (m : Nat) (W : World) (f : Int) (key val : Tx) (b : Bool)
    (hS : St w0 n1 bh bl h sv l m W) (hn1 : w0.heap.size ≤ n1) (hbh : bh < n1) (hbl : w0.heap.size ≤ bl) (hne : bh ≠ bl) (hn : n1 ≤ W.heap.size) (hm : m ≤ 1000)
    (hcan : ∀ W1, Below W.heap.size W W1 → Calls Tryz.prog 47 #[.int .i64 2, .agg (headV h sv), .int .i64 f] W1 fun e w' => e = .returned (.bool b) ∧ Below W1.heap.size W1 w') :
    Calls Tryz.prog 49 #[.int .i64 f, .string (str key), .string (str val), .pointer (some ⟨bh, 0, none⟩), .pointer (some ⟨bl, 0, none⟩)] W fun e W' =>
      e = .returned (.tuple #[]) ∧ St w0 n1 bh bl h sv (bif b then l else l ++ [.string (str key), .string (str val)]) (bif b then m else m + 1) W' ∧ W.heap.size ≤ W'.heap.size := by
  obtain ⟨i0, hi, hz0, hz1, hz2⟩ := info_parts infoP
  have c0 := hS.head.cell 0 _ rfl
  have c1 := hS.head.cell 1 _ rfl
  have c2 := hS.head.cell 2 _ rfl
  have c3 := hS.head.cell 3 _ rfl
  have c4 := hS.head.cell 4 _ rfl
  have c5 := hS.head.cell 5 _ rfl
  have c6 := hS.head.cell 6 _ rfl
  have c7 := hS.head.cell 7 _ rfl
  have c8 := hS.head.cell 8 _ rfl
  have c9 := hS.head.cell 9 _ rfl
  have c10 := hS.head.cell 10 _ rfl
  have c11 := hS.head.cell 11 _ rfl
  have c12 := hS.head.cell 12 _ rfl
  have c13 := hS.head.cell 13 _ rfl
  refine (callsIn_wide (n := 3)).1 ?_
  refine callsIn_of_wp Tryz.func49 rfl trivial ?_ rfl
  simp only [Tryz.ntmps49, List.size_toArray, List.length_cons, List.length_nil, Nat.reduceAdd, Nat.reduceSub, Array.replicate_succ, Array.replicate_zero, List.push_toArray, List.append_toArray, List.nil_append, List.cons_append]
  cases b with
  | true =>
    gi_wp2_with (refine ⟨trivial, ?_⟩; gi_at_call 47; refine (callsIn_wide.2 (hcan _ (Below.refl _ _))).mono ?_; rintro e W1 ⟨rfl, hb1⟩)
    go_end0
    exact ⟨rfl, hS.next hb1, hb1.size⟩
  | false =>
    gi_wp2_with (first
      | (refine ⟨trivial, ?_⟩; gi_at_call 47; refine (callsIn_wide.2 (hcan _ (Below.refl _ _))).mono ?_; rintro e W1 ⟨rfl, hb1⟩; have S1 := hS.next hb1; have hn2 : n1 ≤ W1.heap.size := Nat.le_trans hn hb1.size; obtain ⟨lv, hv, hr⟩ := S1.box; have hc := hv.cell)
      | (gi_at_builtin; refine wpListIn_append_own _ rfl _ _ 24 rfl n1 50 i0 (.agg #[.string ⟨#[]⟩, .string ⟨#[]⟩]) 2 32 Tryz.underlying24 hi hz0 hz1 hz2 rfl (by decide) _ _ _ rfl (hr.alloc _) ⟨W1.heap.size, 0, none⟩ 1 1 [.string (str key), .string (str val)] rfl rfl (cell_two_new _ _ _ _) (by simp [Value.oneCell']) (by simp only [maxLen]; omega) (by omega) (by simp; omega) ?_; intro v' w2 hown' hgrow _; obtain ⟨g', cap', rfl⟩ := ownsRow_succ hown'; obtain ⟨hv1, hv2, hr2, hb2, hx2, hs2⟩ := appended3 hv (by decide) hr hn1 hn2 hbl hown' hgrow; have hc1 := hv1.cell; have hf1 := hv1.frozen))
    go_end0
    exact ⟨rfl, ⟨(hx2 bh hbh hne).trans S1.head, ⟨_, hv2, by simpa using hr2⟩, S1.below.trans hb2⟩, Nat.le_trans hb1.size hs2⟩
end Go.Proofs.YtbkhmkcmbaffoaaGreatDoor.S11


/-
  DERIVED: THE SHELF's CONTRACTS AT THIS DUMP, IN PLAIN WORDS (tools/lay-plain.mjs out of 'TryzSort.lean', which tools/lay-shelf.mjs wrote): THE SAME DECLARATIONS UNDER THE SAME NAMES: 'import', 'namespace', 'open', 'def', 'theorem' AND NOTHING ELSE: no command of the shelf's: FOR A HAND-IN. Each laying: the table of numbers ('.._ren') and one theorem, a field a fact of the dump's own or the kernel's comparison; each contract: ONE APPLICATION.
-/
namespace Go.Proofs
open Go.Shelf
def Tryz.sortP_ren : Go.Shelf.Ren := ⟨fun | 6 => 53 | 15 => 104 | 14 => 103 | 28 => 153 | 29 => 154 | 20 => 145 | 21 => 146 | 22 => 147 | 23 => 148 | 24 => 149 | 25 => 150 | 26 => 151 | 27 => 152 | 46 => 188 | 47 => 189 | 48 => 190 | 49 => 191 | 50 => 192 | 57 => 226 | n => n, fun | 22 => 24 | 24 => 50 | 25 => 93 | 3 => 3 | 39 => 135 | 0 => 0 | 53 => 172 | 55 => 174 | 4 => 4 | 46 => 166 | 45 => 165 | 50 => 143 | 5 => 5 | 9 => 9 | 66 => 197 | 70 => 201 | 76 => 225 | 77 => 226 | n => n, fun | n => n⟩
theorem Tryz.sortP : Go.Proofs.SlLaysF0.n6 Tryz.prog Tryz.sortP_ren := {
  mixed := by kernel_rfl
  f6 := ⟨Tryz.f53.name, by decide, Tryz.func53.trans (congrArg some (by kernel_rfl))⟩
  f14 := ⟨Tryz.f103.name, by decide, Tryz.func103.trans (congrArg some (by kernel_rfl))⟩
  f15 := Tryz.func104.trans (congrArg some (by kernel_rfl))
  f20 := ⟨Tryz.f145.name, by decide, Tryz.func145.trans (congrArg some (by kernel_rfl))⟩
  f21 := ⟨Tryz.f146.name, by decide, Tryz.func146.trans (congrArg some (by kernel_rfl))⟩
  f22 := ⟨Tryz.f147.name, by decide, Tryz.func147.trans (congrArg some (by kernel_rfl))⟩
  f23 := ⟨Tryz.f148.name, by decide, Tryz.func148.trans (congrArg some (by kernel_rfl))⟩
  f24 := ⟨Tryz.f149.name, by decide, Tryz.func149.trans (congrArg some (by kernel_rfl))⟩
  f25 := ⟨Tryz.f150.name, by decide, Tryz.func150.trans (congrArg some (by kernel_rfl))⟩
  f26 := ⟨Tryz.f151.name, by decide, Tryz.func151.trans (congrArg some (by kernel_rfl))⟩
  f27 := ⟨Tryz.f152.name, by decide, Tryz.func152.trans (congrArg some (by kernel_rfl))⟩
  f28 := Tryz.func153.trans (congrArg some (by kernel_rfl))
  f29 := Tryz.func154.trans (congrArg some (by kernel_rfl))
  f46 := ⟨Tryz.f188.name, by decide, Tryz.func188.trans (congrArg some (by kernel_rfl))⟩
  f47 := Tryz.func189.trans (congrArg some (by kernel_rfl))
  f48 := Tryz.func190.trans (congrArg some (by kernel_rfl))
  f49 := ⟨Tryz.f191.name, by decide, Tryz.func191.trans (congrArg some (by kernel_rfl))⟩
  f50 := ⟨Tryz.f192.name, by decide, Tryz.func192.trans (congrArg some (by kernel_rfl))⟩
  f57 := ⟨Tryz.f226.name, by decide, Tryz.func226.trans (congrArg some (by kernel_rfl))⟩
  t0 := Tryz.underlying0
  a0 := Tryz.isAgg0
  z0 := Tryz.sizeOf0
  v0 := Tryz.zeroValue0
  t3 := Tryz.underlying3
  a3 := Tryz.isAgg3
  z3 := Tryz.sizeOf3
  v3 := Tryz.zeroValue3
  t4 := Tryz.underlying4
  a4 := Tryz.isAgg4
  z4 := Tryz.sizeOf4
  v4 := Tryz.zeroValue4
  t5 := Tryz.underlying5
  a5 := Tryz.isAgg5
  z5 := Tryz.sizeOf5
  v5 := Tryz.zeroValue5
  t9 := Tryz.underlying9
  a9 := Tryz.isAgg9
  z9 := Tryz.sizeOf9
  v9 := Tryz.zeroValue9
  t22 := Tryz.underlying24
  a22 := Tryz.isAgg24
  z22 := Tryz.sizeOf24
  v22 := Tryz.zeroValue24
  t25 := Tryz.underlying93
  a25 := Tryz.isAgg93
  z25 := Tryz.sizeOf93
  v25 := Tryz.zeroValue93
  t39 := Tryz.underlying135
  a39 := Tryz.isAgg135
  z39 := Tryz.sizeOf135
  v39 := Tryz.zeroValue135
  t45 := Tryz.underlying165
  a45 := Tryz.isAgg165
  z45 := Tryz.sizeOf165
  v45 := Tryz.zeroValue165
  t46 := Tryz.underlying166
  a46 := Tryz.isAgg166
  z46 := Tryz.sizeOf166
  v46 := Tryz.zeroValue166
  t50 := Tryz.underlying143
  a50 := Tryz.isAgg143
  z50 := Tryz.sizeOf143
  v50 := Tryz.zeroValue143
  t53 := Tryz.underlying172
  a53 := Tryz.isAgg172
  z53 := Tryz.sizeOf172
  v53 := Tryz.zeroValue172
  t55 := Tryz.underlying174
  a55 := Tryz.isAgg174
  z55 := Tryz.sizeOf174
  v55 := Tryz.zeroValue174
  t66 := Tryz.underlying197
  a66 := Tryz.isAgg197
  z66 := Tryz.sizeOf197
  v66 := Tryz.zeroValue197
  t70 := Tryz.underlying201
  a70 := Tryz.isAgg201
  z70 := Tryz.sizeOf201
  v70 := Tryz.zeroValue201
  t76 := Tryz.underlying225
  a76 := Tryz.isAgg225
  z76 := Tryz.sizeOf225
  v76 := Tryz.zeroValue225
  t77 := Tryz.underlying226
  a77 := Tryz.isAgg226
  z77 := Tryz.sizeOf226
  v77 := Tryz.zeroValue226 }
end Go.Proofs


/- Overlays in plain words, part 2: laid one by one. No program. -/
set_option linter.unusedVariables false
set_option linter.unusedSimpArgs false
namespace Go.Proofs.YtbkhmkcmbaffoaaGreatDoor.Eng.U
open Go Go.Proofs Go.Proofs.YtbkhmkcmbaffoaaGreatDoor.Eng

/-- A pair laid over an overlay. -/
def layOne : List Pair → Pair → List Pair
  | [], p => if p.val = [] then [] else [p]
  | q :: r, p => if q.key = p.key then (if p.val = [] then r else p :: r) else if Op.bytesLess q.key p.key = true then q :: layOne r p else (if p.val = [] then q :: r else p :: q :: r)
/-- The value of a key; empty, if it has none. -/
def valOf : List Pair → Tx → Tx
  | [], _ => []
  | p :: l, k => if p.key = k then p.val else valOf l k
theorem gtO_irr (k : Tx) : gtO (some k) k = false := lt_irr k
theorem valOf_out : ∀ {l : List Pair} {a : Option Tx} {k : Tx}, okSt a l = true → gtO a k = false → valOf l k = []
  | [], a, k, _, _ => rfl
  | p :: l, a, k, ho, hk => by
    have hf := okSt_facts _ _ ho
    have hp := (hf.1 p (.head _)).1
    have ho2 : okSt (some p.key) l = true := by simp only [okSt, Bool.and_eq_true] at ho; exact ho.2
    unfold valOf
    have hne : p.key ≠ k := by rintro rfl; rw [hp] at hk; cases hk
    rw [if_neg hne]
    refine valOf_out (a := a) ?_ hk
    exact okSt_mono hp ho2
theorem valOf_ne {l : List Pair} {a : Option Tx} (ho : okSt a l = true) : ∀ p ∈ l, valOf l p.key = p.val := by
  induction l generalizing a with
  | nil => intro p hp; cases hp
  | cons q l ih =>
    intro p hp
    have hf := okSt_facts _ _ ho
    have ho2 : okSt (some q.key) l = true := by simp only [okSt, Bool.and_eq_true] at ho; exact ho.2
    unfold valOf
    rcases List.mem_cons.1 hp with rfl | hp
    · rw [if_pos rfl]
    · have hlt := List.rel_of_pairwise_cons hf.2 hp
      rw [if_neg (by intro e; rw [e, lt_irr] at hlt; cases hlt)]
      exact ih ho2 p hp
/-- Overlays that have the same values are the same. -/
theorem over_ext : ∀ {x y : List Pair} {a : Option Tx}, okSt a x = true → okSt a y = true → (∀ k, valOf x k = valOf y k) → x = y
  | [], [], _, _, _, _ => rfl
  | [], q :: y, a, hx, hy, h => by
    have hf := (okSt_facts _ _ hy).1 q (.head _)
    have := h q.key
    unfold valOf at this
    rw [if_pos rfl] at this
    exact absurd this.symm hf.2
  | p :: x, [], a, hx, hy, h => by
    have hf := (okSt_facts _ _ hx).1 p (.head _)
    have := h p.key
    unfold valOf at this
    rw [if_pos rfl] at this
    exact absurd this hf.2
  | p :: x, q :: y, a, hx, hy, h => by
    have fp := okSt_facts _ _ hx
    have fq := okSt_facts _ _ hy
    have hx2 : okSt (some p.key) x = true := by simp only [okSt, Bool.and_eq_true] at hx; exact hx.2
    have hy2 : okSt (some q.key) y = true := by simp only [okSt, Bool.and_eq_true] at hy; exact hy.2
    have hpv := (fp.1 p (.head _)).2
    have hqv := (fq.1 q (.head _)).2
    have hk : p.key = q.key := by
      by_cases e : p.key = q.key
      · exact e
      · exfalso
        cases hl : Op.bytesLess p.key q.key with
        | true =>
          have h1 := h p.key
          have h2 : valOf (q :: y) p.key = [] := by
            unfold valOf
            rw [if_neg (fun h => e h.symm)]
            exact valOf_out hy2 (lt_asym hl)
          rw [h2] at h1
          unfold valOf at h1
          rw [if_pos rfl] at h1
          exact hpv h1
        | false =>
          have hl2 := lt_tot hl e
          have h1 := h q.key
          have h2 : valOf (p :: x) q.key = [] := by
            unfold valOf
            rw [if_neg e]
            exact valOf_out hx2 (lt_asym hl2)
          rw [h2] at h1
          unfold valOf at h1
          rw [if_pos rfl] at h1
          exact hqv h1.symm
    have hv : p.val = q.val := by
      have h1 := h p.key
      unfold valOf at h1
      rw [if_pos rfl, if_pos hk.symm] at h1
      exact h1
    have hpq : p = q := by cases p; cases q; simp_all
    subst hpq
    congr 1
    refine over_ext hx2 hy2 fun k => ?_
    by_cases e : p.key = k
    · subst e
      rw [valOf_out hx2 (gtO_irr _), valOf_out hy2 (gtO_irr _)]
    · have h1 := h k
      unfold valOf at h1
      rw [if_neg e, if_neg e] at h1
      exact h1
theorem layOne_ok : ∀ {l : List Pair} {a : Option Tx} (p : Pair), okSt a l = true → gtO a p.key = true → okSt a (layOne l p) = true
  | [], a, p, _, hg => by
    unfold layOne
    split
    · rfl
    · rename_i h; simp only [okSt, hg, decide_eq_true h, Bool.and_self]
  | q :: l, a, p, ho, hg => by
    have hq := (okSt_facts _ _ ho).1 q (.head _)
    have ho2 : okSt (some q.key) l = true := by simp only [okSt, Bool.and_eq_true] at ho; exact ho.2
    unfold layOne
    by_cases e : q.key = p.key
    · rw [if_pos e]
      split
      · exact okSt_mono hq.1 ho2
      · rename_i h
        simp only [okSt, ← e, hq.1, decide_eq_true h, ho2, Bool.and_self]
    · rw [if_neg e]
      by_cases hl : Op.bytesLess q.key p.key = true
      · rw [if_pos hl]
        have := layOne_ok p ho2 hl
        simp only [okSt, hq.1, decide_eq_true hq.2, this, Bool.and_self]
      · rw [if_neg hl]
        split
        · exact ho
        · rename_i h
          have h2 : Op.bytesLess p.key q.key = true := lt_tot (by simpa using hl) e
          have : gtO (some p.key) q.key = true := h2
          simp only [okSt, hg, decide_eq_true h, this, decide_eq_true hq.2, ho2, Bool.and_self]
theorem layOne_val : ∀ {l : List Pair} {a : Option Tx} (p : Pair) (k : Tx), okSt a l = true → valOf (layOne l p) k = if p.key = k then p.val else valOf l k
  | [], a, p, k, _ => by
    unfold layOne
    by_cases h : p.val = []
    · rw [if_pos h, h]; simp [valOf]
    · rw [if_neg h]; rfl
  | q :: l, a, p, k, ho => by
    have ho2 : okSt (some q.key) l = true := by simp only [okSt, Bool.and_eq_true] at ho; exact ho.2
    unfold layOne
    by_cases e : q.key = p.key
    · rw [if_pos e]
      by_cases h : p.val = []
      · rw [if_pos h]
        by_cases ek : p.key = k
        · rw [if_pos ek, h, ← ek, ← e]
          exact valOf_out ho2 (gtO_irr _)
        · rw [if_neg ek]
          conv => rhs; unfold valOf
          rw [if_neg (by rw [e]; exact ek)]
      · rw [if_neg h]
        unfold valOf
        by_cases ek : p.key = k
        · rw [if_pos ek, if_pos ek]
        · rw [if_neg ek, if_neg ek, if_neg (by rw [e]; exact ek)]
    · rw [if_neg e]
      by_cases hl : Op.bytesLess q.key p.key = true
      · rw [if_pos hl]
        unfold valOf
        rw [layOne_val p k ho2]
        by_cases ek : p.key = k
        · rw [if_pos ek, if_neg (by rw [← ek]; exact e), if_pos ek]
        · rw [if_neg ek, if_neg ek]
      · rw [if_neg hl]
        by_cases h : p.val = []
        · rw [if_pos h]
          by_cases ek : p.key = k
          · rw [if_pos ek, h]
            have h2 : Op.bytesLess p.key q.key = true := lt_tot (by simpa using hl) e
            unfold valOf
            rw [if_neg (by rw [← ek]; exact e)]
            exact valOf_out ho2 (by rw [← ek]; exact lt_asym h2)
          · rw [if_neg ek]
        · rw [if_neg h]
          conv => lhs; unfold valOf
theorem last_none (key : Tx) (l : List Pair) (h : ∀ q ∈ l, q.key ≠ key) : lastL l key = [] := last_skip key l [] h
theorem layF_val (l : List Pair) : ∀ (m : Nat) (a : Option Tx) (k : Tx), cnt a l ≤ m → valOf (layF l m a) k = if gtO a k = true then lastL l k else []
  | 0, a, k, h => by
    rw [show layF l 0 a = [] from rfl]
    by_cases hg : gtO a k = true
    · rw [if_pos hg, last_none]
      · rfl
      · intro q hq e
        have hm : q ∈ l.filter fun p => gtO a p.key := List.mem_filter.2 ⟨hq, by rw [e]; exact hg⟩
        have := List.length_pos_of_mem hm
        unfold cnt at h
        omega
    · rw [if_neg hg]; rfl
  | m + 1, a, k, h => by
    unfold layF
    cases hL : leastL a l none with
    | none =>
      have hn := (least_none a l none hL).2
      dsimp only
      by_cases hg : gtO a k = true
      · rw [if_pos hg, last_none]
        · rfl
        · intro q hq e
          have := hn q hq
          rw [e, hg] at this; cases this
      · rw [if_neg hg]; rfl
    | some kk =>
      obtain ⟨h1, h2, _⟩ := least_some a l none kk hL
      have hgk : gtO a kk = true := by
        rcases h1 with h1 | ⟨p, hp, e, g⟩
        · cases h1
        · exact g
      have hc := cnt_lt hL
      have ih := fun k => layF_val l m (some kk) k (by omega)
      dsimp only
      have step : valOf (if lastL l kk = [] then layF l m (some kk) else ⟨kk, lastL l kk⟩ :: layF l m (some kk)) k = if kk = k then lastL l k else valOf (layF l m (some kk)) k := by
        by_cases e : kk = k
        · subst e
          rw [if_pos rfl]
          split
          · rename_i h0; rw [ih, if_neg (by rw [gtO_irr]; simp), h0]
          · unfold valOf; rw [if_pos rfl]
        · rw [if_neg e]
          split
          · rfl
          · conv => lhs; unfold valOf
            rw [if_neg e]
      rw [step, ih]
      by_cases e : kk = k
      · subst e; rw [if_pos rfl, if_pos hgk]
      · rw [if_neg e]
        by_cases hk : gtO (some kk) k = true
        · rw [if_pos hk, if_pos (gtO_tr hgk hk)]
        · rw [if_neg hk]
          by_cases hg : gtO a k = true
          · rw [if_pos hg, last_none]
            intro q hq eq
            have h3 := h2 q hq (by rw [eq]; exact hg)
            have h4 : Op.bytesLess k kk = true := lt_tot (by simpa [gtO] using hk) e
            rw [eq, h4] at h3; cases h3
          · rw [if_neg hg]
def layAll (l : List Pair) : List Pair := l.foldl layOne []
theorem layAll_ok (l : List Pair) : ∀ (x : List Pair), okSt none x = true → okSt none (l.foldl layOne x) = true := by
  induction l with
  | nil => intro x h; exact h
  | cons p l ih => intro x h; rw [List.foldl_cons]; exact ih _ (layOne_ok p h rfl)
theorem layAll_val (l : List Pair) : ∀ (x : List Pair), okSt none x = true → ∀ k, valOf (l.foldl layOne x) k = l.foldl (fun v p => if p.key = k then p.val else v) (valOf x k) := by
  induction l with
  | nil => intro x h k; rfl
  | cons p l ih => intro x h k; rw [List.foldl_cons, List.foldl_cons, ih _ (layOne_ok p h rfl), layOne_val p k h]
/-- One by one, or least by least: the same. -/
theorem lay_both (l : List Pair) (m : Nat) (hm : l.length ≤ m) : layAll l = layF l m none := by
  refine over_ext (a := none) (layAll_ok l [] rfl) (lay_ok l m none) fun k => ?_
  rw [layF_val l m none k (Nat.le_trans (cnt_le none l) hm), if_pos (show gtO none k = true from rfl)]
  exact layAll_val l [] rfl k
theorem layOne_len (p : Pair) : ∀ x : List Pair, (layOne x p).length ≤ x.length + 1
  | [] => by unfold layOne; split <;> simp
  | q :: x => by
    have ih := layOne_len p x
    unfold layOne
    repeat' split
    all_goals simp only [List.length_cons]; omega
/-- The order that strings.Compare tells. -/
theorem compare_lt : ∀ a b : Tx, Lib.compareBytes a b < 0 ↔ Op.bytesLess a b = true
  | [], [] => by simp [Lib.compareBytes, Op.bytesLess]
  | [], _ :: _ => by simp [Lib.compareBytes, Op.bytesLess]
  | _ :: _, [] => by simp [Lib.compareBytes, Op.bytesLess]
  | a :: x, b :: y => by
    have ih := compare_lt x y
    rw [lt_cons]
    unfold Lib.compareBytes
    by_cases h1 : a < b
    · rw [if_pos h1]
      rw [UInt8.lt_iff_toNat_lt] at h1
      simp [h1]
    · rw [if_neg h1]
      by_cases h2 : b < a
      · rw [if_pos h2]
        rw [UInt8.lt_iff_toNat_lt] at h1 h2
        constructor
        · intro h; omega
        · rintro (h | ⟨rfl, _⟩)
          · exact absurd h h1
          · omega
      · rw [if_neg h2, ih]
        rw [UInt8.lt_iff_toNat_lt] at h1 h2
        have e : a = b := UInt8.toNat_inj.1 (by omega)
        subst e
        simp
end Go.Proofs.YtbkhmkcmbaffoaaGreatDoor.Eng.U


/- The sort of pairs by their keys, at the library's own sort. -/
set_option linter.unusedVariables false
set_option linter.unusedSectionVars false
set_option linter.unusedSimpArgs false
namespace Go.Proofs.YtbkhmkcmbaffoaaGreatDoor.S11
open Go Go.RowKit Go.Shelf Go.Proofs Go.Proofs.YtbkhmkcmbaffoaaGreatDoor.Eng Go.Proofs.YtbkhmkcmbaffoaaGreatDoor.Eng.U

def flatP (l : List Pair) : List Value := l.flatMap fun p => [.string (str p.key), .string (str p.val)]
theorem flatP_snoc (l : List Pair) (p : Pair) : flatP (l ++ [p]) = flatP l ++ [.string (str p.key), .string (str p.val)] := by simp [flatP]
theorem flatP_len (l : List Pair) : (flatP l).length = l.length * 2 := by
  induction l with
  | nil => rfl
  | cons p l ih =>
    show ([_, _] ++ flatP l).length = _
    rw [List.length_append, ih, List.length_cons]
    simp; omega
def Sorted (l : List Pair) : Prop := l.Pairwise fun p q => ¬ Lib.compareBytes q.key p.key < 0
def encP (p : Pair) : List Value := [.string (str p.key), .string (str p.val)]
def cmpP (x y : Pair) : Int := Lib.compareBytes x.key y.key
theorem flat_at : ∀ (l : List Pair) (t : Nat), t < l.length * 2 → (flatP l)[t]? = (encP (l.getD (t / 2) default))[t % 2]?
  | [], t, h => by simp at h
  | p :: l, 0, h => rfl
  | p :: l, 1, h => rfl
  | p :: l, t + 2, h => by
    have ih := flat_at l t (by simp at h; omega)
    have e1 : (t + 2) / 2 = t / 2 + 1 := by omega
    have e2 : (t + 2) % 2 = t % 2 := by omega
    rw [e1, e2]
    exact ih
theorem flatK_P (l : List Pair) : Go.Sort.flatK encP 2 l.toArray = (flatP l).toArray := by
  apply Array.ext
  · simp [flatP_len]
  · intro t h1 h2
    have h1' : t < l.length * 2 := by simpa using h1
    have hf := flat_at l t h1'
    have hg : (Go.Sort.flatK encP 2 l.toArray)[t]! = (encP l.toArray[t / 2]!)[t % 2]! := Go.Sort.get_flatK encP 2 l.toArray t (by simpa using h1')
    have hl : l.toArray[t / 2]! = l.getD (t / 2) default := by
      simp [Array.getElem!_eq_getD, Array.getD_eq_getD_getElem?, List.getD_eq_getElem?_getD]
    rw [getElem!_pos _ t h1] at hg
    rw [hg, hl]
    have h3 : t % 2 < (encP (l.getD (t / 2) default)).length := by
      show t % 2 < 2
      omega
    have h4 : (flatP l).toArray[t] = (flatP l)[t]'(by simpa using h2) := by simp
    rw [h4]
    rw [List.getElem?_eq_getElem (by simpa using h2), List.getElem?_eq_getElem h3] at hf
    rw [getElem!_pos (encP (l.getD (t / 2) default)) (t % 2) h3]
    exact (Option.some.inj hf).symm
theorem holds_id {w : World} {g : Nat} {cur : Array Value} {e : TypeId} {vs : List Value} (hb : w.heap[g]? = some (.cells cur e (0, 0))) (ht : cur.toList.take vs.length = vs) : Go.Sort.Holds id w g 0 vs.toArray := by
  intro j hj
  have hj' : j < vs.length := by simpa using hj
  refine ⟨?_, by simp [World.frozen?, hb]⟩
  have h1 : (cur.toList.take vs.length)[j]? = vs[j]? := by rw [ht]
  rw [List.getElem?_take_of_lt hj'] at h1
  simp only [World.cell?, hb, Nat.zero_add]
  simp only [Option.isSome_none, Bool.false_eq_true, if_false]
  rw [← Array.getElem?_toList, h1]
  simp [hj']
theorem heap_sorted_id {w : World} {g n : Nat} {os : Array Obj} {cur : Array Value} {e : TypeId} {fr : Nat × Nat} (d : Array Value) (hb : w.heap[g]? = some (.cells cur e fr)) :
    (Go.Sort.grow (Go.Sort.putRow id (Go.Sort.ahead w n) g 0 d) os).heap[g]? = some (.cells (Go.Sort.putCells id 0 d cur) e fr) := by
  have hg : g < w.heap.size := (Array.getElem?_eq_some_iff.1 hb).1
  rw [Go.Sort.heap_grow_old _ _ (by simpa using hg)]
  simp [Go.Sort.putRow, Go.Sort.mapBlock, Go.Sort.ahead, Array.getElem?_modify, hb, Go.Sort.onCells]
theorem grown_sorted_id {w : World} {g n : Nat} {os : Array Obj} (d : Array Value) : w.grownBy (Go.Sort.grow (Go.Sort.putRow id (Go.Sort.ahead w n) g 0 d) os) (some g) := by
  refine ⟨rfl, rfl, rfl, by simp, fun k hk hne => ?_⟩
  rw [Go.Sort.heap_grow_old _ _ (by simpa using hk)]
  have : g ≠ k := fun e => hne (by rw [e])
  simp [Go.Sort.putRow, Go.Sort.mapBlock, Go.Sort.ahead, Array.getElem?_modify, this]
theorem take_put_id (cur : Array Value) (ts : List Value) (h : ts.length ≤ cur.size) : (Go.Sort.putCells id 0 ts.toArray cur).toList.take ts.length = ts := by
  apply List.ext_getElem?
  intro j
  by_cases hj : j < ts.length
  · rw [List.getElem?_take_of_lt hj, Array.getElem?_toList]
    simp [Go.Sort.putCells, hj, show j < cur.size by omega]
  · rw [List.getElem?_take_eq_none (by omega), List.getElem?_eq_none (by omega)]
set_option maxHeartbeats 1000000 in
theorem cmp_walk (x y : Pair) (W : World) : Calls Tryz.prog 54 #[.agg #[.string (str x.key), .string (str x.val)], .agg #[.string (str y.key), .string (str y.val)]] W fun e w' => e = .returned (.int .i64 (cmpP x y)) ∧ ∃ q os', w' = Go.Sort.grow (W.drewN q) os' := by
  have hcon := fun W' => Tryz.strings_Compare (str x.key) (str y.key) W'
  change ∀ W', Calls Tryz.prog 55 _ _ (fun e w' => e = .returned (.int .i64 (cmpP x y)) ∧ _) at hcon
  generalize cmpP x y = r at hcon ⊢
  go_enter Tryz.func54, Tryz.ntmps54
  go_wp2_with (go_at_call 55; refine (hcon _).mono ?_; rintro e w' ⟨rfl, rfl⟩)
  go_ret
  exact ⟨rfl, 0, _, by rw [Go.Sort.alloc_eq_grow, Go.Sort.alloc_eq_grow, Go.Sort.grow_grow]; rfl⟩
theorem ltP (x y : Pair) : Go.Proofs.ltOf cmpP x y = Op.bytesLess x.key y.key := by
  unfold Go.Proofs.ltOf cmpP
  rw [Bool.eq_iff_iff, decide_eq_true_eq]
  exact compare_lt _ _
theorem swoP : Go.Sort.SWO (Go.Proofs.ltOf cmpP) where
  irrefl x := by rw [ltP]; exact lt_irr _
  trans x y z h1 h2 := by rw [ltP] at *; exact lt_tr h1 h2
  ntrans x y z h1 h2 := by
    rw [ltP] at *
    cases h : Op.bytesLess x.key z.key with
    | false => rfl
    | true =>
      by_cases e1 : x.key = y.key
      · rw [e1] at h; rw [h] at h2; exact h2
      · have h3 := lt_tot h1 e1
        rw [lt_tr h3 h] at h2
        exact h2
set_option maxRecDepth 1000000 in
theorem sort_calls (l : List Pair) (w : World) (g cap n1 : Nat) (cur : Array Value) (hbase : n1 ≤ g) (hb : w.heap[g]? = some (.cells cur 50 (0, 0))) (h1 : l.length ≤ cap) (h2 : cap ≤ maxLen) (h3 : cur.size = cap * 2) (h4 : cur.toList.take (l.length * 2) = flatP l) (hl : l.length ≤ 1000000) :
    Calls Tryz.prog 53 #[.slice (some ⟨g, 0, none⟩) l.length cap, .func (.func 54) #[] #[]] w fun e w' =>
      e = .returned (.tuple #[]) ∧ ∃ l', l'.Perm l ∧ Sorted l' ∧ w'.ownsRow n1 50 2 (.slice (some ⟨g, 0, none⟩) l.length cap) l'.length (flatP l') ∧ w.grownBy w' (some g) := by
  have eg : ∀ args w, (callFunc 54 args).run Tryz.prog w = .ok (.enter 54 args) w := enters_of Tryz.func54 (by kernel_rfl) rfl
  have hH : Go.Sort.HoldsK encP 2 w g 0 l.toArray := by
    unfold Go.Sort.HoldsK
    rw [flatK_P]
    exact holds_id hb (by rw [flatP_len]; exact h4)
  have hcon := Go.Proofs.AnyQ.slices_SortFunc Tryz.sortP 2 (fun w => (run_isAgg 50 Tryz.underlying50).trans (by kernel_rfl)) (fun w => (Go.Proofs.YtbkhmkcmbaffoaaGreatDoor.Eng.run_sizeOf (w := w) Tryz.underlying50).trans (by kernel_rfl)) encP (fun _ => rfl) (fun x v hv => by simp [encP] at hv; rcases hv with rfl | rfl <;> rfl) cmpP swoP 54 #[] g 0 cap l.toArray w eg (fun _ _ _ _ x y => cmp_walk x y _) hH (Array.getElem?_eq_some_iff.1 hb).1 (by simp; omega)
  change Calls Tryz.prog 53 _ _ _ at hcon
  have hs : l.toArray.size = l.length := by simp
  rw [hs] at hcon
  refine hcon.mono ?_
  rintro e w' ⟨he, d', n, os, ⟨p1, p2, p3⟩, hsd, rfl⟩
  refine ⟨he, d'.toList, ?_, ?_, ?_, ?_⟩
  · have e1 : d'.extract 0 l.length = d' := by rw [← hs, ← p1]; simp
    have e2 : l.toArray.extract 0 l.length = l.toArray := by rw [← hs]; simp
    rw [e1, e2] at p3
    simpa using p3
  · unfold Sorted
    rw [List.pairwise_iff_getElem]
    intro i j hi hj hij
    have hi' : i < d'.size := by simpa using hi
    have hj' : j < d'.size := by simpa using hj
    have := hsd i j (Nat.zero_le _) hij (by rw [p1, hs] at hj'; exact hj')
    rw [getElem!_pos d' i hi', getElem!_pos d' j hj'] at this
    unfold Go.Proofs.ltOf cmpP at this
    simpa using this
  · have hln : d'.toList.length = l.length := by rw [Array.length_toList, p1, hs]
    have hfl : (flatP d'.toList).length = l.length * 2 := by rw [flatP_len, hln]
    have hd : Go.Sort.flatK encP 2 d' = (flatP d'.toList).toArray := by rw [← flatK_P]
    refine ⟨hfl.trans (by rw [hln]), .inr ⟨g, cap, Go.Sort.putCells id 0 (flatP d'.toList).toArray cur, ?_, hbase, ?_, by rw [hln]; exact h1, h2, by simp [Go.Sort.putCells, h3], ?_⟩⟩
    · rw [hln]
    · show (Go.Sort.grow (Go.Sort.putRow id (Go.Sort.ahead w n) g 0 (Go.Sort.flatK encP 2 d')) os).heap[g]? = _
      rw [hd]
      exact heap_sorted_id _ hb
    · rw [hln, ← hfl]
      exact take_put_id cur _ (by rw [hfl, h3]; omega)
  · exact grown_sorted_id _
end Go.Proofs.YtbkhmkcmbaffoaaGreatDoor.S11


/- slices.Clone, walked: at pairs and at bytes. -/
set_option linter.unusedVariables false
set_option linter.unusedSimpArgs false
set_option linter.unusedSectionVars false
namespace Go.Proofs.YtbkhmkcmbaffoaaGreatDoor.S40
open Go Go.RowKit Go.Shelf Go.Proofs Go.Proofs.YtbkhmkcmbaffoaaGreatDoor.Eng Go.Proofs.YtbkhmkcmbaffoaaGreatDoor.Eng.U

theorem infoP : (Tryz.prog.info? 50).map (fun i => (i.zero, i.size, i.bytes)) = some (some (.agg #[.string ⟨#[]⟩, .string ⟨#[]⟩]), 2, 32) := by kernel_rfl
theorem cell_alloc {w : World} {o : Obj} {x : Addr} {u : Value} (h : w.cell? x = some u) : (w.alloc o).cell? x = some u :=
  (World.cell?_of_block (Below.heap_alloc w o x.block (World.block_lt_of_cell? w x h))).trans h
set_option maxHeartbeats 2000000 in
set_option maxRecDepth 100000 in
theorem pairs_nil (w : World) : Calls Tryz.prog 48 #[.slice none 0 0] w fun e w' => e = .returned (.slice none 0 0) ∧ w' = w := by
  have hnil := fun (W : World) (a : Option Addr) (n c : Nat) => Go.Lib.run_eql_slice_nil (P := Tryz.prog) W 24 50 a n c 0 0 Tryz.underlying24
  go_enter Tryz.func48, Tryz.ntmps48
  go_wp2
  go_ret
  exact ⟨rfl, rfl⟩
set_option maxHeartbeats 2000000 in
set_option maxRecDepth 100000 in
theorem pairs_some (a : Addr) (m c : Nat) (news : List Value) (w : World) (hl : news.length = m * 2) (hnews : ∀ j u, news[j]? = some u → w.cell? (a.add j) = some u) (h1 : ∀ u ∈ news, u.oneCell' = true) (hm : m ≤ 1000000000) :
    Calls Tryz.prog 48 #[.slice (some a) m c] w fun e w' => ∃ v, e = .returned v ∧ w'.ownsRow w.heap.size 50 2 v m news ∧ Below w.heap.size w w' := by
  have hnil := fun (W : World) (a : Option Addr) (n c : Nat) => Go.Lib.run_eql_slice_nil (P := Tryz.prog) W 24 50 a n c 0 0 Tryz.underlying24
  obtain ⟨i0, hi, hz0, hz1, hz2⟩ := info_parts infoP
  refine (callsIn_wide (n := 3)).1 ?_
  refine callsIn_of_wp Tryz.func48 rfl trivial ?_ rfl
  simp only [Tryz.ntmps48, List.size_toArray, List.length_cons, List.length_nil, Nat.reduceAdd, Nat.reduceSub, Array.replicate_succ, Array.replicate_zero, List.push_toArray, List.append_toArray, List.nil_append, List.cons_append]
  have hrow : (w.alloc (.cells #[] 50)).ownsRow w.heap.size 50 2 (.slice (some ⟨w.heap.size, 0, none⟩) 0 0) 0 [] := World.ownsRow_made w #[] 0 (Nat.le_refl _) (Nat.zero_le _) rfl
  gi_wp2_with (gi_at_builtin; refine wpListIn_append_own _ rfl _ _ 24 rfl w.heap.size 50 i0 (.agg #[.string ⟨#[]⟩, .string ⟨#[]⟩]) 2 32 Tryz.underlying24 hi hz0 hz1 hz2 rfl (by decide) _ _ _ rfl hrow a m c news rfl hl (fun j u h => cell_alloc (hnews j u h)) h1 (by simp only [maxLen]; omega) (by omega) (by simp) ?_; intro v' w1 hown' hgrow _)
  refine bodyPost_ret (results_tmp rfl _ _ _) rfl ?_
  refine ⟨_, rfl, by simpa using hown', ((Below.refl _ w).alloc (Nat.le_refl _) _).grown hgrow (by simp) fun k e => ?_⟩
  have e : some w.heap.size = some k := e
  cases e
  exact Nat.le_refl _
end Go.Proofs.YtbkhmkcmbaffoaaGreatDoor.S40


/- rep.Records, walked. -/
set_option linter.unusedVariables false
set_option linter.unusedSectionVars false
set_option linter.unusedSimpArgs false
namespace Go.Proofs.YtbkhmkcmbaffoaaGreatDoor.S11
open Go Go.RowKit Go.Shelf Go.Proofs Go.Proofs.YtbkhmkcmbaffoaaGreatDoor.Eng Go.Proofs.YtbkhmkcmbaffoaaGreatDoor.Eng.U

def kPath : Tx := [112, 97, 116, 104]
def kLink : Tx := [108, 105, 110, 107, 112, 97, 116, 104]
def kUid : Tx := [117, 105, 100]
def kGid : Tx := [103, 105, 100]
def kSize : Tx := [115, 105, 122, 101]
def kTime : Tx := [109, 116, 105, 109, 101]
def kUser : Tx := [117, 110, 97, 109, 101]
def kGroup : Tx := [103, 110, 97, 109, 101]
def addP (c : Bool) (p : Pair) (l : List Pair) : List Pair := bif c then l else l ++ [p]
/-- The pairs of a head's records, as they are put. -/
def rawL (h : Head) (c : Int → Bool) (fn tu tg ts tm : Tx) : List Pair :=
  addP (c 10) ⟨kGroup, h.group⟩ (addP (c 9) ⟨kUser, h.user⟩ (addP (c 8) ⟨kTime, tm⟩ (addP (c 7) ⟨kSize, ts⟩ (addP (c 6) ⟨kGid, tg⟩ (addP (c 5) ⟨kUid, tu⟩ (addP (c 3) ⟨kLink, h.link⟩ (addP (c 2) ⟨kPath, fn⟩ h.extra)))))))
theorem addP_len (c : Bool) (p : Pair) (l : List Pair) : (addP c p l).length ≤ l.length + 1 := by cases c <;> simp [addP]
theorem add_pair (w0 : World) (n1 bh bl : Nat) (h : Head) (sv : Value) (l : List Pair) (W : World) (f : Int) (key val : Tx) (b : Bool)
    (hS : St w0 n1 bh bl h sv (flatP l) l.length W) (hn1 : w0.heap.size ≤ n1) (hbh : bh < n1) (hbl : w0.heap.size ≤ bl) (hne : bh ≠ bl) (hn : n1 ≤ W.heap.size) (hm : l.length ≤ 1000)
    (hcan : ∀ W1, Below w0.heap.size w0 W1 → Calls Tryz.prog 47 #[.int .i64 2, .agg (headV h sv), .int .i64 f] W1 fun e w' => e = .returned (.bool b) ∧ Below W1.heap.size W1 w') :
    Calls Tryz.prog 49 #[.int .i64 f, .string (str key), .string (str val), .pointer (some ⟨bh, 0, none⟩), .pointer (some ⟨bl, 0, none⟩)] W fun e W' =>
      e = .returned (.tuple #[]) ∧ St w0 n1 bh bl h sv (flatP (addP b ⟨key, val⟩ l)) (addP b ⟨key, val⟩ l).length W' ∧ n1 ≤ W'.heap.size := by
  refine (add_walk w0 n1 bh bl h sv (flatP l) l.length W f key val b hS hn1 hbh hbl hne hn hm (fun W1 hb => hcan W1 (hS.below.trans (hb.mono hS.below.size)))).mono ?_
  rintro e W' ⟨he, hs, hz⟩
  refine ⟨he, ?_, by omega⟩
  cases b with
  | true => exact hs
  | false =>
    have e1 : flatP (addP false ⟨key, val⟩ l) = flatP l ++ [.string (str key), .string (str val)] := flatP_snoc l ⟨key, val⟩
    have e2 : (addP false ⟨key, val⟩ l).length = l.length + 1 := by simp [addP]
    rw [e1, e2]
    exact hs
def fld (j : Nat) : Int := ([2, 3, 9, 10] : List Int).getD j 0
set_option maxRecDepth 100000 in
theorem idx4 (w : World) (i : Nat) (hi : i < 4) : Sem.run Tryz.prog (Instr.index 84 (.agg #[.int .i64 2, .int .i64 3, .int .i64 9, .int .i64 10]) (.int .i64 ((i : Nat) : Int))) w = .ok (.int .i64 (fld i)) w := by
  have hc : i = 0 ∨ i = 1 ∨ i = 2 ∨ i = 3 := by omega
  rcases hc with rfl | rfl | rfl | rfl <;> rfl
theorem own_low {w : World} {b b' : Nat} {e : TypeId} {size : Nat} {v : Value} {n : Nat} {xs : List Value} (h : w.ownsRow b e size v n xs) (hb : b' ≤ b) : w.ownsRow b' e size v n xs := by
  refine ⟨h.1, ?_⟩
  rcases h.2 with h | ⟨g, cap, cur, hv, hg, r⟩
  · exact .inl h
  · exact .inr ⟨g, cap, cur, hv, by omega, r⟩
theorem row_shape {w : World} {B e size n : Nat} {v : Value} {xs : List Value} (h : w.ownsRow B e size v n xs) : ∃ a m c, v = .slice a m c := by
  rcases h.2 with ⟨rfl, _⟩ | ⟨g, cap, cur, rfl, _⟩
  · exact ⟨_, _, _, rfl⟩
  · exact ⟨_, _, _, rfl⟩
structure Callees (h : Head) (sv : Value) (w : World) (wg : Int) (q3 q2 : Int → Bool) (fn tm : Tx) (tc : Int) (tx : Int → Tx) : Prop where
  wrong : ∀ W, Below w.heap.size w W → Calls Tryz.prog 12 #[.agg (headV h sv)] W fun e w' => e = .returned (.int .i64 wg) ∧ Below W.heap.size W w'
  can3 : ∀ f, f = 2 ∨ f = 3 ∨ f = 9 ∨ f = 10 → ∀ W, Below w.heap.size w W → Calls Tryz.prog 47 #[.int .i64 3, .agg (headV h sv), .int .i64 f] W fun e w' => e = .returned (.bool (q3 f)) ∧ Below W.heap.size W w'
  can2 : ∀ f, (1 ≤ f ∧ f ≤ 13) → ∀ W, Below w.heap.size w W → Calls Tryz.prog 47 #[.int .i64 2, .agg (headV h sv), .int .i64 f] W fun e w' => e = .returned (.bool (q2 f)) ∧ Below W.heap.size W w'
  print : ∀ W, Below w.heap.size w W → Calls Tryz.prog 50 #[.agg #[.int .i64 h.sec, .int .i64 h.nano]] W fun e w' => e = .returned (.tuple #[.string (str tm), .int .u8 tc]) ∧ Below W.heap.size W w'
  fulls : ∀ W, Below w.heap.size w W → Calls Tryz.prog 51 #[.agg (headV h sv)] W fun e w' => (∃ a n cap, e = .returned (.slice (some a) (n + 1) cap) ∧ w'.cell? a = some (.string (str fn))) ∧ Below W.heap.size W w'
  text : ∀ v, (v = h.uid ∨ v = h.gid ∨ v = h.size) → ∀ W, Below w.heap.size w W → Calls Tryz.prog 52 #[.int .i64 v] W fun e w' => e = .returned (.string (str (tx v))) ∧ Below W.heap.size W w'
set_option maxHeartbeats 8000000 in
set_option maxRecDepth 1000000 in
theorem records_walk (h : Head) (sv : Value) (w : World) (wg : Int) (q3 q2 : Int → Bool) (fn tm : Tx) (tc : Int) (tx : Int → Tx) (hC : Callees h sv w wg q3 q2 fn tm tc tx)
    (hclone : ∀ W, Below w.heap.size w W → Calls Tryz.prog 48 #[sv] W fun e w' => ∃ v, e = .returned v ∧ w'.ownsRow W.heap.size 50 2 v h.extra.length (flatP h.extra) ∧ Below W.heap.size W w') (hl : h.extra.length ≤ 100) :
    Calls Tryz.prog 14 #[.agg (headV h sv)] w fun e w' => Below w.heap.size w w' ∧ ((wg ≠ 0 ∧ e = .returned (.tuple #[.slice none 0 0, .int .u8 15])) ∨ (wg = 0 ∧ (∃ j, j < 4 ∧ q3 (fld j) = false) ∧ e = .returned (.tuple #[.slice none 0 0, .int .u8 13])) ∨
      (wg = 0 ∧ (∀ j, j < 4 → q3 (fld j) = true) ∧ ∃ v l', e = .returned (.tuple #[v, .int .u8 0]) ∧ w'.ownsRow w.heap.size 50 2 v l'.length (flatP l') ∧ l'.Perm (rawL h q2 fn (tx h.uid) (tx h.gid) (tx h.size) tm) ∧ Sorted l')) := by
  have hb0 : Below w.heap.size w (w.alloc (.cells (headV h sv) 26)) := (Below.refl _ w).alloc (Nat.le_refl _) _
  have hx0 : HBox (w.alloc (.cells (headV h sv) 26)) w.heap.size h sv := World.alloc_heap_new w _
  have c0 := HBox.cell hx0 0 _ rfl
  have c1 := HBox.cell hx0 1 _ rfl
  have c2 := HBox.cell hx0 2 _ rfl
  have c3 := HBox.cell hx0 3 _ rfl
  have c4 := HBox.cell hx0 4 _ rfl
  have c5 := HBox.cell hx0 5 _ rfl
  have c6 := HBox.cell hx0 6 _ rfl
  have c7 := HBox.cell hx0 7 _ rfl
  have c8 := HBox.cell hx0 8 _ rfl
  have c9 := HBox.cell hx0 9 _ rfl
  have c10 := HBox.cell hx0 10 _ rfl
  have c11 := HBox.cell hx0 11 _ rfl
  have c12 := HBox.cell hx0 12 _ rfl
  have c13 := HBox.cell hx0 13 _ rfl
  go_enter Tryz.func14, Tryz.ntmps14
  go_wp2_with (go_at_call 12; refine (hC.wrong _ hb0).mono ?_)
  rintro e w1 ⟨rfl, b1⟩
  have B1 := hb0.trans (b1.mono hb0.size)
  have hx1 : HBox w1 w.heap.size h sv := (b1.block _ (by simp)).trans hx0
  clear c0 c1 c2 c3 c4 c5 c6 c7 c8 c9 c10 c11 c12 c13
  go_wp2
  · have hw : (wg != 0) = true := by assumption
    refine bodyPost_ret (results_tmp2 rfl _ _ _) rfl ?_
    exact ⟨B1, .inl ⟨by simpa using hw, rfl⟩⟩
  have hw : (wg != 0) = false := by assumption
  have hw0 : wg = 0 := by simpa using hw
  have hwO : ∃ _ : Unit, wg = 0 := ⟨(), hw0⟩
  rw [hw]
  clear hw hw0
  go_loopw [14] (fun s14 W => ∃ i : Nat, (i = 0 ∧ s14 = .int .i64 0 ∨ i = 1 ∧ s14 = .int .i64 1 ∨ i = 2 ∧ s14 = .int .i64 2 ∨ i = 3 ∧ s14 = .int .i64 3 ∨ i = 4 ∧ s14 = .int .i64 4) ∧ (∀ j, j < i → q3 (fld j) = true) ∧ Below w.heap.size w W ∧ HBox W w.heap.size h sv) (fun s14 W => 4 - (intOf s14).toNat)
  case atStart =>
    exact ⟨0, .inl ⟨rfl, rfl⟩, fun j hj => by omega, B1, hx1⟩
  case round =>
    obtain ⟨i, hcs, hall, hBW, hxW⟩ := hrel
    have hlt : w.heap.size < wr.heap.size := (Array.getElem?_eq_some_iff.1 hxW).1
    have c0 := HBox.cell hxW 0 _ rfl
    have c1 := HBox.cell hxW 1 _ rfl
    have c2 := HBox.cell hxW 2 _ rfl
    have c3 := HBox.cell hxW 3 _ rfl
    have c4 := HBox.cell hxW 4 _ rfl
    have c5 := HBox.cell hxW 5 _ rfl
    have c6 := HBox.cell hxW 6 _ rfl
    have c7 := HBox.cell hxW 7 _ rfl
    have c8 := HBox.cell hxW 8 _ rfl
    have c9 := HBox.cell hxW 9 _ rfl
    have c10 := HBox.cell hxW 10 _ rfl
    have c11 := HBox.cell hxW 11 _ rfl
    have c12 := HBox.cell hxW 12 _ rfl
    have c13 := HBox.cell hxW 13 _ rfl
    rcases hcs with ⟨rfl, rfl⟩ | ⟨rfl, rfl⟩ | ⟨rfl, rfl⟩ | ⟨rfl, rfl⟩ | ⟨rfl, rfl⟩
    · have hix := idx4 wr 0 (by omega)
      change Sem.run _ (Instr.index _ _ (.int .i64 0)) wr = .ok (.int .i64 2) wr at hix
      go_wp2_with (first | (rw [hix]) | (go_at_call 47; refine (hC.can3 2 (by omega) _ hBW).mono ?_))
      rintro e W1 ⟨rfl, b2⟩
      have B2 := hBW.trans (b2.mono hBW.size)
      have hx2 : HBox W1 w.heap.size h sv := (b2.block _ hlt).trans hxW
      cases hc : q3 2 with
      | false =>
        go_wp2
        refine bodyPost_ret (results_tmp2 rfl _ _ _) rfl ?_
        exact ⟨B2, .inr (.inl ⟨let ⟨_, hw0⟩ := hwO; hw0, ⟨0, by omega, hc⟩, rfl⟩)⟩
      | true =>
        go_wp2
        go_roundw
        case rel =>
          refine ⟨1, by simp, fun j hj => ?_, B2, hx2⟩
          by_cases e : j = 0
          · subst e; exact hc
          · exact hall j (by omega)
        case measure =>
          show 4 - (intOf (.int .i64 1)).toNat < 4 - (intOf (.int .i64 0)).toNat
          decide
    · have hix := idx4 wr 1 (by omega)
      change Sem.run _ (Instr.index _ _ (.int .i64 1)) wr = .ok (.int .i64 3) wr at hix
      go_wp2_with (first | (rw [hix]) | (go_at_call 47; refine (hC.can3 3 (by omega) _ hBW).mono ?_))
      rintro e W1 ⟨rfl, b2⟩
      have B2 := hBW.trans (b2.mono hBW.size)
      have hx2 : HBox W1 w.heap.size h sv := (b2.block _ hlt).trans hxW
      cases hc : q3 3 with
      | false =>
        go_wp2
        refine bodyPost_ret (results_tmp2 rfl _ _ _) rfl ?_
        exact ⟨B2, .inr (.inl ⟨let ⟨_, hw0⟩ := hwO; hw0, ⟨1, by omega, hc⟩, rfl⟩)⟩
      | true =>
        go_wp2
        go_roundw
        case rel =>
          refine ⟨2, by simp, fun j hj => ?_, B2, hx2⟩
          by_cases e : j = 1
          · subst e; exact hc
          · exact hall j (by omega)
        case measure =>
          show 4 - (intOf (.int .i64 2)).toNat < 4 - (intOf (.int .i64 1)).toNat
          decide
    · have hix := idx4 wr 2 (by omega)
      change Sem.run _ (Instr.index _ _ (.int .i64 2)) wr = .ok (.int .i64 9) wr at hix
      go_wp2_with (first | (rw [hix]) | (go_at_call 47; refine (hC.can3 9 (by omega) _ hBW).mono ?_))
      rintro e W1 ⟨rfl, b2⟩
      have B2 := hBW.trans (b2.mono hBW.size)
      have hx2 : HBox W1 w.heap.size h sv := (b2.block _ hlt).trans hxW
      cases hc : q3 9 with
      | false =>
        go_wp2
        refine bodyPost_ret (results_tmp2 rfl _ _ _) rfl ?_
        exact ⟨B2, .inr (.inl ⟨let ⟨_, hw0⟩ := hwO; hw0, ⟨2, by omega, hc⟩, rfl⟩)⟩
      | true =>
        go_wp2
        go_roundw
        case rel =>
          refine ⟨3, by simp, fun j hj => ?_, B2, hx2⟩
          by_cases e : j = 2
          · subst e; exact hc
          · exact hall j (by omega)
        case measure =>
          show 4 - (intOf (.int .i64 3)).toNat < 4 - (intOf (.int .i64 2)).toNat
          decide
    · have hix := idx4 wr 3 (by omega)
      change Sem.run _ (Instr.index _ _ (.int .i64 3)) wr = .ok (.int .i64 10) wr at hix
      go_wp2_with (first | (rw [hix]) | (go_at_call 47; refine (hC.can3 10 (by omega) _ hBW).mono ?_))
      rintro e W1 ⟨rfl, b2⟩
      have B2 := hBW.trans (b2.mono hBW.size)
      have hx2 : HBox W1 w.heap.size h sv := (b2.block _ hlt).trans hxW
      cases hc : q3 10 with
      | false =>
        go_wp2
        refine bodyPost_ret (results_tmp2 rfl _ _ _) rfl ?_
        exact ⟨B2, .inr (.inl ⟨let ⟨_, hw0⟩ := hwO; hw0, ⟨3, by omega, hc⟩, rfl⟩)⟩
      | true =>
        go_wp2
        go_roundw
        case rel =>
          refine ⟨4, by simp, fun j hj => ?_, B2, hx2⟩
          by_cases e : j = 3
          · subst e; exact hc
          · exact hall j (by omega)
        case measure =>
          show 4 - (intOf (.int .i64 4)).toNat < 4 - (intOf (.int .i64 3)).toNat
          decide
    · go_wp2_with (go_at_call 48; refine (hclone _ hBW).mono ?_)
      rintro e W1 ⟨cv, rfl, hrow, b2⟩
      obtain ⟨ca, cn, cc, rfl⟩ := row_shape hrow
      have B2 := hBW.trans (b2.mono hBW.size)
      have hx2 : HBox W1 w.heap.size h sv := (b2.block _ hlt).trans hxW
      have hW1 : wr.heap.size ≤ W1.heap.size := b2.size
      have a1 := Boxed.new W1 24 (.slice ca cn cc)
      have s0 : St w wr.heap.size w.heap.size W1.heap.size h sv (flatP h.extra) h.extra.length (W1.alloc (.cells #[.slice ca cn cc] 24)) := by
        refine ⟨(Below.heap_alloc _ _ _ (Array.getElem?_eq_some_iff.1 hx2).1).trans hx2, ⟨_, a1, hrow.alloc _⟩, B2.alloc (by omega) _⟩
      clear c0 c1 c2 c3 c4 c5 c6 c7 c8 c9 c10 c11 c12 c13
      have d7 := HBox.cell s0.head 7 _ rfl
      have d8 := HBox.cell s0.head 8 _ rfl
      have z1 := (Boxed.new W1 24 (.slice none 0 0)).cell
      have z2 := (Boxed.new W1 24 (.slice none 0 0)).frozen
      go_wp2_with (go_at_call 50; refine (hC.print _ s0.below).mono ?_)
      rintro e W2 ⟨rfl, b3⟩
      have l0 : h.extra.length ≤ 100 := hl
      have l1 : (addP (q2 2) ⟨kPath, fn⟩ h.extra).length ≤ 101 := Nat.le_trans (addP_len _ _ _) (by have := l0; omega)
      have l2 : (addP (q2 3) ⟨kLink, h.link⟩ (addP (q2 2) ⟨kPath, fn⟩ h.extra)).length ≤ 102 := Nat.le_trans (addP_len _ _ _) (by have := l1; omega)
      have l3 : (addP (q2 5) ⟨kUid, tx h.uid⟩ (addP (q2 3) ⟨kLink, h.link⟩ (addP (q2 2) ⟨kPath, fn⟩ h.extra))).length ≤ 103 := Nat.le_trans (addP_len _ _ _) (by have := l2; omega)
      have l4 : (addP (q2 6) ⟨kGid, tx h.gid⟩ (addP (q2 5) ⟨kUid, tx h.uid⟩ (addP (q2 3) ⟨kLink, h.link⟩ (addP (q2 2) ⟨kPath, fn⟩ h.extra)))).length ≤ 104 := Nat.le_trans (addP_len _ _ _) (by have := l3; omega)
      have l5 : (addP (q2 7) ⟨kSize, tx h.size⟩ (addP (q2 6) ⟨kGid, tx h.gid⟩ (addP (q2 5) ⟨kUid, tx h.uid⟩ (addP (q2 3) ⟨kLink, h.link⟩ (addP (q2 2) ⟨kPath, fn⟩ h.extra))))).length ≤ 105 := Nat.le_trans (addP_len _ _ _) (by have := l4; omega)
      have l6 : (addP (q2 8) ⟨kTime, tm⟩ (addP (q2 7) ⟨kSize, tx h.size⟩ (addP (q2 6) ⟨kGid, tx h.gid⟩ (addP (q2 5) ⟨kUid, tx h.uid⟩ (addP (q2 3) ⟨kLink, h.link⟩ (addP (q2 2) ⟨kPath, fn⟩ h.extra)))))).length ≤ 106 := Nat.le_trans (addP_len _ _ _) (by have := l5; omega)
      have l7 : (addP (q2 9) ⟨kUser, h.user⟩ (addP (q2 8) ⟨kTime, tm⟩ (addP (q2 7) ⟨kSize, tx h.size⟩ (addP (q2 6) ⟨kGid, tx h.gid⟩ (addP (q2 5) ⟨kUid, tx h.uid⟩ (addP (q2 3) ⟨kLink, h.link⟩ (addP (q2 2) ⟨kPath, fn⟩ h.extra))))))).length ≤ 107 := Nat.le_trans (addP_len _ _ _) (by have := l6; omega)
      have t0 := s0.next b3
      have m0 : wr.heap.size ≤ W2.heap.size := by have := b3.size; simp at this; omega
      clear d7 d8 z1 z2 s0 b3
      have c0 := HBox.cell t0.head 0 _ rfl
      have c1 := HBox.cell t0.head 1 _ rfl
      have c2 := HBox.cell t0.head 2 _ rfl
      have c3 := HBox.cell t0.head 3 _ rfl
      have c4 := HBox.cell t0.head 4 _ rfl
      have c5 := HBox.cell t0.head 5 _ rfl
      have c6 := HBox.cell t0.head 6 _ rfl
      have c7 := HBox.cell t0.head 7 _ rfl
      have c8 := HBox.cell t0.head 8 _ rfl
      have c9 := HBox.cell t0.head 9 _ rfl
      have c10 := HBox.cell t0.head 10 _ rfl
      have c11 := HBox.cell t0.head 11 _ rfl
      have c12 := HBox.cell t0.head 12 _ rfl
      have c13 := HBox.cell t0.head 13 _ rfl
      go_wp2_with (go_at_call 51; refine (hC.fulls _ t0.below).mono ?_)
      rintro e W3 ⟨⟨fa, fm, fcap, rfl, hfc⟩, b4⟩
      clear c0 c1 c2 c3 c4 c5 c6 c7 c8 c9 c10 c11 c12 c13
      have t1 := t0.next b4
      have m1 : wr.heap.size ≤ W3.heap.size := Nat.le_trans m0 b4.size
      clear t0 m0 b4
      go_wp2_with (go_at_call 49; refine (add_pair w wr.heap.size w.heap.size W1.heap.size h sv _ _ 2 kPath fn (q2 2) t1 (Nat.le_of_lt hlt) hlt (by omega) (by omega) m1 (Nat.le_trans l0 (by omega)) (hC.can2 2 (by omega))).mono ?_)
      rintro e W4 ⟨rfl, t2, m2⟩
      clear t1 m1 hfc
      have d2 := HBox.cell t2.head 2 _ rfl
      go_wp2_with (go_at_call 49; refine (add_pair w wr.heap.size w.heap.size W1.heap.size h sv _ _ 3 kLink h.link (q2 3) t2 (Nat.le_of_lt hlt) hlt (by omega) (by omega) m2 (Nat.le_trans l1 (by omega)) (hC.can2 3 (by omega))).mono ?_)
      rintro e W5 ⟨rfl, t3, m3⟩
      clear t2 m2 d2
      have d4 := HBox.cell t3.head 4 _ rfl
      go_wp2_with (go_at_call 52; refine (hC.text _ (by simp) _ t3.below).mono ?_)
      rintro e W6 ⟨rfl, b4⟩
      clear d4
      have t4 := t3.next b4
      have m4 : wr.heap.size ≤ W6.heap.size := Nat.le_trans m3 b4.size
      clear t3 m3 b4
      go_wp2_with (go_at_call 49; refine (add_pair w wr.heap.size w.heap.size W1.heap.size h sv _ _ 5 kUid (tx h.uid) (q2 5) t4 (Nat.le_of_lt hlt) hlt (by omega) (by omega) m4 (Nat.le_trans l2 (by omega)) (hC.can2 5 (by omega))).mono ?_)
      rintro e W7 ⟨rfl, t5, m5⟩
      clear t4 m4
      have d5 := HBox.cell t5.head 5 _ rfl
      go_wp2_with (go_at_call 52; refine (hC.text _ (by simp) _ t5.below).mono ?_)
      rintro e W8 ⟨rfl, b4⟩
      clear d5
      have t6 := t5.next b4
      have m6 : wr.heap.size ≤ W8.heap.size := Nat.le_trans m5 b4.size
      clear t5 m5 b4
      go_wp2_with (go_at_call 49; refine (add_pair w wr.heap.size w.heap.size W1.heap.size h sv _ _ 6 kGid (tx h.gid) (q2 6) t6 (Nat.le_of_lt hlt) hlt (by omega) (by omega) m6 (Nat.le_trans l3 (by omega)) (hC.can2 6 (by omega))).mono ?_)
      rintro e W9 ⟨rfl, t7, m7⟩
      clear t6 m6
      have d6 := HBox.cell t7.head 6 _ rfl
      go_wp2_with (go_at_call 52; refine (hC.text _ (by simp) _ t7.below).mono ?_)
      rintro e W10 ⟨rfl, b4⟩
      clear d6
      have t8 := t7.next b4
      have m8 : wr.heap.size ≤ W10.heap.size := Nat.le_trans m7 b4.size
      clear t7 m7 b4
      go_wp2_with (go_at_call 49; refine (add_pair w wr.heap.size w.heap.size W1.heap.size h sv _ _ 7 kSize (tx h.size) (q2 7) t8 (Nat.le_of_lt hlt) hlt (by omega) (by omega) m8 (Nat.le_trans l4 (by omega)) (hC.can2 7 (by omega))).mono ?_)
      rintro e W11 ⟨rfl, t9, m9⟩
      clear t8 m8
      go_wp2_with (go_at_call 49; refine (add_pair w wr.heap.size w.heap.size W1.heap.size h sv _ _ 8 kTime tm (q2 8) t9 (Nat.le_of_lt hlt) hlt (by omega) (by omega) m9 (Nat.le_trans l5 (by omega)) (hC.can2 8 (by omega))).mono ?_)
      rintro e W12 ⟨rfl, t10, m10⟩
      clear t9 m9
      have d9 := HBox.cell t10.head 9 _ rfl
      go_wp2_with (go_at_call 49; refine (add_pair w wr.heap.size w.heap.size W1.heap.size h sv _ _ 9 kUser h.user (q2 9) t10 (Nat.le_of_lt hlt) hlt (by omega) (by omega) m10 (Nat.le_trans l6 (by omega)) (hC.can2 9 (by omega))).mono ?_)
      rintro e W13 ⟨rfl, t11, m11⟩
      clear t10 m10 d9
      have d10 := HBox.cell t11.head 10 _ rfl
      go_wp2_with (go_at_call 49; refine (add_pair w wr.heap.size w.heap.size W1.heap.size h sv _ _ 10 kGroup h.group (q2 10) t11 (Nat.le_of_lt hlt) hlt (by omega) (by omega) m11 (Nat.le_trans l7 (by omega)) (hC.can2 10 (by omega))).mono ?_)
      rintro e W14 ⟨rfl, t12, m12⟩
      clear t11 m11 d10
      have l8 := Nat.le_trans (addP_len (q2 10) ⟨kGroup, h.group⟩ _) (Nat.succ_le_succ l7)
      change (rawL h q2 fn (tx h.uid) (tx h.gid) (tx h.size) tm).length ≤ 108 at l8
      change St w wr.heap.size w.heap.size W1.heap.size h sv (flatP (rawL h q2 fn (tx h.uid) (tx h.gid) (tx h.size) tm)) (rawL h q2 fn (tx h.uid) (tx h.gid) (tx h.size) tm).length W14 at t12
      have hall' : ∀ j, j < 4 → q3 (fld j) = true := hall
      obtain ⟨_, hw0⟩ := hwO
      generalize hraw : rawL h q2 fn (tx h.uid) (tx h.gid) (tx h.size) tm = raw at l8 t12
      obtain ⟨lv, fv, fr⟩ := t12.box
      have fc := fv.cell
      have fb := t12.below
      rcases fr.2 with ⟨rfl, hz⟩ | ⟨g, cap, cur, rfl, hg, hgb, r1, r2, r3, r4⟩
      · have hr0 : raw = [] := List.eq_nil_of_length_eq_zero hz
        subst hr0
        go_wp2_with (go_at_call 53; refine (Go.Proofs.AnyF.slices_SortFunc_none { Tryz.sortP with } none 0 _ _).mono ?_)
        rintro e W' ⟨rfl, rfl⟩
        go_wp2
        refine bodyPost_ret (results_tmp2 rfl _ _ _) rfl ?_
        exact ⟨fb, .inr (.inr ⟨hw0, hall', _, [], rfl, World.ownsRow_nil _ _ _ _, by rw [hraw], List.Pairwise.nil⟩)⟩
      · have hsc := sort_calls raw W14 g cap wr.heap.size cur hg hgb r1 r2 r3 r4 (by omega)
        have hne : some W1.heap.size ≠ some g := fun e => by
          cases e
          rw [show W14.heap[W1.heap.size]? = some (.cells #[_] 24 (0, 0)) from fv] at hgb
          cases hgb
        go_wp2_with (go_at_call 53; refine hsc.mono ?_)
        rintro e W' ⟨rfl, l', hperm, hsort, hown, hgrow⟩
        have fv' : Boxed W' W1.heap.size 24 _ := fv.kept hgrow hne
        have fc' := fv'.cell
        have fb' : Below w.heap.size w W' := fb.grown hgrow fb.size fun j ej => by cases ej; omega
        go_wp2
        refine bodyPost_ret (results_tmp2 rfl _ _ _) rfl ?_
        have hln : l'.length = raw.length := hperm.length_eq
        exact ⟨fb', .inr (.inr ⟨hw0, hall', _, l', rfl, own_low (by rw [hln] at hown ⊢; exact hown) (Nat.le_of_lt hlt), by rw [hraw]; exact hperm, hsort⟩)⟩
end Go.Proofs.YtbkhmkcmbaffoaaGreatDoor.S11

