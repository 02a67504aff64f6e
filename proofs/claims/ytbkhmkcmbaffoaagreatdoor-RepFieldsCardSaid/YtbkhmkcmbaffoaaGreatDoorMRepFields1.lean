/- Several texts of this proof in one file: R7, Z05a, Z05b, Z05c, U09f, U04d, U07, Q08, U08, U09d, U09g. -/
import Derived.Test.YtbkhmkcmbaffoaaGreatDoorMRepFields0
import Derived.Lib.DecodeN
import Derived.IntWalk
import Derived.Lib.RuneCountTail
import Derived.Lib.IndexAny
/- What functions answer, as the engine evaluates their code. Printed by gen2.py. -/
set_option linter.unusedVariables false
namespace Go.Proofs.YtbkhmkcmbaffoaaGreatDoor.Eng.U
open Go Go.Proofs Go.Proofs.YtbkhmkcmbaffoaaGreatDoor.Eng
/- oakum/oakumref09.Wrong -/
noncomputable def ref09_Wrong_bd : Code := Tryz.f17.body.getD .skip
noncomputable def ref09_Wrong_L0 (kap : FuncId → List AV → Option AV) (k : Nat) (k0 : Nat) (s4 : Int) (b3_0 : Bool) (b3_1 : Bool) (b3_2 : Bool) (b3_3 : Bool) (b3_4 : Bool) (b3_5 : Bool) (b3_6 : Bool) (b3_7 : Bool) (b3_8 : Bool) (b3_9 : Bool) (b3_10 : Bool) (b3_11 : Bool) (b3_12 : Bool) (b3_13 : Bool) : Option AV :=
  loop (fun fr K => code ((bs E0 k).cfg kap ref09_Wrong) (sel ref09_Wrong_bd [1, 1, 0, 1, 0, 0]) fr K) (canon ((bs E0 k).cfg kap ref09_Wrong) (firstReg (sel ref09_Wrong_bd [1, 1, 0, 1, 0, 0]))) k0 (mkFr 16 [(3, (.loc 3 0)), (4, (.int .i64 s4))] [(3, (.box [(.bool b3_0), (.bool b3_1), (.bool b3_2), (.bool b3_3), (.bool b3_4), (.bool b3_5), (.bool b3_6), (.bool b3_7), (.bool b3_8), (.bool b3_9), (.bool b3_10), (.bool b3_11), (.bool b3_12), (.bool b3_13)]))]) (plug ((bs E0 k).cfg kap ref09_Wrong) (retK ((bs E0 k).cfg kap ref09_Wrong) [] Tryz.f17 [] some) [.blk 0, .seqR (sel ref09_Wrong_bd [1, 1, 1])])
theorem ref09_Wrong_L0_s (kap : FuncId → List AV → Option AV) (k : Nat) (k0 : Nat) (s4 : Int) (b3_0 : Bool) (b3_1 : Bool) (b3_2 : Bool) (b3_3 : Bool) (b3_4 : Bool) (b3_5 : Bool) (b3_6 : Bool) (b3_7 : Bool) (b3_8 : Bool) (b3_9 : Bool) (b3_10 : Bool) (b3_11 : Bool) (b3_12 : Bool) (b3_13 : Bool) : ref09_Wrong_L0 kap k (k0 + 1) s4 b3_0 b3_1 b3_2 b3_3 b3_4 b3_5 b3_6 b3_7 b3_8 b3_9 b3_10 b3_11 b3_12 b3_13 =
  (bif (decide (s4 < (14 : Int))) then (bif ((decide ((0 : Int) ≤ s4)) && (decide (s4 < (14 : Int)))) then (cellB [(.bool b3_0), (.bool b3_1), (.bool b3_2), (.bool b3_3), (.bool b3_4), (.bool b3_5), (.bool b3_6), (.bool b3_7), (.bool b3_8), (.bool b3_9), (.bool b3_10), (.bool b3_11), (.bool b3_12), (.bool b3_13)] (0 + (Int.toNat s4) * 1) fun vq17 => (bif (!vq17) then (some (.int .i64 s4)) else (ref09_Wrong_L0 kap k k0 (IntKind.wrap .i64 (s4 + (1 : Int))) b3_0 b3_1 b3_2 b3_3 b3_4 b3_5 b3_6 b3_7 b3_8 b3_9 b3_10 b3_11 b3_12 b3_13))) else none) else (some (.int .i64 (0 : Int)))) := by kernel_rfl
theorem ref09_Wrong_eq {E : Ext} [Core E] (k n : Nat) (a0_0 : Int) (a0_1 : ByteArray) (a0_2 : ByteArray) (a0_3 : Int) (a0_4 : Int) (a0_5 : Int) (a0_6 : Int) (a0_7 : Int) (a0_8 : Int) (a0_9 : ByteArray) (a0_10 : ByteArray) (a0_11 : Int) (a0_12 : Int) (a0_13 : List AV) : kp E k (n + 1) ref09_Wrong [(.agg [(.int .i64 a0_0), (.str a0_1), (.str a0_2), (.int .i64 a0_3), (.int .i64 a0_4), (.int .i64 a0_5), (.int .i64 a0_6), (.int .i64 a0_7), (.int .i64 a0_8), (.str a0_9), (.str a0_10), (.int .i64 a0_11), (.int .i64 a0_12), (.list 2 a0_13)])] =
  (callG 14 (kp E k n ref09_fields [(.agg [(.int .i64 a0_0), (.str a0_1), (.str a0_2), (.int .i64 a0_3), (.int .i64 a0_4), (.int .i64 a0_5), (.int .i64 a0_6), (.int .i64 a0_7), (.int .i64 a0_8), (.str a0_9), (.str a0_10), (.int .i64 a0_11), (.int .i64 a0_12), (.list 2 a0_13)])]) fun vg2 => (cellB vg2 0 fun vq3 => (cellB vg2 1 fun vq4 => (cellB vg2 2 fun vq5 => (cellB vg2 3 fun vq6 => (cellB vg2 4 fun vq7 => (cellB vg2 5 fun vq8 => (cellB vg2 6 fun vq9 => (cellB vg2 7 fun vq10 => (cellB vg2 8 fun vq11 => (cellB vg2 9 fun vq12 => (cellB vg2 10 fun vq13 => (cellB vg2 11 fun vq14 => (cellB vg2 12 fun vq15 => (cellB vg2 13 fun vq16 => (ref09_Wrong_L0 (kp E k n) k k (1 : Int) vq3 vq4 vq5 vq6 vq7 vq8 vq9 vq10 vq11 vq12 vq13 vq14 vq15 vq16)))))))))))))))) := (kp_at (by kernel_rfl)).trans (by kernel_rfl)
/- oakum/oakumref07.Same -/
noncomputable def ref07_Same_bd : Code := Tryz.f24.body.getD .skip
noncomputable def ref07_Same_L0 (kap : FuncId → List AV → Option AV) (k : Nat) (k0 : Nat) (s0 : List AV) (s1 : List AV) (s5 : Int) : Option AV :=
  loop (fun fr K => code ((bs E0 k).cfg kap ref07_Same) (sel ref07_Same_bd [1, 1, 0, 1, 0, 0]) fr K) (canon ((bs E0 k).cfg kap ref07_Same) (firstReg (sel ref07_Same_bd [1, 1, 0, 1, 0, 0]))) k0 (mkFr 26 [(0, (.list 2 s0)), (1, (.list 2 s1)), (5, (.int .i64 s5))] []) (plug ((bs E0 k).cfg kap ref07_Same) (retK ((bs E0 k).cfg kap ref07_Same) [] Tryz.f24 [] some) [.blk 0, .seqR (sel ref07_Same_bd [1, 1, 1])])
theorem ref07_Same_L0_s (kap : FuncId → List AV → Option AV) (k : Nat) (k0 : Nat) (s0 : List AV) (s1 : List AV) (s5 : Int) : ref07_Same_L0 kap k (k0 + 1) s0 s1 s5 =
  (bif (decide (s5 < (((List.length s0) : Nat) : Int))) then (bif ((decide ((0 : Int) ≤ s5)) && (decide (s5 < (((List.length s0) : Nat) : Int)))) then ((s0[(Int.toNat s5)]?).bind fun vy1 => (cellS (AV.cells vy1) 0 fun vs2 => (cellS (AV.cells vy1) 1 fun vs3 => (bif ((decide ((0 : Int) ≤ s5)) && (decide (s5 < (((List.length s1) : Nat) : Int)))) then ((s1[(Int.toNat s5)]?).bind fun vy4 => (cellS (AV.cells vy4) 0 fun vs5 => (cellS (AV.cells vy4) 1 fun vs6 => (bif (!((decide (vs2 = vs5)) && ((decide (vs3 = vs6)) && true))) then (some (.bool false)) else (ref07_Same_L0 kap k k0 s0 s1 (IntKind.wrap .i64 (s5 + (1 : Int)))))))) else none)))) else none) else (some (.bool true))) := by kernel_rfl
theorem ref07_Same_eq {E : Ext} [Core E] (k n : Nat) (a0 : List AV) (a1 : List AV) : kp E k (n + 1) ref07_Same [(.list 2 a0), (.list 2 a1)] =
  (bif (!(decide ((((List.length a0) : Nat) : Int) = (((List.length a1) : Nat) : Int)))) then (some (.bool false)) else (ref07_Same_L0 (kp E k n) k k a0 a1 (0 : Int))) := (kp_at (by kernel_rfl)).trans (by kernel_rfl)
/- oakum/pax.Parse -/
/- oakum/oakumref09.Same -/
/- oakum/oakumref08.SameHead -/
/- oakum/oakumref09.Right -/
/- oakum/oakumref09.fields -/
noncomputable def ref09_fields_bd : Code := Tryz.f57.body.getD .skip
noncomputable def ref09_fields_J0 (kap : FuncId → List AV → Option AV) (k : Nat) (kj : Nat) (s3 : Bool) (b1_0 : Int) (b1_1 : ByteArray) (b1_2 : ByteArray) (b1_3 : Int) (b1_4 : Int) (b1_5 : Int) (b1_6 : Int) (b1_7 : Int) (b1_8 : Int) (b1_9 : ByteArray) (b1_10 : ByteArray) (b1_11 : Int) (b1_12 : Int) (b1_13 : List AV) (b2_0 : Bool) (b2_1 : Bool) (b2_2 : Bool) (b2_3 : Bool) (b2_4 : Bool) (b2_5 : Bool) (b2_6 : Bool) (b2_7 : Bool) (b2_8 : Bool) (b2_9 : Bool) (b2_10 : Bool) (b2_11 : Bool) (b2_12 : Bool) (b2_13 : Bool) : Option AV :=
  gate kj fun _ => code ((bs E0 k).cfg kap ref09_fields) (sel ref09_fields_bd [1, 1]) (mkFr 160 [(1, (.loc 1 0)), (2, (.loc 2 0)), (3, (.bool s3))] [(1, (.box [(.int .i64 b1_0), (.str b1_1), (.str b1_2), (.int .i64 b1_3), (.int .i64 b1_4), (.int .i64 b1_5), (.int .i64 b1_6), (.int .i64 b1_7), (.int .i64 b1_8), (.str b1_9), (.str b1_10), (.int .i64 b1_11), (.int .i64 b1_12), (.list 2 b1_13)])), (2, (.box [(.bool b2_0), (.bool b2_1), (.bool b2_2), (.bool b2_3), (.bool b2_4), (.bool b2_5), (.bool b2_6), (.bool b2_7), (.bool b2_8), (.bool b2_9), (.bool b2_10), (.bool b2_11), (.bool b2_12), (.bool b2_13)]))]) (plug ((bs E0 k).cfg kap ref09_fields) (retK ((bs E0 k).cfg kap ref09_fields) [] Tryz.f57 [] some) [])
noncomputable def ref09_fields_J1 (kap : FuncId → List AV → Option AV) (k : Nat) (kj : Nat) (s3 : Bool) (s4 : Bool) (b1_0 : Int) (b1_1 : ByteArray) (b1_2 : ByteArray) (b1_3 : Int) (b1_4 : Int) (b1_5 : Int) (b1_6 : Int) (b1_7 : Int) (b1_8 : Int) (b1_9 : ByteArray) (b1_10 : ByteArray) (b1_11 : Int) (b1_12 : Int) (b1_13 : List AV) (b2_0 : Bool) (b2_1 : Bool) (b2_2 : Bool) (b2_3 : Bool) (b2_4 : Bool) (b2_5 : Bool) (b2_6 : Bool) (b2_7 : Bool) (b2_8 : Bool) (b2_9 : Bool) (b2_10 : Bool) (b2_11 : Bool) (b2_12 : Bool) (b2_13 : Bool) : Option AV :=
  gate kj fun _ => code ((bs E0 k).cfg kap ref09_fields) (sel ref09_fields_bd [1, 1, 1]) (mkFr 160 [(1, (.loc 1 0)), (2, (.loc 2 0)), (3, (.bool s3)), (4, (.bool s4))] [(1, (.box [(.int .i64 b1_0), (.str b1_1), (.str b1_2), (.int .i64 b1_3), (.int .i64 b1_4), (.int .i64 b1_5), (.int .i64 b1_6), (.int .i64 b1_7), (.int .i64 b1_8), (.str b1_9), (.str b1_10), (.int .i64 b1_11), (.int .i64 b1_12), (.list 2 b1_13)])), (2, (.box [(.bool b2_0), (.bool b2_1), (.bool b2_2), (.bool b2_3), (.bool b2_4), (.bool b2_5), (.bool b2_6), (.bool b2_7), (.bool b2_8), (.bool b2_9), (.bool b2_10), (.bool b2_11), (.bool b2_12), (.bool b2_13)]))]) (plug ((bs E0 k).cfg kap ref09_fields) (retK ((bs E0 k).cfg kap ref09_fields) [] Tryz.f57 [] some) [])
noncomputable def ref09_fields_J2 (kap : FuncId → List AV → Option AV) (k : Nat) (kj : Nat) (s3 : Bool) (s4 : Bool) (b1_0 : Int) (b1_1 : ByteArray) (b1_2 : ByteArray) (b1_3 : Int) (b1_4 : Int) (b1_5 : Int) (b1_6 : Int) (b1_7 : Int) (b1_8 : Int) (b1_9 : ByteArray) (b1_10 : ByteArray) (b1_11 : Int) (b1_12 : Int) (b1_13 : List AV) (b2_0 : Bool) (b2_1 : Bool) (b2_2 : Bool) (b2_3 : Bool) (b2_4 : Bool) (b2_5 : Bool) (b2_6 : Bool) (b2_7 : Bool) (b2_8 : Bool) (b2_9 : Bool) (b2_10 : Bool) (b2_11 : Bool) (b2_12 : Bool) (b2_13 : Bool) (b5_0 : Bool) (b5_1 : Bool) (b5_2 : Bool) (b5_3 : Bool) (b5_4 : Bool) (b5_5 : Bool) (b5_6 : Bool) (b5_7 : Bool) (b5_8 : Bool) (b5_9 : Bool) (b5_10 : Bool) (b5_11 : Bool) (b5_12 : Bool) (b5_13 : Bool) : Option AV :=
  gate kj fun _ => code ((bs E0 k).cfg kap ref09_fields) (sel ref09_fields_bd [1, 1, 1, 1, 1]) (mkFr 160 [(1, (.loc 1 0)), (2, (.loc 2 0)), (3, (.bool s3)), (4, (.bool s4)), (5, (.loc 5 0))] [(1, (.box [(.int .i64 b1_0), (.str b1_1), (.str b1_2), (.int .i64 b1_3), (.int .i64 b1_4), (.int .i64 b1_5), (.int .i64 b1_6), (.int .i64 b1_7), (.int .i64 b1_8), (.str b1_9), (.str b1_10), (.int .i64 b1_11), (.int .i64 b1_12), (.list 2 b1_13)])), (2, (.box [(.bool b2_0), (.bool b2_1), (.bool b2_2), (.bool b2_3), (.bool b2_4), (.bool b2_5), (.bool b2_6), (.bool b2_7), (.bool b2_8), (.bool b2_9), (.bool b2_10), (.bool b2_11), (.bool b2_12), (.bool b2_13)])), (5, (.box [(.bool b5_0), (.bool b5_1), (.bool b5_2), (.bool b5_3), (.bool b5_4), (.bool b5_5), (.bool b5_6), (.bool b5_7), (.bool b5_8), (.bool b5_9), (.bool b5_10), (.bool b5_11), (.bool b5_12), (.bool b5_13)]))]) (plug ((bs E0 k).cfg kap ref09_fields) (retK ((bs E0 k).cfg kap ref09_fields) [] Tryz.f57 [] some) [])
noncomputable def ref09_fields_J3 (kap : FuncId → List AV → Option AV) (k : Nat) (kj : Nat) (s3 : Bool) (s4 : Bool) (b1_0 : Int) (b1_1 : ByteArray) (b1_2 : ByteArray) (b1_3 : Int) (b1_4 : Int) (b1_5 : Int) (b1_6 : Int) (b1_7 : Int) (b1_8 : Int) (b1_9 : ByteArray) (b1_10 : ByteArray) (b1_11 : Int) (b1_12 : Int) (b1_13 : List AV) (b2_0 : Bool) (b2_1 : Bool) (b2_2 : Bool) (b2_3 : Bool) (b2_4 : Bool) (b2_5 : Bool) (b2_6 : Bool) (b2_7 : Bool) (b2_8 : Bool) (b2_9 : Bool) (b2_10 : Bool) (b2_11 : Bool) (b2_12 : Bool) (b2_13 : Bool) (b5_0 : Bool) (b5_1 : Bool) (b5_2 : Bool) (b5_3 : Bool) (b5_4 : Bool) (b5_5 : Bool) (b5_6 : Bool) (b5_7 : Bool) (b5_8 : Bool) (b5_9 : Bool) (b5_10 : Bool) (b5_11 : Bool) (b5_12 : Bool) (b5_13 : Bool) : Option AV :=
  gate kj fun _ => code ((bs E0 k).cfg kap ref09_fields) (sel ref09_fields_bd [1, 1, 1, 1, 1, 1]) (mkFr 160 [(1, (.loc 1 0)), (2, (.loc 2 0)), (3, (.bool s3)), (4, (.bool s4)), (5, (.loc 5 0))] [(1, (.box [(.int .i64 b1_0), (.str b1_1), (.str b1_2), (.int .i64 b1_3), (.int .i64 b1_4), (.int .i64 b1_5), (.int .i64 b1_6), (.int .i64 b1_7), (.int .i64 b1_8), (.str b1_9), (.str b1_10), (.int .i64 b1_11), (.int .i64 b1_12), (.list 2 b1_13)])), (2, (.box [(.bool b2_0), (.bool b2_1), (.bool b2_2), (.bool b2_3), (.bool b2_4), (.bool b2_5), (.bool b2_6), (.bool b2_7), (.bool b2_8), (.bool b2_9), (.bool b2_10), (.bool b2_11), (.bool b2_12), (.bool b2_13)])), (5, (.box [(.bool b5_0), (.bool b5_1), (.bool b5_2), (.bool b5_3), (.bool b5_4), (.bool b5_5), (.bool b5_6), (.bool b5_7), (.bool b5_8), (.bool b5_9), (.bool b5_10), (.bool b5_11), (.bool b5_12), (.bool b5_13)]))]) (plug ((bs E0 k).cfg kap ref09_fields) (retK ((bs E0 k).cfg kap ref09_fields) [] Tryz.f57 [] some) [])
noncomputable def ref09_fields_J4 (kap : FuncId → List AV → Option AV) (k : Nat) (kj : Nat) (s4 : Bool) (b1_0 : Int) (b1_1 : ByteArray) (b1_2 : ByteArray) (b1_3 : Int) (b1_4 : Int) (b1_5 : Int) (b1_6 : Int) (b1_7 : Int) (b1_8 : Int) (b1_9 : ByteArray) (b1_10 : ByteArray) (b1_11 : Int) (b1_12 : Int) (b1_13 : List AV) (b2_0 : Bool) (b2_1 : Bool) (b2_2 : Bool) (b2_3 : Bool) (b2_4 : Bool) (b2_5 : Bool) (b2_6 : Bool) (b2_7 : Bool) (b2_8 : Bool) (b2_9 : Bool) (b2_10 : Bool) (b2_11 : Bool) (b2_12 : Bool) (b2_13 : Bool) (b5_0 : Bool) (b5_1 : Bool) (b5_2 : Bool) (b5_3 : Bool) (b5_4 : Bool) (b5_5 : Bool) (b5_6 : Bool) (b5_7 : Bool) (b5_8 : Bool) (b5_9 : Bool) (b5_10 : Bool) (b5_11 : Bool) (b5_12 : Bool) (b5_13 : Bool) : Option AV :=
  gate kj fun _ => code ((bs E0 k).cfg kap ref09_fields) (sel ref09_fields_bd [1, 1, 1, 1, 1, 1, 1]) (mkFr 160 [(1, (.loc 1 0)), (2, (.loc 2 0)), (4, (.bool s4)), (5, (.loc 5 0))] [(1, (.box [(.int .i64 b1_0), (.str b1_1), (.str b1_2), (.int .i64 b1_3), (.int .i64 b1_4), (.int .i64 b1_5), (.int .i64 b1_6), (.int .i64 b1_7), (.int .i64 b1_8), (.str b1_9), (.str b1_10), (.int .i64 b1_11), (.int .i64 b1_12), (.list 2 b1_13)])), (2, (.box [(.bool b2_0), (.bool b2_1), (.bool b2_2), (.bool b2_3), (.bool b2_4), (.bool b2_5), (.bool b2_6), (.bool b2_7), (.bool b2_8), (.bool b2_9), (.bool b2_10), (.bool b2_11), (.bool b2_12), (.bool b2_13)])), (5, (.box [(.bool b5_0), (.bool b5_1), (.bool b5_2), (.bool b5_3), (.bool b5_4), (.bool b5_5), (.bool b5_6), (.bool b5_7), (.bool b5_8), (.bool b5_9), (.bool b5_10), (.bool b5_11), (.bool b5_12), (.bool b5_13)]))]) (plug ((bs E0 k).cfg kap ref09_fields) (retK ((bs E0 k).cfg kap ref09_fields) [] Tryz.f57 [] some) [])
noncomputable def ref09_fields_J5 (kap : FuncId → List AV → Option AV) (k : Nat) (kj : Nat) (s4 : Bool) (b1_0 : Int) (b1_1 : ByteArray) (b1_2 : ByteArray) (b1_3 : Int) (b1_4 : Int) (b1_5 : Int) (b1_6 : Int) (b1_7 : Int) (b1_8 : Int) (b1_9 : ByteArray) (b1_10 : ByteArray) (b1_11 : Int) (b1_12 : Int) (b1_13 : List AV) (b2_0 : Bool) (b2_1 : Bool) (b2_2 : Bool) (b2_3 : Bool) (b2_4 : Bool) (b2_5 : Bool) (b2_6 : Bool) (b2_7 : Bool) (b2_8 : Bool) (b2_9 : Bool) (b2_10 : Bool) (b2_11 : Bool) (b2_12 : Bool) (b2_13 : Bool) (b5_0 : Bool) (b5_1 : Bool) (b5_2 : Bool) (b5_3 : Bool) (b5_4 : Bool) (b5_5 : Bool) (b5_6 : Bool) (b5_7 : Bool) (b5_8 : Bool) (b5_9 : Bool) (b5_10 : Bool) (b5_11 : Bool) (b5_12 : Bool) (b5_13 : Bool) : Option AV :=
  gate kj fun _ => code ((bs E0 k).cfg kap ref09_fields) (sel ref09_fields_bd [1, 1, 1, 1, 1, 1, 1, 1, 1, 1, 1]) (mkFr 160 [(1, (.loc 1 0)), (2, (.loc 2 0)), (4, (.bool s4)), (5, (.loc 5 0))] [(1, (.box [(.int .i64 b1_0), (.str b1_1), (.str b1_2), (.int .i64 b1_3), (.int .i64 b1_4), (.int .i64 b1_5), (.int .i64 b1_6), (.int .i64 b1_7), (.int .i64 b1_8), (.str b1_9), (.str b1_10), (.int .i64 b1_11), (.int .i64 b1_12), (.list 2 b1_13)])), (2, (.box [(.bool b2_0), (.bool b2_1), (.bool b2_2), (.bool b2_3), (.bool b2_4), (.bool b2_5), (.bool b2_6), (.bool b2_7), (.bool b2_8), (.bool b2_9), (.bool b2_10), (.bool b2_11), (.bool b2_12), (.bool b2_13)])), (5, (.box [(.bool b5_0), (.bool b5_1), (.bool b5_2), (.bool b5_3), (.bool b5_4), (.bool b5_5), (.bool b5_6), (.bool b5_7), (.bool b5_8), (.bool b5_9), (.bool b5_10), (.bool b5_11), (.bool b5_12), (.bool b5_13)]))]) (plug ((bs E0 k).cfg kap ref09_fields) (retK ((bs E0 k).cfg kap ref09_fields) [] Tryz.f57 [] some) [])
noncomputable def ref09_fields_J6 (kap : FuncId → List AV → Option AV) (k : Nat) (kj : Nat) (s4 : Bool) (b1_0 : Int) (b1_1 : ByteArray) (b1_2 : ByteArray) (b1_3 : Int) (b1_4 : Int) (b1_5 : Int) (b1_6 : Int) (b1_7 : Int) (b1_8 : Int) (b1_9 : ByteArray) (b1_10 : ByteArray) (b1_11 : Int) (b1_12 : Int) (b1_13 : List AV) (b2_0 : Bool) (b2_1 : Bool) (b2_2 : Bool) (b2_3 : Bool) (b2_4 : Bool) (b2_5 : Bool) (b2_6 : Bool) (b2_7 : Bool) (b2_8 : Bool) (b2_9 : Bool) (b2_10 : Bool) (b2_11 : Bool) (b2_12 : Bool) (b2_13 : Bool) (b5_0 : Bool) (b5_1 : Bool) (b5_2 : Bool) (b5_3 : Bool) (b5_4 : Bool) (b5_5 : Bool) (b5_6 : Bool) (b5_7 : Bool) (b5_8 : Bool) (b5_9 : Bool) (b5_10 : Bool) (b5_11 : Bool) (b5_12 : Bool) (b5_13 : Bool) : Option AV :=
  gate kj fun _ => code ((bs E0 k).cfg kap ref09_fields) (sel ref09_fields_bd [1, 1, 1, 1, 1, 1, 1, 1, 1, 1, 1, 1, 1]) (mkFr 160 [(1, (.loc 1 0)), (2, (.loc 2 0)), (4, (.bool s4)), (5, (.loc 5 0))] [(1, (.box [(.int .i64 b1_0), (.str b1_1), (.str b1_2), (.int .i64 b1_3), (.int .i64 b1_4), (.int .i64 b1_5), (.int .i64 b1_6), (.int .i64 b1_7), (.int .i64 b1_8), (.str b1_9), (.str b1_10), (.int .i64 b1_11), (.int .i64 b1_12), (.list 2 b1_13)])), (2, (.box [(.bool b2_0), (.bool b2_1), (.bool b2_2), (.bool b2_3), (.bool b2_4), (.bool b2_5), (.bool b2_6), (.bool b2_7), (.bool b2_8), (.bool b2_9), (.bool b2_10), (.bool b2_11), (.bool b2_12), (.bool b2_13)])), (5, (.box [(.bool b5_0), (.bool b5_1), (.bool b5_2), (.bool b5_3), (.bool b5_4), (.bool b5_5), (.bool b5_6), (.bool b5_7), (.bool b5_8), (.bool b5_9), (.bool b5_10), (.bool b5_11), (.bool b5_12), (.bool b5_13)]))]) (plug ((bs E0 k).cfg kap ref09_fields) (retK ((bs E0 k).cfg kap ref09_fields) [] Tryz.f57 [] some) [])
noncomputable def ref09_fields_J7 (kap : FuncId → List AV → Option AV) (k : Nat) (kj : Nat) (s4 : Bool) (b1_0 : Int) (b1_1 : ByteArray) (b1_2 : ByteArray) (b1_3 : Int) (b1_4 : Int) (b1_5 : Int) (b1_6 : Int) (b1_7 : Int) (b1_8 : Int) (b1_9 : ByteArray) (b1_10 : ByteArray) (b1_11 : Int) (b1_12 : Int) (b1_13 : List AV) (b2_0 : Bool) (b2_1 : Bool) (b2_2 : Bool) (b2_3 : Bool) (b2_4 : Bool) (b2_5 : Bool) (b2_6 : Bool) (b2_7 : Bool) (b2_8 : Bool) (b2_9 : Bool) (b2_10 : Bool) (b2_11 : Bool) (b2_12 : Bool) (b2_13 : Bool) (b5_0 : Bool) (b5_1 : Bool) (b5_2 : Bool) (b5_3 : Bool) (b5_4 : Bool) (b5_5 : Bool) (b5_6 : Bool) (b5_7 : Bool) (b5_8 : Bool) (b5_9 : Bool) (b5_10 : Bool) (b5_11 : Bool) (b5_12 : Bool) (b5_13 : Bool) : Option AV :=
  gate kj fun _ => code ((bs E0 k).cfg kap ref09_fields) (sel ref09_fields_bd [1, 1, 1, 1, 1, 1, 1, 1, 1, 1, 1, 1, 1, 1]) (mkFr 160 [(1, (.loc 1 0)), (2, (.loc 2 0)), (4, (.bool s4)), (5, (.loc 5 0))] [(1, (.box [(.int .i64 b1_0), (.str b1_1), (.str b1_2), (.int .i64 b1_3), (.int .i64 b1_4), (.int .i64 b1_5), (.int .i64 b1_6), (.int .i64 b1_7), (.int .i64 b1_8), (.str b1_9), (.str b1_10), (.int .i64 b1_11), (.int .i64 b1_12), (.list 2 b1_13)])), (2, (.box [(.bool b2_0), (.bool b2_1), (.bool b2_2), (.bool b2_3), (.bool b2_4), (.bool b2_5), (.bool b2_6), (.bool b2_7), (.bool b2_8), (.bool b2_9), (.bool b2_10), (.bool b2_11), (.bool b2_12), (.bool b2_13)])), (5, (.box [(.bool b5_0), (.bool b5_1), (.bool b5_2), (.bool b5_3), (.bool b5_4), (.bool b5_5), (.bool b5_6), (.bool b5_7), (.bool b5_8), (.bool b5_9), (.bool b5_10), (.bool b5_11), (.bool b5_12), (.bool b5_13)]))]) (plug ((bs E0 k).cfg kap ref09_fields) (retK ((bs E0 k).cfg kap ref09_fields) [] Tryz.f57 [] some) [])
noncomputable def ref09_fields_J8 (kap : FuncId → List AV → Option AV) (k : Nat) (kj : Nat) (s4 : Bool) (b1_0 : Int) (b1_1 : ByteArray) (b1_2 : ByteArray) (b1_3 : Int) (b1_4 : Int) (b1_5 : Int) (b1_6 : Int) (b1_7 : Int) (b1_8 : Int) (b1_9 : ByteArray) (b1_10 : ByteArray) (b1_11 : Int) (b1_12 : Int) (b1_13 : List AV) (b2_0 : Bool) (b2_1 : Bool) (b2_2 : Bool) (b2_3 : Bool) (b2_4 : Bool) (b2_5 : Bool) (b2_6 : Bool) (b2_7 : Bool) (b2_8 : Bool) (b2_9 : Bool) (b2_10 : Bool) (b2_11 : Bool) (b2_12 : Bool) (b2_13 : Bool) (b5_0 : Bool) (b5_1 : Bool) (b5_2 : Bool) (b5_3 : Bool) (b5_4 : Bool) (b5_5 : Bool) (b5_6 : Bool) (b5_7 : Bool) (b5_8 : Bool) (b5_9 : Bool) (b5_10 : Bool) (b5_11 : Bool) (b5_12 : Bool) (b5_13 : Bool) : Option AV :=
  gate kj fun _ => code ((bs E0 k).cfg kap ref09_fields) (sel ref09_fields_bd [1, 1, 1, 1, 1, 1, 1, 1, 1, 1, 1, 1, 1, 1, 1]) (mkFr 160 [(1, (.loc 1 0)), (2, (.loc 2 0)), (4, (.bool s4)), (5, (.loc 5 0))] [(1, (.box [(.int .i64 b1_0), (.str b1_1), (.str b1_2), (.int .i64 b1_3), (.int .i64 b1_4), (.int .i64 b1_5), (.int .i64 b1_6), (.int .i64 b1_7), (.int .i64 b1_8), (.str b1_9), (.str b1_10), (.int .i64 b1_11), (.int .i64 b1_12), (.list 2 b1_13)])), (2, (.box [(.bool b2_0), (.bool b2_1), (.bool b2_2), (.bool b2_3), (.bool b2_4), (.bool b2_5), (.bool b2_6), (.bool b2_7), (.bool b2_8), (.bool b2_9), (.bool b2_10), (.bool b2_11), (.bool b2_12), (.bool b2_13)])), (5, (.box [(.bool b5_0), (.bool b5_1), (.bool b5_2), (.bool b5_3), (.bool b5_4), (.bool b5_5), (.bool b5_6), (.bool b5_7), (.bool b5_8), (.bool b5_9), (.bool b5_10), (.bool b5_11), (.bool b5_12), (.bool b5_13)]))]) (plug ((bs E0 k).cfg kap ref09_fields) (retK ((bs E0 k).cfg kap ref09_fields) [] Tryz.f57 [] some) [])
noncomputable def ref09_fields_J9 (kap : FuncId → List AV → Option AV) (k : Nat) (kj : Nat) (b1_0 : Int) (b1_1 : ByteArray) (b1_2 : ByteArray) (b1_3 : Int) (b1_4 : Int) (b1_5 : Int) (b1_6 : Int) (b1_7 : Int) (b1_8 : Int) (b1_9 : ByteArray) (b1_10 : ByteArray) (b1_11 : Int) (b1_12 : Int) (b1_13 : List AV) (b2_0 : Bool) (b2_1 : Bool) (b2_2 : Bool) (b2_3 : Bool) (b2_4 : Bool) (b2_5 : Bool) (b2_6 : Bool) (b2_7 : Bool) (b2_8 : Bool) (b2_9 : Bool) (b2_10 : Bool) (b2_11 : Bool) (b2_12 : Bool) (b2_13 : Bool) (b5_0 : Bool) (b5_1 : Bool) (b5_2 : Bool) (b5_3 : Bool) (b5_4 : Bool) (b5_5 : Bool) (b5_6 : Bool) (b5_7 : Bool) (b5_8 : Bool) (b5_9 : Bool) (b5_10 : Bool) (b5_11 : Bool) (b5_12 : Bool) (b5_13 : Bool) : Option AV :=
  gate kj fun _ => code ((bs E0 k).cfg kap ref09_fields) (sel ref09_fields_bd [1, 1, 1, 1, 1, 1, 1, 1, 1, 1, 1, 1, 1, 1, 1, 1]) (mkFr 160 [(1, (.loc 1 0)), (2, (.loc 2 0)), (5, (.loc 5 0))] [(1, (.box [(.int .i64 b1_0), (.str b1_1), (.str b1_2), (.int .i64 b1_3), (.int .i64 b1_4), (.int .i64 b1_5), (.int .i64 b1_6), (.int .i64 b1_7), (.int .i64 b1_8), (.str b1_9), (.str b1_10), (.int .i64 b1_11), (.int .i64 b1_12), (.list 2 b1_13)])), (2, (.box [(.bool b2_0), (.bool b2_1), (.bool b2_2), (.bool b2_3), (.bool b2_4), (.bool b2_5), (.bool b2_6), (.bool b2_7), (.bool b2_8), (.bool b2_9), (.bool b2_10), (.bool b2_11), (.bool b2_12), (.bool b2_13)])), (5, (.box [(.bool b5_0), (.bool b5_1), (.bool b5_2), (.bool b5_3), (.bool b5_4), (.bool b5_5), (.bool b5_6), (.bool b5_7), (.bool b5_8), (.bool b5_9), (.bool b5_10), (.bool b5_11), (.bool b5_12), (.bool b5_13)]))]) (plug ((bs E0 k).cfg kap ref09_fields) (retK ((bs E0 k).cfg kap ref09_fields) [] Tryz.f57 [] some) [])
noncomputable def ref09_fields_L10 (kap : FuncId → List AV → Option AV) (k : Nat) (k10 : Nat) (s6 : Int) (b1_0 : Int) (b1_1 : ByteArray) (b1_2 : ByteArray) (b1_3 : Int) (b1_4 : Int) (b1_5 : Int) (b1_6 : Int) (b1_7 : Int) (b1_8 : Int) (b1_9 : ByteArray) (b1_10 : ByteArray) (b1_11 : Int) (b1_12 : Int) (b1_13 : List AV) (b2_0 : Bool) (b2_1 : Bool) (b2_2 : Bool) (b2_3 : Bool) (b2_4 : Bool) (b2_5 : Bool) (b2_6 : Bool) (b2_7 : Bool) (b2_8 : Bool) (b2_9 : Bool) (b2_10 : Bool) (b2_11 : Bool) (b2_12 : Bool) (b2_13 : Bool) (b5_0 : Bool) (b5_1 : Bool) (b5_2 : Bool) (b5_3 : Bool) (b5_4 : Bool) (b5_5 : Bool) (b5_6 : Bool) (b5_7 : Bool) (b5_8 : Bool) (b5_9 : Bool) (b5_10 : Bool) (b5_11 : Bool) (b5_12 : Bool) (b5_13 : Bool) : Option AV :=
  loop (fun fr K => code ((bs E0 k).cfg kap ref09_fields) (sel ref09_fields_bd [1, 1, 1, 1, 1, 1, 1, 1, 1, 1, 1, 1, 1, 1, 1, 1, 1, 0, 1, 0, 0]) fr K) (canon ((bs E0 k).cfg kap ref09_fields) (firstReg (sel ref09_fields_bd [1, 1, 1, 1, 1, 1, 1, 1, 1, 1, 1, 1, 1, 1, 1, 1, 1, 0, 1, 0, 0]))) k10 (mkFr 160 [(1, (.loc 1 0)), (2, (.loc 2 0)), (5, (.loc 5 0)), (6, (.int .i64 s6))] [(1, (.box [(.int .i64 b1_0), (.str b1_1), (.str b1_2), (.int .i64 b1_3), (.int .i64 b1_4), (.int .i64 b1_5), (.int .i64 b1_6), (.int .i64 b1_7), (.int .i64 b1_8), (.str b1_9), (.str b1_10), (.int .i64 b1_11), (.int .i64 b1_12), (.list 2 b1_13)])), (2, (.box [(.bool b2_0), (.bool b2_1), (.bool b2_2), (.bool b2_3), (.bool b2_4), (.bool b2_5), (.bool b2_6), (.bool b2_7), (.bool b2_8), (.bool b2_9), (.bool b2_10), (.bool b2_11), (.bool b2_12), (.bool b2_13)])), (5, (.box [(.bool b5_0), (.bool b5_1), (.bool b5_2), (.bool b5_3), (.bool b5_4), (.bool b5_5), (.bool b5_6), (.bool b5_7), (.bool b5_8), (.bool b5_9), (.bool b5_10), (.bool b5_11), (.bool b5_12), (.bool b5_13)]))]) (plug ((bs E0 k).cfg kap ref09_fields) (retK ((bs E0 k).cfg kap ref09_fields) [] Tryz.f57 [] some) [.blk 0, .seqR (sel ref09_fields_bd [1, 1, 1, 1, 1, 1, 1, 1, 1, 1, 1, 1, 1, 1, 1, 1, 1, 1])])
theorem ref09_fields_J0_s (kap : FuncId → List AV → Option AV) (k : Nat) (kj : Nat) (s3 : Bool) (b1_0 : Int) (b1_1 : ByteArray) (b1_2 : ByteArray) (b1_3 : Int) (b1_4 : Int) (b1_5 : Int) (b1_6 : Int) (b1_7 : Int) (b1_8 : Int) (b1_9 : ByteArray) (b1_10 : ByteArray) (b1_11 : Int) (b1_12 : Int) (b1_13 : List AV) (b2_0 : Bool) (b2_1 : Bool) (b2_2 : Bool) (b2_3 : Bool) (b2_4 : Bool) (b2_5 : Bool) (b2_6 : Bool) (b2_7 : Bool) (b2_8 : Bool) (b2_9 : Bool) (b2_10 : Bool) (b2_11 : Bool) (b2_12 : Bool) (b2_13 : Bool) : ref09_fields_J0 kap k (kj + 1) s3 b1_0 b1_1 b1_2 b1_3 b1_4 b1_5 b1_6 b1_7 b1_8 b1_9 b1_10 b1_11 b1_12 b1_13 b2_0 b2_1 b2_2 b2_3 b2_4 b2_5 b2_6 b2_7 b2_8 b2_9 b2_10 b2_11 b2_12 b2_13 =
  (bif (decide (b1_0 = (4 : Int))) then (ref09_fields_J1 kap k k s3 true b1_0 b1_1 b1_2 b1_3 b1_4 b1_5 b1_6 b1_7 b1_8 b1_9 b1_10 b1_11 b1_12 b1_13 b2_0 b2_1 b2_2 b2_3 b2_4 b2_5 b2_6 b2_7 b2_8 b2_9 b2_10 b2_11 b2_12 b2_13) else (ref09_fields_J1 kap k k s3 (decide (b1_0 = (5 : Int))) b1_0 b1_1 b1_2 b1_3 b1_4 b1_5 b1_6 b1_7 b1_8 b1_9 b1_10 b1_11 b1_12 b1_13 b2_0 b2_1 b2_2 b2_3 b2_4 b2_5 b2_6 b2_7 b2_8 b2_9 b2_10 b2_11 b2_12 b2_13)) := by kernel_rfl
theorem ref09_fields_J1_s (kap : FuncId → List AV → Option AV) (k : Nat) (kj : Nat) (s3 : Bool) (s4 : Bool) (b1_0 : Int) (b1_1 : ByteArray) (b1_2 : ByteArray) (b1_3 : Int) (b1_4 : Int) (b1_5 : Int) (b1_6 : Int) (b1_7 : Int) (b1_8 : Int) (b1_9 : ByteArray) (b1_10 : ByteArray) (b1_11 : Int) (b1_12 : Int) (b1_13 : List AV) (b2_0 : Bool) (b2_1 : Bool) (b2_2 : Bool) (b2_3 : Bool) (b2_4 : Bool) (b2_5 : Bool) (b2_6 : Bool) (b2_7 : Bool) (b2_8 : Bool) (b2_9 : Bool) (b2_10 : Bool) (b2_11 : Bool) (b2_12 : Bool) (b2_13 : Bool) : ref09_fields_J1 kap k (kj + 1) s3 s4 b1_0 b1_1 b1_2 b1_3 b1_4 b1_5 b1_6 b1_7 b1_8 b1_9 b1_10 b1_11 b1_12 b1_13 b2_0 b2_1 b2_2 b2_3 b2_4 b2_5 b2_6 b2_7 b2_8 b2_9 b2_10 b2_11 b2_12 b2_13 =
  (bif (decide (b1_0 ≥ (1 : Int))) then (ref09_fields_J2 kap k k s3 s4 b1_0 b1_1 b1_2 b1_3 b1_4 b1_5 b1_6 b1_7 b1_8 b1_9 b1_10 b1_11 b1_12 b1_13 b2_0 b2_1 b2_2 b2_3 b2_4 b2_5 b2_6 b2_7 b2_8 b2_9 b2_10 b2_11 b2_12 b2_13 false (decide (b1_0 ≤ (7 : Int))) false false false false false false false false false false false false) else (ref09_fields_J2 kap k k s3 s4 b1_0 b1_1 b1_2 b1_3 b1_4 b1_5 b1_6 b1_7 b1_8 b1_9 b1_10 b1_11 b1_12 b1_13 b2_0 b2_1 b2_2 b2_3 b2_4 b2_5 b2_6 b2_7 b2_8 b2_9 b2_10 b2_11 b2_12 b2_13 false false false false false false false false false false false false false false)) := by kernel_rfl
theorem ref09_fields_J2_s (kap : FuncId → List AV → Option AV) (k : Nat) (kj : Nat) (s3 : Bool) (s4 : Bool) (b1_0 : Int) (b1_1 : ByteArray) (b1_2 : ByteArray) (b1_3 : Int) (b1_4 : Int) (b1_5 : Int) (b1_6 : Int) (b1_7 : Int) (b1_8 : Int) (b1_9 : ByteArray) (b1_10 : ByteArray) (b1_11 : Int) (b1_12 : Int) (b1_13 : List AV) (b2_0 : Bool) (b2_1 : Bool) (b2_2 : Bool) (b2_3 : Bool) (b2_4 : Bool) (b2_5 : Bool) (b2_6 : Bool) (b2_7 : Bool) (b2_8 : Bool) (b2_9 : Bool) (b2_10 : Bool) (b2_11 : Bool) (b2_12 : Bool) (b2_13 : Bool) (b5_0 : Bool) (b5_1 : Bool) (b5_2 : Bool) (b5_3 : Bool) (b5_4 : Bool) (b5_5 : Bool) (b5_6 : Bool) (b5_7 : Bool) (b5_8 : Bool) (b5_9 : Bool) (b5_10 : Bool) (b5_11 : Bool) (b5_12 : Bool) (b5_13 : Bool) : ref09_fields_J2 kap k (kj + 1) s3 s4 b1_0 b1_1 b1_2 b1_3 b1_4 b1_5 b1_6 b1_7 b1_8 b1_9 b1_10 b1_11 b1_12 b1_13 b2_0 b2_1 b2_2 b2_3 b2_4 b2_5 b2_6 b2_7 b2_8 b2_9 b2_10 b2_11 b2_12 b2_13 b5_0 b5_1 b5_2 b5_3 b5_4 b5_5 b5_6 b5_7 b5_8 b5_9 b5_10 b5_11 b5_12 b5_13 =
  (callB (kap ref09_name [(.str b1_1)]) fun vq2 => (bif vq2 then (bif (decide (b1_0 = (1 : Int))) then (callB (kap ref09_Slash [(.str b1_1)]) fun vq4 => (ref09_fields_J3 kap k k s3 s4 b1_0 b1_1 b1_2 b1_3 b1_4 b1_5 b1_6 b1_7 b1_8 b1_9 b1_10 b1_11 b1_12 b1_13 b2_0 b2_1 b2_2 b2_3 b2_4 b2_5 b2_6 b2_7 b2_8 b2_9 b2_10 b2_11 b2_12 b2_13 b5_0 b5_1 (!vq4) b5_3 b5_4 b5_5 b5_6 b5_7 b5_8 b5_9 b5_10 b5_11 b5_12 b5_13)) else (ref09_fields_J3 kap k k s3 s4 b1_0 b1_1 b1_2 b1_3 b1_4 b1_5 b1_6 b1_7 b1_8 b1_9 b1_10 b1_11 b1_12 b1_13 b2_0 b2_1 b2_2 b2_3 b2_4 b2_5 b2_6 b2_7 b2_8 b2_9 b2_10 b2_11 b2_12 b2_13 b5_0 b5_1 true b5_3 b5_4 b5_5 b5_6 b5_7 b5_8 b5_9 b5_10 b5_11 b5_12 b5_13)) else (ref09_fields_J3 kap k k s3 s4 b1_0 b1_1 b1_2 b1_3 b1_4 b1_5 b1_6 b1_7 b1_8 b1_9 b1_10 b1_11 b1_12 b1_13 b2_0 b2_1 b2_2 b2_3 b2_4 b2_5 b2_6 b2_7 b2_8 b2_9 b2_10 b2_11 b2_12 b2_13 b5_0 b5_1 false b5_3 b5_4 b5_5 b5_6 b5_7 b5_8 b5_9 b5_10 b5_11 b5_12 b5_13))) := by kernel_rfl
theorem ref09_fields_J3_s (kap : FuncId → List AV → Option AV) (k : Nat) (kj : Nat) (s3 : Bool) (s4 : Bool) (b1_0 : Int) (b1_1 : ByteArray) (b1_2 : ByteArray) (b1_3 : Int) (b1_4 : Int) (b1_5 : Int) (b1_6 : Int) (b1_7 : Int) (b1_8 : Int) (b1_9 : ByteArray) (b1_10 : ByteArray) (b1_11 : Int) (b1_12 : Int) (b1_13 : List AV) (b2_0 : Bool) (b2_1 : Bool) (b2_2 : Bool) (b2_3 : Bool) (b2_4 : Bool) (b2_5 : Bool) (b2_6 : Bool) (b2_7 : Bool) (b2_8 : Bool) (b2_9 : Bool) (b2_10 : Bool) (b2_11 : Bool) (b2_12 : Bool) (b2_13 : Bool) (b5_0 : Bool) (b5_1 : Bool) (b5_2 : Bool) (b5_3 : Bool) (b5_4 : Bool) (b5_5 : Bool) (b5_6 : Bool) (b5_7 : Bool) (b5_8 : Bool) (b5_9 : Bool) (b5_10 : Bool) (b5_11 : Bool) (b5_12 : Bool) (b5_13 : Bool) : ref09_fields_J3 kap k (kj + 1) s3 s4 b1_0 b1_1 b1_2 b1_3 b1_4 b1_5 b1_6 b1_7 b1_8 b1_9 b1_10 b1_11 b1_12 b1_13 b2_0 b2_1 b2_2 b2_3 b2_4 b2_5 b2_6 b2_7 b2_8 b2_9 b2_10 b2_11 b2_12 b2_13 b5_0 b5_1 b5_2 b5_3 b5_4 b5_5 b5_6 b5_7 b5_8 b5_9 b5_10 b5_11 b5_12 b5_13 =
  (bif s3 then (callB (kap ref09_name [(.str b1_2)]) fun vq6 => (bif vq6 then (ref09_fields_J4 kap k k s4 b1_0 b1_1 b1_2 b1_3 b1_4 b1_5 b1_6 b1_7 b1_8 b1_9 b1_10 b1_11 b1_12 b1_13 b2_0 b2_1 b2_2 b2_3 b2_4 b2_5 b2_6 b2_7 b2_8 b2_9 b2_10 b2_11 b2_12 b2_13 b5_0 b5_1 b5_2 true b5_4 b5_5 b5_6 b5_7 b5_8 b5_9 b5_10 b5_11 b5_12 b5_13) else (bif (!s3) then (ref09_fields_J4 kap k k s4 b1_0 b1_1 b1_2 b1_3 b1_4 b1_5 b1_6 b1_7 b1_8 b1_9 b1_10 b1_11 b1_12 b1_13 b2_0 b2_1 b2_2 b2_3 b2_4 b2_5 b2_6 b2_7 b2_8 b2_9 b2_10 b2_11 b2_12 b2_13 b5_0 b5_1 b5_2 (decide (b1_2 = (str []))) b5_4 b5_5 b5_6 b5_7 b5_8 b5_9 b5_10 b5_11 b5_12 b5_13) else (ref09_fields_J4 kap k k s4 b1_0 b1_1 b1_2 b1_3 b1_4 b1_5 b1_6 b1_7 b1_8 b1_9 b1_10 b1_11 b1_12 b1_13 b2_0 b2_1 b2_2 b2_3 b2_4 b2_5 b2_6 b2_7 b2_8 b2_9 b2_10 b2_11 b2_12 b2_13 b5_0 b5_1 b5_2 false b5_4 b5_5 b5_6 b5_7 b5_8 b5_9 b5_10 b5_11 b5_12 b5_13)))) else (bif (!s3) then (ref09_fields_J4 kap k k s4 b1_0 b1_1 b1_2 b1_3 b1_4 b1_5 b1_6 b1_7 b1_8 b1_9 b1_10 b1_11 b1_12 b1_13 b2_0 b2_1 b2_2 b2_3 b2_4 b2_5 b2_6 b2_7 b2_8 b2_9 b2_10 b2_11 b2_12 b2_13 b5_0 b5_1 b5_2 (decide (b1_2 = (str []))) b5_4 b5_5 b5_6 b5_7 b5_8 b5_9 b5_10 b5_11 b5_12 b5_13) else (ref09_fields_J4 kap k k s4 b1_0 b1_1 b1_2 b1_3 b1_4 b1_5 b1_6 b1_7 b1_8 b1_9 b1_10 b1_11 b1_12 b1_13 b2_0 b2_1 b2_2 b2_3 b2_4 b2_5 b2_6 b2_7 b2_8 b2_9 b2_10 b2_11 b2_12 b2_13 b5_0 b5_1 b5_2 false b5_4 b5_5 b5_6 b5_7 b5_8 b5_9 b5_10 b5_11 b5_12 b5_13))) := by kernel_rfl
theorem ref09_fields_J4_s (kap : FuncId → List AV → Option AV) (k : Nat) (kj : Nat) (s4 : Bool) (b1_0 : Int) (b1_1 : ByteArray) (b1_2 : ByteArray) (b1_3 : Int) (b1_4 : Int) (b1_5 : Int) (b1_6 : Int) (b1_7 : Int) (b1_8 : Int) (b1_9 : ByteArray) (b1_10 : ByteArray) (b1_11 : Int) (b1_12 : Int) (b1_13 : List AV) (b2_0 : Bool) (b2_1 : Bool) (b2_2 : Bool) (b2_3 : Bool) (b2_4 : Bool) (b2_5 : Bool) (b2_6 : Bool) (b2_7 : Bool) (b2_8 : Bool) (b2_9 : Bool) (b2_10 : Bool) (b2_11 : Bool) (b2_12 : Bool) (b2_13 : Bool) (b5_0 : Bool) (b5_1 : Bool) (b5_2 : Bool) (b5_3 : Bool) (b5_4 : Bool) (b5_5 : Bool) (b5_6 : Bool) (b5_7 : Bool) (b5_8 : Bool) (b5_9 : Bool) (b5_10 : Bool) (b5_11 : Bool) (b5_12 : Bool) (b5_13 : Bool) : ref09_fields_J4 kap k (kj + 1) s4 b1_0 b1_1 b1_2 b1_3 b1_4 b1_5 b1_6 b1_7 b1_8 b1_9 b1_10 b1_11 b1_12 b1_13 b2_0 b2_1 b2_2 b2_3 b2_4 b2_5 b2_6 b2_7 b2_8 b2_9 b2_10 b2_11 b2_12 b2_13 b5_0 b5_1 b5_2 b5_3 b5_4 b5_5 b5_6 b5_7 b5_8 b5_9 b5_10 b5_11 b5_12 b5_13 =
  (bif (decide (b1_6 = (0 : Int))) then (ref09_fields_J5 kap k k s4 b1_0 b1_1 b1_2 b1_3 b1_4 b1_5 b1_6 b1_7 b1_8 b1_9 b1_10 b1_11 b1_12 b1_13 b2_0 b2_1 b2_2 b2_3 b2_4 b2_5 b2_6 b2_7 b2_8 b2_9 b2_10 b2_11 b2_12 b2_13 b5_0 b5_1 b5_2 b5_3 (decide (b1_3 ≥ (0 : Int))) (decide (b1_4 ≥ (0 : Int))) (decide (b1_5 ≥ (0 : Int))) true b5_8 b5_9 b5_10 b5_11 b5_12 b5_13) else (bif (decide (b1_6 > (0 : Int))) then (ref09_fields_J5 kap k k s4 b1_0 b1_1 b1_2 b1_3 b1_4 b1_5 b1_6 b1_7 b1_8 b1_9 b1_10 b1_11 b1_12 b1_13 b2_0 b2_1 b2_2 b2_3 b2_4 b2_5 b2_6 b2_7 b2_8 b2_9 b2_10 b2_11 b2_12 b2_13 b5_0 b5_1 b5_2 b5_3 (decide (b1_3 ≥ (0 : Int))) (decide (b1_4 ≥ (0 : Int))) (decide (b1_5 ≥ (0 : Int))) (decide (b1_0 = (1 : Int))) b5_8 b5_9 b5_10 b5_11 b5_12 b5_13) else (ref09_fields_J5 kap k k s4 b1_0 b1_1 b1_2 b1_3 b1_4 b1_5 b1_6 b1_7 b1_8 b1_9 b1_10 b1_11 b1_12 b1_13 b2_0 b2_1 b2_2 b2_3 b2_4 b2_5 b2_6 b2_7 b2_8 b2_9 b2_10 b2_11 b2_12 b2_13 b5_0 b5_1 b5_2 b5_3 (decide (b1_3 ≥ (0 : Int))) (decide (b1_4 ≥ (0 : Int))) (decide (b1_5 ≥ (0 : Int))) false b5_8 b5_9 b5_10 b5_11 b5_12 b5_13))) := by kernel_rfl
theorem ref09_fields_J5_s (kap : FuncId → List AV → Option AV) (k : Nat) (kj : Nat) (s4 : Bool) (b1_0 : Int) (b1_1 : ByteArray) (b1_2 : ByteArray) (b1_3 : Int) (b1_4 : Int) (b1_5 : Int) (b1_6 : Int) (b1_7 : Int) (b1_8 : Int) (b1_9 : ByteArray) (b1_10 : ByteArray) (b1_11 : Int) (b1_12 : Int) (b1_13 : List AV) (b2_0 : Bool) (b2_1 : Bool) (b2_2 : Bool) (b2_3 : Bool) (b2_4 : Bool) (b2_5 : Bool) (b2_6 : Bool) (b2_7 : Bool) (b2_8 : Bool) (b2_9 : Bool) (b2_10 : Bool) (b2_11 : Bool) (b2_12 : Bool) (b2_13 : Bool) (b5_0 : Bool) (b5_1 : Bool) (b5_2 : Bool) (b5_3 : Bool) (b5_4 : Bool) (b5_5 : Bool) (b5_6 : Bool) (b5_7 : Bool) (b5_8 : Bool) (b5_9 : Bool) (b5_10 : Bool) (b5_11 : Bool) (b5_12 : Bool) (b5_13 : Bool) : ref09_fields_J5 kap k (kj + 1) s4 b1_0 b1_1 b1_2 b1_3 b1_4 b1_5 b1_6 b1_7 b1_8 b1_9 b1_10 b1_11 b1_12 b1_13 b2_0 b2_1 b2_2 b2_3 b2_4 b2_5 b2_6 b2_7 b2_8 b2_9 b2_10 b2_11 b2_12 b2_13 b5_0 b5_1 b5_2 b5_3 b5_4 b5_5 b5_6 b5_7 b5_8 b5_9 b5_10 b5_11 b5_12 b5_13 =
  (callB (kap ref04_Right [(.agg [(.int .i64 b1_7), (.int .i64 b1_8)])]) fun vq8 => (bif (decide (b1_9 = (str []))) then (ref09_fields_J6 kap k k s4 b1_0 b1_1 b1_2 b1_3 b1_4 b1_5 b1_6 b1_7 b1_8 b1_9 b1_10 b1_11 b1_12 b1_13 b2_0 b2_1 b2_2 b2_3 b2_4 b2_5 b2_6 b2_7 b2_8 b2_9 b2_10 b2_11 b2_12 b2_13 b5_0 b5_1 b5_2 b5_3 b5_4 b5_5 b5_6 b5_7 vq8 true b5_10 b5_11 b5_12 b5_13) else (callB (kap ref09_name [(.str b1_9)]) fun vq18 => (ref09_fields_J6 kap k k s4 b1_0 b1_1 b1_2 b1_3 b1_4 b1_5 b1_6 b1_7 b1_8 b1_9 b1_10 b1_11 b1_12 b1_13 b2_0 b2_1 b2_2 b2_3 b2_4 b2_5 b2_6 b2_7 b2_8 b2_9 b2_10 b2_11 b2_12 b2_13 b5_0 b5_1 b5_2 b5_3 b5_4 b5_5 b5_6 b5_7 vq8 vq18 b5_10 b5_11 b5_12 b5_13)))) := by kernel_rfl
theorem ref09_fields_J6_s (kap : FuncId → List AV → Option AV) (k : Nat) (kj : Nat) (s4 : Bool) (b1_0 : Int) (b1_1 : ByteArray) (b1_2 : ByteArray) (b1_3 : Int) (b1_4 : Int) (b1_5 : Int) (b1_6 : Int) (b1_7 : Int) (b1_8 : Int) (b1_9 : ByteArray) (b1_10 : ByteArray) (b1_11 : Int) (b1_12 : Int) (b1_13 : List AV) (b2_0 : Bool) (b2_1 : Bool) (b2_2 : Bool) (b2_3 : Bool) (b2_4 : Bool) (b2_5 : Bool) (b2_6 : Bool) (b2_7 : Bool) (b2_8 : Bool) (b2_9 : Bool) (b2_10 : Bool) (b2_11 : Bool) (b2_12 : Bool) (b2_13 : Bool) (b5_0 : Bool) (b5_1 : Bool) (b5_2 : Bool) (b5_3 : Bool) (b5_4 : Bool) (b5_5 : Bool) (b5_6 : Bool) (b5_7 : Bool) (b5_8 : Bool) (b5_9 : Bool) (b5_10 : Bool) (b5_11 : Bool) (b5_12 : Bool) (b5_13 : Bool) : ref09_fields_J6 kap k (kj + 1) s4 b1_0 b1_1 b1_2 b1_3 b1_4 b1_5 b1_6 b1_7 b1_8 b1_9 b1_10 b1_11 b1_12 b1_13 b2_0 b2_1 b2_2 b2_3 b2_4 b2_5 b2_6 b2_7 b2_8 b2_9 b2_10 b2_11 b2_12 b2_13 b5_0 b5_1 b5_2 b5_3 b5_4 b5_5 b5_6 b5_7 b5_8 b5_9 b5_10 b5_11 b5_12 b5_13 =
  (bif (decide (b1_10 = (str []))) then (ref09_fields_J7 kap k k s4 b1_0 b1_1 b1_2 b1_3 b1_4 b1_5 b1_6 b1_7 b1_8 b1_9 b1_10 b1_11 b1_12 b1_13 b2_0 b2_1 b2_2 b2_3 b2_4 b2_5 b2_6 b2_7 b2_8 b2_9 b2_10 b2_11 b2_12 b2_13 b5_0 b5_1 b5_2 b5_3 b5_4 b5_5 b5_6 b5_7 b5_8 b5_9 true b5_11 b5_12 b5_13) else (callB (kap ref09_name [(.str b1_10)]) fun vq16 => (ref09_fields_J7 kap k k s4 b1_0 b1_1 b1_2 b1_3 b1_4 b1_5 b1_6 b1_7 b1_8 b1_9 b1_10 b1_11 b1_12 b1_13 b2_0 b2_1 b2_2 b2_3 b2_4 b2_5 b2_6 b2_7 b2_8 b2_9 b2_10 b2_11 b2_12 b2_13 b5_0 b5_1 b5_2 b5_3 b5_4 b5_5 b5_6 b5_7 b5_8 b5_9 vq16 b5_11 b5_12 b5_13))) := by kernel_rfl
theorem ref09_fields_J7_s (kap : FuncId → List AV → Option AV) (k : Nat) (kj : Nat) (s4 : Bool) (b1_0 : Int) (b1_1 : ByteArray) (b1_2 : ByteArray) (b1_3 : Int) (b1_4 : Int) (b1_5 : Int) (b1_6 : Int) (b1_7 : Int) (b1_8 : Int) (b1_9 : ByteArray) (b1_10 : ByteArray) (b1_11 : Int) (b1_12 : Int) (b1_13 : List AV) (b2_0 : Bool) (b2_1 : Bool) (b2_2 : Bool) (b2_3 : Bool) (b2_4 : Bool) (b2_5 : Bool) (b2_6 : Bool) (b2_7 : Bool) (b2_8 : Bool) (b2_9 : Bool) (b2_10 : Bool) (b2_11 : Bool) (b2_12 : Bool) (b2_13 : Bool) (b5_0 : Bool) (b5_1 : Bool) (b5_2 : Bool) (b5_3 : Bool) (b5_4 : Bool) (b5_5 : Bool) (b5_6 : Bool) (b5_7 : Bool) (b5_8 : Bool) (b5_9 : Bool) (b5_10 : Bool) (b5_11 : Bool) (b5_12 : Bool) (b5_13 : Bool) : ref09_fields_J7 kap k (kj + 1) s4 b1_0 b1_1 b1_2 b1_3 b1_4 b1_5 b1_6 b1_7 b1_8 b1_9 b1_10 b1_11 b1_12 b1_13 b2_0 b2_1 b2_2 b2_3 b2_4 b2_5 b2_6 b2_7 b2_8 b2_9 b2_10 b2_11 b2_12 b2_13 b5_0 b5_1 b5_2 b5_3 b5_4 b5_5 b5_6 b5_7 b5_8 b5_9 b5_10 b5_11 b5_12 b5_13 =
  (bif (decide (b1_11 = (0 : Int))) then (ref09_fields_J8 kap k k s4 b1_0 b1_1 b1_2 b1_3 b1_4 b1_5 b1_6 b1_7 b1_8 b1_9 b1_10 b1_11 b1_12 b1_13 b2_0 b2_1 b2_2 b2_3 b2_4 b2_5 b2_6 b2_7 b2_8 b2_9 b2_10 b2_11 b2_12 b2_13 b5_0 b5_1 b5_2 b5_3 b5_4 b5_5 b5_6 b5_7 b5_8 b5_9 b5_10 true b5_12 b5_13) else (bif (decide (b1_11 > (0 : Int))) then (ref09_fields_J8 kap k k s4 b1_0 b1_1 b1_2 b1_3 b1_4 b1_5 b1_6 b1_7 b1_8 b1_9 b1_10 b1_11 b1_12 b1_13 b2_0 b2_1 b2_2 b2_3 b2_4 b2_5 b2_6 b2_7 b2_8 b2_9 b2_10 b2_11 b2_12 b2_13 b5_0 b5_1 b5_2 b5_3 b5_4 b5_5 b5_6 b5_7 b5_8 b5_9 b5_10 s4 b5_12 b5_13) else (ref09_fields_J8 kap k k s4 b1_0 b1_1 b1_2 b1_3 b1_4 b1_5 b1_6 b1_7 b1_8 b1_9 b1_10 b1_11 b1_12 b1_13 b2_0 b2_1 b2_2 b2_3 b2_4 b2_5 b2_6 b2_7 b2_8 b2_9 b2_10 b2_11 b2_12 b2_13 b5_0 b5_1 b5_2 b5_3 b5_4 b5_5 b5_6 b5_7 b5_8 b5_9 b5_10 false b5_12 b5_13))) := by kernel_rfl
theorem ref09_fields_J8_s (kap : FuncId → List AV → Option AV) (k : Nat) (kj : Nat) (s4 : Bool) (b1_0 : Int) (b1_1 : ByteArray) (b1_2 : ByteArray) (b1_3 : Int) (b1_4 : Int) (b1_5 : Int) (b1_6 : Int) (b1_7 : Int) (b1_8 : Int) (b1_9 : ByteArray) (b1_10 : ByteArray) (b1_11 : Int) (b1_12 : Int) (b1_13 : List AV) (b2_0 : Bool) (b2_1 : Bool) (b2_2 : Bool) (b2_3 : Bool) (b2_4 : Bool) (b2_5 : Bool) (b2_6 : Bool) (b2_7 : Bool) (b2_8 : Bool) (b2_9 : Bool) (b2_10 : Bool) (b2_11 : Bool) (b2_12 : Bool) (b2_13 : Bool) (b5_0 : Bool) (b5_1 : Bool) (b5_2 : Bool) (b5_3 : Bool) (b5_4 : Bool) (b5_5 : Bool) (b5_6 : Bool) (b5_7 : Bool) (b5_8 : Bool) (b5_9 : Bool) (b5_10 : Bool) (b5_11 : Bool) (b5_12 : Bool) (b5_13 : Bool) : ref09_fields_J8 kap k (kj + 1) s4 b1_0 b1_1 b1_2 b1_3 b1_4 b1_5 b1_6 b1_7 b1_8 b1_9 b1_10 b1_11 b1_12 b1_13 b2_0 b2_1 b2_2 b2_3 b2_4 b2_5 b2_6 b2_7 b2_8 b2_9 b2_10 b2_11 b2_12 b2_13 b5_0 b5_1 b5_2 b5_3 b5_4 b5_5 b5_6 b5_7 b5_8 b5_9 b5_10 b5_11 b5_12 b5_13 =
  (bif (decide (b1_12 = (0 : Int))) then (ref09_fields_J9 kap k k b1_0 b1_1 b1_2 b1_3 b1_4 b1_5 b1_6 b1_7 b1_8 b1_9 b1_10 b1_11 b1_12 b1_13 b2_0 b2_1 b2_2 b2_3 b2_4 b2_5 b2_6 b2_7 b2_8 b2_9 b2_10 b2_11 b2_12 b2_13 b5_0 b5_1 b5_2 b5_3 b5_4 b5_5 b5_6 b5_7 b5_8 b5_9 b5_10 b5_11 true b5_13) else (bif (decide (b1_12 > (0 : Int))) then (ref09_fields_J9 kap k k b1_0 b1_1 b1_2 b1_3 b1_4 b1_5 b1_6 b1_7 b1_8 b1_9 b1_10 b1_11 b1_12 b1_13 b2_0 b2_1 b2_2 b2_3 b2_4 b2_5 b2_6 b2_7 b2_8 b2_9 b2_10 b2_11 b2_12 b2_13 b5_0 b5_1 b5_2 b5_3 b5_4 b5_5 b5_6 b5_7 b5_8 b5_9 b5_10 b5_11 s4 b5_13) else (ref09_fields_J9 kap k k b1_0 b1_1 b1_2 b1_3 b1_4 b1_5 b1_6 b1_7 b1_8 b1_9 b1_10 b1_11 b1_12 b1_13 b2_0 b2_1 b2_2 b2_3 b2_4 b2_5 b2_6 b2_7 b2_8 b2_9 b2_10 b2_11 b2_12 b2_13 b5_0 b5_1 b5_2 b5_3 b5_4 b5_5 b5_6 b5_7 b5_8 b5_9 b5_10 b5_11 false b5_13))) := by kernel_rfl
theorem ref09_fields_J9_s (kap : FuncId → List AV → Option AV) (k : Nat) (kj : Nat) (b1_0 : Int) (b1_1 : ByteArray) (b1_2 : ByteArray) (b1_3 : Int) (b1_4 : Int) (b1_5 : Int) (b1_6 : Int) (b1_7 : Int) (b1_8 : Int) (b1_9 : ByteArray) (b1_10 : ByteArray) (b1_11 : Int) (b1_12 : Int) (b1_13 : List AV) (b2_0 : Bool) (b2_1 : Bool) (b2_2 : Bool) (b2_3 : Bool) (b2_4 : Bool) (b2_5 : Bool) (b2_6 : Bool) (b2_7 : Bool) (b2_8 : Bool) (b2_9 : Bool) (b2_10 : Bool) (b2_11 : Bool) (b2_12 : Bool) (b2_13 : Bool) (b5_0 : Bool) (b5_1 : Bool) (b5_2 : Bool) (b5_3 : Bool) (b5_4 : Bool) (b5_5 : Bool) (b5_6 : Bool) (b5_7 : Bool) (b5_8 : Bool) (b5_9 : Bool) (b5_10 : Bool) (b5_11 : Bool) (b5_12 : Bool) (b5_13 : Bool) : ref09_fields_J9 kap k (kj + 1) b1_0 b1_1 b1_2 b1_3 b1_4 b1_5 b1_6 b1_7 b1_8 b1_9 b1_10 b1_11 b1_12 b1_13 b2_0 b2_1 b2_2 b2_3 b2_4 b2_5 b2_6 b2_7 b2_8 b2_9 b2_10 b2_11 b2_12 b2_13 b5_0 b5_1 b5_2 b5_3 b5_4 b5_5 b5_6 b5_7 b5_8 b5_9 b5_10 b5_11 b5_12 b5_13 =
  (callB (kap ref08_Right [(.list 2 b1_13)]) fun vq10 => (ref09_fields_L10 kap k k (0 : Int) b1_0 b1_1 b1_2 b1_3 b1_4 b1_5 b1_6 b1_7 b1_8 b1_9 b1_10 b1_11 b1_12 b1_13 b2_0 b2_1 b2_2 b2_3 b2_4 b2_5 b2_6 b2_7 b2_8 b2_9 b2_10 b2_11 b2_12 b2_13 b5_0 b5_1 b5_2 b5_3 b5_4 b5_5 b5_6 b5_7 b5_8 b5_9 b5_10 b5_11 b5_12 vq10)) := by kernel_rfl
theorem ref09_fields_L10_s (kap : FuncId → List AV → Option AV) (k : Nat) (k10 : Nat) (s6 : Int) (b1_0 : Int) (b1_1 : ByteArray) (b1_2 : ByteArray) (b1_3 : Int) (b1_4 : Int) (b1_5 : Int) (b1_6 : Int) (b1_7 : Int) (b1_8 : Int) (b1_9 : ByteArray) (b1_10 : ByteArray) (b1_11 : Int) (b1_12 : Int) (b1_13 : List AV) (b2_0 : Bool) (b2_1 : Bool) (b2_2 : Bool) (b2_3 : Bool) (b2_4 : Bool) (b2_5 : Bool) (b2_6 : Bool) (b2_7 : Bool) (b2_8 : Bool) (b2_9 : Bool) (b2_10 : Bool) (b2_11 : Bool) (b2_12 : Bool) (b2_13 : Bool) (b5_0 : Bool) (b5_1 : Bool) (b5_2 : Bool) (b5_3 : Bool) (b5_4 : Bool) (b5_5 : Bool) (b5_6 : Bool) (b5_7 : Bool) (b5_8 : Bool) (b5_9 : Bool) (b5_10 : Bool) (b5_11 : Bool) (b5_12 : Bool) (b5_13 : Bool) : ref09_fields_L10 kap k (k10 + 1) s6 b1_0 b1_1 b1_2 b1_3 b1_4 b1_5 b1_6 b1_7 b1_8 b1_9 b1_10 b1_11 b1_12 b1_13 b2_0 b2_1 b2_2 b2_3 b2_4 b2_5 b2_6 b2_7 b2_8 b2_9 b2_10 b2_11 b2_12 b2_13 b5_0 b5_1 b5_2 b5_3 b5_4 b5_5 b5_6 b5_7 b5_8 b5_9 b5_10 b5_11 b5_12 b5_13 =
  (bif (decide (s6 < (((List.length b1_13) : Nat) : Int))) then (bif b5_13 then (bif ((decide ((0 : Int) ≤ s6)) && (decide (s6 < (((List.length b1_13) : Nat) : Int)))) then ((b1_13[(Int.toNat s6)]?).bind fun vy11 => (cellS (AV.cells vy11) 0 fun vs12 => (callI .i64 (kap ref07_Which [(.str vs12)]) fun vn14 => (ref09_fields_L10 kap k k10 (IntKind.wrap .i64 (s6 + (1 : Int))) b1_0 b1_1 b1_2 b1_3 b1_4 b1_5 b1_6 b1_7 b1_8 b1_9 b1_10 b1_11 b1_12 b1_13 b2_0 b2_1 b2_2 b2_3 b2_4 b2_5 b2_6 b2_7 b2_8 b2_9 b2_10 b2_11 b2_12 b2_13 b5_0 b5_1 b5_2 b5_3 b5_4 b5_5 b5_6 b5_7 b5_8 b5_9 b5_10 b5_11 b5_12 (decide (vn14 < (0 : Int))))))) else none) else (ref09_fields_L10 kap k k10 (IntKind.wrap .i64 (s6 + (1 : Int))) b1_0 b1_1 b1_2 b1_3 b1_4 b1_5 b1_6 b1_7 b1_8 b1_9 b1_10 b1_11 b1_12 b1_13 b2_0 b2_1 b2_2 b2_3 b2_4 b2_5 b2_6 b2_7 b2_8 b2_9 b2_10 b2_11 b2_12 b2_13 b5_0 b5_1 b5_2 b5_3 b5_4 b5_5 b5_6 b5_7 b5_8 b5_9 b5_10 b5_11 b5_12 false)) else (some (.agg [(.bool b5_0), (.bool b5_1), (.bool b5_2), (.bool b5_3), (.bool b5_4), (.bool b5_5), (.bool b5_6), (.bool b5_7), (.bool b5_8), (.bool b5_9), (.bool b5_10), (.bool b5_11), (.bool b5_12), (.bool b5_13)]))) := by kernel_rfl
theorem ref09_fields_eq {E : Ext} [Core E] (k n : Nat) (a0_0 : Int) (a0_1 : ByteArray) (a0_2 : ByteArray) (a0_3 : Int) (a0_4 : Int) (a0_5 : Int) (a0_6 : Int) (a0_7 : Int) (a0_8 : Int) (a0_9 : ByteArray) (a0_10 : ByteArray) (a0_11 : Int) (a0_12 : Int) (a0_13 : List AV) : kp E k (n + 1) ref09_fields [(.agg [(.int .i64 a0_0), (.str a0_1), (.str a0_2), (.int .i64 a0_3), (.int .i64 a0_4), (.int .i64 a0_5), (.int .i64 a0_6), (.int .i64 a0_7), (.int .i64 a0_8), (.str a0_9), (.str a0_10), (.int .i64 a0_11), (.int .i64 a0_12), (.list 2 a0_13)])] =
  (bif (decide (a0_0 = (2 : Int))) then (ref09_fields_J0 (kp E k n) k k true a0_0 a0_1 a0_2 a0_3 a0_4 a0_5 a0_6 a0_7 a0_8 a0_9 a0_10 a0_11 a0_12 a0_13 false false false false false false false false false false false false false false) else (ref09_fields_J0 (kp E k n) k k (decide (a0_0 = (3 : Int))) a0_0 a0_1 a0_2 a0_3 a0_4 a0_5 a0_6 a0_7 a0_8 a0_9 a0_10 a0_11 a0_12 a0_13 false false false false false false false false false false false false false false)) := (kp_at (by kernel_rfl)).trans (by kernel_rfl)
/- oakum/oakumref07.Len -/
noncomputable def ref07_Len_bd : Code := Tryz.f58.body.getD .skip
noncomputable def ref07_Len_L0 (kap : FuncId → List AV → Option AV) (k : Nat) (k0 : Nat) (s3 : Int) (b1_0 : ByteArray) (b1_1 : ByteArray) : Option AV :=
  loop (fun fr K => code ((bs E0 k).cfg kap ref07_Len) (sel ref07_Len_bd [1, 1, 0, 0]) fr K) (canon ((bs E0 k).cfg kap ref07_Len) (firstReg (sel ref07_Len_bd [1, 1, 0, 0]))) k0 (mkFr 23 [(1, (.loc 1 0)), (3, (.int .i64 s3))] [(1, (.box [(.str b1_0), (.str b1_1)]))]) (plug ((bs E0 k).cfg kap ref07_Len) (retK ((bs E0 k).cfg kap ref07_Len) [] Tryz.f58 [] some) [.blk 0])
theorem ref07_Len_L0_s (kap : FuncId → List AV → Option AV) (k : Nat) (k0 : Nat) (s3 : Int) (b1_0 : ByteArray) (b1_1 : ByteArray) : ref07_Len_L0 kap k (k0 + 1) s3 b1_0 b1_1 =
  (callS (kap ref04_Digits [(.int .i64 (IntKind.wrap .i64 ((IntKind.wrap .i64 ((IntKind.wrap .i64 (s3 + (((ByteArray.size b1_0) : Nat) : Int))) + (((ByteArray.size b1_1) : Nat) : Int))) + (3 : Int))))]) fun vs2 => (bif (decide ((((ByteArray.size vs2) : Nat) : Int) = s3)) then (some (.int .i64 (IntKind.wrap .i64 ((IntKind.wrap .i64 ((IntKind.wrap .i64 (s3 + (((ByteArray.size b1_0) : Nat) : Int))) + (((ByteArray.size b1_1) : Nat) : Int))) + (3 : Int))))) else (ref07_Len_L0 kap k k0 (IntKind.wrap .i64 (s3 + (1 : Int))) b1_0 b1_1))) := by kernel_rfl
theorem ref07_Len_eq {E : Ext} [Core E] (k n : Nat) (a0_0 : ByteArray) (a0_1 : ByteArray) : kp E k (n + 1) ref07_Len [(.agg [(.str a0_0), (.str a0_1)])] =
  (ref07_Len_L0 (kp E k n) k k (1 : Int) a0_0 a0_1) := (kp_at (by kernel_rfl)).trans (by kernel_rfl)
/- oakum/oakumref09.Fulls -/
theorem ref09_Fulls_eq {E : Ext} [Core E] (k n : Nat) (a0_0 : Int) (a0_1 : ByteArray) (a0_2 : ByteArray) (a0_3 : Int) (a0_4 : Int) (a0_5 : Int) (a0_6 : Int) (a0_7 : Int) (a0_8 : Int) (a0_9 : ByteArray) (a0_10 : ByteArray) (a0_11 : Int) (a0_12 : Int) (a0_13 : List AV) : kp E k (n + 1) ref09_Fulls [(.agg [(.int .i64 a0_0), (.str a0_1), (.str a0_2), (.int .i64 a0_3), (.int .i64 a0_4), (.int .i64 a0_5), (.int .i64 a0_6), (.int .i64 a0_7), (.int .i64 a0_8), (.str a0_9), (.str a0_10), (.int .i64 a0_11), (.int .i64 a0_12), (.list 2 a0_13)])] =
  (bif (!(decide (a0_0 = (6 : Int)))) then (some (.list 1 [(.str a0_1)])) else (callB (kp E k n ref09_Slash [(.str a0_1)]) fun vq2 => (bif vq2 then (bif (!(decide (a0_1 = (str [47])))) then (bif (decide ((ByteArray.size a0_1) + 1 ≤ 9223372036854775807)) then (some (.list 1 [(.str (a0_1 ++ (str [47])))])) else none) else (bif (decide ((ByteArray.size a0_1) + 1 ≤ 9223372036854775807)) then (some (.list 1 [(.str a0_1), (.str (a0_1 ++ (str [47])))])) else none)) else (bif (decide ((ByteArray.size a0_1) + 1 ≤ 9223372036854775807)) then (some (.list 1 [(.str a0_1), (.str (a0_1 ++ (str [47])))])) else none)))) := (kp_at (by kernel_rfl)).trans (by kernel_rfl)
/- oakum/oakumref09.Slash -/
theorem ref09_Slash_eq {E : Ext} [Core E] (k n : Nat) (a0 : ByteArray) : kp E k (n + 1) ref09_Slash [(.str a0)] =
  (bif (!(decide (a0 = (str [])))) then (bif ((decide ((0 : Int) ≤ (IntKind.wrap .i64 ((((ByteArray.size a0) : Nat) : Int) - (1 : Int))))) && (decide ((IntKind.wrap .i64 ((((ByteArray.size a0) : Nat) : Int) - (1 : Int))) < (((ByteArray.size a0) : Nat) : Int)))) then (some (.bool (decide ((byteAt a0 (Int.toNat (IntKind.wrap .i64 ((((ByteArray.size a0) : Nat) : Int) - (1 : Int))))) = (47 : Int))))) else none) else (some (.bool false))) := (kp_at (by kernel_rfl)).trans (by kernel_rfl)
/- oakum/oakumref05.First -/
noncomputable def ref05_First_bd : Code := Tryz.f65.body.getD .skip
noncomputable def ref05_First_L0 (kap : FuncId → List AV → Option AV) (k : Nat) (k0 : Nat) (s3 : List AV) (s4 : Int) : Option AV :=
  loop (fun fr K => code ((bs E0 k).cfg kap ref05_First) (sel ref05_First_bd [1, 1, 0, 1, 0, 0]) fr K) (canon ((bs E0 k).cfg kap ref05_First) (firstReg (sel ref05_First_bd [1, 1, 0, 1, 0, 0]))) k0 (mkFr 24 [(3, (.list 1 s3)), (4, (.int .i64 s4))] []) (plug ((bs E0 k).cfg kap ref05_First) (retK ((bs E0 k).cfg kap ref05_First) [] Tryz.f65 [] some) [.blk 0, .seqR (sel ref05_First_bd [1, 1, 1])])
theorem ref05_First_L0_s (kap : FuncId → List AV → Option AV) (k : Nat) (k0 : Nat) (s3 : List AV) (s4 : Int) : ref05_First_L0 kap k (k0 + 1) s3 s4 =
  (bif (decide (s4 < (((List.length s3) : Nat) : Int))) then (bif ((decide ((0 : Int) ≤ s4)) && (decide (s4 < (((List.length s3) : Nat) : Int)))) then ((s3[(Int.toNat s4)]?).bind fun vy3 => (cellI .i64 (AV.cells vy3) 0 fun vn4 => (bif (decide (vn4 < (0 : Int))) then (bif ((decide ((0 : Int) ≤ s4)) && (decide (s4 < (((List.length s3) : Nat) : Int)))) then ((s3[(Int.toNat s4)]?).bind fun vy5 => (cellI .i64 (AV.cells vy5) 0 fun vn6 => (some (.int .i64 (IntKind.wrap .i64 ((IntKind.wrap .i64 (0 - vn6)) - (1 : Int))))))) else none) else (ref05_First_L0 kap k k0 s3 (IntKind.wrap .i64 (s4 + (1 : Int))))))) else none) else (some (.int .i64 (-1 : Int)))) := by kernel_rfl
theorem ref05_First_eq {E : Ext} [Core E] (k n : Nat) (a0 : ByteArray) : kp E k (n + 1) ref05_First [(.str a0)] =
  (callL 1 (kp E k n ref05_Ends [(.str a0)]) fun vl2 => (ref05_First_L0 (kp E k n) k k vl2 (0 : Int))) := (kp_at (by kernel_rfl)).trans (by kernel_rfl)
/- oakum/oakumref08.Lay -/
noncomputable def ref08_Lay_bd : Code := Tryz.f68.body.getD .skip
noncomputable def ref08_Lay_L0 (kap : FuncId → List AV → Option AV) (k : Nat) (k0 : Nat) (s7 : ByteArray) (s8 : Bool) (x5 : List AV) (x6 : List AV) : Option AV :=
  loop (fun fr K => code ((bs E0 k).cfg kap ref08_Lay) (sel ref08_Lay_bd [1, 1, 1, 1, 0, 0]) fr K) (canon ((bs E0 k).cfg kap ref08_Lay) (firstReg (sel ref08_Lay_bd [1, 1, 1, 1, 0, 0]))) k0 (mkFr 64 [(5, (.own 5)), (6, (.own 6)), (7, (.str s7)), (8, (.bool s8))] [(5, (.row 50 x5 true)), (6, (.row 50 x6 false))]) (plug ((bs E0 k).cfg kap ref08_Lay) (retK ((bs E0 k).cfg kap ref08_Lay) [] Tryz.f68 [] some) [.blk 0])
noncomputable def ref08_Lay_L1 (kap : FuncId → List AV → Option AV) (k : Nat) (k0 : Nat) (k1 : Nat) (s7 : ByteArray) (s8 : Bool) (s9 : ByteArray) (s10 : Bool) (s11 : Int) (x5 : List AV) (x6 : List AV) : Option AV :=
  loop (fun fr K => code ((bs E0 k).cfg kap ref08_Lay) (sel ref08_Lay_bd [1, 1, 1, 1, 0, 0, 0, 1, 0, 1, 0, 0]) fr K) (canon ((bs E0 k).cfg kap ref08_Lay) (firstReg (sel ref08_Lay_bd [1, 1, 1, 1, 0, 0, 0, 1, 0, 1, 0, 0]))) k1 (mkFr 64 [(5, (.own 5)), (6, (.own 6)), (7, (.str s7)), (8, (.bool s8)), (9, (.str s9)), (10, (.bool s10)), (11, (.int .i64 s11))] [(5, (.row 50 x5 true)), (6, (.row 50 x6 false))]) (plug ((bs E0 k).cfg kap ref08_Lay) (retK ((bs E0 k).cfg kap ref08_Lay) [] Tryz.f68 [] some) [.blk 2, .seqR (sel ref08_Lay_bd [1, 1, 1, 1, 0, 0, 0, 1, 1]), .blk 1, .lp (sel ref08_Lay_bd [1, 1, 1, 1, 0, 0]) k0, .blk 0])
theorem ref08_Lay_L0_s (kap : FuncId → List AV → Option AV) (k : Nat) (k0 : Nat) (s7 : ByteArray) (s8 : Bool) (x5 : List AV) (x6 : List AV) : ref08_Lay_L0 kap k (k0 + 1) s7 s8 x5 x6 =
  (ref08_Lay_L1 kap k k0 k s7 s8 (str []) false (0 : Int) x5 x6) := by kernel_rfl
theorem ref08_Lay_L1_s (kap : FuncId → List AV → Option AV) (k : Nat) (k0 : Nat) (k1 : Nat) (s7 : ByteArray) (s8 : Bool) (s9 : ByteArray) (s10 : Bool) (s11 : Int) (x5 : List AV) (x6 : List AV) : ref08_Lay_L1 kap k k0 (k1 + 1) s7 s8 s9 s10 s11 x5 x6 =
  (bif (decide (s11 < (((List.length x5) : Nat) : Int))) then (bif ((decide ((0 : Int) ≤ s11)) && (decide (s11 < (((List.length x5) : Nat) : Int)))) then ((x5[(Int.toNat s11)]?).bind fun vy1 => (cellS (AV.cells vy1) 0 fun vs2 => (bif s8 then (bif (!s10) then (ref08_Lay_L1 kap k k0 k1 s7 s8 vs2 true (IntKind.wrap .i64 (s11 + (1 : Int))) x5 x6) else (bif (Op.bytesLess (ByteArray.toList vs2) (ByteArray.toList s9)) then (ref08_Lay_L1 kap k k0 k1 s7 s8 vs2 true (IntKind.wrap .i64 (s11 + (1 : Int))) x5 x6) else (ref08_Lay_L1 kap k k0 k1 s7 s8 s9 s10 (IntKind.wrap .i64 (s11 + (1 : Int))) x5 x6))) else (bif (!((Op.bytesLess (ByteArray.toList vs2) (ByteArray.toList s7)) || (decide (vs2 = s7)))) then (bif (!s10) then (ref08_Lay_L1 kap k k0 k1 s7 s8 vs2 true (IntKind.wrap .i64 (s11 + (1 : Int))) x5 x6) else (bif (Op.bytesLess (ByteArray.toList vs2) (ByteArray.toList s9)) then (ref08_Lay_L1 kap k k0 k1 s7 s8 vs2 true (IntKind.wrap .i64 (s11 + (1 : Int))) x5 x6) else (ref08_Lay_L1 kap k k0 k1 s7 s8 s9 s10 (IntKind.wrap .i64 (s11 + (1 : Int))) x5 x6))) else (ref08_Lay_L1 kap k k0 k1 s7 s8 s9 s10 (IntKind.wrap .i64 (s11 + (1 : Int))) x5 x6))))) else none) else (bif (!s10) then (some (.list 2 x6)) else (callT (kap ref08_Last [(.list 2 x5), (.str s9)]) fun vt4 => (tupS vt4 fun vs5 vt6 => (tupB vt6 fun vq7 vt8 => (atNil vt8 (bif vq7 then (bif (decide (((List.length x6) + 1) * 32 ≤ 140737488355328) && decide (((List.length x6) + 1) ≤ 9223372036854775807)) then (ref08_Lay_L0 kap k k0 s9 false x5 (x6 ++ [(.agg [(.str s9), (.str vs5)])])) else none) else (ref08_Lay_L0 kap k k0 s9 false x5 x6)))))))) := by kernel_rfl
theorem ref08_Lay_eq {E : Ext} [Core E] (k n : Nat) (a0 : List AV) (a1 : List AV) : kp E k (n + 1) ref08_Lay [(.list 2 a0), (.list 2 a1)] =
  (bif (decide ((0 + (List.length a0)) * 32 ≤ 140737488355328) && decide ((0 + (List.length a0)) ≤ 9223372036854775807)) then (bif (decide (((List.length ([] ++ a0)) + (List.length a1)) * 32 ≤ 140737488355328) && decide (((List.length ([] ++ a0)) + (List.length a1)) ≤ 9223372036854775807)) then (ref08_Lay_L0 (kp E k n) k k (str []) true (([] ++ a0) ++ a1) []) else none) else none) := (kp_at (by kernel_rfl)).trans (by kernel_rfl)
/- oakum/pax.Len -/
noncomputable def pax_Len_bd : Code := Tryz.f75.body.getD .skip
noncomputable def pax_Len_L0 (kap : FuncId → List AV → Option AV) (k : Nat) (k0 : Nat) (s3 : Int) (s4 : Int) : Option AV :=
  loop (fun fr K => code ((bs E0 k).cfg kap pax_Len) (sel pax_Len_bd [1, 1, 1, 0, 0]) fr K) (canon ((bs E0 k).cfg kap pax_Len) (firstReg (sel pax_Len_bd [1, 1, 1, 0, 0]))) k0 (mkFr 25 [(3, (.int .i64 s3)), (4, (.int .i64 s4))] []) (plug ((bs E0 k).cfg kap pax_Len) (retK ((bs E0 k).cfg kap pax_Len) [] Tryz.f75 [] some) [.blk 0])
theorem pax_Len_L0_s (kap : FuncId → List AV → Option AV) (k : Nat) (k0 : Nat) (s3 : Int) (s4 : Int) : pax_Len_L0 kap k (k0 + 1) s3 s4 =
  (callS (kap strconv_Itoa [(.int .i64 s4)]) fun vs2 => (bif (decide ((IntKind.wrap .i64 (s3 + (((ByteArray.size vs2) : Nat) : Int))) = s4)) then (some (.int .i64 s4)) else (pax_Len_L0 kap k k0 s3 (IntKind.wrap .i64 (s3 + (((ByteArray.size vs2) : Nat) : Int)))))) := by kernel_rfl
theorem pax_Len_eq {E : Ext} [Core E] (k n : Nat) (a0_0 : ByteArray) (a0_1 : ByteArray) : kp E k (n + 1) pax_Len [(.agg [(.str a0_0), (.str a0_1)])] =
  (pax_Len_L0 (kp E k n) k k (IntKind.wrap .i64 ((IntKind.wrap .i64 ((((ByteArray.size a0_0) : Nat) : Int) + (((ByteArray.size a0_1) : Nat) : Int))) + (3 : Int))) (IntKind.wrap .i64 ((IntKind.wrap .i64 ((((ByteArray.size a0_0) : Nat) : Int) + (((ByteArray.size a0_1) : Nat) : Int))) + (3 : Int)))) := (kp_at (by kernel_rfl)).trans (by kernel_rfl)
/- oakum/pax.record -/
/- oakum/oakumref01.Same -/
/- oakum/oakumref09.name -/
theorem ref09_name_eq {E : Ext} [Core E] (k n : Nat) (a0 : ByteArray) : kp E k (n + 1) ref09_name [(.str a0)] =
  (bif (!(decide (a0 = (str [])))) then (bif (decide ((((ByteArray.size a0) : Nat) : Int) ≤ (65536 : Int))) then (callB (kp E k n ref02_Clean [(.str a0)]) fun vq2 => (some (.bool vq2))) else (some (.bool false))) else (some (.bool false))) := (kp_at (by kernel_rfl)).trans (by kernel_rfl)
/- oakum/oakumref08.Right -/
noncomputable def ref08_Right_bd : Code := Tryz.f111.body.getD .skip
noncomputable def ref08_Right_L0 (kap : FuncId → List AV → Option AV) (k : Nat) (k0 : Nat) (s0 : List AV) (s3 : Int) : Option AV :=
  loop (fun fr K => code ((bs E0 k).cfg kap ref08_Right) (sel ref08_Right_bd [1, 0, 1, 0, 0]) fr K) (canon ((bs E0 k).cfg kap ref08_Right) (firstReg (sel ref08_Right_bd [1, 0, 1, 0, 0]))) k0 (mkFr 20 [(0, (.list 2 s0)), (3, (.int .i64 s3))] []) (plug ((bs E0 k).cfg kap ref08_Right) (retK ((bs E0 k).cfg kap ref08_Right) [] Tryz.f111 [] some) [.blk 0, .seqR (sel ref08_Right_bd [1, 1])])
theorem ref08_Right_L0_s (kap : FuncId → List AV → Option AV) (k : Nat) (k0 : Nat) (s0 : List AV) (s3 : Int) : ref08_Right_L0 kap k (k0 + 1) s0 s3 =
  (bif (decide (s3 < (((List.length s0) : Nat) : Int))) then (bif ((decide ((0 : Int) ≤ s3)) && (decide (s3 < (((List.length s0) : Nat) : Int)))) then ((s0[(Int.toNat s3)]?).bind fun vy1 => (cellS (AV.cells vy1) 0 fun vs2 => (cellS (AV.cells vy1) 1 fun vs3 => (callB (kap ref07_Right [(.agg [(.str vs2), (.str vs3)])]) fun vq5 => (bif (!vq5) then (some (.bool false)) else (ref08_Right_L0 kap k k0 s0 (IntKind.wrap .i64 (s3 + (1 : Int))))))))) else none) else (callL 2 (kap ref08_Lay [(.list 2 s0), (.list 2 [])]) fun vl7 => (callB (kap ref07_Same [(.list 2 vl7), (.list 2 s0)]) fun vq9 => (some (.bool vq9))))) := by kernel_rfl
theorem ref08_Right_eq {E : Ext} [Core E] (k n : Nat) (a0 : List AV) : kp E k (n + 1) ref08_Right [(.list 2 a0)] =
  (ref08_Right_L0 (kp E k n) k k a0 (0 : Int)) := (kp_at (by kernel_rfl)).trans (by kernel_rfl)
/- oakum/oakumref07.Which -/
noncomputable def ref07_Which_bd : Code := Tryz.f112.body.getD .skip
noncomputable def ref07_Which_L0 (kap : FuncId → List AV → Option AV) (k : Nat) (k0 : Nat) (s0 : ByteArray) (s3 : List AV) (s4 : Int) : Option AV :=
  loop (fun fr K => code ((bs E0 k).cfg kap ref07_Which) (sel ref07_Which_bd [1, 1, 0, 1, 0, 0]) fr K) (canon ((bs E0 k).cfg kap ref07_Which) (firstReg (sel ref07_Which_bd [1, 1, 0, 1, 0, 0]))) k0 (mkFr 19 [(0, (.str s0)), (3, (.list 1 s3)), (4, (.int .i64 s4))] []) (plug ((bs E0 k).cfg kap ref07_Which) (retK ((bs E0 k).cfg kap ref07_Which) [] Tryz.f112 [] some) [.blk 0, .seqR (sel ref07_Which_bd [1, 1, 1])])
theorem ref07_Which_L0_s (kap : FuncId → List AV → Option AV) (k : Nat) (k0 : Nat) (s0 : ByteArray) (s3 : List AV) (s4 : Int) : ref07_Which_L0 kap k (k0 + 1) s0 s3 s4 =
  (bif (decide (s4 < (((List.length s3) : Nat) : Int))) then (bif ((decide ((0 : Int) ≤ s4)) && (decide (s4 < (((List.length s3) : Nat) : Int)))) then ((s3[(Int.toNat s4)]?).bind fun vy3 => (cellS (AV.cells vy3) 0 fun vs4 => (bif (decide (vs4 = s0)) then (some (.int .i64 s4)) else (ref07_Which_L0 kap k k0 s0 s3 (IntKind.wrap .i64 (s4 + (1 : Int))))))) else none) else (some (.int .i64 (-1 : Int)))) := by kernel_rfl
theorem ref07_Which_eq {E : Ext} [Core E] (k n : Nat) (a0 : ByteArray) : kp E k (n + 1) ref07_Which [(.str a0)] =
  (callL 1 (kp E k n ref07_Keys []) fun vl2 => (ref07_Which_L0 (kp E k n) k k a0 vl2 (0 : Int))) := (kp_at (by kernel_rfl)).trans (by kernel_rfl)
/- oakum/oakumref05.Ends -/
noncomputable def ref05_Ends_bd : Code := Tryz.f119.body.getD .skip
noncomputable def ref05_Ends_L0 (kap : FuncId → List AV → Option AV) (k : Nat) (k0 : Nat) (s0 : ByteArray) (s4 : Int) (x3 : List AV) : Option AV :=
  loop (fun fr K => code ((bs E0 k).cfg kap ref05_Ends) (sel ref05_Ends_bd [1, 1, 0, 1, 0, 0]) fr K) (canon ((bs E0 k).cfg kap ref05_Ends) (firstReg (sel ref05_Ends_bd [1, 1, 0, 1, 0, 0]))) k0 (mkFr 30 [(0, (.str s0)), (3, (.own 3)), (4, (.int .i64 s4))] [(3, (.row 3 x3 false))]) (plug ((bs E0 k).cfg kap ref05_Ends) (retK ((bs E0 k).cfg kap ref05_Ends) [] Tryz.f119 [] some) [.blk 0, .seqR (sel ref05_Ends_bd [1, 1, 1])])
theorem ref05_Ends_L0_s (kap : FuncId → List AV → Option AV) (k : Nat) (k0 : Nat) (s0 : ByteArray) (s4 : Int) (x3 : List AV) : ref05_Ends_L0 kap k (k0 + 1) s0 s4 x3 =
  (bif (decide (s4 < (((ByteArray.size s0) : Nat) : Int))) then (callI .i64 (kap ref05_size [(.str s0), (.int .i64 s4)]) fun vn2 => (bif (decide (vn2 = (0 : Int))) then (bif (decide (((List.length x3) + 1) * 8 ≤ 140737488355328) && decide (((List.length x3) + 1) ≤ 9223372036854775807)) then (ref05_Ends_L0 kap k k0 s0 (IntKind.wrap .i64 (s4 + (1 : Int))) (x3 ++ [(.int .i64 (IntKind.wrap .i64 (0 - (IntKind.wrap .i64 (s4 + (1 : Int))))))])) else none) else (bif (decide (((List.length x3) + 1) * 8 ≤ 140737488355328) && decide (((List.length x3) + 1) ≤ 9223372036854775807)) then (ref05_Ends_L0 kap k k0 s0 (IntKind.wrap .i64 (s4 + vn2)) (x3 ++ [(.int .i64 (IntKind.wrap .i64 (s4 + vn2)))])) else none))) else (some (.list 1 x3))) := by kernel_rfl
theorem ref05_Ends_eq {E : Ext} [Core E] (k n : Nat) (a0 : ByteArray) : kp E k (n + 1) ref05_Ends [(.str a0)] =
  (ref05_Ends_L0 (kp E k n) k k a0 (0 : Int) []) := (kp_at (by kernel_rfl)).trans (by kernel_rfl)
/- oakum/oakumref08.Last -/
noncomputable def ref08_Last_bd : Code := Tryz.f120.body.getD .skip
noncomputable def ref08_Last_L0 (kap : FuncId → List AV → Option AV) (k : Nat) (k0 : Nat) (s0 : List AV) (s1 : ByteArray) (s6 : Int) : Option AV :=
  loop (fun fr K => code ((bs E0 k).cfg kap ref08_Last) (sel ref08_Last_bd [1, 0, 1, 0, 0]) fr K) (canon ((bs E0 k).cfg kap ref08_Last) (firstReg (sel ref08_Last_bd [1, 0, 1, 0, 0]))) k0 (mkFr 32 [(0, (.list 2 s0)), (1, (.str s1)), (6, (.int .i64 s6))] []) (plug ((bs E0 k).cfg kap ref08_Last) (retK ((bs E0 k).cfg kap ref08_Last) [] Tryz.f120 [] some) [.blk 0, .seqR (sel ref08_Last_bd [1, 1])])
theorem ref08_Last_L0_s (kap : FuncId → List AV → Option AV) (k : Nat) (k0 : Nat) (s0 : List AV) (s1 : ByteArray) (s6 : Int) : ref08_Last_L0 kap k (k0 + 1) s0 s1 s6 =
  (bif (decide (s6 ≥ (0 : Int))) then (bif ((decide ((0 : Int) ≤ s6)) && (decide (s6 < (((List.length s0) : Nat) : Int)))) then ((s0[(Int.toNat s6)]?).bind fun vy1 => (cellS (AV.cells vy1) 0 fun vs2 => (bif (decide (vs2 = s1)) then (bif ((decide ((0 : Int) ≤ s6)) && (decide (s6 < (((List.length s0) : Nat) : Int)))) then ((s0[(Int.toNat s6)]?).bind fun vy3 => (cellS (AV.cells vy3) 1 fun vs4 => (bif ((decide ((0 : Int) ≤ s6)) && (decide (s6 < (((List.length s0) : Nat) : Int)))) then ((s0[(Int.toNat s6)]?).bind fun vy5 => (cellS (AV.cells vy5) 1 fun vs6 => (some (.tup [(.str vs4), (.bool (!(decide (vs6 = (str [])))))])))) else none))) else none) else (ref08_Last_L0 kap k k0 s0 s1 (IntKind.wrap .i64 (s6 - (1 : Int))))))) else none) else (some (.tup [(.str (str [])), (.bool false)]))) := by kernel_rfl
theorem ref08_Last_eq {E : Ext} [Core E] (k n : Nat) (a0 : List AV) (a1 : ByteArray) : kp E k (n + 1) ref08_Last [(.list 2 a0), (.str a1)] =
  (ref08_Last_L0 (kp E k n) k k a0 a1 (IntKind.wrap .i64 ((((List.length a0) : Nat) : Int) - (1 : Int)))) := (kp_at (by kernel_rfl)).trans (by kernel_rfl)
/- oakum/pax.length -/
/- oakum/oakumref05.Mend -/
/- oakum/oakumref05.Cut -/
/- oakum/oakumref02.Clean -/
theorem ref02_Clean_eq {E : Ext} [Core E] (k n : Nat) (a0 : ByteArray) : kp E k (n + 1) ref02_Clean [(.str a0)] =
  (callS (kp E k n ref02_Get [(.list 1 (bytesAV a0))]) fun vs2 => (some (.bool (decide (vs2 = a0))))) := (kp_at (by kernel_rfl)).trans (by kernel_rfl)
/- oakum/oakumref07.Right -/
noncomputable def ref07_Right_bd : Code := Tryz.f160.body.getD .skip
noncomputable def ref07_Right_L0 (kap : FuncId → List AV → Option AV) (k : Nat) (k0 : Nat) (s3 : Int) (b1_0 : ByteArray) (b1_1 : ByteArray) : Option AV :=
  loop (fun fr K => code ((bs E0 k).cfg kap ref07_Right) (sel ref07_Right_bd [1, 1, 0, 1, 0, 0]) fr K) (canon ((bs E0 k).cfg kap ref07_Right) (firstReg (sel ref07_Right_bd [1, 1, 0, 1, 0, 0]))) k0 (mkFr 73 [(1, (.loc 1 0)), (3, (.int .i64 s3))] [(1, (.box [(.str b1_0), (.str b1_1)]))]) (plug ((bs E0 k).cfg kap ref07_Right) (retK ((bs E0 k).cfg kap ref07_Right) [] Tryz.f160 [] some) [.blk 0, .seqR (sel ref07_Right_bd [1, 1, 1])])
theorem ref07_Right_L0_s (kap : FuncId → List AV → Option AV) (k : Nat) (k0 : Nat) (s3 : Int) (b1_0 : ByteArray) (b1_1 : ByteArray) : ref07_Right_L0 kap k (k0 + 1) s3 b1_0 b1_1 =
  (bif (decide (s3 < (((ByteArray.size b1_0) : Nat) : Int))) then (bif ((decide ((0 : Int) ≤ s3)) && (decide (s3 < (((ByteArray.size b1_0) : Nat) : Int)))) then (bif (decide ((byteAt b1_0 (Int.toNat s3)) = (61 : Int))) then (some (.bool false)) else (ref07_Right_L0 kap k k0 (IntKind.wrap .i64 (s3 + (1 : Int))) b1_0 b1_1)) else none) else (callI .i64 (kap ref07_Which [(.str b1_0)]) fun vn8 => (bif (decide (b1_1 = (str []))) then (some (.bool true)) else (bif (decide (vn8 < (0 : Int))) then (some (.bool true)) else (bif (decide (vn8 < (4 : Int))) then (callB (kap ref02_Clean [(.str b1_1)]) fun vq10 => (some (.bool vq10))) else (bif (decide (vn8 < (7 : Int))) then (callT (kap ref04_Number [(.str b1_1)]) fun vt12 => (tupI .i64 vt12 fun vn13 vt14 => (tupB vt14 fun vq15 vt16 => (atNil vt16 (some (.bool vq15)))))) else (callT (kap ref04_Time [(.str b1_1)]) fun vt18 => (tupG 2 vt18 fun vg19 vt20 => (cellI .i64 vg19 0 fun vn21 => (cellI .i64 vg19 1 fun vn22 => (tupB vt20 fun vq23 vt24 => (atNil vt24 (some (.bool vq23)))))))))))))) := by kernel_rfl
theorem ref07_Right_eq {E : Ext} [Core E] (k n : Nat) (a0_0 : ByteArray) (a0_1 : ByteArray) : kp E k (n + 1) ref07_Right [(.agg [(.str a0_0), (.str a0_1)])] =
  (bif (decide (a0_0 = (str []))) then (some (.bool false)) else (callI .i64 (kp E k n ref05_First [(.str a0_0)]) fun vn2 => (bif (decide (vn2 ≥ (0 : Int))) then (some (.bool false)) else (callI .i64 (kp E k n ref05_First [(.str a0_1)]) fun vn4 => (bif (decide (vn4 ≥ (0 : Int))) then (some (.bool false)) else (callB (kp E k n ref02_Clean [(.str a0_0)]) fun vq6 => (bif (!vq6) then (some (.bool false)) else (ref07_Right_L0 (kp E k n) k k (0 : Int) a0_0 a0_1)))))))) := (kp_at (by kernel_rfl)).trans (by kernel_rfl)
/- oakum/oakumref07.Keys -/
theorem ref07_Keys_eq {E : Ext} [Core E] (k n : Nat)  : kp E k (n + 1) ref07_Keys [] =
  (some (.list 1 [(.str (str [112, 97, 116, 104])), (.str (str [108, 105, 110, 107, 112, 97, 116, 104])), (.str (str [117, 110, 97, 109, 101])), (.str (str [103, 110, 97, 109, 101])), (.str (str [117, 105, 100])), (.str (str [103, 105, 100])), (.str (str [115, 105, 122, 101])), (.str (str [109, 116, 105, 109, 101]))])) := (kp_at (by kernel_rfl)).trans (by kernel_rfl)
/- oakum/oakumref05.size -/
noncomputable def ref05_size_bd : Code := Tryz.f163.body.getD .skip
noncomputable def ref05_size_L0 (kap : FuncId → List AV → Option AV) (k : Nat) (k0 : Nat) (s0 : ByteArray) (s1 : Int) (s6 : Int) (s7 : Int) (s8 : Int) : Option AV :=
  loop (fun fr K => code ((bs E0 k).cfg kap ref05_size) (sel ref05_size_bd [1, 1, 1, 1, 1, 1, 0, 1, 0, 0]) fr K) (canon ((bs E0 k).cfg kap ref05_size) (firstReg (sel ref05_size_bd [1, 1, 1, 1, 1, 1, 0, 1, 0, 0]))) k0 (mkFr 103 [(0, (.str s0)), (1, (.int .i64 s1)), (6, (.int .i64 s6)), (7, (.int .i64 s7)), (8, (.int .i64 s8))] []) (plug ((bs E0 k).cfg kap ref05_size) (retK ((bs E0 k).cfg kap ref05_size) [] Tryz.f163 [] some) [.blk 1, .seqR (sel ref05_size_bd [1, 1, 1, 1, 1, 1, 1])])
theorem ref05_size_L0_s (kap : FuncId → List AV → Option AV) (k : Nat) (k0 : Nat) (s0 : ByteArray) (s1 : Int) (s6 : Int) (s7 : Int) (s8 : Int) : ref05_size_L0 kap k (k0 + 1) s0 s1 s6 s7 s8 =
  (bif (decide (s8 < s6)) then (bif ((decide ((0 : Int) ≤ (IntKind.wrap .i64 (s1 + s8)))) && (decide ((IntKind.wrap .i64 (s1 + s8)) < (((ByteArray.size s0) : Nat) : Int)))) then (bif (decide ((byteAt s0 (Int.toNat (IntKind.wrap .i64 (s1 + s8)))) < (128 : Int))) then (some (.int .i64 (0 : Int))) else (bif ((decide ((0 : Int) ≤ (IntKind.wrap .i64 (s1 + s8)))) && (decide ((IntKind.wrap .i64 (s1 + s8)) < (((ByteArray.size s0) : Nat) : Int)))) then (bif (decide ((byteAt s0 (Int.toNat (IntKind.wrap .i64 (s1 + s8)))) ≥ (192 : Int))) then (some (.int .i64 (0 : Int))) else (bif ((decide ((0 : Int) ≤ (IntKind.wrap .i64 (s1 + s8)))) && (decide ((IntKind.wrap .i64 (s1 + s8)) < (((ByteArray.size s0) : Nat) : Int)))) then (ref05_size_L0 kap k k0 s0 s1 s6 (IntKind.wrap .i64 ((IntKind.wrap .i64 ((IntKind.wrap .i64 ((64 : Int) * s7)) + (IntKind.wrap .i64 (byteAt s0 (Int.toNat (IntKind.wrap .i64 (s1 + s8))))))) - (128 : Int))) (IntKind.wrap .i64 (s8 + (1 : Int)))) else none)) else none)) else none) else (bif ((decide ((0 : Int) ≤ s6)) && (decide (s6 < (5 : Int)))) then (([(.int .i64 (0 : Int)), (.int .i64 (0 : Int)), (.int .i64 (128 : Int)), (.int .i64 (2048 : Int)), (.int .i64 (65536 : Int))][(Int.toNat s6)]?).bind fun vy1 => (cellI .i64 (AV.cells vy1) 0 fun vn2 => (bif (decide (s7 < vn2)) then (some (.int .i64 (0 : Int))) else (bif (decide (s7 > (1114111 : Int))) then (some (.int .i64 (0 : Int))) else (bif (decide (s7 ≥ (55296 : Int))) then (bif (decide (s7 ≤ (57343 : Int))) then (some (.int .i64 (0 : Int))) else (some (.int .i64 s6))) else (some (.int .i64 s6))))))) else none)) := by kernel_rfl
theorem ref05_size_eq {E : Ext} [Core E] (k n : Nat) (a0 : ByteArray) (a1 : Int) : kp E k (n + 1) ref05_size [(.str a0), (.int .i64 a1)] =
  (bif ((decide ((0 : Int) ≤ a1)) && (decide (a1 < (((ByteArray.size a0) : Nat) : Int)))) then (bif (decide ((IntKind.wrap .i64 (byteAt a0 (Int.toNat a1))) < (128 : Int))) then (some (.int .i64 (1 : Int))) else (bif (decide ((IntKind.wrap .i64 (byteAt a0 (Int.toNat a1))) ≥ (192 : Int))) then (bif (decide ((IntKind.wrap .i64 (byteAt a0 (Int.toNat a1))) < (224 : Int))) then (bif (decide ((IntKind.wrap .i64 (a1 + (2 : Int))) > (((ByteArray.size a0) : Nat) : Int))) then (some (.int .i64 (0 : Int))) else (ref05_size_L0 (kp E k n) k k a0 a1 (2 : Int) (IntKind.wrap .i64 ((IntKind.wrap .i64 (byteAt a0 (Int.toNat a1))) - (192 : Int))) (1 : Int))) else (bif (decide ((IntKind.wrap .i64 (byteAt a0 (Int.toNat a1))) ≥ (224 : Int))) then (bif (decide ((IntKind.wrap .i64 (byteAt a0 (Int.toNat a1))) < (240 : Int))) then (bif (decide ((IntKind.wrap .i64 (a1 + (3 : Int))) > (((ByteArray.size a0) : Nat) : Int))) then (some (.int .i64 (0 : Int))) else (ref05_size_L0 (kp E k n) k k a0 a1 (3 : Int) (IntKind.wrap .i64 ((IntKind.wrap .i64 (byteAt a0 (Int.toNat a1))) - (224 : Int))) (1 : Int))) else (bif (decide ((IntKind.wrap .i64 (byteAt a0 (Int.toNat a1))) ≥ (240 : Int))) then (bif (decide ((IntKind.wrap .i64 (byteAt a0 (Int.toNat a1))) < (248 : Int))) then (bif (decide ((IntKind.wrap .i64 (a1 + (4 : Int))) > (((ByteArray.size a0) : Nat) : Int))) then (some (.int .i64 (0 : Int))) else (ref05_size_L0 (kp E k n) k k a0 a1 (4 : Int) (IntKind.wrap .i64 ((IntKind.wrap .i64 (byteAt a0 (Int.toNat a1))) - (240 : Int))) (1 : Int))) else (some (.int .i64 (0 : Int)))) else (some (.int .i64 (0 : Int))))) else (bif (decide ((IntKind.wrap .i64 (byteAt a0 (Int.toNat a1))) ≥ (240 : Int))) then (bif (decide ((IntKind.wrap .i64 (byteAt a0 (Int.toNat a1))) < (248 : Int))) then (bif (decide ((IntKind.wrap .i64 (a1 + (4 : Int))) > (((ByteArray.size a0) : Nat) : Int))) then (some (.int .i64 (0 : Int))) else (ref05_size_L0 (kp E k n) k k a0 a1 (4 : Int) (IntKind.wrap .i64 ((IntKind.wrap .i64 (byteAt a0 (Int.toNat a1))) - (240 : Int))) (1 : Int))) else (some (.int .i64 (0 : Int)))) else (some (.int .i64 (0 : Int)))))) else (bif (decide ((IntKind.wrap .i64 (byteAt a0 (Int.toNat a1))) ≥ (224 : Int))) then (bif (decide ((IntKind.wrap .i64 (byteAt a0 (Int.toNat a1))) < (240 : Int))) then (bif (decide ((IntKind.wrap .i64 (a1 + (3 : Int))) > (((ByteArray.size a0) : Nat) : Int))) then (some (.int .i64 (0 : Int))) else (ref05_size_L0 (kp E k n) k k a0 a1 (3 : Int) (IntKind.wrap .i64 ((IntKind.wrap .i64 (byteAt a0 (Int.toNat a1))) - (224 : Int))) (1 : Int))) else (bif (decide ((IntKind.wrap .i64 (byteAt a0 (Int.toNat a1))) ≥ (240 : Int))) then (bif (decide ((IntKind.wrap .i64 (byteAt a0 (Int.toNat a1))) < (248 : Int))) then (bif (decide ((IntKind.wrap .i64 (a1 + (4 : Int))) > (((ByteArray.size a0) : Nat) : Int))) then (some (.int .i64 (0 : Int))) else (ref05_size_L0 (kp E k n) k k a0 a1 (4 : Int) (IntKind.wrap .i64 ((IntKind.wrap .i64 (byteAt a0 (Int.toNat a1))) - (240 : Int))) (1 : Int))) else (some (.int .i64 (0 : Int)))) else (some (.int .i64 (0 : Int))))) else (bif (decide ((IntKind.wrap .i64 (byteAt a0 (Int.toNat a1))) ≥ (240 : Int))) then (bif (decide ((IntKind.wrap .i64 (byteAt a0 (Int.toNat a1))) < (248 : Int))) then (bif (decide ((IntKind.wrap .i64 (a1 + (4 : Int))) > (((ByteArray.size a0) : Nat) : Int))) then (some (.int .i64 (0 : Int))) else (ref05_size_L0 (kp E k n) k k a0 a1 (4 : Int) (IntKind.wrap .i64 ((IntKind.wrap .i64 (byteAt a0 (Int.toNat a1))) - (240 : Int))) (1 : Int))) else (some (.int .i64 (0 : Int)))) else (some (.int .i64 (0 : Int))))))) else none) := (kp_at (by kernel_rfl)).trans (by kernel_rfl)
/- oakum/oakumref02.Get -/
noncomputable def ref02_Get_bd : Code := Tryz.f196.body.getD .skip
noncomputable def ref02_Get_L0 (kap : FuncId → List AV → Option AV) (k : Nat) (k0 : Nat) (s0 : List AV) (s4 : Int) (x3 : List AV) : Option AV :=
  loop (fun fr K => code ((bs E0 k).cfg kap ref02_Get) (sel ref02_Get_bd [1, 1, 0, 1, 0, 0]) fr K) (canon ((bs E0 k).cfg kap ref02_Get) (firstReg (sel ref02_Get_bd [1, 1, 0, 1, 0, 0]))) k0 (mkFr 28 [(0, (.list 1 s0)), (3, (.own 3)), (4, (.int .i64 s4))] [(3, (.row 5 x3 false))]) (plug ((bs E0 k).cfg kap ref02_Get) (retK ((bs E0 k).cfg kap ref02_Get) [] Tryz.f196 [] some) [.blk 0, .seqR (sel ref02_Get_bd [1, 1, 1])])
theorem ref02_Get_L0_s (kap : FuncId → List AV → Option AV) (k : Nat) (k0 : Nat) (s0 : List AV) (s4 : Int) (x3 : List AV) : ref02_Get_L0 kap k (k0 + 1) s0 s4 x3 =
  (bif (decide (s4 < (((List.length s0) : Nat) : Int))) then (bif ((decide ((0 : Int) ≤ s4)) && (decide (s4 < (((List.length s0) : Nat) : Int)))) then ((s0[(Int.toNat s4)]?).bind fun vy1 => (cellI .u8 (AV.cells vy1) 0 fun vn2 => (bif (!(decide (vn2 = (0 : Int)))) then (bif ((decide ((0 : Int) ≤ s4)) && (decide (s4 < (((List.length s0) : Nat) : Int)))) then ((s0[(Int.toNat s4)]?).bind fun vy3 => (cellI .u8 (AV.cells vy3) 0 fun vn4 => (bif (decide (((List.length x3) + 1) * 1 ≤ 140737488355328) && decide (((List.length x3) + 1) ≤ 9223372036854775807)) then (ref02_Get_L0 kap k k0 s0 (IntKind.wrap .i64 (s4 + (1 : Int))) (x3 ++ [(.int .u8 vn4)])) else none))) else none) else ((toBytes x3).bind fun vl5 => (some (.str (str vl5))))))) else none) else ((toBytes x3).bind fun vl6 => (some (.str (str vl6))))) := by kernel_rfl
theorem ref02_Get_eq {E : Ext} [Core E] (k n : Nat) (a0 : List AV) : kp E k (n + 1) ref02_Get [(.list 1 a0)] =
  (ref02_Get_L0 (kp E k n) k k a0 (0 : Int) []) := (kp_at (by kernel_rfl)).trans (by kernel_rfl)
end Go.Proofs.YtbkhmkcmbaffoaaGreatDoor.Eng.U


/- The Utf laws in plain words, part 1: how many bytes stand for a code point. -/
set_option linter.unusedVariables false
set_option linter.unusedSimpArgs false
namespace Go.Proofs.YtbkhmkcmbaffoaaGreatDoor.Eng.U
open Go Go.Proofs Go.Proofs.YtbkhmkcmbaffoaaGreatDoor.Eng Go.Lib
variable {kap : FuncId → List AV → Option AV} {E : Ext} [Core E] {n : Nat}
def goDec (s : ByteArray) : Nat × Nat := if s.size = 0 then (65533, 0) else Utf8.decode s 0

def by_ (s : ByteArray) (i : Nat) : Nat := (s.data.toList.getD i 0).toNat
theorem by_lt (s : ByteArray) (i : Nat) : by_ s i < 256 := UInt8.toNat_lt _
theorem get_by (s : ByteArray) (i : Nat) : (s.get! i).toNat = by_ s i := by
  unfold by_
  congr 1
  simp [ByteArray.get!, List.getD_eq_getElem?_getD, Array.getElem!_eq_getD, Array.getD_eq_getD_getElem?]
  rfl
/-- How many bytes from place i on are a code point's own; 0: none. -/
def szOf (p : Nat × Nat) : Nat := if p = (65533, 1) then 0 else p.2
def sizeS (s : ByteArray) (i : Nat) : Nat := szOf (Utf8.decode s i)
theorem i64w {x : Int} (h : -9223372036854775808 ≤ x ∧ x ≤ 9223372036854775807) : IntKind.wrap .i64 x = x := IntWalk.i64_in x h

theorem L51_step {K m : Nat} {s : ByteArray} {i n c j : Nat} (hs : s.size ≤ 1000000) (hj : j < n) (hb : i + j < s.size) (hc : c < 10000000) : ref05_size_L0 kap K (m + 1) s (i : Int) (n : Int) (c : Int) (j : Int) =
    if by_ s (i + j) < 128 then some (.int .i64 0) else if 192 ≤ by_ s (i + j) then some (.int .i64 0) else ref05_size_L0 kap K m s (i : Int) (n : Int) ((c * 64 + by_ s (i + j) - 128 : Nat) : Int) ((j + 1 : Nat) : Int) := by
  have hlt := by_lt s (i + j)
  rw [ref05_size_L0_s, i64w (x := (i : Int) + (j : Int)) (by omega), show ((i : Int) + (j : Int)).toNat = i + j from by omega]
  simp only [show byteAt s (i + j) = ((by_ s (i + j) : Nat) : Int) from rfl]
  generalize by_ s (i + j) = b at *
  rw [i64w (x := (64 : Int) * (c : Int)) (by omega), i64w (x := (b : Int)) (by omega), i64w (x := (64 : Int) * (c : Int) + (b : Int)) (by omega), i64w (x := (64 : Int) * (c : Int) + (b : Int) - 128) (by omega), i64w (x := (j : Int) + 1) (by omega)]
  rw [show decide ((j : Int) < (n : Int)) = true from by simp; omega, show (decide ((0 : Int) ≤ (i : Int) + (j : Int)) && decide ((i : Int) + (j : Int) < (s.size : Int))) = true from by simp; omega]
  simp only [cond_true]
  by_cases h1 : b < 128
  · rw [if_pos h1, show decide ((b : Int) < 128) = true from by simp; omega]; rfl
  · rw [if_neg h1, show decide ((b : Int) < 128) = false from by simp; omega]
    by_cases h2 : 192 ≤ b
    · rw [if_pos h2, show decide ((b : Int) ≥ 192) = true from by simp; omega]; rfl
    · rw [if_neg h2, show decide ((b : Int) ≥ 192) = false from by simp; omega]
      simp only [cond_false]
      rw [show ((c * 64 + b - 128 : Nat) : Int) = (64 : Int) * (c : Int) + (b : Int) - 128 from by omega, show ((j + 1 : Nat) : Int) = (j : Int) + 1 from by omega]
def minOf (n : Nat) : Nat := if n = 2 then 128 else if n = 3 then 2048 else 65536
theorem L51_end {K m : Nat} {s : ByteArray} {i n c : Nat} (hn : n = 2 ∨ n = 3 ∨ n = 4) : ref05_size_L0 kap K (m + 1) s (i : Int) (n : Int) (c : Int) (n : Int) =
    if c < minOf n then some (.int .i64 0) else if 1114111 < c then some (.int .i64 0) else if 55296 ≤ c ∧ c ≤ 57343 then some (.int .i64 0) else some (.int .i64 (n : Int)) := by
  rw [ref05_size_L0_s, show decide ((n : Int) < (n : Int)) = false from by simp, show (decide ((0 : Int) ≤ (n : Int)) && decide ((n : Int) < 5)) = true from by simp; omega]
  simp only [cond_true, cond_false, show ((n : Int)).toNat = n from by omega]
  have key : ∀ (v : Nat) (v' : Int), v' = (v : Int) → (bif decide ((c : Int) < v') then some (AV.int .i64 0) else bif decide ((c : Int) > 1114111) then some (.int .i64 0) else bif decide ((c : Int) ≥ 55296) then (bif decide ((c : Int) ≤ 57343) then some (.int .i64 0) else some (.int .i64 (n : Int))) else some (.int .i64 (n : Int))) =
      if c < v then some (.int .i64 0) else if 1114111 < c then some (.int .i64 0) else if 55296 ≤ c ∧ c ≤ 57343 then some (.int .i64 0) else some (.int .i64 (n : Int)) := by
    rintro v _ rfl
    by_cases h1 : c < v
    · rw [if_pos h1, show decide ((c : Int) < (v : Int)) = true from by simp; omega]; rfl
    rw [if_neg h1, show decide ((c : Int) < (v : Int)) = false from by simp; omega, cond_false]
    by_cases h2 : 1114111 < c
    · rw [if_pos h2, show decide ((c : Int) > 1114111) = true from by simp; omega]; rfl
    rw [if_neg h2, show decide ((c : Int) > 1114111) = false from by simp; omega, cond_false]
    by_cases h3 : 55296 ≤ c
    · rw [show decide ((c : Int) ≥ 55296) = true from by simp; omega, cond_true]
      by_cases h4 : c ≤ 57343
      · rw [if_pos ⟨h3, h4⟩, show decide ((c : Int) ≤ 57343) = true from by simp; omega]; rfl
      · rw [if_neg (fun h => h4 h.2), show decide ((c : Int) ≤ 57343) = false from by simp; omega]; rfl
    · rw [if_neg (fun h => h3 h.1), show decide ((c : Int) ≥ 55296) = false from by simp; omega]; rfl
  have e : ∀ (j : Nat) (v : Int) (K : Int → Option AV), ([(.int .i64 (0 : Int)), (.int .i64 (0 : Int)), (.int .i64 (128 : Int)), (.int .i64 (2048 : Int)), (.int .i64 (65536 : Int))] : List AV)[j]? = some (.int .i64 v) → (([(.int .i64 (0 : Int)), (.int .i64 (0 : Int)), (.int .i64 (128 : Int)), (.int .i64 (2048 : Int)), (.int .i64 (65536 : Int))] : List AV)[j]?).bind (fun vy1 => cellI .i64 (AV.cells vy1) 0 fun vn2 => K vn2) = K v := by
    intro j v K h
    rw [h]
    rfl
  rcases hn with rfl | rfl | rfl
  · rw [show minOf 2 = 128 from rfl, e 2 128 _ rfl]; exact key 128 128 (by omega)
  · rw [show minOf 3 = 2048 from rfl, e 3 2048 _ rfl]; exact key 2048 2048 (by omega)
  · rw [show minOf 4 = 65536 from rfl, e 4 65536 _ rfl]; exact key 65536 65536 (by omega)

theorem L51_two {K m : Nat} {s : ByteArray} {i c : Nat} (hs : s.size ≤ 1000000) (hb : i + 1 < s.size) (hc : c < 256) : ref05_size_L0 kap K (m + 2) s (i : Int) ((2 : Nat) : Int) (c : Int) ((1 : Nat) : Int) =
    if by_ s (i + 1) < 128 then some (.int .i64 0) else if 192 ≤ by_ s (i + 1) then some (.int .i64 0) else
    if c * 64 + by_ s (i + 1) - 128 < 128 then some (.int .i64 0) else if 1114111 < c * 64 + by_ s (i + 1) - 128 then some (.int .i64 0) else if 55296 ≤ c * 64 + by_ s (i + 1) - 128 ∧ c * 64 + by_ s (i + 1) - 128 ≤ 57343 then some (.int .i64 0) else some (.int .i64 2) := by
  rw [L51_step hs (by omega) hb (by omega)]
  split
  · rfl
  split
  · rfl
  exact L51_end (.inl rfl)
theorem L51_three {K m : Nat} {s : ByteArray} {i c : Nat} (hs : s.size ≤ 1000000) (hb : i + 2 < s.size) (hc : c < 256) : ref05_size_L0 kap K (m + 3) s (i : Int) ((3 : Nat) : Int) (c : Int) ((1 : Nat) : Int) =
    if by_ s (i + 1) < 128 then some (.int .i64 0) else if 192 ≤ by_ s (i + 1) then some (.int .i64 0) else
    if by_ s (i + 2) < 128 then some (.int .i64 0) else if 192 ≤ by_ s (i + 2) then some (.int .i64 0) else
    if (c * 64 + by_ s (i + 1) - 128) * 64 + by_ s (i + 2) - 128 < 2048 then some (.int .i64 0) else if 1114111 < (c * 64 + by_ s (i + 1) - 128) * 64 + by_ s (i + 2) - 128 then some (.int .i64 0) else if 55296 ≤ (c * 64 + by_ s (i + 1) - 128) * 64 + by_ s (i + 2) - 128 ∧ (c * 64 + by_ s (i + 1) - 128) * 64 + by_ s (i + 2) - 128 ≤ 57343 then some (.int .i64 0) else some (.int .i64 3) := by
  have h1 := by_lt s (i + 1)
  rw [L51_step hs (by omega) (by omega) (by omega)]
  split
  · rfl
  split
  · rfl
  rw [L51_step hs (by omega) (by omega) (by omega)]
  split
  · rfl
  split
  · rfl
  exact L51_end (.inr (.inl rfl))
theorem L51_four {K m : Nat} {s : ByteArray} {i c : Nat} (hs : s.size ≤ 1000000) (hb : i + 3 < s.size) (hc : c < 256) : ref05_size_L0 kap K (m + 4) s (i : Int) ((4 : Nat) : Int) (c : Int) ((1 : Nat) : Int) =
    if by_ s (i + 1) < 128 then some (.int .i64 0) else if 192 ≤ by_ s (i + 1) then some (.int .i64 0) else
    if by_ s (i + 2) < 128 then some (.int .i64 0) else if 192 ≤ by_ s (i + 2) then some (.int .i64 0) else
    if by_ s (i + 3) < 128 then some (.int .i64 0) else if 192 ≤ by_ s (i + 3) then some (.int .i64 0) else
    if ((c * 64 + by_ s (i + 1) - 128) * 64 + by_ s (i + 2) - 128) * 64 + by_ s (i + 3) - 128 < 65536 then some (.int .i64 0) else if 1114111 < ((c * 64 + by_ s (i + 1) - 128) * 64 + by_ s (i + 2) - 128) * 64 + by_ s (i + 3) - 128 then some (.int .i64 0) else if 55296 ≤ ((c * 64 + by_ s (i + 1) - 128) * 64 + by_ s (i + 2) - 128) * 64 + by_ s (i + 3) - 128 ∧ ((c * 64 + by_ s (i + 1) - 128) * 64 + by_ s (i + 2) - 128) * 64 + by_ s (i + 3) - 128 ≤ 57343 then some (.int .i64 0) else some (.int .i64 4) := by
  have h1 := by_lt s (i + 1)
  have h2 := by_lt s (i + 2)
  rw [L51_step hs (by omega) (by omega) (by omega)]
  split
  · rfl
  split
  · rfl
  rw [L51_step hs (by omega) (by omega) (by omega)]
  split
  · rfl
  split
  · rfl
  rw [L51_step hs (by omega) (by omega) (by omega)]
  split
  · rfl
  split
  · rfl
  exact L51_end (.inr (.inr rfl))

/-- How many bytes a code point takes, by numbers. -/
def sizeN (n b0 b1 b2 b3 : Nat) : Nat := szOf (decodeN n b0 b1 b2 b3)
theorem szOf_bad : szOf (65533, 1) = 0 := rfl
theorem szOf_ok {c w : Nat} (h : w ≠ 1 ∨ c ≠ 65533) : szOf (c, w) = w := by
  unfold szOf
  rw [if_neg (by simp only [Prod.mk.injEq]; omega)]
theorem sizeS_eq (s : ByteArray) (i : Nat) : sizeS s i = sizeN (s.size - i) (by_ s i) (by_ s (i + 1)) (by_ s (i + 2)) (by_ s (i + 3)) := by
  unfold sizeS sizeN
  rw [decode_at, get_by, get_by, get_by, get_by]
theorem size_num {K : Nat} {s : ByteArray} {i : Nat} (hs : s.size ≤ 1000000) (hi : i < s.size) : kp E (K + 5) (n + 1) ref05_size [.str s, .int .i64 (i : Int)] =
    if by_ s i < 128 then some (.int .i64 1) else if by_ s i < 192 then some (.int .i64 0) else
    if by_ s i < 224 then (if s.size < i + 2 then some (.int .i64 0) else ref05_size_L0 (kp E (K + 5) n) (K + 5) (K + 5) s (i : Int) ((2 : Nat) : Int) ((by_ s i - 192 : Nat) : Int) ((1 : Nat) : Int)) else
    if by_ s i < 240 then (if s.size < i + 3 then some (.int .i64 0) else ref05_size_L0 (kp E (K + 5) n) (K + 5) (K + 5) s (i : Int) ((3 : Nat) : Int) ((by_ s i - 224 : Nat) : Int) ((1 : Nat) : Int)) else
    if by_ s i < 248 then (if s.size < i + 4 then some (.int .i64 0) else ref05_size_L0 (kp E (K + 5) n) (K + 5) (K + 5) s (i : Int) ((4 : Nat) : Int) ((by_ s i - 240 : Nat) : Int) ((1 : Nat) : Int)) else some (.int .i64 0) := by
  have hlt := by_lt s i
  rw [ref05_size_eq, show ((i : Int)).toNat = i from by omega]
  simp only [show byteAt s i = ((by_ s i : Nat) : Int) from rfl]
  generalize by_ s i = b at *
  rw [i64w (x := (b : Int)) (by omega)]
  rw [show (decide ((0 : Int) ≤ (i : Int)) && decide ((i : Int) < (s.size : Int))) = true from by simp; omega]
  simp only [cond_true]
  rw [i64w (x := (i : Int) + 2) (by omega), i64w (x := (i : Int) + 3) (by omega), i64w (x := (i : Int) + 4) (by omega)]
  rw [i64w (x := (b : Int) - 192) (by omega), i64w (x := (b : Int) - 224) (by omega), i64w (x := (b : Int) - 240) (by omega)]
  have hd : ∀ (p q : Prop) [Decidable p] [Decidable q], (p ↔ q) → decide p = decide q := fun p q _ _ h => decide_eq_decide.2 h
  have bif_if : ∀ {α : Type} (p : Prop) [Decidable p] (x y : α), (bif decide p then x else y) = if p then x else y := fun p _ x y => by by_cases h : p <;> simp [h]
  simp only [bif_if]
  by_cases a1 : b < 128
  · rw [if_pos (by omega), if_pos a1]
  rw [if_neg (by omega), if_neg a1]
  by_cases a2 : b < 192
  · rw [if_pos a2, if_neg (by omega), if_neg (by omega), if_neg (by omega)]
  rw [if_neg a2, if_pos (by omega)]
  by_cases a3 : b < 224
  · rw [if_pos (by omega), if_pos a3]
    by_cases z : s.size < i + 2
    · rw [if_pos (by omega), if_pos z]
    · rw [if_neg (by omega), if_neg z, show ((b - 192 : Nat) : Int) = (b : Int) - 192 from by omega]; rfl
  rw [if_neg (by omega), if_neg a3, if_pos (by omega)]
  by_cases a4 : b < 240
  · rw [if_pos (by omega), if_pos a4]
    by_cases z : s.size < i + 3
    · rw [if_pos (by omega), if_pos z]
    · rw [if_neg (by omega), if_neg z, show ((b - 224 : Nat) : Int) = (b : Int) - 224 from by omega]; rfl
  rw [if_neg (by omega), if_neg a4, if_pos (by omega)]
  by_cases a5 : b < 248
  · rw [if_pos (by omega), if_pos a5]
    by_cases z : s.size < i + 4
    · rw [if_pos (by omega), if_pos z]
    · rw [if_neg (by omega), if_neg z, show ((b - 240 : Nat) : Int) = (b : Int) - 240 from by omega]; rfl
  rw [if_neg (by omega), if_neg a5]
end Go.Proofs.YtbkhmkcmbaffoaaGreatDoor.Eng.U


/- The Utf laws in plain words, part 2: the size of a code point is what the decoder says. -/
set_option linter.unusedVariables false
set_option linter.unusedSimpArgs false
namespace Go.Proofs.YtbkhmkcmbaffoaaGreatDoor.Eng.U
open Go Go.Proofs Go.Proofs.YtbkhmkcmbaffoaaGreatDoor.Eng Go.Lib
variable {kap : FuncId → List AV → Option AV} {E : Ext} [Core E] {n : Nat}

theorem sizeN_1 (n b0 b1 b2 b3 : Nat) (h : b0 < 128) : sizeN n b0 b1 b2 b3 = 1 := by
  unfold sizeN decodeN
  rw [if_pos h, szOf_ok (by omega)]
theorem sizeN_0 (n b0 b1 b2 b3 : Nat) (h : 128 ≤ b0 ∧ (b0 < 192 ∨ 248 ≤ b0)) (h0 : b0 < 256) : sizeN n b0 b1 b2 b3 = 0 := by
  unfold sizeN decodeN
  rw [if_neg (by omega), if_neg (by omega), if_neg (by omega), if_neg (by omega), szOf_bad]
theorem sizeN_2 (n b0 b1 b2 b3 : Nat) (h : 192 ≤ b0 ∧ b0 < 224) (h1 : b1 < 256) : sizeN n b0 b1 b2 b3 =
    if n < 2 then 0 else if b1 < 128 then 0 else if 192 ≤ b1 then 0 else if (b0 - 192) * 64 + b1 - 128 < 128 then 0 else if 1114111 < (b0 - 192) * 64 + b1 - 128 then 0 else if 55296 ≤ (b0 - 192) * 64 + b1 - 128 ∧ (b0 - 192) * 64 + b1 - 128 ≤ 57343 then 0 else 2 := by
  unfold sizeN decodeN
  rw [if_neg (by omega)]
  by_cases hc : 1 < n ∧ b1 / 64 = 2
  · rw [if_pos ⟨by omega, hc⟩, if_neg (show ¬ n < 2 by omega), if_neg (show ¬ b1 < 128 by omega), if_neg (show ¬ 192 ≤ b1 by omega)]
    by_cases hd : b0 % 32 * 64 + b1 % 64 ≥ 128
    · rw [if_pos hd, szOf_ok (by omega), if_neg (by omega), if_neg (by omega), if_neg (by omega)]
    · rw [if_neg hd, szOf_bad, if_pos (by omega)]
  · rw [if_neg (fun h => hc h.2), if_neg (by omega), if_neg (by omega), szOf_bad]
    by_cases g1 : n < 2
    · rw [if_pos g1]
    · rw [if_neg g1]
      by_cases g2 : b1 < 128
      · rw [if_pos g2]
      · rw [if_neg g2, if_pos (by omega)]
theorem sizeN_3 (n b0 b1 b2 b3 : Nat) (h : 224 ≤ b0 ∧ b0 < 240) (h1 : b1 < 256) (h2 : b2 < 256) : sizeN n b0 b1 b2 b3 =
    if n < 3 then 0 else if b1 < 128 then 0 else if 192 ≤ b1 then 0 else if b2 < 128 then 0 else if 192 ≤ b2 then 0 else if ((b0 - 224) * 64 + b1 - 128) * 64 + b2 - 128 < 2048 then 0 else if 1114111 < ((b0 - 224) * 64 + b1 - 128) * 64 + b2 - 128 then 0 else if 55296 ≤ ((b0 - 224) * 64 + b1 - 128) * 64 + b2 - 128 ∧ ((b0 - 224) * 64 + b1 - 128) * 64 + b2 - 128 ≤ 57343 then 0 else 3 := by
  unfold sizeN decodeN
  rw [if_neg (by omega), if_neg (show ¬ (b0 / 32 = 6 ∧ _) by omega)]
  by_cases hc : (1 < n ∧ b1 / 64 = 2) ∧ (2 < n ∧ b2 / 64 = 2)
  · rw [if_pos ⟨by omega, hc.1, hc.2⟩, if_neg (show ¬ n < 3 by omega), if_neg (show ¬ b1 < 128 by omega), if_neg (show ¬ 192 ≤ b1 by omega), if_neg (show ¬ b2 < 128 by omega), if_neg (show ¬ 192 ≤ b2 by omega)]
    have e : b0 % 16 * 4096 + b1 % 64 * 64 + b2 % 64 = ((b0 - 224) * 64 + b1 - 128) * 64 + b2 - 128 := by omega
    rw [e]
    generalize ((b0 - 224) * 64 + b1 - 128) * 64 + b2 - 128 = c at *
    by_cases hd : c ≥ 2048 ∧ (c < 55296 ∨ (57344 ≤ c ∧ c ≤ 1114111))
    · rw [if_pos hd, szOf_ok (by omega), if_neg (by omega), if_neg (by omega), if_neg (by omega)]
    · rw [if_neg hd, szOf_bad]
      by_cases g1 : c < 2048
      · rw [if_pos g1]
      · rw [if_neg g1]
        by_cases g2 : 1114111 < c
        · rw [if_pos g2]
        · rw [if_neg g2, if_pos (by omega)]
  · rw [if_neg (fun h => hc h.2), if_neg (by omega), szOf_bad]
    by_cases g1 : n < 3
    · rw [if_pos g1]
    · rw [if_neg g1]
      by_cases g2 : b1 < 128
      · rw [if_pos g2]
      · rw [if_neg g2]
        by_cases g3 : 192 ≤ b1
        · rw [if_pos g3]
        · rw [if_neg g3]
          by_cases g4 : b2 < 128
          · rw [if_pos g4]
          · rw [if_neg g4, if_pos (by omega)]
theorem sizeN_4 (n b0 b1 b2 b3 : Nat) (h : 240 ≤ b0 ∧ b0 < 248) (h1 : b1 < 256) (h2 : b2 < 256) (h3 : b3 < 256) : sizeN n b0 b1 b2 b3 =
    if n < 4 then 0 else if b1 < 128 then 0 else if 192 ≤ b1 then 0 else if b2 < 128 then 0 else if 192 ≤ b2 then 0 else if b3 < 128 then 0 else if 192 ≤ b3 then 0 else
    if (((b0 - 240) * 64 + b1 - 128) * 64 + b2 - 128) * 64 + b3 - 128 < 65536 then 0 else if 1114111 < (((b0 - 240) * 64 + b1 - 128) * 64 + b2 - 128) * 64 + b3 - 128 then 0 else if 55296 ≤ (((b0 - 240) * 64 + b1 - 128) * 64 + b2 - 128) * 64 + b3 - 128 ∧ (((b0 - 240) * 64 + b1 - 128) * 64 + b2 - 128) * 64 + b3 - 128 ≤ 57343 then 0 else 4 := by
  unfold sizeN decodeN
  rw [if_neg (by omega), if_neg (show ¬ (b0 / 32 = 6 ∧ _) by omega), if_neg (show ¬ (b0 / 16 = 14 ∧ _) by omega)]
  by_cases hc : (1 < n ∧ b1 / 64 = 2) ∧ (2 < n ∧ b2 / 64 = 2) ∧ (3 < n ∧ b3 / 64 = 2)
  · rw [if_pos ⟨by omega, hc.1, hc.2.1, hc.2.2⟩, if_neg (show ¬ n < 4 by omega), if_neg (show ¬ b1 < 128 by omega), if_neg (show ¬ 192 ≤ b1 by omega), if_neg (show ¬ b2 < 128 by omega), if_neg (show ¬ 192 ≤ b2 by omega), if_neg (show ¬ b3 < 128 by omega), if_neg (show ¬ 192 ≤ b3 by omega)]
    have e : b0 % 8 * 262144 + b1 % 64 * 4096 + b2 % 64 * 64 + b3 % 64 = (((b0 - 240) * 64 + b1 - 128) * 64 + b2 - 128) * 64 + b3 - 128 := by omega
    rw [e]
    generalize (((b0 - 240) * 64 + b1 - 128) * 64 + b2 - 128) * 64 + b3 - 128 = c at *
    by_cases hd : c ≥ 65536 ∧ (c < 55296 ∨ (57344 ≤ c ∧ c ≤ 1114111))
    · rw [if_pos hd, szOf_ok (by omega), if_neg (by omega), if_neg (by omega), if_neg (by omega)]
    · rw [if_neg hd, szOf_bad]
      by_cases g1 : c < 65536
      · rw [if_pos g1]
      · rw [if_neg g1]
        by_cases g2 : 1114111 < c
        · rw [if_pos g2]
        · rw [if_neg g2, if_pos (by omega)]
  · rw [if_neg (fun h => hc h.2), szOf_bad]
    by_cases g1 : n < 4
    · rw [if_pos g1]
    · rw [if_neg g1]
      by_cases g2 : b1 < 128
      · rw [if_pos g2]
      · rw [if_neg g2]
        by_cases g3 : 192 ≤ b1
        · rw [if_pos g3]
        · rw [if_neg g3]
          by_cases g4 : b2 < 128
          · rw [if_pos g4]
          · rw [if_neg g4]
            by_cases g5 : 192 ≤ b2
            · rw [if_pos g5]
            · rw [if_neg g5]
              by_cases g6 : b3 < 128
              · rw [if_pos g6]
              · rw [if_neg g6, if_pos (by omega)]
theorem some_if (p : Prop) [Decidable p] (a b : Nat) : (some (AV.int .i64 ((if p then a else b : Nat) : Int))) = if p then some (AV.int .i64 (a : Int)) else some (AV.int .i64 (b : Int)) := by by_cases h : p <;> simp [h]
theorem size_spec {K : Nat} {s : ByteArray} {i : Nat} (hs : s.size ≤ 1000000) (hi : i < s.size) : kp E (K + 5) (n + 1) ref05_size [.str s, .int .i64 (i : Int)] = some (.int .i64 (sizeS s i : Int)) := by
  have h0 := by_lt s i
  have h1 := by_lt s (i + 1)
  have h2 := by_lt s (i + 2)
  have h3 := by_lt s (i + 3)
  rw [size_num hs hi, sizeS_eq]
  by_cases a1 : by_ s i < 128
  · rw [if_pos a1, sizeN_1 _ _ _ _ _ a1]; rfl
  rw [if_neg a1]
  by_cases a2 : by_ s i < 192
  · rw [if_pos a2, sizeN_0 _ _ _ _ _ (by omega) h0]; rfl
  rw [if_neg a2]
  by_cases a3 : by_ s i < 224
  · rw [if_pos a3, sizeN_2 _ _ _ _ _ (by omega) h1]
    by_cases z : s.size < i + 2
    · rw [if_pos z, if_pos (by omega)]; rfl
    · rw [if_neg z, if_neg (by omega), L51_two hs (by omega) (by omega)]
      simp only [some_if]; rfl
  rw [if_neg a3]
  by_cases a4 : by_ s i < 240
  · rw [if_pos a4, sizeN_3 _ _ _ _ _ (by omega) h1 h2]
    by_cases z : s.size < i + 3
    · rw [if_pos z, if_pos (by omega)]; rfl
    · rw [if_neg z, if_neg (by omega), L51_three hs (by omega) (by omega)]
      simp only [some_if]; rfl
  rw [if_neg a4]
  by_cases a5 : by_ s i < 248
  · rw [if_pos a5, sizeN_4 _ _ _ _ _ (by omega) h1 h2 h3]
    by_cases z : s.size < i + 4
    · rw [if_pos z, if_pos (by omega)]; rfl
    · rw [if_neg z, if_neg (by omega), L51_four hs (by omega) (by omega)]
      simp only [some_if]; rfl
  · rw [if_neg a5, sizeN_0 _ _ _ _ _ (by omega) h0]; rfl
end Go.Proofs.YtbkhmkcmbaffoaaGreatDoor.Eng.U


/- The Utf laws in plain words, part 3: the functions that go through a text. -/
set_option linter.unusedVariables false
set_option linter.unusedSimpArgs false
namespace Go.Proofs.YtbkhmkcmbaffoaaGreatDoor.Eng.U
open Go Go.Proofs Go.Proofs.YtbkhmkcmbaffoaaGreatDoor.Eng Go.Lib
variable {kap : FuncId → List AV → Option AV} {E : Ext} [Core E] {n : Nat}

abbrev ai (n : Int) : AV := .int .i64 n
/-- Is the byte at a place no part of a code point? -/
def bad (s : ByteArray) (i : Nat) : Prop := Utf8.decode s i = (65533, 1)
instance (s : ByteArray) (i : Nat) : Decidable (bad s i) := inferInstanceAs (Decidable (_ = _))
/-- The place behind what stands at a place. -/
def nx (s : ByteArray) (i : Nat) : Nat := i + (Utf8.decode s i).2
theorem width_le (s : ByteArray) (i : Nat) : 1 ≤ (Utf8.decode s i).2 ∧ (Utf8.decode s i).2 ≤ 4 := by
  rw [decode_at]
  unfold decodeN
  repeat' split
  all_goals simp
theorem nx_gt (s : ByteArray) (i : Nat) : i < nx s i ∧ nx s i ≤ i + 4 := by have := width_le s i; unfold nx; omega
theorem sizeS_bad {s : ByteArray} {i : Nat} (h : bad s i) : sizeS s i = 0 := by unfold sizeS; rw [h]; rfl
theorem sizeS_good {s : ByteArray} {i : Nat} (h : ¬ bad s i) : sizeS s i = (Utf8.decode s i).2 ∧ sizeS s i ≠ 0 := by
  unfold sizeS szOf
  rw [if_neg (show ¬ Utf8.decode s i = (65533, 1) from h)]
  have := width_le s i
  exact ⟨rfl, by omega⟩
theorem nx_bad {s : ByteArray} {i : Nat} (h : bad s i) : nx s i = i + 1 := by unfold nx; rw [h]

/-- The ends of all that stands in a text, from a place on: below zero where a byte is no part of a code point. -/
def endsL (s : ByteArray) : Nat → Nat → List Int
  | 0, _ => []
  | n + 1, pos => if pos < s.size then (if bad s pos then -(nx s pos : Int) else (nx s pos : Int)) :: endsL s n (nx s pos) else []
def ends (s : ByteArray) : List Int := endsL s s.size 0
theorem L16 {K : Nat} {s : ByteArray} (hs : s.size ≤ 1000000) (h51 : ∀ i, i < s.size → kap ref05_size [.str s, .int .i64 (i : Int)] = some (.int .i64 (sizeS s i : Int))) :
    ∀ (n m pos : Nat) (xs : List AV), s.size ≤ pos + n → n < m → xs.length ≤ pos → pos ≤ s.size + 4 → ref05_Ends_L0 kap K m s (pos : Int) xs = some (.list 1 (xs ++ (endsL s n pos).map ai)) := by
  intro n
  induction n with
  | zero =>
    intro m pos xs hn hm hx hp
    obtain ⟨m, rfl⟩ : ∃ m', m = m' + 1 := ⟨m - 1, by omega⟩
    rw [ref05_Ends_L0_s, show decide ((pos : Int) < (s.size : Int)) = false from by simp; omega]
    simp [endsL]
  | succ n ih =>
    intro m pos xs hn hm hx hp
    obtain ⟨m, rfl⟩ : ∃ m', m = m' + 1 := ⟨m - 1, by omega⟩
    by_cases hlt : pos < s.size
    · have hw := nx_gt s pos
      rw [ref05_Ends_L0_s, show decide ((pos : Int) < (s.size : Int)) = true from by simp; omega, h51 pos hlt, cond_true, callI_ok]
      rw [show (decide ((xs.length + 1) * 8 ≤ 140737488355328) && decide (xs.length + 1 ≤ 9223372036854775807)) = true from by simp; omega]
      simp only [cond_true]
      unfold endsL
      rw [if_pos hlt]
      by_cases hb : bad s pos
      · rw [if_pos hb, sizeS_bad hb, show decide (((0 : Nat) : Int) = 0) = true from rfl, cond_true]
        have e := nx_bad hb
        rw [i64w (x := (pos : Int) + 1) (by omega), i64w (x := 0 - ((pos : Int) + 1)) (by omega), show (pos : Int) + 1 = ((nx s pos : Nat) : Int) from by omega,
          ih m (nx s pos) _ (by omega) (by omega) (by simp; omega) (by omega)]
        simp [ai]
      · obtain ⟨e1, e2⟩ := sizeS_good hb
        rw [if_neg hb, show decide (((sizeS s pos : Nat) : Int) = 0) = false from by simp; omega, cond_false]
        have e : nx s pos = pos + sizeS s pos := by rw [e1]; rfl
        rw [i64w (x := (pos : Int) + (sizeS s pos : Int)) (by omega), show (pos : Int) + (sizeS s pos : Int) = ((nx s pos : Nat) : Int) from by omega,
          ih m (nx s pos) _ (by omega) (by omega) (by simp; omega) (by omega)]
        simp [ai]
    · rw [ref05_Ends_L0_s, show decide ((pos : Int) < (s.size : Int)) = false from by simp; omega]
      unfold endsL
      rw [if_neg hlt]
      simp
theorem ref05_Ends_spec {K : Nat} {s : ByteArray} (hs : s.size ≤ 1000000) (hK : s.size < K) (h51 : ∀ i, i < s.size → kp E K n ref05_size [.str s, .int .i64 (i : Int)] = some (.int .i64 (sizeS s i : Int))) : kp E K (n + 1) ref05_Ends [.str s] = some (.list 1 ((ends s).map ai)) := by
  rw [ref05_Ends_eq]
  exact L16 hs h51 s.size K 0 [] (by omega) hK (by simp) (by omega)

/-- The place of the first byte that is no part of a code point; -1: there is none. -/
def firstL (s : ByteArray) : Nat → Nat → Int
  | 0, _ => -1
  | n + 1, pos => if pos < s.size then (if bad s pos then (pos : Int) else firstL s n (nx s pos)) else -1
def first (s : ByteArray) : Int := firstL s s.size 0
theorem utf_wrong_spec {K : Nat} {s : ByteArray} {i : Nat} (hi : i < s.size) (h69 : ∀ t, kp E K n unicode_utf8_DecodeRuneInString [.str t] = some (.tup [.int .i32 ((goDec t).1 : Int), .int .i64 ((goDec t).2 : Int)])) :
    kp E K (n + 1) utf_wrong [.str s, .int .i64 (i : Int), .int .i32 ((Utf8.decode s i).1 : Int)] = some (.bool (decide (bad s i))) := by
  rw [utf_wrong_eq]
  by_cases h : (Utf8.decode s i).1 = 65533
  · rw [show decide ((((Utf8.decode s i).1 : Nat) : Int) = 65533) = true from by simp; omega, show (decide ((0 : Int) ≤ (i : Int)) && decide ((i : Int) ≤ (s.size : Int))) = true from by simp; omega]
    simp only [Bool.not_true, cond_false, cond_true, h69, callT_ok, tupI_ok, atNil_ok]
    have e : goDec (s.extract ((i : Int)).toNat s.size) = Utf8.decode s i := by
      rw [show ((i : Int)).toNat = i from by omega]
      unfold goDec
      rw [if_neg (by rw [tail_size]; omega), decode_at, decode_at, tail_size, Nat.sub_zero]
      simp only [tail_get!, Nat.add_zero, Nat.zero_add]
    rw [e]
    congr 2
    refine decide_eq_decide.2 ?_
    unfold bad
    rw [Prod.ext_iff]
    simp only [h, true_and]
    omega
  · rw [show decide ((((Utf8.decode s i).1 : Nat) : Int) = 65533) = false from by simp; omega]
    simp only [Bool.not_false, cond_true]
    rw [show decide (bad s i) = false from by simp only [decide_eq_false_iff_not]; intro hb; exact h (by rw [show Utf8.decode s i = _ from hb])]
theorem L13 {K : Nat} {s : ByteArray} (h50 : ∀ i, i < s.size → kap utf_wrong [.str s, .int .i64 (i : Int), .int .i32 ((Utf8.decode s i).1 : Int)] = some (.bool (decide (bad s i)))) :
    ∀ (n m pos : Nat), s.size ≤ pos + n → n < m → utf_First_L0 kap K m s s pos = some (.int .i64 (firstL s n pos)) := by
  intro n
  induction n with
  | zero =>
    intro m pos hn hm
    obtain ⟨m, rfl⟩ : ∃ m', m = m' + 1 := ⟨m - 1, by omega⟩
    rw [utf_First_L0_s, show decide (pos < s.size) = false from by simp; omega]
    rfl
  | succ n ih =>
    intro m pos hn hm
    obtain ⟨m, rfl⟩ : ∃ m', m = m' + 1 := ⟨m - 1, by omega⟩
    unfold firstL
    by_cases hlt : pos < s.size
    · have hw := nx_gt s pos
      rw [utf_First_L0_s, show decide (pos < s.size) = true from by simpa using hlt, h50 pos hlt, if_pos hlt]
      simp only [cond_true, callB_ok]
      by_cases hb : bad s pos
      · rw [if_pos hb, decide_eq_true hb]; rfl
      · rw [if_neg hb, decide_eq_false hb]
        exact ih m (nx s pos) (by omega) (by omega)
    · rw [utf_First_L0_s, show decide (pos < s.size) = false from by simpa using hlt, if_neg hlt]
      rfl
theorem utf_First_spec {K : Nat} {s : ByteArray} (hK : s.size < K) (h50 : ∀ i, i < s.size → kp E K n utf_wrong [.str s, .int .i64 (i : Int), .int .i32 ((Utf8.decode s i).1 : Int)] = some (.bool (decide (bad s i)))) : kp E K (n + 1) utf_First [.str s] = some (.int .i64 (first s)) := by
  rw [utf_First_eq]
  exact L13 h50 s.size K 0 (by omega) hK
theorem utf_Right_spec {K : Nat} {s : ByteArray} (h13 : kp E K n utf_First [.str s] = some (.int .i64 (first s))) : kp E K (n + 1) utf_Right [.str s] = some (.bool (decide (first s < 0))) := by
  rw [utf_Right_eq, h13]
  rfl
/-- The first of the ends that is below zero. -/
def firstNeg : List Int → Int
  | [] => -1
  | e :: l => if e < 0 then -e - 1 else firstNeg l
theorem L12 {K : Nat} {es : List Int} (hes : ∀ e ∈ es, -1000010 ≤ e ∧ e ≤ 1000010) (hl : es.length ≤ 1000000) : ∀ (n m j : Nat), es.length ≤ j + n → n < m → ref05_First_L0 kap K m (es.map ai) (j : Int) = some (.int .i64 (firstNeg (es.drop j))) := by
  intro n
  induction n with
  | zero =>
    intro m j hn hm
    obtain ⟨m, rfl⟩ : ∃ m', m = m' + 1 := ⟨m - 1, by omega⟩
    rw [ref05_First_L0_s, show decide ((j : Int) < ((es.map ai).length : Int)) = false from by simp; omega, List.drop_eq_nil_of_le (by omega)]
    rfl
  | succ n ih =>
    intro m j hn hm
    obtain ⟨m, rfl⟩ : ∃ m', m = m' + 1 := ⟨m - 1, by omega⟩
    by_cases hlt : j < es.length
    · have he := hes es[j] (List.getElem_mem hlt)
      rw [ref05_First_L0_s, show decide ((j : Int) < ((es.map ai).length : Int)) = true from by simp; omega, show decide ((0 : Int) ≤ (j : Int)) = true from by simp, show ((j : Int)).toNat = j from by omega]
      rw [List.getElem?_map, List.getElem?_eq_getElem hlt, List.drop_eq_getElem_cons hlt]
      simp only [cond_true, Bool.and_self, Option.map_some, Option.bind_some, AV.cells, cellI_0, firstNeg, ai]
      by_cases h0 : es[j] < 0
      · rw [if_pos h0, show decide (es[j] < 0) = true from by simpa using h0, cond_true, i64w (x := 0 - es[j]) (by omega), i64w (x := 0 - es[j] - 1) (by omega)]
        congr 2
        omega
      · rw [if_neg h0, show decide (es[j] < 0) = false from by simpa using h0, cond_false, i64w (x := (j : Int) + 1) (by omega), show (j : Int) + 1 = ((j + 1 : Nat) : Int) from by omega]
        exact ih m (j + 1) (by omega) (by omega)
    · rw [ref05_First_L0_s, show decide ((j : Int) < ((es.map ai).length : Int)) = false from by simp; omega, List.drop_eq_nil_of_le (by omega)]
      rfl
theorem endsL_range (s : ByteArray) : ∀ (n pos : Nat), pos ≤ s.size + 4 → ∀ e ∈ endsL s n pos, -((s.size : Int) + 8) ≤ e ∧ e ≤ (s.size : Int) + 8
  | 0, pos, hp, e, he => by simp [endsL] at he
  | n + 1, pos, hp, e, he => by
    have hw := nx_gt s pos
    unfold endsL at he
    split at he
    · rename_i hlt
      rcases List.mem_cons.1 he with rfl | he
      · split <;> omega
      · exact endsL_range s n (nx s pos) (by omega) e he
    · simp at he
theorem endsL_length (s : ByteArray) : ∀ (n pos : Nat), (endsL s n pos).length ≤ n
  | 0, pos => by simp [endsL]
  | n + 1, pos => by
    unfold endsL
    split
    · have := endsL_length s n (nx s pos)
      simp; omega
    · simp
theorem ref05_First_spec {K : Nat} {s : ByteArray} (hs : s.size ≤ 1000000) (hK : s.size < K) (h16 : kp E K n ref05_Ends [.str s] = some (.list 1 ((ends s).map ai))) : kp E K (n + 1) ref05_First [.str s] = some (.int .i64 (firstNeg (ends s))) := by
  rw [ref05_First_eq, h16]
  have hl := endsL_length s s.size 0
  exact L12 (fun e he => by have := endsL_range s s.size 0 (by omega) e he; omega) (by unfold ends; omega) s.size K 0 (by unfold ends; omega) hK
theorem first_ends (s : ByteArray) : ∀ (n pos : Nat), firstNeg (endsL s n pos) = firstL s n pos
  | 0, pos => rfl
  | n + 1, pos => by
    have hw := nx_gt s pos
    unfold endsL firstL
    split
    · rename_i hlt
      simp only [firstNeg]
      by_cases hb : bad s pos
      · have := nx_bad hb
        rw [if_pos hb, if_pos hb, if_pos (by omega)]
        omega
      · rw [if_neg hb, if_neg hb, if_neg (by omega)]
        exact first_ends s n _
    · rfl
end Go.Proofs.YtbkhmkcmbaffoaaGreatDoor.Eng.U


/- Which texts hold = or a nought, told exactly. -/
set_option linter.unusedVariables false
set_option linter.unusedSectionVars false
set_option linter.unusedSimpArgs false
namespace Go.Proofs.YtbkhmkcmbaffoaaGreatDoor.Eng.U
open Go Go.Proofs Go.Proofs.YtbkhmkcmbaffoaaGreatDoor.Eng
variable {E : Ext} [Core E] {k n : Nat}

def noEq (s : List UInt8) : Bool := s.all fun c => decide (c ≠ 61) && decide (c ≠ 0)
theorem idx_rune (r : Nat) (h : r < 128) : (0 : Int) ≤ Lib.indexByte [61, 0] (IntKind.wrap .u8 (r : Int)).toNat.toUInt8 ↔ r = 61 ∨ r = 0 := by
  have : ∀ r : _root_.Fin 128, ((0 : Int) ≤ Lib.indexByte [61, 0] (IntKind.wrap .u8 ((r.1 : Nat) : Int)).toNat.toUInt8 ↔ r.1 = 61 ∨ r.1 = 0) := by decide +kernel
  exact this ⟨r, h⟩
theorem rune_V [HasIB E] (r : Nat) (hk : 10 < k) : ∃ i : Int, kp E k (n + 2) strings_IndexRune [.str (str [61, 0]), .int .i32 (r : Int)] = some (.int .i64 i) ∧ (0 ≤ i ↔ r = 61 ∨ r = 0) := by
  obtain ⟨k, rfl⟩ : ∃ j, k = j + 3 := ⟨k - 3, by omega⟩
  rw [strings_IndexRune_eq, bif_t (by omega)]
  by_cases h1 : r < 128
  · rw [bif_t (by omega), HasIB.indexB, callI_ok]; exact ⟨_, rfl, idx_rune r h1⟩
  · rw [bif_f (by omega)]
    by_cases h2 : (r : Int) = 65533
    · rw [bif_t h2]
      have d0 : Utf8.decode (str [61, 0]) 0 = (61, 1) := by decide +kernel
      have d1 : Utf8.decode (str [61, 0]) 1 = (0, 1) := by decide +kernel
      have sz : (str [61, 0]).size = 2 := rfl
      have z1 : 0 + ((61, 1) : Nat × Nat).2 = 1 := rfl
      have z2 : 1 + ((0, 1) : Nat × Nat).2 = 2 := rfl
      rw [strings_IndexRune_L0_s, sz, d0, z1, bif_t (by omega), bif_f (by decide), strings_IndexRune_L0_s, sz, d1, z2, bif_t (by omega), bif_f (by decide), strings_IndexRune_L0_s, sz, bif_f (by omega)]
      exact ⟨_, rfl, by omega⟩
    · rw [bif_f h2]
      obtain ⟨b, hb⟩ := valid_B (E := E) (k := k + 3) (n := n) (r : Int)
      rw [hb, callB_ok]
      cases b with
      | false => exact ⟨_, rfl, by omega⟩
      | true =>
        rw [Bool.not_true, cond_false]
        have sz : (str [61, 0]).size = 2 := rfl
        rcases enc_facts r (by omega) with ⟨e1, e2⟩ | e1 | e1
        · rw [e1, i64w (by omega), strings_IndexRune_L1_s, sz, e1]
          have hb1 : byteAt (str [61, 0]) 1 = 0 := rfl
          have e3 : Int.toNat (((2 : Nat) : Int) - 1) = 1 := rfl
          rw [bif_t (by omega), bif_a, bif_t (by omega), bif_t (by omega), bif_a, bif_t (by omega), bif_t (by omega), e3, hb1, decide_eq_false (by omega), Bool.not_false, cond_true, i64w (by omega), bif_a, bif_t (by omega), bif_t (by omega), bif_a, bif_t (by omega), bif_t (by omega)]
          have e4 : Int.toNat (((2 : Nat) : Int) - 1 + 1) = 2 := rfl
          have e5 : ByteArray.extract (str [61, 0]) 2 2 = str [] := by decide +kernel
          rw [e4, e5, HasIB.indexB, callI_ok]
          have e6 : Lib.indexByte [] (byteAt (Utf8.encode (r : Int)) 1).toNat.toUInt8 = -1 := rfl
          rw [e6, bif_t (by omega)]
          exact ⟨_, rfl, by omega⟩
        · rw [e1, i64w (by omega), strings_IndexRune_L1_s, sz, bif_f (by omega)]; exact ⟨_, rfl, by omega⟩
        · rw [e1, i64w (by omega), strings_IndexRune_L1_s, sz, bif_f (by omega)]; exact ⟨_, rfl, by omega⟩
theorem dec_low (s : ByteArray) (i : Nat) (h : by_ s i < 128) : Utf8.decode s i = (by_ s i, 1) := by
  rw [Lib.decode_at, get_by, get_by, get_by, get_by]
  unfold Lib.decodeN
  rw [if_pos h]
theorem dec_wide (s : ByteArray) (i : Nat) (h : 128 ≤ by_ s i) : 128 ≤ (Utf8.decode s i).1 ∧ ∀ j, j < (Utf8.decode s i).2 → 128 ≤ by_ s (i + j) := by
  rw [Lib.decode_at, get_by, get_by, get_by, get_by]
  unfold Lib.decodeN
  rw [if_neg (by omega)]
  have key : ∀ (c w : Nat), 128 ≤ c → (w ≤ 4) → (1 < w → 128 ≤ by_ s (i + 1)) → (2 < w → 128 ≤ by_ s (i + 2)) → (3 < w → 128 ≤ by_ s (i + 3)) → 128 ≤ ((c, w) : Nat × Nat).1 ∧ ∀ j, j < ((c, w) : Nat × Nat).2 → 128 ≤ by_ s (i + j) := by
    intro c w hc hw h1 h2 h3
    refine ⟨hc, fun j hj => ?_⟩
    have hj : j < w := hj
    have : j = 0 ∨ j = 1 ∨ j = 2 ∨ j = 3 := by omega
    rcases this with rfl | rfl | rfl | rfl
    · exact h
    · exact h1 (by omega)
    · exact h2 (by omega)
    · exact h3 (by omega)
  repeat' split
  all_goals exact key _ _ (by omega) (by omega) (by omega) (by omega) (by omega)
theorem any_lv [HasIB E] (hk : 10 < k) (s : List UInt8) : ∀ (m k0 i : Nat), s.length - i < m → m ≤ k0 → ∃ r : Int, strings_IndexAny_L0 (kp E k (n + 2)) k k0 (str [61, 0]) (str s) i = some (.int .i64 r) ∧ (0 ≤ r ↔ ∃ j, i ≤ j ∧ j < s.length ∧ (by_ (str s) j = 61 ∨ by_ (str s) j = 0))
  | 0, k0, i, h, _ => by omega
  | m + 1, k0 + 1, i, h, hkk => by
    rw [strings_IndexAny_L0_s, str_size]
    by_cases hi : i < s.length
    · rw [decide_eq_true hi, cond_true]
      obtain ⟨x, hx, hxi⟩ := rune_V (E := E) (k := k) (n := n) (Utf8.decode (str s) i).1 hk
      rw [hx, callI_ok]
      have hw := width_pos (str s) i
      by_cases h0 : x ≥ 0
      · rw [bif_t h0]
        refine ⟨_, rfl, by
          constructor
          · intro _
            refine ⟨i, by omega, hi, ?_⟩
            by_cases hb : by_ (str s) i < 128
            · have := dec_low (str s) i hb
              have h1 := hxi.1 h0
              rw [this] at h1
              exact h1
            · have := (dec_wide (str s) i (by omega)).1
              have h1 := hxi.1 h0
              omega
          · intro _; omega⟩
      · rw [bif_f h0]
        obtain ⟨r, hr, hri⟩ := any_lv hk s m k0 (i + (Utf8.decode (str s) i).2) (by omega) (by omega)
        refine ⟨r, hr, hri.trans ⟨fun ⟨j, a, b, c⟩ => ⟨j, by omega, b, c⟩, fun ⟨j, a, b, c⟩ => ⟨j, ?_, b, c⟩⟩⟩
        have hn : ¬ ((Utf8.decode (str s) i).1 = 61 ∨ (Utf8.decode (str s) i).1 = 0) := fun h => h0 (hxi.2 h)
        by_cases hb : by_ (str s) i < 128
        · rw [dec_low (str s) i hb] at hn ⊢
          have hn : ¬ (by_ (str s) i = 61 ∨ by_ (str s) i = 0) := hn
          show i + 1 ≤ j
          by_cases e : i = j
          · subst e; exact absurd c hn
          · omega
        · have hall := (dec_wide (str s) i (by omega)).2
          by_cases e : i + (Utf8.decode (str s) i).2 ≤ j
          · exact e
          · have := hall (j - i) (by omega)
            rw [show i + (j - i) = j by omega] at this
            omega
    · rw [decide_eq_false hi, cond_false]
      exact ⟨_, rfl, ⟨fun h => by omega, fun ⟨j, a, b, _⟩ => by omega⟩⟩
theorem noEq_iff (s : List UInt8) : noEq s = false ↔ ∃ j, 0 ≤ j ∧ j < s.length ∧ (by_ (str s) j = 61 ∨ by_ (str s) j = 0) := by
  rw [noEq, List.all_eq_false]
  constructor
  · rintro ⟨c, hc, h⟩
    obtain ⟨j, hj, rfl⟩ := List.mem_iff_getElem.1 hc
    refine ⟨j, by omega, hj, ?_⟩
    have e : by_ (str s) j = (s[j]).toNat := by
      show ((str s).data.toList.getD j 0).toNat = _
      rw [show (str s).data.toList = s from rfl, List.getD_eq_getElem?_getD, List.getElem?_eq_getElem hj]; rfl
    rw [e]
    simp only [ne_eq, Bool.and_eq_true, decide_eq_true_eq] at h
    by_cases h6 : s[j] = 61
    · left; rw [h6]; rfl
    · by_cases h7 : s[j] = 0
      · right; rw [h7]; rfl
      · exact absurd ⟨h6, h7⟩ h
  · rintro ⟨j, _, hj, h⟩
    refine ⟨s[j], List.getElem_mem hj, ?_⟩
    have e : by_ (str s) j = (s[j]).toNat := by
      show ((str s).data.toList.getD j 0).toNat = _
      rw [show (str s).data.toList = s from rfl, List.getD_eq_getElem?_getD, List.getElem?_eq_getElem hj]; rfl
    rw [e] at h
    simp only [ne_eq, Bool.and_eq_true, decide_eq_true_eq]
    rintro ⟨h6, h7⟩
    rcases h with h | h
    · exact h6 (UInt8.toNat_inj.1 h)
    · exact h7 (UInt8.toNat_inj.1 h)
theorem any_short_v [HasIB E] (hB : E.isBase strings_IndexAny = false) (hF : E.fs.contains strings_IndexAny = true) (hk : 10 < k) (s : List UInt8) (hs : s.length ≤ 8) : ∃ r : Int, kp E k (n + 3) strings_IndexAny [.str (str s), .str (str [61, 0])] = some (.int .i64 r) ∧ decide (r ≥ 0) = !noEq s := by
  have sz : (str [61, 0]).size = 2 := rfl
  rw [strings_IndexAny_eq hB hF, sz, str_size, bif_f (by decide), bif_f (by omega), strings_shouldUseASCIISet_eq, callB_ok, bif_f (by omega)]
  obtain ⟨r, hr, h⟩ := any_lv (E := E) (n := n) hk s k k 0 (by omega) (Nat.le_refl _)
  refine ⟨r, hr, ?_⟩
  rw [← noEq_iff] at h
  cases hq : noEq s with
  | true => rw [hq] at h; simp only [Bool.true_eq_false, iff_false] at h; rw [decide_eq_false h]; rfl
  | false => rw [hq] at h; simp only [iff_true] at h; rw [decide_eq_true h]; rfl
theorem any_long_v (s : List UInt8) : decide (Lib.indexAny s [61, 0] ≥ 0) = !noEq s := by
  induction s with
  | nil => rfl
  | cons b l ih =>
    have hg := Lib.indexAny_ge [61, 0] l
    unfold Lib.indexAny noEq
    rw [List.all_cons]
    by_cases hb : b = 61 ∨ b = 0
    · have e : List.contains [61, 0] b = true := by rcases hb with rfl | rfl <;> rfl
      rw [if_pos e]
      rcases hb with rfl | rfl <;> rfl
    · have e : List.contains [61, 0] b = false := by
        simp only [not_or] at hb
        simp [List.contains_cons, hb.1, hb.2]
      rw [e]
      simp only [not_or] at hb
      rw [decide_eq_true hb.1, decide_eq_true hb.2, Bool.and_self, Bool.true_and]
      rw [show (l.all fun c => decide (c ≠ 61) && decide (c ≠ 0)) = noEq l from rfl, ← ih]
      by_cases h1 : Lib.indexAny l [61, 0] = -1
      · rw [h1]; rfl
      · have h2 : (Lib.indexAny l [61, 0] == -1) = false := by simpa using h1
        rw [h2]
        simp only [Bool.false_eq_true, if_false]
        rw [decide_eq_decide]
        omega
class HasTextV (E : Ext) : Prop where
  dec : ∀ (k n : Nat) (s : ByteArray), kp E k n unicode_utf8_DecodeRuneInString [.str s] = some (.tup [.int .i32 ((goDec s).1 : Int), .int .i64 ((goDec s).2 : Int)])
  idx : ∀ (k n : Nat) (s : List UInt8), s.length ≤ 1000000 → ∃ i : Int, kp E k n strings_IndexAny [.str (str s), .str (str [61, 0])] = some (.int .i64 i) ∧ decide (i ≥ 0) = !noEq s
end Go.Proofs.YtbkhmkcmbaffoaaGreatDoor.Eng.U


/- The functions of the Dec laws in plain words, part 4: the document's own reading of a time. -/
set_option linter.unusedVariables false
set_option linter.unusedSectionVars false
set_option linter.unusedSimpArgs false
namespace Go.Proofs.YtbkhmkcmbaffoaaGreatDoor.Eng.U
open Go Go.Proofs Go.Proofs.YtbkhmkcmbaffoaaGreatDoor.Eng Go.Proofs.YtbkhmkcmbaffoaaGreatDoor.P04
variable {E : Ext} [Core E] {k n : Nat}

theorem byte46 (c : UInt8) : decide (((c.toNat : Nat) : Int) = (46 : Int)) = decide (c = 46) := byte_is c 46 (by omega)
theorem byte45 (c : UInt8) : decide (((c.toNat : Nat) : Int) = (45 : Int)) = decide (c = 45) := byte_is c 45 (by omega)
/-- The first point from a place on. -/
def dotAt (t : List UInt8) (i : Nat) : Nat := i + dot (t.drop i)
theorem dotAt_step (t : List UInt8) (i : Nat) (h : i < t.length) : dotAt t i = if t.getD i 0 = 46 then i else dotAt t (i + 1) := by
  unfold dotAt
  rw [List.drop_eq_getElem_cons h]
  have e : t.getD i 0 = t[i] := by simp [List.getD_eq_getElem?_getD, List.getElem?_eq_getElem h]
  rw [e]
  unfold dot
  rw [List.findIdx_cons]
  by_cases hc : t[i] = 46
  · rw [if_pos hc, hc]; rfl
  · rw [if_neg hc, beq_eq_false_iff_ne.2 hc, cond_false]; omega
theorem back_loop (kap : FuncId → List AV → Option AV) (t : List UInt8) (q : Bool) (ht : t.length < 100000000000) : ∀ (i k0 : Nat), i < k0 → i ≤ t.length → ref04_Time_L0 kap k k0 (str t) q (dotAt t i : Int) ((i : Int) - 1) 0 0 = ref04_Time_L0 kap k 1 (str t) q (dot t : Int) (-1) 0 0
  | 0, k0 + 1, _, _ => by
    have e : ((0 : Nat) : Int) - 1 = -1 := rfl
    have e' : dotAt t 0 = dot t := by simp [dotAt]
    rw [e, e', ref04_Time_L0_s, ref04_Time_L0_s kap k 0, bif_f (by omega), bif_f (by omega)]
  | i + 1, k0 + 1, h, hi => by
    have ih := back_loop kap t q ht i k0 (by omega) (by omega)
    rw [dotAt_step t i (by omega)] at ih
    have e : ((i + 1 : Nat) : Int) - 1 = (i : Int) := by omega
    rw [e, ref04_Time_L0_s, bif_t (by omega), str_size, bif_a, bif_t (by omega), bif_t (by omega), Int.toNat_natCast, str_byte, byte46, i64w (x := (i : Int) - 1) (by omega)]
    by_cases hc : t.getD i 0 = 46
    · rw [if_pos hc] at ih
      rw [decide_eq_true hc, cond_true, ih]
    · rw [if_neg hc] at ih
      rw [decide_eq_false hc, cond_false, ih]
theorem nano_step (b : List UInt8) (hb : b.length ≤ 9) (j : Nat) (hj : j < 9) : valA 0 ((b ++ List.replicate (9 - b.length) 48).take (j + 1)) = valA 0 ((b ++ List.replicate (9 - b.length) 48).take j) * 10 + (if j < b.length then (b.getD j 0).toNat - 48 else 0) := by
  have hl : (b ++ List.replicate (9 - b.length) (48 : UInt8)).length = 9 := by rw [List.length_append, List.length_replicate]; omega
  rw [List.take_succ_eq_append_getElem (by omega), valA_app]
  have e : ∀ (a : Nat) (c : UInt8), valA a [c] = a * 10 + (c.toNat - 48) := fun a c => rfl
  rw [e]
  congr 1
  by_cases h : j < b.length
  · rw [if_pos h, List.getElem_append_left h]
    simp [List.getD_eq_getElem?_getD, h]
  · rw [if_neg h, List.getElem_append_right (by omega), List.getElem_replicate]
    rfl
theorem nano_loop (kap : FuncId → List AV → Option AV) (q ok : Bool) (sec : Int) (b : List UInt8) (hb : b.length ≤ 9) (hd : digs b = true) : ∀ (r j k0 : Nat), r + j = 9 → r < k0 →
    ref04_Time_L1 kap k k0 q sec ok (valA 0 ((b ++ List.replicate (9 - b.length) 48).take j) : Int) (str b) (j : Int) 0 0 = ref04_Time_L1 kap k 1 q sec ok (valA 0 (b ++ List.replicate (9 - b.length) 48) : Int) (str b) 9 0 0
  | 0, j, k0 + 1, h, _ => by
    obtain rfl : j = 9 := by omega
    have hl : (b ++ List.replicate (9 - b.length) (48 : UInt8)).length = 9 := by rw [List.length_append, List.length_replicate]; omega
    rw [List.take_of_length_le (by omega)]
    have e : ((9 : Nat) : Int) = 9 := rfl
    rw [e, ref04_Time_L1_s, ref04_Time_L1_s kap k 0, bif_f (show ¬ (9 : Int) < 9 by omega), bif_f (show ¬ (9 : Int) < 9 by omega)]
  | r + 1, j, k0 + 1, h, hk => by
    have ih := nano_loop kap q ok sec b hb hd r (j + 1) k0 (by omega) (by omega)
    obtain ⟨q1, q2⟩ := nano_digs hd hb
    have hall := digs_all q1
    have hv : valA 0 ((b ++ List.replicate (9 - b.length) 48).take j) < 1000000000 := by
      have hlt := valA_lt ((b ++ List.replicate (9 - b.length) (48 : UInt8)).take j) 0 0 (List.all_eq_true.2 fun x hx => List.all_eq_true.1 hall x (List.mem_of_mem_take hx)) (by omega)
      have : 10 ^ (0 + ((b ++ List.replicate (9 - b.length) (48 : UInt8)).take j).length) ≤ 10 ^ 9 := Nat.pow_le_pow_right (by omega) (by rw [List.length_take]; omega)
      omega
    rw [nano_step b hb j (by omega)] at ih
    generalize valA 0 ((b ++ List.replicate (9 - b.length) 48).take j) = a at hv ih
    rw [ref04_Time_L1_s, bif_t (by omega), str_size, i64w (x := (10 : Int) * (a : Int)) (by omega), wrap1 (by omega)]
    by_cases hj : j < b.length
    · have hc : isDig (b.getD j 0) = true := by
        rw [List.getD_eq_getElem?_getD, List.getElem?_eq_getElem hj]
        exact List.all_eq_true.1 (digs_all hd) _ (List.getElem_mem hj)
      have hc := dig_iff.1 hc
      rw [if_pos hj] at ih
      rw [bif_t (by omega), bif_a, bif_t (by omega), bif_t (by omega), Int.toNat_natCast, str_byte, i64w (x := (((b.getD j 0).toNat : Nat) : Int)) (by omega), i64w (x := (10 : Int) * (a : Int) + (((b.getD j 0).toNat : Nat) : Int)) (by omega), i64w (x := (10 : Int) * (a : Int) + (((b.getD j 0).toNat : Nat) : Int) - 48) (by omega)]
      rw [← ih]
      congr 1
      omega
    · rw [if_neg hj] at ih
      rw [bif_f (by omega), ← ih]
      congr 1
      omega
def timeRV : Option (Int × Int) → AV
  | some (a, b) => .tup [.agg [.int .i64 a, .int .i64 b], .bool true]
  | none => .tup [.agg [.int .i64 0, .int .i64 0], .bool false]
def endT (q ok : Bool) (v w : Nat) : Option (Int × Int) :=
  if ok = false then none
  else if q = false then (if 9223372036854775807 < v then none else some ((v : Int), (w : Int)))
  else if w = 0 then some (-(v : Int), 0)
  else if 9223372036854775807 < v then none
  else some (-(v : Int) - 1, 1000000000 - (w : Int))
theorem nano_end (kap : FuncId → List AV → Option AV) (q ok : Bool) (v w : Nat) (s : ByteArray) (hv : v ≤ 9223372036854775808) (hw : w < 1000000000) : ref04_Time_L1 kap k 1 q (if ok then -(v : Int) else 0) ok (w : Int) s 9 0 0 = some (timeRV (endT q ok v w)) := by
  rw [ref04_Time_L1_s kap k 0, bif_f (show ¬ (9 : Int) < 9 by omega)]
  cases ok with
  | false => rfl
  | true =>
    simp only [if_true, Bool.not_true, Bool.not_false, cond_true, cond_false, endT, if_neg (show ¬ true = false by decide)]
    cases q with
    | false =>
      simp only [if_true, Bool.not_true, Bool.not_false, cond_true, cond_false]
      by_cases h : 9223372036854775807 < v
      · rw [bif_t (by omega), if_pos h]; rfl
      · rw [bif_f (by omega), if_neg h, i64w (by omega), show (0 : Int) - -(v : Int) = (v : Int) from by omega]; rfl
    | true =>
      simp only [if_true, Bool.not_true, Bool.not_false, cond_true, cond_false, if_neg (show ¬ true = false by decide)]
      by_cases h0 : w = 0
      · subst h0
        rw [if_pos rfl]
        by_cases h : 9223372036854775807 < v
        · rw [bif_t (by omega), bif_f (by omega), bif_t (by omega)]; rfl
        · rw [bif_f (by omega), bif_t (by omega)]; rfl
      · rw [if_neg h0]
        by_cases h : 9223372036854775807 < v
        · rw [bif_t (by omega), bif_t (by omega), if_pos h]; rfl
        · rw [bif_f (by omega), bif_f (by omega), if_neg h, i64w (x := -(v : Int) - 1) (by omega), i64w (by omega)]; rfl
theorem refBody (t : List UInt8) (q : Bool) (ht : t.length < 100000000000) (hk : t.length < k) (h9 : 10 < k) : ref04_Time_L0 (kp E k (n + 2)) k k (str t) q ((t.length : Nat) : Int) (((t.length : Nat) : Int) - 1) 0 0 = some (timeRV (timeB q t)) := by
  have e : dotAt t t.length = t.length := by simp [dotAt, dot]
  have hb := back_loop (k := k) (kp E k (n + 2)) t q ht t.length k hk (Nat.le_refl _)
  rw [e] at hb
  rw [hb, ref04_Time_L0_s]
  have hdl : dot t ≤ t.length := List.findIdx_le_length
  rw [bif_f (by omega), str_size, bif_a, bif_t (by omega), bif_t (by omega), Int.toNat_natCast, str_ext, List.drop_zero, below_k (n := n) (t.take (dot t)) (by rw [List.length_take]; omega) (by rw [List.length_take]; omega)]
  simp (disch := first | omega | (simp only [List.length_append, List.length_cons, List.length_nil, List.length_take, List.length_drop]; done) | (simp only [List.length_append, List.length_cons, List.length_nil, List.length_take, List.length_drop]; omega) | fail) only [bif_t, bif_f, bif_n, bif_a, callB_ok, callI_ok, callS_ok, callL_ok, callF_ok, callT_ok, tupB_ok, tupI_ok, tupS_ok, tupL_ok, tupF_ok, atNil_ok, wrap1, wrapM, wrapP, Int.toNat_natCast, svs_len, ivs_len, bvs_len, str_size, svs_mid, ivs_mid, str_dec, str_ext, str_byte, mid_byte, mid_cut, List.length_nil, List.length_singleton, svs_snoc, ivs_snoc, svs_take, svs_drop, str_app, List.take_length, List.drop_zero, List.nil_append, cond_true, cond_false, Option.bind_some, Bool.not_true, Bool.not_false, Bool.true_and, Bool.and_true]
  unfold timeB
  dsimp only
  have hv : natOk (t.take (dot t)) = true → valA 0 (t.take (dot t)) ≤ 9223372036854775808 := natOk_le
  generalize natOk (t.take (dot t)) = ok at hv
  generalize valA 0 (t.take (dot t)) = v at hv
  by_cases hp : dot t < t.length
  · rw [bif_t (by omega), bif_t (by omega)]
    have hbl : (t.drop (dot t + 1)).length ≤ t.length := by rw [List.length_drop]; omega
    generalize t.drop (dot t + 1) = b at hbl
    rw [only_k (n := n + 1) b (by omega) (by omega), callB_ok]
    cases hd : digs b with
    | false =>
      rw [cond_false]
      cases ok with
      | false => rfl
      | true => rw [if_neg (by simp), if_pos ⟨hp, by simp⟩]; rfl
    | true =>
      rw [cond_true]
      by_cases hl : b.length ≤ 9
      · obtain ⟨q1, q2⟩ := nano_digs hd hl
        obtain ⟨q3, q4⟩ := parseI_eq q1 (by omega)
        rw [bif_f (by omega)]
        have hn := nano_loop (k := k) (kp E k (n + 2)) q ok (if ok = true then -(v : Int) else 0) b hl hd 9 0 k rfl (by omega)
        rw [List.take_zero] at hn
        have e0 : ((valA 0 [] : Nat) : Int) = 0 := rfl
        have e1 : ((0 : Nat) : Int) = 0 := rfl
        rw [e0, e1] at hn
        rw [hn]
        generalize valA 0 (b ++ List.replicate (9 - b.length) 48) = w at q4
        cases ok with
        | false =>
          exact nano_end _ q false 0 w _ (by omega) q4
        | true =>
          rw [nano_end _ q true v w _ (hv rfl) q4]
          unfold endT
          have t1 : ¬ (true = false) := by decide
          have t2 : ¬ (dot t < t.length ∧ ¬ (true = true ∧ b.length ≤ 9)) := fun h => h.2 ⟨rfl, hl⟩
          rw [if_neg t1, if_neg t1, if_neg t2, if_pos hp]
      · rw [bif_t (by omega)]
        cases ok with
        | false => rfl
        | true => rw [if_neg (by simp), if_pos ⟨hp, fun h => hl h.2⟩]; rfl
  · rw [bif_f (by omega)]
    cases ok with
    | false => rfl
    | true =>
      have hv := hv rfl
      have t1 : ¬ (true = false) := by decide
      have t2 : ¬ (dot t < t.length ∧ ¬ (digs (t.drop (dot t + 1)) = true ∧ (t.drop (dot t + 1)).length ≤ 9)) := fun h => hp h.1
      have t3 : (if true = true then -(v : Int) else 0) = -(v : Int) := if_pos rfl
      rw [if_neg t1, if_neg t2, if_neg hp, t3]
      simp only [if_true, Bool.not_true, Bool.not_false, cond_true, cond_false]
      cases q with
      | false =>
        simp only [if_true, Bool.not_true, Bool.not_false, cond_true, cond_false]
        by_cases h : 9223372036854775807 < v
        · rw [bif_t (by omega), if_pos h]; rfl
        · rw [bif_f (by omega), if_neg h, i64w (by omega), show (0 : Int) - -(v : Int) = (v : Int) from by omega]; rfl
      | true =>
        simp only [if_true, Bool.not_true, Bool.not_false, cond_true, cond_false, if_neg (show ¬ true = false by decide)]
        by_cases h : 9223372036854775807 < v
        · rw [bif_t (by omega)]; rfl
        · rw [bif_f (by omega)]; rfl
theorem refTime_k (s : List UInt8) (hs : s.length < 100000000000) (hk : s.length < k) (h9 : 10 < k) : kp E k (n + 3) ref04_Time [.str (str s)] = some (timeRV (timeL s)) := by
  rw [ref04_Time_eq, str_size]
  unfold timeL
  cases s with
  | nil =>
    rw [bif_f (by simp), i64w (by simp)]
    exact refBody (n := n) [] false hs hk h9
  | cons c s =>
    have hl : (c :: s).length = s.length + 1 := rfl
    rw [bif_t (by omega), bif_t (by omega), str_byte, byte45]
    have hg : (c :: s).getD 0 0 = c := rfl
    rw [hg]
    by_cases hc : c = 45
    · subst hc
      have e : ByteArray.extract (str (45 :: s)) 1 (45 :: s).length = str s := ext_one 45 s
      rw [bif_t rfl, bif_t (by omega), e, str_size, i64w (by omega)]
      have := refBody (E := E) (k := k) (n := n) s true (by omega) (by omega) h9
      exact this
    · rw [bif_f hc, i64w (by omega), decide_eq_false hc]
      have := refBody (E := E) (k := k) (n := n) (c :: s) false hs hk h9
      rw [this]
      have hh : ¬ (c :: s).head? = some 45 := by simpa using hc
      rw [decide_eq_false hh, if_neg hh]
end Go.Proofs.YtbkhmkcmbaffoaaGreatDoor.Eng.U


/- What a pair of a record is: both sides in plain words. -/
set_option linter.unusedVariables false
set_option linter.unusedSectionVars false
set_option linter.unusedSimpArgs false
namespace Go.Proofs.YtbkhmkcmbaffoaaGreatDoor.Eng.U
open Go Go.Proofs Go.Proofs.YtbkhmkcmbaffoaaGreatDoor.Eng Go.Proofs.YtbkhmkcmbaffoaaGreatDoor.P04
variable {E : Ext} [Core E] [HasNum E] {k n : Nat}

def utfOk (l : List UInt8) : Bool := decide (first (str l) < 0)
theorem refFirst_k (l : List UInt8) (hl : l.length ≤ 1000000) (hk : l.length + 5 < k) : kp E k (n + 3) ref05_First [.str (str l)] = some (.int .i64 (first (str l))) := by
  obtain ⟨K, rfl⟩ : ∃ K, k = K + 5 := ⟨k - 5, by omega⟩
  have hs : (str l).size ≤ 1000000 := by rw [str_size]; exact hl
  have h1 : ∀ i, i < (str l).size → kp E (K + 5) (n + 1) ref05_size [.str (str l), .int .i64 (i : Int)] = some (.int .i64 (sizeS (str l) i : Int)) := fun i hi => size_spec hs hi
  have h2 := ref05_Ends_spec (E := E) (K := K + 5) (n := n + 1) hs (by rw [str_size]; omega) h1
  rw [ref05_First_spec hs (by rw [str_size]; omega) h2, ends, first_ends, first]
section
variable [HasTextV E]
theorem utf_k (l : List UInt8) (hk : l.length < k) : kp E k (n + 3) utf_Right [.str (str l)] = some (.bool (utfOk l)) := by
  have h1 : ∀ i, i < (str l).size → kp E k (n + 1) utf_wrong [.str (str l), .int .i64 (i : Int), .int .i32 ((Utf8.decode (str l) i).1 : Int)] = some (.bool (decide (bad (str l) i))) := fun i hi => utf_wrong_spec hi (HasTextV.dec k n)
  exact utf_Right_spec (utf_First_spec (by rw [str_size]; omega) h1)
theorem contains_k (s : List UInt8) (hs : s.length ≤ 1000000) : kp E k (n + 1) strings_ContainsAny [.str (str s), .str (str [61, 0])] = some (.bool (!noEq s)) := by
  obtain ⟨i, hi, h⟩ := HasTextV.idx (E := E) k n s hs
  rw [strings_ContainsAny_eq, hi, callI_ok, h]
end
def clean (s : List UInt8) : Bool := s.all fun c => decide (c ≠ 0)
theorem index0 (s : List UInt8) : decide (Lib.indexByte s 0 < 0) = clean s := by
  induction s with
  | nil => rfl
  | cons b l ih =>
    have hg := Lib.indexByte_ge l 0
    unfold Lib.indexByte clean
    rw [List.all_cons]
    by_cases hb : b = 0
    · subst hb; rfl
    · have h1 : (b == 0) = false := by simpa using hb
      rw [h1, decide_eq_true hb, Bool.true_and, show (l.all fun c => decide (c ≠ 0)) = clean l from rfl, ← ih]
      simp only [Bool.false_eq_true, if_false, beq_iff_eq]
      split
      · rename_i h; rw [h]
      · rename_i h
        rw [decide_eq_decide]
        omega
theorem index0_k (s : List UInt8) : kp E k n strings_IndexByte [.str (str s), .int .u8 0] = some (.int .i64 (Lib.indexByte s 0)) := HasNum.indexB k n s 0
theorem textClean_k (s : List UInt8) : kp E k (n + 1) text_Clean [.str (str s)] = some (.bool (clean s)) := by
  rw [text_Clean_eq, index0_k, callI_ok, index0]
theorem paxClean_k (s : List UInt8) : kp E k (n + 1) pax_clean [.str (str s)] = some (.bool (clean s)) := by
  rw [pax_clean_eq, index0_k, callI_ok, index0]
theorem get_loop (kap : FuncId → List AV → Option AV) : ∀ (suf pre acc : List UInt8) (k0 : Nat), suf.length < k0 → (pre ++ suf).length < 1000000000 → acc.length ≤ pre.length →
    ref02_Get_L0 kap k k0 (bys (pre ++ suf)) ((pre.length : Nat) : Int) (bys acc) = some (.str (str (acc ++ suf.takeWhile fun c => decide (c ≠ 0))))
  | [], pre, acc, k0 + 1, h, hb, ha => by
    have e : toBytes (bys acc) = some acc := toBytes_map acc
    rw [ref02_Get_L0_s, bys_len, bif_f (by simp), e]
    simp
  | c :: suf, pre, acc, k0 + 1, h, hb, ha => by
    have h' : suf.length < k0 := by simp only [List.length_cons] at h; omega
    have hb' : pre.length + (suf.length + 1) < 1000000000 := by simp only [List.length_append, List.length_cons] at hb; exact hb
    have e : toBytes (bys acc) = some acc := toBytes_map acc
    rw [ref02_Get_L0_s, bys_len, mid_len, bif_t (by omega), bif_a, bif_t (by omega), bif_t (by omega), Int.toNat_natCast, bys_mid, byte_c, bys_len]
    by_cases hc : c = 0
    · subst hc
      rw [show (!decide (((UInt8.toNat 0 : Nat) : Int) = 0)) = false from rfl, cond_false, e]
      simp
    · have h0 : ¬ ((c.toNat : Nat) : Int) = 0 := fun h => hc (UInt8.toNat_inj.1 (by show c.toNat = 0; omega))
      rw [decide_eq_false h0, Bool.not_false, cond_true, bif_a, bif_t (by omega), bif_t (by omega), bys_mid, byte_c, bif_a, bif_t (by omega), bif_t (by omega), i64w (by omega)]
      have e1 : bys acc ++ [AV.int .u8 ((c.toNat : Nat) : Int)] = bys (acc ++ [c]) := by unfold bys; rw [List.map_append]; rfl
      have e2 : ((pre.length : Nat) : Int) + 1 = (((pre ++ [c]).length : Nat) : Int) := by simp
      have e3 : pre ++ c :: suf = (pre ++ [c]) ++ suf := by simp
      rw [e1, e2, e3, get_loop kap suf (pre ++ [c]) (acc ++ [c]) k0 h' (by simp only [List.length_append, List.length_cons, List.length_nil]; omega) (by simp only [List.length_append, List.length_cons, List.length_nil]; omega)]
      rw [List.takeWhile_cons, decide_eq_true hc]
      simp
theorem takeWhile_all (p : UInt8 → Bool) : ∀ s : List UInt8, decide (s.takeWhile p = s) = s.all p
  | [] => rfl
  | c :: l => by
    rw [List.takeWhile_cons, List.all_cons]
    cases h : p c with
    | true => simp only [Bool.true_and, if_true, List.cons.injEq, true_and]; exact takeWhile_all p l
    | false => simp
theorem refClean_k (s : List UInt8) (hs : s.length < 1000000000) (hk : s.length < k) : kp E k (n + 2) ref02_Clean [.str (str s)] = some (.bool (clean s)) := by
  have h := get_loop (k := k) (kp E k n) s [] [] k hk (by simpa using hs) (by simp)
  rw [ref02_Clean_eq, str_bytes, ref02_Get_eq]
  have h' : ref02_Get_L0 (kp E k n) k k (s.map byteAV) (0 : Int) [] = some (.str (str (s.takeWhile fun c => decide (c ≠ 0)))) := by simpa [bys] using h
  rw [h', callS_ok, str_dec, takeWhile_all, clean]

def whichL (key : List UInt8) : Int :=
  if key = [112, 97, 116, 104] then 0 else if key = [108, 105, 110, 107, 112, 97, 116, 104] then 1 else if key = [117, 110, 97, 109, 101] then 2 else if key = [103, 110, 97, 109, 101] then 3 else if key = [117, 105, 100] then 4 else if key = [103, 105, 100] then 5 else if key = [115, 105, 122, 101] then 6 else if key = [109, 116, 105, 109, 101] then 7 else -1
theorem is_path (key : List UInt8) : decide (str key = str [112, 97, 116, 104]) = decide (whichL key = 0) := by
  rw [str_dec, decide_eq_decide]
  constructor
  · rintro rfl; rfl
  · intro h
    unfold whichL at h
    repeat' split at h
    all_goals first | assumption | (exfalso; revert h; decide)
theorem is_linkpath (key : List UInt8) : decide (str key = str [108, 105, 110, 107, 112, 97, 116, 104]) = decide (whichL key = 1) := by
  rw [str_dec, decide_eq_decide]
  constructor
  · rintro rfl; rfl
  · intro h
    unfold whichL at h
    repeat' split at h
    all_goals first | assumption | (exfalso; revert h; decide)
theorem is_uname (key : List UInt8) : decide (str key = str [117, 110, 97, 109, 101]) = decide (whichL key = 2) := by
  rw [str_dec, decide_eq_decide]
  constructor
  · rintro rfl; rfl
  · intro h
    unfold whichL at h
    repeat' split at h
    all_goals first | assumption | (exfalso; revert h; decide)
theorem is_gname (key : List UInt8) : decide (str key = str [103, 110, 97, 109, 101]) = decide (whichL key = 3) := by
  rw [str_dec, decide_eq_decide]
  constructor
  · rintro rfl; rfl
  · intro h
    unfold whichL at h
    repeat' split at h
    all_goals first | assumption | (exfalso; revert h; decide)
theorem is_uid (key : List UInt8) : decide (str key = str [117, 105, 100]) = decide (whichL key = 4) := by
  rw [str_dec, decide_eq_decide]
  constructor
  · rintro rfl; rfl
  · intro h
    unfold whichL at h
    repeat' split at h
    all_goals first | assumption | (exfalso; revert h; decide)
theorem is_gid (key : List UInt8) : decide (str key = str [103, 105, 100]) = decide (whichL key = 5) := by
  rw [str_dec, decide_eq_decide]
  constructor
  · rintro rfl; rfl
  · intro h
    unfold whichL at h
    repeat' split at h
    all_goals first | assumption | (exfalso; revert h; decide)
theorem is_size (key : List UInt8) : decide (str key = str [115, 105, 122, 101]) = decide (whichL key = 6) := by
  rw [str_dec, decide_eq_decide]
  constructor
  · rintro rfl; rfl
  · intro h
    unfold whichL at h
    repeat' split at h
    all_goals first | assumption | (exfalso; revert h; decide)
theorem is_mtime (key : List UInt8) : decide (str key = str [109, 116, 105, 109, 101]) = decide (whichL key = 7) := by
  rw [str_dec, decide_eq_decide]
  constructor
  · rintro rfl; rfl
  · intro h
    unfold whichL at h
    repeat' split at h
    all_goals first | assumption | (exfalso; revert h; decide)
theorem which_lt (key : List UInt8) : -1 ≤ whichL key ∧ whichL key ≤ 7 := by
  unfold whichL
  repeat' split
  all_goals decide
theorem known_k (key : List UInt8) : kp E k (n + 1) pax_Known [.str (str key)] = some (.bool (decide (0 ≤ whichL key))) := by
  have hw := which_lt key
  rw [pax_Known_eq, is_path, is_linkpath, is_uname, is_gname, is_uid, is_gid, is_size, is_mtime]
  generalize whichL key = w at hw
  have : w = -1 ∨ w = 0 ∨ w = 1 ∨ w = 2 ∨ w = 3 ∨ w = 4 ∨ w = 5 ∨ w = 6 ∨ w = 7 := by omega
  rcases this with rfl | rfl | rfl | rfl | rfl | rfl | rfl | rfl | rfl <;> rfl
theorem which_k (key : List UInt8) (hk : 10 < k) : kp E k (n + 2) ref07_Which [.str (str key)] = some (.int .i64 (whichL key)) := by
  obtain ⟨K, rfl⟩ : ∃ K, k = K + 9 := ⟨k - 9, by omega⟩
  rw [ref07_Which_eq, ref07_Keys_eq, callL_ok]
  have hw := which_lt key
  have st : ∀ (j : Nat) (s : List UInt8) (m : Nat), j < 8 → ([(.str (str [112, 97, 116, 104])), (.str (str [108, 105, 110, 107, 112, 97, 116, 104])), (.str (str [117, 110, 97, 109, 101])), (.str (str [103, 110, 97, 109, 101])), (.str (str [117, 105, 100])), (.str (str [103, 105, 100])), (.str (str [115, 105, 122, 101])), (.str (str [109, 116, 105, 109, 101]))] : List AV)[j]? = some (.str (str s)) →
      ref07_Which_L0 (kp E (K + 9) (n + 1)) (K + 9) (m + 1) (str key) [(.str (str [112, 97, 116, 104])), (.str (str [108, 105, 110, 107, 112, 97, 116, 104])), (.str (str [117, 110, 97, 109, 101])), (.str (str [103, 110, 97, 109, 101])), (.str (str [117, 105, 100])), (.str (str [103, 105, 100])), (.str (str [115, 105, 122, 101])), (.str (str [109, 116, 105, 109, 101]))] ((j : Nat) : Int) = bif decide (str key = str s) then some (.int .i64 ((j : Nat) : Int)) else ref07_Which_L0 (kp E (K + 9) (n + 1)) (K + 9) m (str key) [(.str (str [112, 97, 116, 104])), (.str (str [108, 105, 110, 107, 112, 97, 116, 104])), (.str (str [117, 110, 97, 109, 101])), (.str (str [103, 110, 97, 109, 101])), (.str (str [117, 105, 100])), (.str (str [103, 105, 100])), (.str (str [115, 105, 122, 101])), (.str (str [109, 116, 105, 109, 101]))] (((j + 1 : Nat) : Nat) : Int) := by
    intro j s m hj hs
    rw [ref07_Which_L0_s, Int.toNat_natCast, hs, Option.bind_some, i64w (by omega), show ((j : Nat) : Int) + 1 = ((j + 1 : Nat) : Int) by omega]
    rw [bif_t (by simp only [List.length_cons, List.length_nil]; omega), bif_a, bif_t (by omega), bif_t (by simp only [List.length_cons, List.length_nil]; omega)]
    show (bif decide (str s = str key) then _ else _) = _
    rw [show decide (str s = str key) = decide (str key = str s) from decide_eq_decide.2 eq_comm]
  refine (st 0 [112, 97, 116, 104] (K + 8) (by omega) rfl).trans ?_
  rw [is_path]
  rw [st 1 [108, 105, 110, 107, 112, 97, 116, 104] (K + 7) (by omega) rfl, is_linkpath]
  rw [st 2 [117, 110, 97, 109, 101] (K + 6) (by omega) rfl, is_uname]
  rw [st 3 [103, 110, 97, 109, 101] (K + 5) (by omega) rfl, is_gname]
  rw [st 4 [117, 105, 100] (K + 4) (by omega) rfl, is_uid]
  rw [st 5 [103, 105, 100] (K + 3) (by omega) rfl, is_gid]
  rw [st 6 [115, 105, 122, 101] (K + 2) (by omega) rfl, is_size]
  rw [st 7 [109, 116, 105, 109, 101] (K + 1) (by omega) rfl, is_mtime]
  have en : ∀ m (l : List AV), l.length = 8 → ref07_Which_L0 (kp E (K + 9) (n + 1)) (K + 9) (m + 1) (str key) l (((7 + 1 : Nat) : Nat) : Int) = some (.int .i64 (-1)) := by
    intro m l hl
    rw [ref07_Which_L0_s, hl, bif_f (by omega)]
  rw [en _ _ rfl]
  generalize whichL key = w at hw
  have : w = -1 ∨ w = 0 ∨ w = 1 ∨ w = 2 ∨ w = 3 ∨ w = 4 ∨ w = 5 ∨ w = 6 ∨ w = 7 := by omega
  rcases this with rfl | rfl | rfl | rfl | rfl | rfl | rfl | rfl | rfl <;> rfl
def numOk (s : List UInt8) : Bool := natOk s && decide (valA 0 s ≤ 9223372036854775807)
def valR (key s : List UInt8) : Bool :=
  if s = [] then true else if whichL key < 0 then true else if whichL key < 4 then clean s else if whichL key < 7 then numOk s else (timeL s).isSome
theorem value_k [HasTextV E] (key s : List UInt8) (hs : s.length ≤ 1000000) (hk : s.length < k) : kp E k (n + 4) pax_value [.str (str key), .str (str s)] = some (.bool (utfOk s && valR key s)) := by
  have hN : (callT (kp E k (n + 3) dec_Number [(.str (str s))]) fun vt6 => (tupI .i64 vt6 fun vn7 vt8 => (tupI .u8 vt8 fun vn9 vt10 => (atNil vt10 (some (.bool (decide (vn9 = (0 : Int)))))))) : Option AV) = some (.bool (numOk s)) := by
    rw [number_k s (by omega) hk]
    unfold numOk
    cases natOk s && decide (valA 0 s ≤ 9223372036854775807) <;> rfl
  have hT : (callT (kp E k (n + 3) dec_Time [(.str (str s))]) fun vt12 => (tupG 2 vt12 fun vg13 vt14 => (cellI .i64 vg13 0 fun vn15 => (cellI .i64 vg13 1 fun vn16 => (tupI .u8 vt14 fun vn17 vt18 => (atNil vt18 (some (.bool (decide (vn17 = (0 : Int)))))))))) : Option AV) = some (.bool (timeL s).isSome) := by
    rw [time_k s (by omega) hk]
    cases timeL s <;> rfl
  have hC : (callB (kp E k (n + 3) pax_clean [(.str (str s))]) fun vq4 => (some (.bool vq4)) : Option AV) = some (.bool (clean s)) := by rw [paxClean_k, callB_ok]
  rw [pax_value_eq, utf_k s hk, callB_ok, is_path, is_linkpath, is_uname, is_gname, is_uid, is_gid, is_size, is_mtime]
  simp only [hN, hT, hC]
  unfold valR
  have hw := which_lt key
  generalize whichL key = w at hw
  cases utfOk s with
  | false => rfl
  | true =>
    rw [Bool.not_true, cond_false, Bool.true_and, show (str [] : ByteArray) = str [] from rfl, str_dec]
    by_cases h0 : s = []
    · rw [decide_eq_true h0, if_pos h0]; rfl
    · rw [decide_eq_false h0, if_neg h0, cond_false]
      have : w = -1 ∨ w = 0 ∨ w = 1 ∨ w = 2 ∨ w = 3 ∨ w = 4 ∨ w = 5 ∨ w = 6 ∨ w = 7 := by omega
      rcases this with rfl | rfl | rfl | rfl | rfl | rfl | rfl | rfl | rfl <;> rfl
def pairOk (p : Pair) : Bool := decide (p.key ≠ []) && (utfOk p.key && (noEq p.key && (utfOk p.val && valR p.key p.val)))
theorem paxRight_k [HasTextV E] (p : Pair) (h1 : p.key.length ≤ 1000000) (h2 : p.val.length ≤ 1000000) (hk : 1000000 < k) : kp E k (n + 5) pax_Right [.agg [.str (str p.key), .str (str p.val)]] = some (.bool (pairOk p)) := by
  rw [pax_Right_eq, utf_k p.key (by omega), contains_k p.key h1, value_k p.key p.val h2 (by omega), str_dec]
  simp only [callB_ok]
  unfold pairOk
  by_cases h : p.key = []
  · rw [decide_eq_true h]
    simp [h]
  · rw [decide_eq_false h, decide_eq_true h]
    cases utfOk p.key <;> cases noEq p.key <;> cases utfOk p.val <;> rfl
theorem eq_loop (kap : FuncId → List AV → Option AV) (val : ByteArray) (R : Option AV) (suf : List UInt8) : ∀ (pre : List UInt8) (k0 : Nat), suf.length < k0 → (pre ++ suf).length < 1000000000 →
    (∀ m, ref07_Right_L0 kap k (m + 1) (((pre ++ suf).length : Nat) : Int) (str (pre ++ suf)) val = R) →
    ref07_Right_L0 kap k k0 ((pre.length : Nat) : Int) (str (pre ++ suf)) val = bif suf.all (fun c => decide (c ≠ 61)) then R else some (.bool false) := by
  induction suf with
  | nil =>
    intro pre k0 h hb hR
    obtain ⟨m, rfl⟩ : ∃ m, k0 = m + 1 := ⟨k0 - 1, by simp only [List.length_nil] at h; omega⟩
    have := hR m
    rw [List.append_nil] at this ⊢
    rw [this]; rfl
  | cons c suf ih =>
    intro pre k0 h hb hR
    obtain ⟨m, rfl⟩ : ∃ m, k0 = m + 1 := ⟨k0 - 1, by simp only [List.length_cons] at h; omega⟩
    have h' : suf.length < m := by simp only [List.length_cons] at h; omega
    have hb' : pre.length + (suf.length + 1) < 1000000000 := by simp only [List.length_append, List.length_cons] at hb; exact hb
    rw [ref07_Right_L0_s, str_size, mid_len, bif_t (by omega), bif_a, bif_t (by omega), bif_t (by omega), Int.toNat_natCast, str_byte, mid_byte]
    rw [show decide (((c.toNat : Nat) : Int) = 61) = decide (c = 61) from byte_is c 61 (by omega), List.all_cons]
    by_cases hc : c = 61
    · rw [decide_eq_true hc, hc]; rfl
    · rw [decide_eq_false hc, cond_false, decide_eq_true hc, Bool.true_and, i64w (by omega)]
      have e2 : ((pre.length : Nat) : Int) + 1 = (((pre ++ [c]).length : Nat) : Int) := by simp
      have e3 : pre ++ c :: suf = (pre ++ [c]) ++ suf := by simp
      rw [e2, e3]
      rw [e3] at hR
      exact ih (pre ++ [c]) m h' (by simp only [List.length_append, List.length_cons, List.length_nil]; omega) hR
theorem noEq_split (s : List UInt8) : noEq s = (clean s && s.all fun c => decide (c ≠ 61)) := by
  unfold noEq clean
  induction s with
  | nil => rfl
  | cons c l ih =>
    simp only [List.all_cons, ih]
    cases decide (c ≠ 61) <;> cases decide (c ≠ 0) <;> simp
theorem refPair_k (p : Pair) (h1 : p.key.length ≤ 1000000) (h2 : p.val.length ≤ 1000000) (hk : 2000000 < k) : kp E k (n + 4) ref07_Right [.agg [.str (str p.key), .str (str p.val)]] = some (.bool (pairOk p)) := by
  have hend : ∀ m, ref07_Right_L0 (kp E k (n + 3)) k (m + 1) (((([] : List UInt8) ++ p.key).length : Nat) : Int) (str ([] ++ p.key)) (str p.val) = some (.bool (valR p.key p.val)) := by
    intro m
    rw [List.nil_append, ref07_Right_L0_s, str_size, bif_f (by omega), which_k p.key (by omega), callI_ok, refClean_k p.val (by omega) (by omega), callB_ok, refNumber_k p.val (by omega) (by omega), refTime_k p.val (by omega) (by omega) (by omega), str_dec]
    unfold valR numOk
    have hw := which_lt p.key
    generalize whichL p.key = w at hw
    by_cases h0 : p.val = []
    · rw [decide_eq_true h0, if_pos h0]; rfl
    · rw [decide_eq_false h0, if_neg h0, cond_false]
      by_cases a1 : w < 0
      · rw [decide_eq_true a1, if_pos a1]; rfl
      rw [decide_eq_false a1, if_neg a1, cond_false]
      by_cases a2 : w < 4
      · rw [decide_eq_true a2, if_pos a2]; rfl
      rw [decide_eq_false a2, if_neg a2, cond_false]
      by_cases a3 : w < 7
      · rw [decide_eq_true a3, if_pos a3, cond_true]
        cases natOk p.val && decide (valA 0 p.val ≤ 9223372036854775807) <;> rfl
      rw [decide_eq_false a3, if_neg a3, cond_false]
      cases timeL p.val <;> rfl
  have hl := eq_loop (k := k) (kp E k (n + 3)) (str p.val) _ p.key [] k (by omega) (by simp; omega) hend
  simp only [List.nil_append, List.length_nil] at hl
  rw [ref07_Right_eq, refFirst_k p.key (by omega) (by omega), callI_ok, refFirst_k p.val (by omega) (by omega), callI_ok, refClean_k p.key (by omega) (by omega), callB_ok, str_dec]
  rw [show ((0 : Nat) : Int) = 0 from rfl] at hl
  rw [hl]
  unfold pairOk
  rw [noEq_split]
  have g1 : decide (first (str p.key) ≥ 0) = !utfOk p.key := by unfold utfOk; rw [← decide_not, decide_eq_decide]; omega
  have g2 : decide (first (str p.val) ≥ 0) = !utfOk p.val := by unfold utfOk; rw [← decide_not, decide_eq_decide]; omega
  rw [g1, g2]
  by_cases h : p.key = []
  · rw [decide_eq_true h]
    simp [h]
  · rw [decide_eq_false h, decide_eq_true h]
    cases utfOk p.key <;> cases utfOk p.val <;> cases clean p.key <;> cases (p.key.all fun c => decide (c ≠ 61)) <;> rfl
end Go.Proofs.YtbkhmkcmbaffoaaGreatDoor.Eng.U


/- Overlays in plain words: the order of keys, what is laid. No program. -/
set_option linter.unusedVariables false
set_option linter.unusedSimpArgs false
namespace Go.Proofs.YtbkhmkcmbaffoaaGreatDoor.Eng.U
open Go Go.Proofs Go.Proofs.YtbkhmkcmbaffoaaGreatDoor.Eng

theorem u8_lt_irrefl (a : UInt8) : ¬ a < a := fun h => by rw [UInt8.lt_iff_toNat_lt] at h; omega
theorem lt_irr : ∀ a : Tx, Op.bytesLess a a = false
  | [] => rfl
  | a :: x => by
    unfold Op.bytesLess
    rw [lt_irr x, decide_eq_false (u8_lt_irrefl a), Bool.and_false, Bool.or_false]
theorem lt_cons (a b : UInt8) (x y : Tx) : Op.bytesLess (a :: x) (b :: y) = true ↔ a.toNat < b.toNat ∨ a = b ∧ Op.bytesLess x y = true := by
  rw [Op.bytesLess, Bool.or_eq_true, Bool.and_eq_true, decide_eq_true_eq, beq_iff_eq, UInt8.lt_iff_toNat_lt]
theorem lt_tr : ∀ {a b c : Tx}, Op.bytesLess a b = true → Op.bytesLess b c = true → Op.bytesLess a c = true
  | _, _, [], _, h => by cases ‹Tx› <;> simp [Op.bytesLess] at h
  | [], _, _ :: _, _, _ => rfl
  | a :: x, [], c :: z, h, _ => by simp [Op.bytesLess] at h
  | a :: x, b :: y, c :: z, h1, h2 => by
    rw [lt_cons] at *
    rcases h1 with h1 | ⟨rfl, h1⟩
    · rcases h2 with h2 | ⟨rfl, h2⟩
      · left; omega
      · left; exact h1
    · rcases h2 with h2 | ⟨rfl, h2⟩
      · left; exact h2
      · right; exact ⟨rfl, lt_tr h1 h2⟩
theorem lt_tot : ∀ {a b : Tx}, Op.bytesLess a b = false → a ≠ b → Op.bytesLess b a = true
  | [], [], _, h => absurd rfl h
  | [], _ :: _, h, _ => by simp [Op.bytesLess] at h
  | _ :: _, [], _, _ => rfl
  | a :: x, b :: y, h, hn => by
    rw [lt_cons]
    have h' : ¬ (a.toNat < b.toNat ∨ a = b ∧ Op.bytesLess x y = true) := by rw [← lt_cons, h]; simp
    by_cases e : a = b
    · subst e
      right
      refine ⟨rfl, lt_tot ?_ fun e => hn (by rw [e])⟩
      cases hq : Op.bytesLess x y with
      | false => rfl
      | true => exact absurd (.inr ⟨rfl, hq⟩) h'
    · left
      have : a.toNat ≠ b.toNat := fun h => e (UInt8.toNat_inj.1 h)
      omega
theorem lt_asym {a b : Tx} (h : Op.bytesLess a b = true) : Op.bytesLess b a = false := by
  cases hq : Op.bytesLess b a with
  | false => rfl
  | true => have := lt_tr h hq; rw [lt_irr] at this; cases this
theorem not_le (a b : Tx) : (!(Op.bytesLess a b || decide (a = b))) = Op.bytesLess b a := by
  by_cases e : a = b
  · subst e; rw [decide_eq_true rfl, Bool.or_true, lt_irr]; rfl
  · rw [decide_eq_false e, Bool.or_false]
    cases h : Op.bytesLess a b with
    | true => rw [lt_asym h]; rfl
    | false => rw [lt_tot h e]; rfl

/-- Above what was ahead. -/
def gtO (a : Option Tx) (x : Tx) : Bool := match a with | none => true | some y => Op.bytesLess y x
def ltO (x : Tx) (m : Option Tx) : Bool := match m with | none => true | some y => Op.bytesLess x y
def leastL (a : Option Tx) : List Pair → Option Tx → Option Tx
  | [], m => m
  | p :: l, m => leastL a l (if (gtO a p.key && ltO p.key m) = true then some p.key else m)
def lastL (l : List Pair) (key : Tx) : Tx := l.foldl (fun v p => if p.key = key then p.val else v) []
def layF (l : List Pair) : Nat → Option Tx → List Pair
  | 0, _ => []
  | m + 1, a => match leastL a l none with
    | none => []
    | some k => if lastL l k = [] then layF l m (some k) else ⟨k, lastL l k⟩ :: layF l m (some k)
def okSt : Option Tx → List Pair → Bool
  | _, [] => true
  | a, p :: l => gtO a p.key && decide (p.val ≠ []) && okSt (some p.key) l
def cnt (a : Option Tx) (l : List Pair) : Nat := (l.filter fun p => gtO a p.key).length

theorem least_none (a : Option Tx) : ∀ (l : List Pair) (m : Option Tx), leastL a l m = none → m = none ∧ ∀ q ∈ l, gtO a q.key = false
  | [], m, h => ⟨h, fun q hq => by cases hq⟩
  | p :: l, m, h => by
    obtain ⟨h1, h2⟩ := least_none a l _ h
    by_cases hc : (gtO a p.key && ltO p.key m) = true
    · rw [if_pos hc] at h1; cases h1
    · rw [if_neg hc] at h1
      subst h1
      refine ⟨rfl, fun q hq => ?_⟩
      rcases List.mem_cons.1 hq with rfl | hq
      · cases hg : gtO a q.key with
        | false => rfl
        | true => exact absurd (by rw [hg]; rfl) hc
      · exact h2 q hq
theorem least_some (a : Option Tx) : ∀ (l : List Pair) (m : Option Tx) (k : Tx), leastL a l m = some k →
    (m = some k ∨ ∃ p ∈ l, p.key = k ∧ gtO a k = true) ∧ (∀ q ∈ l, gtO a q.key = true → Op.bytesLess q.key k = false) ∧ (∀ y, m = some y → Op.bytesLess y k = false)
  | [], m, k, h => ⟨.inl h, fun q hq => (by cases hq), fun y hy => by rw [show leastL a [] m = m from rfl] at h; rw [h] at hy; cases hy; exact lt_irr _⟩
  | p :: l, m, k, h => by
    obtain ⟨h1, h2, h3⟩ := least_some a l _ k h
    by_cases hc : (gtO a p.key && ltO p.key m) = true
    · rw [if_pos hc] at h1 h3
      rw [Bool.and_eq_true] at hc
      have hpk := h3 _ rfl
      refine ⟨?_, fun q hq hg => ?_, fun y hy => ?_⟩
      · rcases h1 with h1 | ⟨q, hq, e, g⟩
        · cases h1; exact .inr ⟨p, .head _, rfl, hc.1⟩
        · exact .inr ⟨q, .tail _ hq, e, g⟩
      · rcases List.mem_cons.1 hq with rfl | hq
        · exact hpk
        · exact h2 q hq hg
      · subst hy
        have hlt : Op.bytesLess p.key y = true := hc.2
        cases hq : Op.bytesLess y k with
        | false => rfl
        | true => rw [lt_tr hlt hq] at hpk; cases hpk
    · rw [if_neg hc] at h1 h3
      refine ⟨?_, fun q hq hg => ?_, h3⟩
      · rcases h1 with h1 | ⟨q, hq, e, g⟩
        · exact .inl h1
        · exact .inr ⟨q, .tail _ hq, e, g⟩
      · rcases List.mem_cons.1 hq with rfl | hq
        · have hn : ltO q.key m = false := by
            cases hx : ltO q.key m with
            | false => rfl
            | true => exact absurd (by rw [hg, hx]; rfl) hc
          cases m with
          | none => cases hn
          | some y =>
            have hn : Op.bytesLess q.key y = false := hn
            have h4 := h3 y rfl
            cases hx : Op.bytesLess q.key k with
            | false => rfl
            | true =>
              by_cases e : q.key = y
              · rw [e] at hx; rw [hx] at h4; cases h4
              · have := lt_tr (lt_tot hn e) hx
                rw [this] at h4; cases h4
        · exact h2 q hq hg
theorem gtO_tr {a : Option Tx} {k x : Tx} (h1 : gtO a k = true) (h2 : Op.bytesLess k x = true) : gtO a x = true := by
  cases a with
  | none => rfl
  | some y => exact lt_tr h1 h2
theorem cnt_lt {a : Option Tx} {l : List Pair} {k : Tx} (h : leastL a l none = some k) : cnt (some k) l < cnt a l := by
  have h1 := (least_some a l none k h).1
  rcases h1 with h1 | ⟨p, hp, rfl, hg⟩
  · cases h1
  have sub : ∀ q : Pair, gtO (some p.key) q.key = true → gtO a q.key = true := fun q hq => gtO_tr hg hq
  have irr : gtO (some p.key) p.key = false := lt_irr _
  unfold cnt
  clear h
  induction l with
  | nil => cases hp
  | cons q l ih =>
    have hle : ∀ l : List Pair, (l.filter fun r => gtO (some p.key) r.key).length ≤ (l.filter fun r => gtO a r.key).length := by
      intro l
      induction l with
      | nil => exact Nat.le_refl _
      | cons r l ih =>
        rw [List.filter_cons, List.filter_cons]
        by_cases hr : gtO (some p.key) r.key = true
        · rw [if_pos hr, if_pos (sub r hr), List.length_cons, List.length_cons]; omega
        · rw [if_neg hr]; split <;> (try rw [List.length_cons]) <;> omega
    rw [List.filter_cons, List.filter_cons]
    rcases List.mem_cons.1 hp with rfl | hp
    · rw [if_neg (by rw [irr]; simp), if_pos hg, List.length_cons]
      have := hle l
      omega
    · have hi := ih hp
      by_cases hr : gtO (some p.key) q.key = true
      · rw [if_pos hr, if_pos (sub q hr), List.length_cons, List.length_cons]; exact Nat.succ_lt_succ hi
      · rw [if_neg hr]
        split
        · rw [List.length_cons]; exact Nat.lt_succ_of_lt hi
        · exact hi
theorem okSt_mono {a : Option Tx} {k : Tx} (h : gtO a k = true) : ∀ {l : List Pair}, okSt (some k) l = true → okSt a l = true
  | [], _ => rfl
  | p :: l, h2 => by
    simp only [okSt, Bool.and_eq_true] at h2 ⊢
    exact ⟨⟨gtO_tr h h2.1.1, h2.1.2⟩, h2.2⟩
theorem lay_ok (l : List Pair) : ∀ (m : Nat) (a : Option Tx), okSt a (layF l m a) = true
  | 0, a => rfl
  | m + 1, a => by
    unfold layF
    cases h : leastL a l none with
    | none => rfl
    | some k =>
      have hg : gtO a k = true := by
        obtain ⟨h1, _, _⟩ := least_some a l none k h
        rcases h1 with h1 | ⟨p, hp, e, g⟩
        · cases h1
        · exact g
      have ih := lay_ok l m (some k)
      dsimp only
      split
      · exact okSt_mono hg ih
      · rename_i hv
        simp only [okSt, hg, ih, decide_eq_true hv, Bool.and_self]
theorem okSt_facts : ∀ (l : List Pair) (a : Option Tx), okSt a l = true → (∀ p ∈ l, gtO a p.key = true ∧ p.val ≠ []) ∧ l.Pairwise fun p q => Op.bytesLess p.key q.key = true
  | [], a, h => ⟨fun p hp => (by cases hp), .nil⟩
  | p :: l, a, h => by
    simp only [okSt, Bool.and_eq_true, decide_eq_true_eq] at h
    obtain ⟨i1, i2⟩ := okSt_facts l _ h.2
    refine ⟨fun q hq => ?_, .cons (fun q hq => (i1 q hq).1) i2⟩
    rcases List.mem_cons.1 hq with rfl | hq
    · exact h.1
    · exact ⟨gtO_tr h.1.1 (i1 q hq).1, (i1 q hq).2⟩
theorem last_app (l : List Pair) (p : Pair) (key : Tx) : lastL (l ++ [p]) key = if p.key = key then p.val else lastL l key := by
  unfold lastL; rw [List.foldl_append]; rfl
theorem last_skip (key : Tx) : ∀ (l : List Pair) (v : Tx), (∀ q ∈ l, q.key ≠ key) → l.foldl (fun v p => if p.key = key then p.val else v) v = v
  | [], v, h => rfl
  | q :: l, v, h => by rw [List.foldl_cons, if_neg (h q (.head _))]; exact last_skip key l v fun r hr => h r (.tail _ hr)
theorem last_mid (pre suf : List Pair) (p : Pair) (h : ∀ q ∈ suf, q.key ≠ p.key) : lastL (pre ++ p :: suf) p.key = p.val := by
  unfold lastL
  rw [List.foldl_append, List.foldl_cons, if_pos rfl, last_skip _ _ _ h]
theorem lay_same : ∀ (suf pre : List Pair) (a : Option Tx) (m : Nat), suf.length ≤ m → okSt a suf = true → (∀ q ∈ pre, gtO a q.key = false) → layF (pre ++ suf) m a = suf
  | [], pre, a, m, hm, ho, hp => by
    cases m with
    | zero => rfl
    | succ m =>
      unfold layF
      cases h : leastL a (pre ++ []) none with
      | none => rfl
      | some k =>
        obtain ⟨h1, _, _⟩ := least_some a _ none k h
        rcases h1 with h1 | ⟨q, hq, e, g⟩
        · cases h1
        · rw [List.append_nil] at hq
          have := hp q hq
          rw [e, g] at this; cases this
  | p :: suf, pre, a, m, hm, ho, hp => by
    obtain ⟨m, rfl⟩ : ∃ j, m = j + 1 := ⟨m - 1, by rw [List.length_cons] at hm; omega⟩
    have hf := okSt_facts _ _ ho
    have ho' := ho
    simp only [okSt, Bool.and_eq_true, decide_eq_true_eq] at ho'
    have hpw := hf.2
    rw [List.pairwise_cons] at hpw
    have hk : leastL a (pre ++ p :: suf) none = some p.key := by
      cases h : leastL a (pre ++ p :: suf) none with
      | none =>
        have := (least_none a _ none h).2 p (by simp)
        rw [ho'.1.1] at this; cases this
      | some k =>
        obtain ⟨h1, h2, _⟩ := least_some a _ none k h
        have hpk := h2 p (by simp) ho'.1.1
        rcases h1 with h1 | ⟨q, hq, rfl, g⟩
        · cases h1
        rcases List.mem_append.1 hq with hq | hq
        · have := hp q hq
          rw [g] at this; cases this
        · rcases List.mem_cons.1 hq with rfl | hq
          · rfl
          · rw [hpw.1 q hq] at hpk; cases hpk
    have hl : lastL (pre ++ p :: suf) p.key = p.val := last_mid pre suf p fun q hq e => by
      have := hpw.1 q hq
      rw [e, lt_irr] at this; cases this
    unfold layF
    rw [hk]
    dsimp only
    rw [hl, if_neg ho'.1.2]
    have hnext := lay_same suf (pre ++ [p]) (some p.key) m (by rw [List.length_cons] at hm; omega) ho'.2 fun q hq => by
      rcases List.mem_append.1 hq with hq | hq
      · have h1 := hp q hq
        cases hx : gtO (some p.key) q.key with
        | false => rfl
        | true => rw [gtO_tr ho'.1.1 hx] at h1; cases h1
      · rw [List.mem_singleton.1 hq]; exact lt_irr _
    rw [List.append_assoc, List.singleton_append] at hnext
    rw [hnext]
theorem lay_iff (l : List Pair) (m : Nat) (hm : l.length ≤ m) : decide (layF l m none = l) = okSt none l := by
  cases h : okSt none l with
  | true => exact decide_eq_true (lay_same l [] none m hm h fun q hq => by cases hq)
  | false =>
    refine decide_eq_false fun e => ?_
    have := lay_ok l m none
    rw [e, h] at this; cases this
theorem cnt_le (a : Option Tx) (l : List Pair) : cnt a l ≤ l.length := List.length_filter_le _ _
end Go.Proofs.YtbkhmkcmbaffoaaGreatDoor.Eng.U


/- Overlays: what both sides answer, in plain words. -/
set_option linter.unusedVariables false
set_option linter.unusedSectionVars false
set_option linter.unusedSimpArgs false
namespace Go.Proofs.YtbkhmkcmbaffoaaGreatDoor.Eng.U
open Go Go.Proofs Go.Proofs.YtbkhmkcmbaffoaaGreatDoor.Eng Go.Proofs.YtbkhmkcmbaffoaaGreatDoor.P04
variable {E : Ext} [Core E] [HasNum E] {k n : Nat}

theorem snoc_len (pre : List Pair) (p : Pair) : ((pre.length : Nat) : Int) + 1 = (((pre ++ [p]).length : Nat) : Int) := by simp
theorem str_tl (l : Tx) : ByteArray.toList (str l) = l := str_list l
theorem overRight_loop (kap : FuncId → List AV → Option AV) (hR : ∀ p : Pair, p.key.length ≤ 1000000 → p.val.length ≤ 1000000 → kap pax_Right [.agg [.str (str p.key), .str (str p.val)]] = some (.bool (pairOk p))) (suf : List Pair) :
    ∀ (pre : List Pair) (k0 : Nat), suf.length < k0 → (pre ++ suf).length < 1000000000 → (∀ p ∈ suf, p.key.length ≤ 1000000 ∧ p.val.length ≤ 1000000) →
    over_Right_L0 kap k k0 (prs (pre ++ suf)) (prs (pre ++ suf)) (((pre ++ suf).length : Nat) : Int) ((pre.length : Nat) : Int) = some (.bool (okSt (pre.getLast?.map (·.key)) suf && suf.all pairOk)) := by
  induction suf with
  | nil =>
    intro pre k0 h hb hs
    obtain ⟨m, rfl⟩ : ∃ m, k0 = m + 1 := ⟨k0 - 1, by simp only [List.length_nil] at h; omega⟩
    rw [over_Right_L0_s, bif_f (by simp)]
    rfl
  | cons p suf ih =>
    intro pre k0 h hb hs
    obtain ⟨m, rfl⟩ : ∃ m, k0 = m + 1 := ⟨k0 - 1, by simp only [List.length_cons] at h; omega⟩
    have h' : suf.length < m := by simp only [List.length_cons] at h; omega
    have hb' : pre.length + (suf.length + 1) < 1000000000 := by simp only [List.length_append, List.length_cons] at hb; exact hb
    obtain ⟨g1, g2⟩ := hs p (.head _)
    have ih' := ih (pre ++ [p]) m h' (by simp only [List.length_append, List.length_cons, List.length_nil]; omega) fun q hq => hs q (.tail _ hq)
    rw [List.append_assoc, List.singleton_append, ← snoc_len] at ih'
    rw [over_Right_L0_s, prs_len, mid_len, bif_t (by omega), bif_a, bif_t (by omega), bif_t (by omega), Int.toNat_natCast, prs_mid, cells_pair, p_0, p_1, hR p g1 g2, callB_ok, str_dec]
    rw [mid_len] at ih'
    simp only [okSt, List.all_cons]
    by_cases hv : p.val = []
    · rw [decide_eq_true hv, cond_true, decide_eq_false (by simp [hv])]
      simp
    rw [decide_eq_false hv, cond_false, decide_eq_true hv]
    cases hq : pairOk p with
    | false => simp
    | true =>
      rw [Bool.not_true, cond_false, i64w (by omega), i64w (by omega), ih', List.getLast?_append, List.getLast?_singleton]
      rcases snoc_pairs pre with rfl | ⟨l, q, rfl⟩
      · rw [bif_f (by simp)]
        simp [gtO]
      · have hl1 : (l ++ [q]).length = l.length + 1 := by simp
        rw [bif_t (by omega), bif_a, bif_t (by omega), bif_t (by omega)]
        have e : Int.toNat ((((l ++ [q]).length : Nat) : Int) - 1) = l.length := by simp
        rw [e, show l ++ [q] ++ p :: suf = l ++ q :: (p :: suf) by simp, prs_mid, cells_pair, p_0, str_tl, str_tl, List.getLast?_append, List.getLast?_singleton]
        show (bif !Op.bytesLess q.key p.key then _ else _) = some (AV.bool ((Op.bytesLess q.key p.key && true && okSt (some p.key) suf) && (true && suf.all pairOk)))
        cases Op.bytesLess q.key p.key <;> simp
def overOk (l : List Pair) : Bool := okSt none l && l.all pairOk
theorem overRight_k [HasTextV E] (l : List Pair) (hl : l.length ≤ 1000000) (hp : ∀ p ∈ l, p.key.length ≤ 1000000 ∧ p.val.length ≤ 1000000) (hk : 1000000 < k) : kp E k (n + 6) over_Right [.list 2 (prs l)] = some (.bool (overOk l)) := by
  have h := overRight_loop (k := k) (kp E k (n + 5)) (fun p h1 h2 => paxRight_k p h1 h2 hk) l [] k (by omega) (by simp; omega) hp
  rw [List.nil_append] at h
  rw [over_Right_eq, prs_len]
  exact h
theorem last_loop (kap : FuncId → List AV → Option AV) (l : List Pair) (key : Tx) (hl : l.length ≤ 1000000) : ∀ (i k0 : Nat), i < k0 → i ≤ l.length →
    ref08_Last_L0 kap k k0 (prs l) (str key) ((i : Int) - 1) = some (.tup [.str (str (lastL (l.take i) key)), .bool (decide (lastL (l.take i) key ≠ []))])
  | 0, k0 + 1, h, hi => by
    rw [ref08_Last_L0_s, bif_f (by omega)]
    rfl
  | i + 1, k0 + 1, h, hi => by
    have hlt : i < l.length := by omega
    have e : Int.toNat (((i + 1 : Nat) : Int) - 1) = i := by omega
    have et : l.take (i + 1) = l.take i ++ [l[i]] := by rw [List.take_succ_eq_append_getElem hlt]
    rw [ref08_Last_L0_s, prs_len, e, bif_t (by omega), bif_a, bif_t (by omega), bif_t (by omega), prs_at l i hlt, cells_pair, p_0, str_dec, et, last_app]
    by_cases hk : (l[i]).key = key
    · rw [decide_eq_true hk, cond_true, bif_a, bif_t (by omega), bif_t (by omega), prs_at l i hlt, cells_pair, p_1, bif_a, bif_t (by omega), bif_t (by omega), prs_at l i hlt, cells_pair, p_1, str_dec, if_pos hk, decide_not]
    · rw [decide_eq_false hk, cond_false, if_neg hk, i64w (by omega), show ((i + 1 : Nat) : Int) - 1 - 1 = (i : Int) - 1 by omega]
      exact last_loop kap l key hl i k0 (by omega) (by omega)
theorem last_k (l : List Pair) (key : Tx) (hl : l.length ≤ 1000000) (hk : l.length < k) : kp E k (n + 1) ref08_Last [.list 2 (prs l), .str (str key)] = some (.tup [.str (str (lastL l key)), .bool (decide (lastL l key ≠ []))]) := by
  rw [ref08_Last_eq, prs_len, i64w (by omega), last_loop (kp E k n) l key hl l.length k hk (Nat.le_refl _), List.take_length]
def kO (m : Option Tx) : Tx := m.getD []
theorem lay_in (kap : FuncId → List AV → Option AV) (all : List Pair) (a : Option Tx) (x6 : List AV) (R : Option AV) (r : Option Tx) (k0 : Nat)
    (hend : ∀ j, ref08_Lay_L1 kap k k0 (j + 1) (str (kO a)) a.isNone (str (kO r)) r.isSome ((all.length : Nat) : Int) (prs all) x6 = R) (suf : List Pair) :
    ∀ (pre : List Pair) (m : Option Tx) (k1 : Nat), all = pre ++ suf → suf.length < k1 → all.length ≤ 1000000 → leastL a suf m = r →
    ref08_Lay_L1 kap k k0 k1 (str (kO a)) a.isNone (str (kO m)) m.isSome ((pre.length : Nat) : Int) (prs all) x6 = R := by
  induction suf with
  | nil =>
    intro pre m k1 he h hb hr
    obtain ⟨j, rfl⟩ : ∃ m, k1 = m + 1 := ⟨k1 - 1, by simp only [List.length_nil] at h; omega⟩
    rw [List.append_nil] at he
    subst he
    have hr : m = r := hr
    subst hr
    exact hend j
  | cons p suf ih =>
    intro pre m k1 he h hb hr
    obtain ⟨j, rfl⟩ : ∃ m, k1 = m + 1 := ⟨k1 - 1, by simp only [List.length_cons] at h; omega⟩
    have h' : suf.length < j := by simp only [List.length_cons] at h; omega
    have hb' : pre.length + (suf.length + 1) ≤ 1000000 := by rw [he] at hb; simp only [List.length_append, List.length_cons] at hb; exact hb
    have he' : all = (pre ++ [p]) ++ suf := by rw [he]; simp
    rw [show leastL a (p :: suf) m = leastL a suf (if (gtO a p.key && ltO p.key m) = true then some p.key else m) from rfl] at hr
    have hi := ih (pre ++ [p]) _ j he' h' hb hr
    rw [← snoc_len] at hi
    rw [ref08_Lay_L1_s, prs_len, he, mid_len, bif_t (by omega), bif_a, bif_t (by omega), bif_t (by omega), Int.toNat_natCast, prs_mid, cells_pair, p_0, ← he, str_tl, str_tl, str_tl, i64w (by omega), str_dec, not_le]
    cases a with
    | none =>
      rw [show (none : Option Tx).isNone = true from rfl, cond_true]
      cases m with
      | none => exact hi
      | some y =>
        rw [show (some y : Option Tx).isSome = true from rfl, Bool.not_true, cond_false, show kO (some y) = y from rfl]
        have hs : (gtO none p.key && ltO p.key (some y)) = Op.bytesLess p.key y := rfl
        rw [hs] at hi
        cases hx : Op.bytesLess p.key y with
        | true => rw [hx] at hi; exact hi
        | false => rw [hx] at hi; exact hi
    | some x =>
      rw [show (some x : Option Tx).isNone = false from rfl, cond_false, show kO (some x) = x from rfl]
      have hg : gtO (some x) p.key = Op.bytesLess x p.key := rfl
      rw [hg] at hi
      cases hgx : Op.bytesLess x p.key with
      | false => rw [hgx] at hi; exact hi
      | true =>
        rw [hgx] at hi
        rw [cond_true]
        cases m with
        | none => exact hi
        | some y =>
          rw [show (some y : Option Tx).isSome = true from rfl, Bool.not_true, cond_false, show kO (some y) = y from rfl]
          have hs : (true && ltO p.key (some y)) = Op.bytesLess p.key y := rfl
          rw [hs] at hi
          cases hx : Op.bytesLess p.key y with
          | true => rw [hx] at hi; exact hi
          | false => rw [hx] at hi; exact hi
theorem lay_out (kap : FuncId → List AV → Option AV) (all : List Pair) (hb : all.length ≤ 1000000) (hk : all.length < k) (hL : ∀ key, kap ref08_Last [.list 2 (prs all), .str (str key)] = some (.tup [.str (str (lastL all key)), .bool (decide (lastL all key ≠ []))])) :
    ∀ (m : Nat) (a : Option Tx) (acc : List Pair) (k0 : Nat), cnt a all ≤ m → m < k0 → acc.length + m ≤ 2000000 →
    ref08_Lay_L0 kap k k0 (str (kO a)) a.isNone (prs all) (prs acc) = some (.list 2 (prs (acc ++ layF all m a)))
  | m, a, acc, k0, hc, hk0, ha => by
    obtain ⟨k0, rfl⟩ : ∃ j, k0 = j + 1 := ⟨k0 - 1, by omega⟩
    rw [ref08_Lay_L0_s]
    refine lay_in kap all a (prs acc) _ (leastL a all none) k0 (fun j => ?_) all [] none k (by simp) hk hb rfl
    rw [ref08_Lay_L1_s, prs_len, bif_f (by omega)]
    cases h : leastL a all none with
    | none =>
      rw [show (none : Option Tx).isSome = false from rfl, Bool.not_false, cond_true]
      have e : layF all m a = [] := by cases m with
        | zero => rfl
        | succ m => unfold layF; rw [h]
      rw [e, List.append_nil]
    | some key =>
      have hlt := cnt_lt h
      obtain ⟨m, rfl⟩ : ∃ j, m = j + 1 := ⟨m - 1, by omega⟩
      rw [show (some key : Option Tx).isSome = true from rfl, Bool.not_true, cond_false, show kO (some key) = key from rfl, hL key, callT_ok]
      unfold layF
      rw [h]
      dsimp only
      have hx : ∀ (s : ByteArray) (b : Bool) (K : ByteArray → Bool → Option AV), (tupS [.str s, .bool b] fun vs5 vt6 => tupB vt6 fun vq7 vt8 => atNil vt8 (K vs5 vq7)) = K s b := fun s b K => rfl
      rw [hx]
      by_cases hv : lastL all key = []
      · rw [if_pos hv, decide_eq_false (by simp [hv]), cond_false]
        exact lay_out kap all hb hk hL m (some key) acc k0 (by omega) (by omega) (by omega)
      · rw [if_neg hv, decide_eq_true hv, cond_true, prs_len, bif_a, bif_t (by omega), bif_t (by omega)]
        have e1 : prs acc ++ [AV.agg [.str (str key), .str (str (lastL all key))]] = prs (acc ++ [⟨key, lastL all key⟩]) := by unfold prs; rw [List.map_append]; rfl
        rw [e1]
        have := lay_out kap all hb hk hL m (some key) (acc ++ [⟨key, lastL all key⟩]) k0 (by omega) (by omega) (by simp only [List.length_append, List.length_cons, List.length_nil]; omega)
        rw [List.append_assoc, List.singleton_append] at this
        exact this
theorem refLay_k (l more : List Pair) (hb : (l ++ more).length ≤ 1000000) (hk : (l ++ more).length < k) : kp E k (n + 2) ref08_Lay [.list 2 (prs l), .list 2 (prs more)] = some (.list 2 (prs (layF (l ++ more) (l ++ more).length none))) := by
  have h := lay_out (k := k) (kp E k (n + 1)) (l ++ more) hb hk (fun key => last_k _ key hb hk) (l ++ more).length none [] k (cnt_le _ _) hk (by simp only [List.length_nil]; omega)
  rw [List.length_append] at hb
  rw [ref08_Lay_eq, prs_len, bif_a, bif_t (by omega), bif_t (by omega), List.nil_append, prs_len, prs_len, bif_a, bif_t (by omega), bif_t (by omega)]
  have e : prs l ++ prs more = prs (l ++ more) := by unfold prs; rw [List.map_append]
  rw [e]
  exact h
theorem same_loop (kap : FuncId → List AV → Option AV) (suf : List Pair) : ∀ (pre suf' pre' : List Pair) (k0 : Nat), suf.length < k0 → pre.length = pre'.length → suf.length = suf'.length → (pre ++ suf).length ≤ 1000000 →
    ref07_Same_L0 kap k k0 (prs (pre ++ suf)) (prs (pre' ++ suf')) ((pre.length : Nat) : Int) = some (.bool (decide (suf = suf'))) := by
  induction suf with
  | nil =>
    intro pre suf' pre' k0 h hp hs hb
    obtain ⟨m, rfl⟩ : ∃ m, k0 = m + 1 := ⟨k0 - 1, by simp only [List.length_nil] at h; omega⟩
    obtain rfl : suf' = [] := List.length_eq_zero_iff.1 hs.symm
    rw [ref07_Same_L0_s, prs_len, bif_f (by simp)]
    rfl
  | cons p suf ih =>
    intro pre suf' pre' k0 h hp hs hb
    obtain ⟨m, rfl⟩ : ∃ m, k0 = m + 1 := ⟨k0 - 1, by simp only [List.length_cons] at h; omega⟩
    cases suf' with
    | nil => cases hs
    | cons q suf' =>
      have h' : suf.length < m := by simp only [List.length_cons] at h; omega
      have hb' : pre.length + (suf.length + 1) ≤ 1000000 := by simp only [List.length_append, List.length_cons] at hb; exact hb
      have hs' : suf.length = suf'.length := by simp only [List.length_cons] at hs; omega
      have hi := ih (pre ++ [p]) suf' (pre' ++ [q]) m h' (by simp [hp]) hs' (by simp only [List.length_append, List.length_cons, List.length_nil]; omega)
      rw [← snoc_len, List.append_assoc, List.append_assoc, List.singleton_append, List.singleton_append] at hi
      have key : ∀ {β : Type} (F : AV → Option β), ((prs (pre' ++ q :: suf'))[pre.length]?).bind F = F (elPair q) := by
        intro β F; rw [hp, prs_mid]
      rw [ref07_Same_L0_s, prs_len, prs_len, mid_len, mid_len, bif_t (by omega), bif_a, bif_t (by omega), bif_t (by omega), Int.toNat_natCast, prs_mid, cells_pair, p_0, p_1, bif_a, bif_t (by omega), bif_t (by omega), key, cells_pair, p_0, p_1, str_dec, str_dec, i64w (by omega), hi]
      have e : decide (p :: suf = q :: suf') = ((decide (p.key = q.key) && (decide (p.val = q.val) && true)) && decide (suf = suf')) := by
        have e0 : (p :: suf = q :: suf') ↔ (p.key = q.key ∧ p.val = q.val) ∧ suf = suf' := by
          rw [List.cons.injEq]; cases p; cases q; simp
        have e1 : decide (p :: suf = q :: suf') = decide ((p.key = q.key ∧ p.val = q.val) ∧ suf = suf') := decide_eq_decide.2 e0
        rw [e1]
        by_cases a1 : p.key = q.key <;> by_cases a2 : p.val = q.val <;> by_cases a3 : suf = suf' <;> simp [a1, a2, a3]
      rw [e]
      cases decide (p.key = q.key) && (decide (p.val = q.val) && true) <;> rfl
theorem pSame_k (a b : List Pair) (ha : a.length ≤ 1000000) (hk : a.length < k) : kp E k (n + 1) ref07_Same [.list 2 (prs a), .list 2 (prs b)] = some (.bool (decide (a = b))) := by
  rw [ref07_Same_eq, prs_len, prs_len]
  by_cases h : a.length = b.length
  · rw [decide_eq_true (by omega), Bool.not_true, cond_false]
    have := same_loop (k := k) (kp E k n) a [] b [] k hk rfl h (by simpa using ha)
    exact this
  · rw [decide_eq_false (by omega), Bool.not_false, cond_true, decide_eq_false (fun e => h (by rw [e]))]
theorem refOver_loop (kap : FuncId → List AV → Option AV) (all : List Pair) (R : Bool) (hR : ∀ p : Pair, p.key.length ≤ 1000000 → p.val.length ≤ 1000000 → kap ref07_Right [.agg [.str (str p.key), .str (str p.val)]] = some (.bool (pairOk p)))
    (hend : ∀ j, ref08_Right_L0 kap k (j + 1) (prs all) ((all.length : Nat) : Int) = some (.bool R)) (suf : List Pair) :
    ∀ (pre : List Pair) (k0 : Nat), all = pre ++ suf → suf.length < k0 → all.length ≤ 1000000 → (∀ p ∈ suf, p.key.length ≤ 1000000 ∧ p.val.length ≤ 1000000) →
    ref08_Right_L0 kap k k0 (prs all) ((pre.length : Nat) : Int) = some (.bool (suf.all pairOk && R)) := by
  induction suf with
  | nil =>
    intro pre k0 he h hb hs
    obtain ⟨m, rfl⟩ : ∃ m, k0 = m + 1 := ⟨k0 - 1, by simp only [List.length_nil] at h; omega⟩
    rw [List.append_nil] at he
    subst he
    exact hend m
  | cons p suf ih =>
    intro pre k0 he h hb hs
    obtain ⟨m, rfl⟩ : ∃ m, k0 = m + 1 := ⟨k0 - 1, by simp only [List.length_cons] at h; omega⟩
    have h' : suf.length < m := by simp only [List.length_cons] at h; omega
    have hb' : pre.length + (suf.length + 1) ≤ 1000000 := by rw [he] at hb; simp only [List.length_append, List.length_cons] at hb; exact hb
    obtain ⟨g1, g2⟩ := hs p (.head _)
    have hi := ih (pre ++ [p]) m (by rw [he]; simp) h' hb fun q hq => hs q (.tail _ hq)
    rw [← snoc_len] at hi
    rw [ref08_Right_L0_s, prs_len, he, mid_len, bif_t (by omega), bif_a, bif_t (by omega), bif_t (by omega), Int.toNat_natCast, prs_mid, cells_pair, p_0, p_1, ← he, hR p g1 g2, callB_ok, i64w (by omega), hi, List.all_cons]
    cases pairOk p <;> rfl
theorem refOver_k (l : List Pair) (hl : l.length ≤ 100000) (hp : ∀ p ∈ l, p.key.length ≤ 1000000 ∧ p.val.length ≤ 1000000) (hk : 2000000 < k) : kp E k (n + 5) ref08_Right [.list 2 (prs l)] = some (.bool (overOk l)) := by
  have hend : ∀ j, ref08_Right_L0 (kp E k (n + 4)) k (j + 1) (prs l) ((l.length : Nat) : Int) = some (.bool (okSt none l)) := by
    intro j
    have hlay := refLay_k (E := E) (k := k) (n := n + 2) l [] (by simp; omega) (by simp; omega)
    rw [show prs [] = [] from rfl, List.append_nil] at hlay
    have hlen : (layF l l.length none).length ≤ 1000000 := by
      have : ∀ (m : Nat) (a : Option Tx), (layF l m a).length ≤ m := by
        intro m
        induction m with
        | zero => intro a; exact Nat.le_refl _
        | succ m ih =>
          intro a
          unfold layF
          split
          · simp
          · split
            · have := ih (some ‹Tx›); omega
            · rw [List.length_cons]; have := ih (some ‹Tx›); omega
      have := this l.length none
      omega
    rw [ref08_Right_L0_s, prs_len, bif_f (by omega), hlay, callL_ok, pSame_k _ l hlen (by
      have : ∀ (m : Nat) (a : Option Tx), (layF l m a).length ≤ m := by
        intro m
        induction m with
        | zero => intro a; exact Nat.le_refl _
        | succ m ih =>
          intro a
          unfold layF
          split
          · simp
          · split
            · have := ih (some ‹Tx›); omega
            · rw [List.length_cons]; have := ih (some ‹Tx›); omega
      have := this l.length none
      omega), callB_ok, lay_iff l _ (Nat.le_refl _)]
  have h := refOver_loop (k := k) (kp E k (n + 4)) l _ (fun p h1 h2 => refPair_k p h1 h2 hk) hend l [] k (by simp) (by omega) (by omega) hp
  rw [ref08_Right_eq]
  unfold overOk
  rw [Bool.and_comm]
  exact h
end Go.Proofs.YtbkhmkcmbaffoaaGreatDoor.Eng.U


/- ItemFulls answers true. -/
set_option linter.unusedVariables false
set_option linter.unusedSectionVars false
set_option linter.unusedSimpArgs false
namespace Go.Proofs.YtbkhmkcmbaffoaaGreatDoor.Eng.U
open Go Go.Proofs Go.Proofs.YtbkhmkcmbaffoaaGreatDoor.Eng Go.Proofs.YtbkhmkcmbaffoaaGreatDoor.P04
variable {E : Ext} [Core E] [HasNum E] [HasText E] {k n : Nat}

end Go.Proofs.YtbkhmkcmbaffoaaGreatDoor.Eng.U


/- Which field of a head is the first that isn't right: both sides. -/
set_option linter.unusedVariables false
set_option linter.unusedSectionVars false
set_option linter.unusedSimpArgs false
namespace Go.Proofs.YtbkhmkcmbaffoaaGreatDoor.Eng.U
open Go Go.Proofs Go.Proofs.YtbkhmkcmbaffoaaGreatDoor.Eng Go.Proofs.YtbkhmkcmbaffoaaGreatDoor.P04
variable {E : Ext} [Core E] [HasNum E] {k n k0 : Nat}

def nameOk (s : List UInt8) : Bool := decide (s ≠ []) && (decide (s.length ≤ 65536) && clean s)
def plainOk (s : List UInt8) : Bool := decide (s.length ≤ 65536) && clean s
def links (h : Head) : Bool := decide (h.kind = 2) || decide (h.kind = 3)
def devs (h : Head) : Bool := decide (h.kind = 4) || decide (h.kind = 5)
def f1 (h : Head) : Bool := decide (h.kind ≥ 1) && decide (h.kind ≤ 7)
def f2 (h : Head) : Bool := nameOk h.name && !(decide (h.kind = 1) && sl h.name)
def f3 (h : Head) : Bool := bif links h then nameOk h.link else decide (h.link = [])
def f4 (h : Head) : Bool := decide (h.mode ≥ 0)
def f5 (h : Head) : Bool := decide (h.uid ≥ 0)
def f6 (h : Head) : Bool := decide (h.gid ≥ 0)
def f7 (h : Head) : Bool := decide (h.size = 0) || (decide (h.size > 0) && decide (h.kind = 1))
def f8 (h : Head) : Bool := rightT h.nano
def f9 (h : Head) : Bool := plainOk h.user
def f10 (h : Head) : Bool := plainOk h.group
def devOk (h : Head) (v : Int) : Bool := decide (v = 0) || (decide (v > 0) && devs h)
def f11 (h : Head) : Bool := devOk h h.major
def f12 (h : Head) : Bool := devOk h h.minor
def f13 (h : Head) : Bool := overOk h.extra && h.extra.all fun p => decide (whichL p.key < 0)
def wrongH (h : Head) : Int :=
  bif !f1 h then 1 else bif !f2 h then 2 else bif !f3 h then 3 else bif !f4 h then 4 else bif !f5 h then 5 else bif !f6 h then 6 else bif !f7 h then 7 else bif !f8 h then 8 else
  bif !f9 h then 9 else bif !f10 h then 10 else bif !f11 h then 11 else bif !f12 h then 12 else bif !f13 h then 13 else 0
theorem len_le (s : List UInt8) : decide (((s.length : Nat) : Int) ≤ 65536) = decide (s.length ≤ 65536) := by rw [decide_eq_decide]; omega
theorem named_k (s : List UInt8) : kp E k (n + 2) item_named [.str (str s)] = some (.bool (nameOk s)) := by
  rw [item_named_eq, textClean_k, callB_ok, str_dec, str_size, len_le]
  unfold nameOk
  rw [decide_not]
  cases decide (s = []) <;> cases decide (s.length ≤ 65536) <;> rfl
theorem plain_k (s : List UInt8) : kp E k (n + 2) item_plain [.str (str s)] = some (.bool (plainOk s)) := by
  rw [item_plain_eq, textClean_k, callB_ok, str_size, len_le]
  unfold plainOk
  cases decide (s.length ≤ 65536) <;> rfl
theorem refName_k (s : List UInt8) (hs : s.length < 1000000000) (hk : s.length < k) : kp E k (n + 3) ref09_name [.str (str s)] = some (.bool (nameOk s)) := by
  rw [ref09_name_eq, refClean_k s hs hk, callB_ok, str_dec, str_size, len_le]
  unfold nameOk
  rw [decide_not]
  cases decide (s = []) <;> cases decide (s.length ≤ 65536) <;> rfl
theorem plain_name (s : List UInt8) : (bif decide (s = []) then true else nameOk s) = plainOk s := by
  unfold nameOk plainOk
  by_cases h : s = []
  · subst h; rfl
  · rw [decide_eq_false h, decide_eq_true h]; rfl
theorem refSlash_k (s : List UInt8) (hs : s.length < 1000000000) : kp E k (n + 1) ref09_Slash [.str (str s)] = some (.bool (sl s)) := by
  rw [ref09_Slash_eq, str_dec, str_size]
  rcases snoc_cases s with rfl | ⟨l, c, rfl⟩
  · rfl
  · rw [decide_eq_false (by simp), Bool.not_false, cond_true]
    rw [List.length_append, List.length_singleton] at hs ⊢
    rw [i64w (by omega), bif_a, bif_t (by omega), bif_t (by omega), show Int.toNat (((l.length + 1 : Nat) : Int) - 1) = l.length by omega, str_byte]
    have e := mid_byte l [] c
    rw [show l ++ [c] = l ++ c :: [] from rfl, e, show decide (((c.toNat : Nat) : Int) = 47) = decide (c = 47) from byte_is c 47 (by omega)]
    unfold sl
    simp
theorem link_k (h : Head) : kp E k (n + 3) item_link [.agg (encHead h)] = some (.bool (f3 h)) := by
  unfold encHead f3 links
  rw [item_link_eq, named_k, callB_ok, str_dec]
  cases decide (h.kind = 2) <;> cases decide (h.kind = 3) <;> rfl
theorem device_k (h : Head) (v : Int) : kp E k (n + 1) item_device [.agg (encHead h), .int .i64 v] = some (.bool (devOk h v)) := by
  unfold encHead devOk devs
  rw [item_device_eq]
  cases decide (v = 0) <;> cases decide (v > 0) <;> cases decide (h.kind = 4) <;> rfl
theorem extra1_k (p : Pair) : kp E k (n + 2) item_extra_1 [.agg [.str (str p.key), .str (str p.val)]] = some (.bool (decide (0 ≤ whichL p.key))) := by
  rw [item_extra_1_eq, known_k, callB_ok]
theorem index_loop (kap : FuncId → List AV → Option AV) (hK : ∀ p : Pair, kap item_extra_1 [.agg [.str (str p.key), .str (str p.val)]] = some (.bool (decide (0 ≤ whichL p.key)))) (suf : List Pair) : ∀ (pre : List Pair) (k0 : Nat), suf.length < k0 → (pre ++ suf).length < 1000000 →
    ∃ i : Int, slices_IndexFunc_api_Pair_L0 kap k k0 (prs (pre ++ suf)) (((pre ++ suf).length : Nat) : Int) ((pre.length : Nat) : Int) = some (.int .i64 i) ∧ decide (i ≥ 0) = !(suf.all fun p => decide (whichL p.key < 0)) := by
  induction suf with
  | nil =>
    intro pre k0 h hb
    obtain ⟨m, rfl⟩ : ∃ m, k0 = m + 1 := ⟨k0 - 1, by simp only [List.length_nil] at h; omega⟩
    rw [slices_IndexFunc_api_Pair_L0_s, bif_f (by simp)]
    exact ⟨_, rfl, rfl⟩
  | cons p suf ih =>
    intro pre k0 h hb
    obtain ⟨m, rfl⟩ : ∃ m, k0 = m + 1 := ⟨k0 - 1, by simp only [List.length_cons] at h; omega⟩
    have h' : suf.length < m := by simp only [List.length_cons] at h; omega
    have hb' : pre.length + (suf.length + 1) < 1000000 := by simp only [List.length_append, List.length_cons] at hb; exact hb
    obtain ⟨i, hi, he⟩ := ih (pre ++ [p]) m h' (by simp only [List.length_append, List.length_cons, List.length_nil]; omega)
    rw [List.append_assoc, List.singleton_append, ← snoc_len, mid_len] at hi
    rw [slices_IndexFunc_api_Pair_L0_s, prs_len, mid_len, bif_t (by omega), bif_a, bif_t (by omega), bif_t (by omega), Int.toNat_natCast, prs_mid, cells_pair, p_0, p_1, hK, callB_ok, i64w (by omega), List.all_cons]
    by_cases hw : 0 ≤ whichL p.key
    · rw [decide_eq_true hw, cond_true, decide_eq_false (show ¬ whichL p.key < 0 by omega)]
      exact ⟨_, rfl, by rw [decide_eq_true (by omega)]; rfl⟩
    · rw [decide_eq_false hw, cond_false, decide_eq_true (show whichL p.key < 0 by omega), Bool.true_and]
      exact ⟨i, hi, he⟩
theorem extra_k [HasTextV E] (h : Head) (hl : h.extra.length ≤ 100000) (hp : ∀ p ∈ h.extra, p.key.length ≤ 1000000 ∧ p.val.length ≤ 1000000) (hk : 1000000 < k) : kp E k (n + 7) item_extra [.list 2 (prs h.extra)] = some (.bool (f13 h)) := by
  obtain ⟨i, hi, he⟩ := index_loop (k := k) (kp E k (n + 4)) (fun p => extra1_k p) h.extra [] k (by omega) (by simpa using (show h.extra.length < 1000000 by omega))
  simp only [List.nil_append, List.length_nil] at hi
  rw [item_extra_eq, overRight_k h.extra (by omega) hp hk, callB_ok, slices_ContainsFunc_api_Pair_eq, slices_IndexFunc_api_Pair_eq, prs_len]
  rw [show ((0 : Nat) : Int) = 0 from rfl] at hi
  rw [hi, callI_ok, he, callB_ok, Bool.not_not]
  unfold f13
  cases overOk h.extra <;> rfl
def BdF (h : Head) : Prop := h.name.length ≤ 400000 ∧ h.link.length ≤ 400000 ∧ h.user.length ≤ 400000 ∧ h.group.length ≤ 400000 ∧ h.extra.length ≤ 100000 ∧ ∀ p ∈ h.extra, p.key.length ≤ 1000000 ∧ p.val.length ≤ 1000000
theorem flag_k (v : Int) : ∃ f : Int, kp E k (n + 1) item_Flag [.int .i64 v] = some (.int .u8 f) ∧ decide (f = 0) = !(decide (v ≥ 1) && decide (v ≤ 7)) := by
  rw [item_Flag_eq]
  by_cases h1 : v < 1
  · rw [bif_t h1]; exact ⟨_, rfl, by rw [decide_eq_false (show ¬ v ≥ 1 by omega)]; rfl⟩
  · rw [bif_f h1]
    by_cases h2 : v > 7
    · rw [bif_t h2]; exact ⟨_, rfl, by rw [decide_eq_true (show v ≥ 1 by omega), decide_eq_false (show ¬ v ≤ 7 by omega)]; rfl⟩
    · rw [bif_f h2]
      have : v = 1 ∨ v = 2 ∨ v = 3 ∨ v = 4 ∨ v = 5 ∨ v = 6 ∨ v = 7 := by omega
      rcases this with rfl | rfl | rfl | rfl | rfl | rfl | rfl <;> exact ⟨_, rfl, by decide⟩
theorem wrong_kv [HasTextV E] (h : Head) (hb : BdF h) (hk : 1000000 < k) : kp E k (n + 8) item_Wrong [.agg (encHead h)] = some (.int .i64 (wrongH h)) := by
  have hlink := link_k (E := E) (k := k) (n := n + 4) h
  have hdev : ∀ v : Int, kp E k (n + 7) item_device [.agg (encHead h), .int .i64 v] = _ := fun v => device_k (n := n + 6) h v
  have hext := extra_k (E := E) (k := k) (n := n) h hb.2.2.2.2.1 hb.2.2.2.2.2 hk
  have hright : ∀ s t : Int, kp E k (n + 7) dec_Right [.agg [.int .i64 s, .int .i64 t]] = _ := fun s t => right_k (n := n + 6) s t
  have hplain : ∀ s : List UInt8, kp E k (n + 7) item_plain [.str (str s)] = _ := fun s => plain_k (n := n + 5) s
  have hname : kp E k (n + 7) item_named [.str (str h.name)] = _ := named_k (n := n + 5) h.name
  obtain ⟨f, hfl, hf1⟩ := flag_k (E := E) (k := k) (n := n + 6) h.kind
  have hsuf := suffix_k (E := E) (k := k) (n := n + 5) h.name (by have := hb.1; omega)
  have e1 : decide (f = 0) = !f1 h := hf1
  unfold encHead at hlink hdev ⊢
  rw [item_Wrong_eq]
  simp only [hfl, callI_ok, e1, hname, hsuf, hlink, hdev, hright, hplain, hext, callB_ok]
  unfold wrongH
  have e2 : f2 h = (nameOk h.name && !(decide (h.kind = 1) && sl h.name)) := rfl
  have e4 : decide (h.mode < 0) = !f4 h := by unfold f4; rw [← decide_not, decide_eq_decide]; omega
  have e5 : decide (h.uid < 0) = !f5 h := by unfold f5; rw [← decide_not, decide_eq_decide]; omega
  have e6 : decide (h.gid < 0) = !f6 h := by unfold f6; rw [← decide_not, decide_eq_decide]; omega
  have e7 : f7 h = (decide (h.size = 0) || (decide (h.size > 0) && decide (h.kind = 1))) := rfl
  have e8 : rightT h.nano = f8 h := rfl
  have e9 : plainOk h.user = f9 h := rfl
  have e10 : plainOk h.group = f10 h := rfl
  have e11 : devOk h h.major = f11 h := rfl
  have e12 : devOk h h.minor = f12 h := rfl
  rw [e2, e4, e5, e6, e7, e8, e9, e10, e11, e12]
  have s3 : (h.size < 0 ∧ ¬ h.size = 0 ∧ ¬ h.size > 0) ∨ (¬ h.size < 0 ∧ h.size = 0 ∧ ¬ h.size > 0) ∨ (¬ h.size < 0 ∧ ¬ h.size = 0 ∧ h.size > 0) := by omega
  generalize nameOk h.name = b2
  generalize sl h.name = bs
  generalize f1 h = b1
  generalize f3 h = b3
  generalize f4 h = b4
  generalize f5 h = b5
  generalize f6 h = b6
  generalize f8 h = b8
  generalize f9 h = b9
  generalize f10 h = b10
  generalize f11 h = b11
  generalize f12 h = b12
  generalize f13 h = b13
  generalize decide (h.kind = 1) = bk
  cases b1
  · rfl
  cases b2
  · rfl
  have tail : ∀ a8 a9 a10 a11 a12 a13 : Bool, (bif !a8 then some (AV.int .i64 8) else bif !a9 then some (AV.int .i64 9) else bif !a10 then some (AV.int .i64 10) else bif !a11 then some (AV.int .i64 11) else bif !a12 then some (AV.int .i64 12) else bif !a13 then some (AV.int .i64 13) else some (AV.int .i64 0)) =
      some (AV.int .i64 (bif !a8 then 8 else bif !a9 then 9 else bif !a10 then 10 else bif !a11 then 11 else bif !a12 then 12 else bif !a13 then 13 else 0)) := by
    intro a8 a9 a10 a11 a12 a13
    cases a8 <;> cases a9 <;> cases a10 <;> cases a11 <;> cases a12 <;> cases a13 <;> rfl
  rcases s3 with ⟨x1, x2, x3⟩ | ⟨x1, x2, x3⟩ | ⟨x1, x2, x3⟩
  · rw [decide_eq_true x1, decide_eq_false x2, decide_eq_false x3]
    cases bk <;> cases bs <;> cases b3 <;> cases b4 <;> cases b5 <;> cases b6 <;> rfl
  · rw [decide_eq_false x1, decide_eq_true x2, decide_eq_false x3]
    cases bk <;> cases bs <;> cases b3 <;> cases b4 <;> cases b5 <;> cases b6 <;> first | rfl | exact tail _ _ _ _ _ _
  · rw [decide_eq_false x1, decide_eq_false x2, decide_eq_true x3]
    cases bk <;> cases bs <;> cases b3 <;> cases b4 <;> cases b5 <;> cases b6 <;> first | rfl | exact tail _ _ _ _ _ _
theorem known_loop (kap : FuncId → List AV → Option AV) (hW : ∀ key : List UInt8, kap ref07_Which [.str (str key)] = some (.int .i64 (whichL key))) (h : Head) (g1 g2 g3 g4 g5 g6 g7 g8 g9 g10 g11 g12 : Bool) (suf : List Pair) : ∀ (pre : List Pair) (k0 : Nat) (v : Bool), h.extra = pre ++ suf → suf.length < k0 → h.extra.length < 1000000 →
    ref09_fields_L10 kap k k0 ((pre.length : Nat) : Int) h.kind (str h.name) (str h.link) h.mode h.uid h.gid h.size h.sec h.nano (str h.user) (str h.group) h.major h.minor (prs h.extra) false false false false false false false false false false false false false false false g1 g2 g3 g4 g5 g6 g7 g8 g9 g10 g11 g12 v = some (.agg [.bool false, .bool g1, .bool g2, .bool g3, .bool g4, .bool g5, .bool g6, .bool g7, .bool g8, .bool g9, .bool g10, .bool g11, .bool g12, .bool (v && suf.all fun p => decide (whichL p.key < 0))]) := by
  induction suf with
  | nil =>
    intro pre k0 v he h' hb
    obtain ⟨m, rfl⟩ : ∃ m, k0 = m + 1 := ⟨k0 - 1, by simp only [List.length_nil] at h'; omega⟩
    rw [ref09_fields_L10_s, prs_len, he, bif_f (by simp)]
    simp
  | cons p suf ih =>
    intro pre k0 v he h' hb
    obtain ⟨m, rfl⟩ : ∃ m, k0 = m + 1 := ⟨k0 - 1, by simp only [List.length_cons] at h'; omega⟩
    have h2 : suf.length < m := by simp only [List.length_cons] at h'; omega
    have hb' : pre.length + (suf.length + 1) < 1000000 := by rw [he] at hb; simp only [List.length_append, List.length_cons] at hb; exact hb
    have hl : h.extra.length = pre.length + (suf.length + 1) := by rw [he]; simp
    have hi := fun v => ih (pre ++ [p]) m v (by rw [he]; simp) h2 hb
    rw [← snoc_len] at hi
    have hat : ∀ (F : AV → Option AV), ((prs h.extra)[pre.length]?).bind F = F (elPair p) := fun F => by rw [he, prs_mid]
    rw [ref09_fields_L10_s, prs_len, hl, bif_t (by omega), i64w (by omega), hi, bif_a, bif_t (by omega), bif_t (by omega), Int.toNat_natCast, hat, cells_pair, p_0, hW, callI_ok, hi, List.all_cons]
    cases v <;> simp
end Go.Proofs.YtbkhmkcmbaffoaaGreatDoor.Eng.U

