/- Several texts of this proof in one file: RH, U20r, V20c, V20b. -/
import Derived.Test.YtogfcfgfkggmlaaGreatDoorMTaleHeads0
import Derived.Test.YtogfcfgfkggmlaaGreatDoorMTaleHeads2
/- What functions answer, as the engine evaluates their code. Printed by gen2.py. -/
set_option linter.unusedVariables false
namespace Go.Proofs.YtogfcfgfkggmlaaGreatDoor.Eng.U
open Go Go.Proofs Go.Proofs.YtogfcfgfkggmlaaGreatDoor.Eng
/- oakum/oakumref20.Head -/
noncomputable def ref20_Head_bd : Code := Tryz.f44.body.getD .skip
noncomputable def ref20_Head_L0 (kap : FuncId → List AV → Option AV) (k : Nat) (k0 : Nat) (s0 : ByteArray) (s4 : List AV) (s6 : Int) (b2_0 : Int) (b2_1 : ByteArray) (b2_2 : ByteArray) (b2_3 : Int) (b2_4 : Int) (b2_5 : Int) (b2_6 : Int) (b2_7 : Int) (b2_8 : Int) (b2_9 : ByteArray) (b2_10 : ByteArray) (b2_11 : Int) (b2_12 : Int) (b5_0 : Int) (b5_1 : ByteArray) (b5_2 : ByteArray) (b5_3 : Int) (b5_4 : Int) (b5_5 : Int) (b5_6 : Int) (b5_7 : Int) (b5_8 : Int) (b5_9 : ByteArray) (b5_10 : ByteArray) (b5_11 : Int) (b5_12 : Int) (x374 : List AV) (x377 : List AV) : Option AV :=
  loop (fun fr K => code ((bs E0 k).cfg kap ref20_Head) (sel ref20_Head_bd [1, 1, 1, 1, 0, 1, 0, 0]) fr K) (canon ((bs E0 k).cfg kap ref20_Head) (firstReg (sel ref20_Head_bd [1, 1, 1, 1, 0, 1, 0, 0]))) k0 (mkFr 186 [(0, (.str s0)), (2, (.loc 2 0)), (4, (.list 1 s4)), (5, (.loc 5 0)), (6, (.int .i64 s6))] [(2, (.box [(.int .i64 b2_0), (.str b2_1), (.str b2_2), (.int .i64 b2_3), (.int .i64 b2_4), (.int .i64 b2_5), (.int .i64 b2_6), (.int .i64 b2_7), (.int .i64 b2_8), (.str b2_9), (.str b2_10), (.int .i64 b2_11), (.int .i64 b2_12), (.own 374)])), (5, (.box [(.int .i64 b5_0), (.str b5_1), (.str b5_2), (.int .i64 b5_3), (.int .i64 b5_4), (.int .i64 b5_5), (.int .i64 b5_6), (.int .i64 b5_7), (.int .i64 b5_8), (.str b5_9), (.str b5_10), (.int .i64 b5_11), (.int .i64 b5_12), (.own 377)])), (374, (.row 29 x374 false)), (377, (.row 29 x377 false))]) (plug ((bs E0 k).cfg kap ref20_Head) (retK ((bs E0 k).cfg kap ref20_Head) [] Tryz.f44 [] some) [.blk 0, .seqR (sel ref20_Head_bd [1, 1, 1, 1, 1])])
noncomputable def ref20_Head_L1 (kap : FuncId → List AV → Option AV) (k : Nat) (k1 : Nat) (s0 : ByteArray) (s4 : List AV) (s7 : Bool) (b2_0 : Int) (b2_1 : ByteArray) (b2_2 : ByteArray) (b2_3 : Int) (b2_4 : Int) (b2_5 : Int) (b2_6 : Int) (b2_7 : Int) (b2_8 : Int) (b2_9 : ByteArray) (b2_10 : ByteArray) (b2_11 : Int) (b2_12 : Int) (b5_0 : Int) (b5_1 : ByteArray) (b5_2 : ByteArray) (b5_3 : Int) (b5_4 : Int) (b5_5 : Int) (b5_6 : Int) (b5_7 : Int) (b5_8 : Int) (b5_9 : ByteArray) (b5_10 : ByteArray) (b5_11 : Int) (b5_12 : Int) (x374 : List AV) (x377 : List AV) : Option AV :=
  loop (fun fr K => code ((bs E0 k).cfg kap ref20_Head) (sel ref20_Head_bd [1, 1, 1, 1, 1, 1, 1, 1, 0, 1, 0, 0]) fr K) (canon ((bs E0 k).cfg kap ref20_Head) (firstReg (sel ref20_Head_bd [1, 1, 1, 1, 1, 1, 1, 1, 0, 1, 0, 0]))) k1 (mkFr 186 [(0, (.str s0)), (2, (.loc 2 0)), (4, (.list 1 s4)), (5, (.loc 5 0)), (7, (.bool s7)), (8, (.loc 8 0)), (9, (.own 9)), (10, (.int .i64 (0 : Int)))] [(2, (.box [(.int .i64 b2_0), (.str b2_1), (.str b2_2), (.int .i64 b2_3), (.int .i64 b2_4), (.int .i64 b2_5), (.int .i64 b2_6), (.int .i64 b2_7), (.int .i64 b2_8), (.str b2_9), (.str b2_10), (.int .i64 b2_11), (.int .i64 b2_12), (.own 374)])), (5, (.box [(.int .i64 b5_0), (.str b5_1), (.str b5_2), (.int .i64 b5_3), (.int .i64 b5_4), (.int .i64 b5_5), (.int .i64 b5_6), (.int .i64 b5_7), (.int .i64 b5_8), (.str b5_9), (.str b5_10), (.int .i64 b5_11), (.int .i64 b5_12), (.own 377)])), (8, (.box [(.int .i64 (0 : Int)), (.int .i64 (0 : Int)), (.int .i64 (0 : Int)), (.int .i64 (0 : Int)), (.int .i64 (0 : Int)), (.int .i64 (0 : Int))])), (9, (.row 3 [(.int .i64 (1 : Int)), (.int .i64 (2 : Int)), (.int .i64 (3 : Int)), (.int .i64 (4 : Int)), (.int .i64 (8 : Int)), (.int .i64 (9 : Int))] false)), (374, (.row 29 x374 false)), (377, (.row 29 x377 false))]) (plug ((bs E0 k).cfg kap ref20_Head) (retK ((bs E0 k).cfg kap ref20_Head) [] Tryz.f44 [] some) [.blk 2, .seqR (sel ref20_Head_bd [1, 1, 1, 1, 1, 1, 1, 1, 1])])
noncomputable def ref20_Head_L2 (kap : FuncId → List AV → Option AV) (k : Nat) (k2 : Nat) (s0 : ByteArray) (s4 : List AV) (s7 : Bool) (b2_0 : Int) (b2_1 : ByteArray) (b2_2 : ByteArray) (b2_3 : Int) (b2_4 : Int) (b2_5 : Int) (b2_6 : Int) (b2_7 : Int) (b2_8 : Int) (b2_9 : ByteArray) (b2_10 : ByteArray) (b2_11 : Int) (b2_12 : Int) (b5_0 : Int) (b5_1 : ByteArray) (b5_2 : ByteArray) (b5_3 : Int) (b5_4 : Int) (b5_5 : Int) (b5_6 : Int) (b5_7 : Int) (b5_8 : Int) (b5_9 : ByteArray) (b5_10 : ByteArray) (b5_11 : Int) (b5_12 : Int) (b8_0 : Int) (x374 : List AV) (x377 : List AV) : Option AV :=
  loop (fun fr K => code ((bs E0 k).cfg kap ref20_Head) (sel ref20_Head_bd [1, 1, 1, 1, 1, 1, 1, 1, 0, 1, 0, 0]) fr K) (canon ((bs E0 k).cfg kap ref20_Head) (firstReg (sel ref20_Head_bd [1, 1, 1, 1, 1, 1, 1, 1, 0, 1, 0, 0]))) k2 (mkFr 186 [(0, (.str s0)), (2, (.loc 2 0)), (4, (.list 1 s4)), (5, (.loc 5 0)), (7, (.bool s7)), (8, (.loc 8 0)), (9, (.own 9)), (10, (.int .i64 (1 : Int)))] [(2, (.box [(.int .i64 b2_0), (.str b2_1), (.str b2_2), (.int .i64 b2_3), (.int .i64 b2_4), (.int .i64 b2_5), (.int .i64 b2_6), (.int .i64 b2_7), (.int .i64 b2_8), (.str b2_9), (.str b2_10), (.int .i64 b2_11), (.int .i64 b2_12), (.own 374)])), (5, (.box [(.int .i64 b5_0), (.str b5_1), (.str b5_2), (.int .i64 b5_3), (.int .i64 b5_4), (.int .i64 b5_5), (.int .i64 b5_6), (.int .i64 b5_7), (.int .i64 b5_8), (.str b5_9), (.str b5_10), (.int .i64 b5_11), (.int .i64 b5_12), (.own 377)])), (8, (.box [(.int .i64 b8_0), (.int .i64 (0 : Int)), (.int .i64 (0 : Int)), (.int .i64 (0 : Int)), (.int .i64 (0 : Int)), (.int .i64 (0 : Int))])), (9, (.row 3 [(.int .i64 (1 : Int)), (.int .i64 (2 : Int)), (.int .i64 (3 : Int)), (.int .i64 (4 : Int)), (.int .i64 (8 : Int)), (.int .i64 (9 : Int))] false)), (374, (.row 29 x374 false)), (377, (.row 29 x377 false))]) (plug ((bs E0 k).cfg kap ref20_Head) (retK ((bs E0 k).cfg kap ref20_Head) [] Tryz.f44 [] some) [.blk 2, .seqR (sel ref20_Head_bd [1, 1, 1, 1, 1, 1, 1, 1, 1])])
noncomputable def ref20_Head_L3 (kap : FuncId → List AV → Option AV) (k : Nat) (k3 : Nat) (s0 : ByteArray) (s4 : List AV) (s7 : Bool) (b2_0 : Int) (b2_1 : ByteArray) (b2_2 : ByteArray) (b2_3 : Int) (b2_4 : Int) (b2_5 : Int) (b2_6 : Int) (b2_7 : Int) (b2_8 : Int) (b2_9 : ByteArray) (b2_10 : ByteArray) (b2_11 : Int) (b2_12 : Int) (b5_0 : Int) (b5_1 : ByteArray) (b5_2 : ByteArray) (b5_3 : Int) (b5_4 : Int) (b5_5 : Int) (b5_6 : Int) (b5_7 : Int) (b5_8 : Int) (b5_9 : ByteArray) (b5_10 : ByteArray) (b5_11 : Int) (b5_12 : Int) (b8_0 : Int) (b8_1 : Int) (x374 : List AV) (x377 : List AV) : Option AV :=
  loop (fun fr K => code ((bs E0 k).cfg kap ref20_Head) (sel ref20_Head_bd [1, 1, 1, 1, 1, 1, 1, 1, 0, 1, 0, 0]) fr K) (canon ((bs E0 k).cfg kap ref20_Head) (firstReg (sel ref20_Head_bd [1, 1, 1, 1, 1, 1, 1, 1, 0, 1, 0, 0]))) k3 (mkFr 186 [(0, (.str s0)), (2, (.loc 2 0)), (4, (.list 1 s4)), (5, (.loc 5 0)), (7, (.bool s7)), (8, (.loc 8 0)), (9, (.own 9)), (10, (.int .i64 (2 : Int)))] [(2, (.box [(.int .i64 b2_0), (.str b2_1), (.str b2_2), (.int .i64 b2_3), (.int .i64 b2_4), (.int .i64 b2_5), (.int .i64 b2_6), (.int .i64 b2_7), (.int .i64 b2_8), (.str b2_9), (.str b2_10), (.int .i64 b2_11), (.int .i64 b2_12), (.own 374)])), (5, (.box [(.int .i64 b5_0), (.str b5_1), (.str b5_2), (.int .i64 b5_3), (.int .i64 b5_4), (.int .i64 b5_5), (.int .i64 b5_6), (.int .i64 b5_7), (.int .i64 b5_8), (.str b5_9), (.str b5_10), (.int .i64 b5_11), (.int .i64 b5_12), (.own 377)])), (8, (.box [(.int .i64 b8_0), (.int .i64 b8_1), (.int .i64 (0 : Int)), (.int .i64 (0 : Int)), (.int .i64 (0 : Int)), (.int .i64 (0 : Int))])), (9, (.row 3 [(.int .i64 (1 : Int)), (.int .i64 (2 : Int)), (.int .i64 (3 : Int)), (.int .i64 (4 : Int)), (.int .i64 (8 : Int)), (.int .i64 (9 : Int))] false)), (374, (.row 29 x374 false)), (377, (.row 29 x377 false))]) (plug ((bs E0 k).cfg kap ref20_Head) (retK ((bs E0 k).cfg kap ref20_Head) [] Tryz.f44 [] some) [.blk 2, .seqR (sel ref20_Head_bd [1, 1, 1, 1, 1, 1, 1, 1, 1])])
noncomputable def ref20_Head_L4 (kap : FuncId → List AV → Option AV) (k : Nat) (k4 : Nat) (s0 : ByteArray) (s4 : List AV) (s7 : Bool) (b2_0 : Int) (b2_1 : ByteArray) (b2_2 : ByteArray) (b2_3 : Int) (b2_4 : Int) (b2_5 : Int) (b2_6 : Int) (b2_7 : Int) (b2_8 : Int) (b2_9 : ByteArray) (b2_10 : ByteArray) (b2_11 : Int) (b2_12 : Int) (b5_0 : Int) (b5_1 : ByteArray) (b5_2 : ByteArray) (b5_3 : Int) (b5_4 : Int) (b5_5 : Int) (b5_6 : Int) (b5_7 : Int) (b5_8 : Int) (b5_9 : ByteArray) (b5_10 : ByteArray) (b5_11 : Int) (b5_12 : Int) (b8_0 : Int) (b8_1 : Int) (b8_2 : Int) (x374 : List AV) (x377 : List AV) : Option AV :=
  loop (fun fr K => code ((bs E0 k).cfg kap ref20_Head) (sel ref20_Head_bd [1, 1, 1, 1, 1, 1, 1, 1, 0, 1, 0, 0]) fr K) (canon ((bs E0 k).cfg kap ref20_Head) (firstReg (sel ref20_Head_bd [1, 1, 1, 1, 1, 1, 1, 1, 0, 1, 0, 0]))) k4 (mkFr 186 [(0, (.str s0)), (2, (.loc 2 0)), (4, (.list 1 s4)), (5, (.loc 5 0)), (7, (.bool s7)), (8, (.loc 8 0)), (9, (.own 9)), (10, (.int .i64 (3 : Int)))] [(2, (.box [(.int .i64 b2_0), (.str b2_1), (.str b2_2), (.int .i64 b2_3), (.int .i64 b2_4), (.int .i64 b2_5), (.int .i64 b2_6), (.int .i64 b2_7), (.int .i64 b2_8), (.str b2_9), (.str b2_10), (.int .i64 b2_11), (.int .i64 b2_12), (.own 374)])), (5, (.box [(.int .i64 b5_0), (.str b5_1), (.str b5_2), (.int .i64 b5_3), (.int .i64 b5_4), (.int .i64 b5_5), (.int .i64 b5_6), (.int .i64 b5_7), (.int .i64 b5_8), (.str b5_9), (.str b5_10), (.int .i64 b5_11), (.int .i64 b5_12), (.own 377)])), (8, (.box [(.int .i64 b8_0), (.int .i64 b8_1), (.int .i64 b8_2), (.int .i64 (0 : Int)), (.int .i64 (0 : Int)), (.int .i64 (0 : Int))])), (9, (.row 3 [(.int .i64 (1 : Int)), (.int .i64 (2 : Int)), (.int .i64 (3 : Int)), (.int .i64 (4 : Int)), (.int .i64 (8 : Int)), (.int .i64 (9 : Int))] false)), (374, (.row 29 x374 false)), (377, (.row 29 x377 false))]) (plug ((bs E0 k).cfg kap ref20_Head) (retK ((bs E0 k).cfg kap ref20_Head) [] Tryz.f44 [] some) [.blk 2, .seqR (sel ref20_Head_bd [1, 1, 1, 1, 1, 1, 1, 1, 1])])
noncomputable def ref20_Head_L5 (kap : FuncId → List AV → Option AV) (k : Nat) (k5 : Nat) (s0 : ByteArray) (s4 : List AV) (s7 : Bool) (b2_0 : Int) (b2_1 : ByteArray) (b2_2 : ByteArray) (b2_3 : Int) (b2_4 : Int) (b2_5 : Int) (b2_6 : Int) (b2_7 : Int) (b2_8 : Int) (b2_9 : ByteArray) (b2_10 : ByteArray) (b2_11 : Int) (b2_12 : Int) (b5_0 : Int) (b5_1 : ByteArray) (b5_2 : ByteArray) (b5_3 : Int) (b5_4 : Int) (b5_5 : Int) (b5_6 : Int) (b5_7 : Int) (b5_8 : Int) (b5_9 : ByteArray) (b5_10 : ByteArray) (b5_11 : Int) (b5_12 : Int) (b8_0 : Int) (b8_1 : Int) (b8_2 : Int) (b8_3 : Int) (x374 : List AV) (x377 : List AV) : Option AV :=
  loop (fun fr K => code ((bs E0 k).cfg kap ref20_Head) (sel ref20_Head_bd [1, 1, 1, 1, 1, 1, 1, 1, 0, 1, 0, 0]) fr K) (canon ((bs E0 k).cfg kap ref20_Head) (firstReg (sel ref20_Head_bd [1, 1, 1, 1, 1, 1, 1, 1, 0, 1, 0, 0]))) k5 (mkFr 186 [(0, (.str s0)), (2, (.loc 2 0)), (4, (.list 1 s4)), (5, (.loc 5 0)), (7, (.bool s7)), (8, (.loc 8 0)), (9, (.own 9)), (10, (.int .i64 (4 : Int)))] [(2, (.box [(.int .i64 b2_0), (.str b2_1), (.str b2_2), (.int .i64 b2_3), (.int .i64 b2_4), (.int .i64 b2_5), (.int .i64 b2_6), (.int .i64 b2_7), (.int .i64 b2_8), (.str b2_9), (.str b2_10), (.int .i64 b2_11), (.int .i64 b2_12), (.own 374)])), (5, (.box [(.int .i64 b5_0), (.str b5_1), (.str b5_2), (.int .i64 b5_3), (.int .i64 b5_4), (.int .i64 b5_5), (.int .i64 b5_6), (.int .i64 b5_7), (.int .i64 b5_8), (.str b5_9), (.str b5_10), (.int .i64 b5_11), (.int .i64 b5_12), (.own 377)])), (8, (.box [(.int .i64 b8_0), (.int .i64 b8_1), (.int .i64 b8_2), (.int .i64 b8_3), (.int .i64 (0 : Int)), (.int .i64 (0 : Int))])), (9, (.row 3 [(.int .i64 (1 : Int)), (.int .i64 (2 : Int)), (.int .i64 (3 : Int)), (.int .i64 (4 : Int)), (.int .i64 (8 : Int)), (.int .i64 (9 : Int))] false)), (374, (.row 29 x374 false)), (377, (.row 29 x377 false))]) (plug ((bs E0 k).cfg kap ref20_Head) (retK ((bs E0 k).cfg kap ref20_Head) [] Tryz.f44 [] some) [.blk 2, .seqR (sel ref20_Head_bd [1, 1, 1, 1, 1, 1, 1, 1, 1])])
noncomputable def ref20_Head_L6 (kap : FuncId → List AV → Option AV) (k : Nat) (k6 : Nat) (s0 : ByteArray) (s4 : List AV) (s7 : Bool) (b2_0 : Int) (b2_1 : ByteArray) (b2_2 : ByteArray) (b2_3 : Int) (b2_4 : Int) (b2_5 : Int) (b2_6 : Int) (b2_7 : Int) (b2_8 : Int) (b2_9 : ByteArray) (b2_10 : ByteArray) (b2_11 : Int) (b2_12 : Int) (b5_0 : Int) (b5_1 : ByteArray) (b5_2 : ByteArray) (b5_3 : Int) (b5_4 : Int) (b5_5 : Int) (b5_6 : Int) (b5_7 : Int) (b5_8 : Int) (b5_9 : ByteArray) (b5_10 : ByteArray) (b5_11 : Int) (b5_12 : Int) (b8_0 : Int) (b8_1 : Int) (b8_2 : Int) (b8_3 : Int) (b8_4 : Int) (x374 : List AV) (x377 : List AV) : Option AV :=
  loop (fun fr K => code ((bs E0 k).cfg kap ref20_Head) (sel ref20_Head_bd [1, 1, 1, 1, 1, 1, 1, 1, 0, 1, 0, 0]) fr K) (canon ((bs E0 k).cfg kap ref20_Head) (firstReg (sel ref20_Head_bd [1, 1, 1, 1, 1, 1, 1, 1, 0, 1, 0, 0]))) k6 (mkFr 186 [(0, (.str s0)), (2, (.loc 2 0)), (4, (.list 1 s4)), (5, (.loc 5 0)), (7, (.bool s7)), (8, (.loc 8 0)), (9, (.own 9)), (10, (.int .i64 (5 : Int)))] [(2, (.box [(.int .i64 b2_0), (.str b2_1), (.str b2_2), (.int .i64 b2_3), (.int .i64 b2_4), (.int .i64 b2_5), (.int .i64 b2_6), (.int .i64 b2_7), (.int .i64 b2_8), (.str b2_9), (.str b2_10), (.int .i64 b2_11), (.int .i64 b2_12), (.own 374)])), (5, (.box [(.int .i64 b5_0), (.str b5_1), (.str b5_2), (.int .i64 b5_3), (.int .i64 b5_4), (.int .i64 b5_5), (.int .i64 b5_6), (.int .i64 b5_7), (.int .i64 b5_8), (.str b5_9), (.str b5_10), (.int .i64 b5_11), (.int .i64 b5_12), (.own 377)])), (8, (.box [(.int .i64 b8_0), (.int .i64 b8_1), (.int .i64 b8_2), (.int .i64 b8_3), (.int .i64 b8_4), (.int .i64 (0 : Int))])), (9, (.row 3 [(.int .i64 (1 : Int)), (.int .i64 (2 : Int)), (.int .i64 (3 : Int)), (.int .i64 (4 : Int)), (.int .i64 (8 : Int)), (.int .i64 (9 : Int))] false)), (374, (.row 29 x374 false)), (377, (.row 29 x377 false))]) (plug ((bs E0 k).cfg kap ref20_Head) (retK ((bs E0 k).cfg kap ref20_Head) [] Tryz.f44 [] some) [.blk 2, .seqR (sel ref20_Head_bd [1, 1, 1, 1, 1, 1, 1, 1, 1])])
noncomputable def ref20_Head_L7 (kap : FuncId → List AV → Option AV) (k : Nat) (k7 : Nat) (s0 : ByteArray) (s4 : List AV) (s7 : Bool) (b2_0 : Int) (b2_1 : ByteArray) (b2_2 : ByteArray) (b2_3 : Int) (b2_4 : Int) (b2_5 : Int) (b2_6 : Int) (b2_7 : Int) (b2_8 : Int) (b2_9 : ByteArray) (b2_10 : ByteArray) (b2_11 : Int) (b2_12 : Int) (b5_0 : Int) (b5_1 : ByteArray) (b5_2 : ByteArray) (b5_3 : Int) (b5_4 : Int) (b5_5 : Int) (b5_6 : Int) (b5_7 : Int) (b5_8 : Int) (b5_9 : ByteArray) (b5_10 : ByteArray) (b5_11 : Int) (b5_12 : Int) (b8_0 : Int) (b8_1 : Int) (b8_2 : Int) (b8_3 : Int) (b8_4 : Int) (b8_5 : Int) (x374 : List AV) (x377 : List AV) : Option AV :=
  loop (fun fr K => code ((bs E0 k).cfg kap ref20_Head) (sel ref20_Head_bd [1, 1, 1, 1, 1, 1, 1, 1, 0, 1, 0, 0]) fr K) (canon ((bs E0 k).cfg kap ref20_Head) (firstReg (sel ref20_Head_bd [1, 1, 1, 1, 1, 1, 1, 1, 0, 1, 0, 0]))) k7 (mkFr 186 [(0, (.str s0)), (2, (.loc 2 0)), (4, (.list 1 s4)), (5, (.loc 5 0)), (7, (.bool s7)), (8, (.loc 8 0)), (9, (.own 9)), (10, (.int .i64 (6 : Int)))] [(2, (.box [(.int .i64 b2_0), (.str b2_1), (.str b2_2), (.int .i64 b2_3), (.int .i64 b2_4), (.int .i64 b2_5), (.int .i64 b2_6), (.int .i64 b2_7), (.int .i64 b2_8), (.str b2_9), (.str b2_10), (.int .i64 b2_11), (.int .i64 b2_12), (.own 374)])), (5, (.box [(.int .i64 b5_0), (.str b5_1), (.str b5_2), (.int .i64 b5_3), (.int .i64 b5_4), (.int .i64 b5_5), (.int .i64 b5_6), (.int .i64 b5_7), (.int .i64 b5_8), (.str b5_9), (.str b5_10), (.int .i64 b5_11), (.int .i64 b5_12), (.own 377)])), (8, (.box [(.int .i64 b8_0), (.int .i64 b8_1), (.int .i64 b8_2), (.int .i64 b8_3), (.int .i64 b8_4), (.int .i64 b8_5)])), (9, (.row 3 [(.int .i64 (1 : Int)), (.int .i64 (2 : Int)), (.int .i64 (3 : Int)), (.int .i64 (4 : Int)), (.int .i64 (8 : Int)), (.int .i64 (9 : Int))] false)), (374, (.row 29 x374 false)), (377, (.row 29 x377 false))]) (plug ((bs E0 k).cfg kap ref20_Head) (retK ((bs E0 k).cfg kap ref20_Head) [] Tryz.f44 [] some) [.blk 2, .seqR (sel ref20_Head_bd [1, 1, 1, 1, 1, 1, 1, 1, 1])])
noncomputable def ref20_Head_L8 (kap : FuncId → List AV → Option AV) (k : Nat) (k8 : Nat) (s0 : ByteArray) (s4 : List AV) (s7 : Bool) (s16 : Int) (b2_0 : Int) (b2_1 : ByteArray) (b2_2 : ByteArray) (b2_3 : Int) (b2_4 : Int) (b2_5 : Int) (b2_6 : Int) (b2_7 : Int) (b2_8 : Int) (b2_9 : ByteArray) (b2_10 : ByteArray) (b2_11 : Int) (b2_12 : Int) (b5_0 : Int) (b5_1 : ByteArray) (b5_2 : ByteArray) (b5_3 : Int) (b5_4 : Int) (b5_5 : Int) (b5_6 : Int) (b5_7 : Int) (b5_8 : Int) (b5_9 : ByteArray) (b5_10 : ByteArray) (b5_11 : Int) (b5_12 : Int) (x15 : List AV) (x374 : List AV) (x377 : List AV) : Option AV :=
  loop (fun fr K => code ((bs E0 k).cfg kap ref20_Head) (sel ref20_Head_bd [1, 1, 1, 1, 1, 1, 1, 1, 1, 1, 1, 1, 1, 1, 0, 1, 0, 0]) fr K) (canon ((bs E0 k).cfg kap ref20_Head) (firstReg (sel ref20_Head_bd [1, 1, 1, 1, 1, 1, 1, 1, 1, 1, 1, 1, 1, 1, 0, 1, 0, 0]))) k8 (mkFr 186 [(0, (.str s0)), (2, (.loc 2 0)), (4, (.list 1 s4)), (5, (.loc 5 0)), (7, (.bool s7)), (15, (.own 15)), (16, (.int .i64 s16))] [(2, (.box [(.int .i64 b2_0), (.str b2_1), (.str b2_2), (.int .i64 b2_3), (.int .i64 b2_4), (.int .i64 b2_5), (.int .i64 b2_6), (.int .i64 b2_7), (.int .i64 b2_8), (.str b2_9), (.str b2_10), (.int .i64 b2_11), (.int .i64 b2_12), (.own 374)])), (5, (.box [(.int .i64 b5_0), (.str b5_1), (.str b5_2), (.int .i64 b5_3), (.int .i64 b5_4), (.int .i64 b5_5), (.int .i64 b5_6), (.int .i64 b5_7), (.int .i64 b5_8), (.str b5_9), (.str b5_10), (.int .i64 b5_11), (.int .i64 b5_12), (.own 377)])), (15, (.row 9 x15 false)), (374, (.row 29 x374 false)), (377, (.row 29 x377 false))]) (plug ((bs E0 k).cfg kap ref20_Head) (retK ((bs E0 k).cfg kap ref20_Head) [] Tryz.f44 [] some) [.blk 4, .seqR (sel ref20_Head_bd [1, 1, 1, 1, 1, 1, 1, 1, 1, 1, 1, 1, 1, 1, 1])])
noncomputable def ref20_Head_L9 (kap : FuncId → List AV → Option AV) (k : Nat) (k9 : Nat) (s0 : ByteArray) (s7 : Bool) (s19 : Int) (b2_0 : Int) (b2_1 : ByteArray) (b2_2 : ByteArray) (b2_3 : Int) (b2_4 : Int) (b2_5 : Int) (b2_6 : Int) (b2_7 : Int) (b2_8 : Int) (b2_9 : ByteArray) (b2_10 : ByteArray) (b2_11 : Int) (b2_12 : Int) (b5_0 : Int) (b5_1 : ByteArray) (b5_2 : ByteArray) (b5_3 : Int) (b5_4 : Int) (b5_5 : Int) (b5_6 : Int) (b5_7 : Int) (b5_8 : Int) (b5_9 : ByteArray) (b5_10 : ByteArray) (b5_11 : Int) (b5_12 : Int) (x15 : List AV) (x374 : List AV) (x377 : List AV) : Option AV :=
  loop (fun fr K => code ((bs E0 k).cfg kap ref20_Head) (sel ref20_Head_bd [1, 1, 1, 1, 1, 1, 1, 1, 1, 1, 1, 1, 1, 1, 1, 1, 0, 1, 0, 0]) fr K) (canon ((bs E0 k).cfg kap ref20_Head) (firstReg (sel ref20_Head_bd [1, 1, 1, 1, 1, 1, 1, 1, 1, 1, 1, 1, 1, 1, 1, 1, 0, 1, 0, 0]))) k9 (mkFr 186 [(0, (.str s0)), (2, (.loc 2 0)), (5, (.loc 5 0)), (7, (.bool s7)), (15, (.own 15)), (19, (.int .i64 s19))] [(2, (.box [(.int .i64 b2_0), (.str b2_1), (.str b2_2), (.int .i64 b2_3), (.int .i64 b2_4), (.int .i64 b2_5), (.int .i64 b2_6), (.int .i64 b2_7), (.int .i64 b2_8), (.str b2_9), (.str b2_10), (.int .i64 b2_11), (.int .i64 b2_12), (.own 374)])), (5, (.box [(.int .i64 b5_0), (.str b5_1), (.str b5_2), (.int .i64 b5_3), (.int .i64 b5_4), (.int .i64 b5_5), (.int .i64 b5_6), (.int .i64 b5_7), (.int .i64 b5_8), (.str b5_9), (.str b5_10), (.int .i64 b5_11), (.int .i64 b5_12), (.own 377)])), (15, (.row 9 x15 false)), (374, (.row 29 x374 false)), (377, (.row 29 x377 false))]) (plug ((bs E0 k).cfg kap ref20_Head) (retK ((bs E0 k).cfg kap ref20_Head) [] Tryz.f44 [] some) [.blk 6, .seqR (sel ref20_Head_bd [1, 1, 1, 1, 1, 1, 1, 1, 1, 1, 1, 1, 1, 1, 1, 1, 1])])
theorem ref20_Head_L0_s (kap : FuncId → List AV → Option AV) (k : Nat) (k0 : Nat) (s0 : ByteArray) (s4 : List AV) (s6 : Int) (b2_0 : Int) (b2_1 : ByteArray) (b2_2 : ByteArray) (b2_3 : Int) (b2_4 : Int) (b2_5 : Int) (b2_6 : Int) (b2_7 : Int) (b2_8 : Int) (b2_9 : ByteArray) (b2_10 : ByteArray) (b2_11 : Int) (b2_12 : Int) (b5_0 : Int) (b5_1 : ByteArray) (b5_2 : ByteArray) (b5_3 : Int) (b5_4 : Int) (b5_5 : Int) (b5_6 : Int) (b5_7 : Int) (b5_8 : Int) (b5_9 : ByteArray) (b5_10 : ByteArray) (b5_11 : Int) (b5_12 : Int) (x374 : List AV) (x377 : List AV) : ref20_Head_L0 kap k (k0 + 1) s0 s4 s6 b2_0 b2_1 b2_2 b2_3 b2_4 b2_5 b2_6 b2_7 b2_8 b2_9 b2_10 b2_11 b2_12 b5_0 b5_1 b5_2 b5_3 b5_4 b5_5 b5_6 b5_7 b5_8 b5_9 b5_10 b5_11 b5_12 x374 x377 =
  (bif (decide (s6 < (7 : Int))) then (callL 1 (kap ref20_Kinds []) fun vl4 => (bif ((decide ((0 : Int) ≤ s6)) && (decide (s6 < (((List.length vl4) : Nat) : Int)))) then ((vl4[(Int.toNat s6)]?).bind fun vy5 => (cellS (AV.cells vy5) 0 fun vs6 => (bif (decide ((0 : Int) < (((List.length s4) : Nat) : Int))) then ((s4[0]?).bind fun vy7 => (cellS (AV.cells vy7) 0 fun vs8 => (bif (decide (vs6 = vs8)) then (ref20_Head_L0 kap k k0 s0 s4 (IntKind.wrap .i64 (s6 + (1 : Int))) b2_0 b2_1 b2_2 b2_3 b2_4 b2_5 b2_6 b2_7 b2_8 b2_9 b2_10 b2_11 b2_12 (IntKind.wrap .i64 (s6 + (1 : Int))) b5_1 b5_2 b5_3 b5_4 b5_5 b5_6 b5_7 b5_8 b5_9 b5_10 b5_11 b5_12 x374 x377) else (ref20_Head_L0 kap k k0 s0 s4 (IntKind.wrap .i64 (s6 + (1 : Int))) b2_0 b2_1 b2_2 b2_3 b2_4 b2_5 b2_6 b2_7 b2_8 b2_9 b2_10 b2_11 b2_12 b5_0 b5_1 b5_2 b5_3 b5_4 b5_5 b5_6 b5_7 b5_8 b5_9 b5_10 b5_11 b5_12 x374 x377)))) else none))) else none)) else (ref20_Head_L1 kap k k s0 s4 (decide (b5_0 > (0 : Int))) b2_0 b2_1 b2_2 b2_3 b2_4 b2_5 b2_6 b2_7 b2_8 b2_9 b2_10 b2_11 b2_12 b5_0 b5_1 b5_2 b5_3 b5_4 b5_5 b5_6 b5_7 b5_8 b5_9 b5_10 b5_11 b5_12 x374 x377)) := by kernel_rfl
theorem ref20_Head_L1_s (kap : FuncId → List AV → Option AV) (k : Nat) (k1 : Nat) (s0 : ByteArray) (s4 : List AV) (s7 : Bool) (b2_0 : Int) (b2_1 : ByteArray) (b2_2 : ByteArray) (b2_3 : Int) (b2_4 : Int) (b2_5 : Int) (b2_6 : Int) (b2_7 : Int) (b2_8 : Int) (b2_9 : ByteArray) (b2_10 : ByteArray) (b2_11 : Int) (b2_12 : Int) (b5_0 : Int) (b5_1 : ByteArray) (b5_2 : ByteArray) (b5_3 : Int) (b5_4 : Int) (b5_5 : Int) (b5_6 : Int) (b5_7 : Int) (b5_8 : Int) (b5_9 : ByteArray) (b5_10 : ByteArray) (b5_11 : Int) (b5_12 : Int) (x374 : List AV) (x377 : List AV) : ref20_Head_L1 kap k (k1 + 1) s0 s4 s7 b2_0 b2_1 b2_2 b2_3 b2_4 b2_5 b2_6 b2_7 b2_8 b2_9 b2_10 b2_11 b2_12 b5_0 b5_1 b5_2 b5_3 b5_4 b5_5 b5_6 b5_7 b5_8 b5_9 b5_10 b5_11 b5_12 x374 x377 =
  (bif (decide ((1 : Int) < (((List.length s4) : Nat) : Int))) then ((s4[1]?).bind fun vy9 => (cellS (AV.cells vy9) 0 fun vs10 => (callT (kap ref04_Number [(.str vs10)]) fun vt12 => (tupI .i64 vt12 fun vn13 vt14 => (tupB vt14 fun vq15 vt16 => (atNil vt16 (bif s7 then (ref20_Head_L2 kap k k1 s0 s4 vq15 b2_0 b2_1 b2_2 b2_3 b2_4 b2_5 b2_6 b2_7 b2_8 b2_9 b2_10 b2_11 b2_12 b5_0 b5_1 b5_2 b5_3 b5_4 b5_5 b5_6 b5_7 b5_8 b5_9 b5_10 b5_11 b5_12 vn13 x374 x377) else (ref20_Head_L2 kap k k1 s0 s4 false b2_0 b2_1 b2_2 b2_3 b2_4 b2_5 b2_6 b2_7 b2_8 b2_9 b2_10 b2_11 b2_12 b5_0 b5_1 b5_2 b5_3 b5_4 b5_5 b5_6 b5_7 b5_8 b5_9 b5_10 b5_11 b5_12 vn13 x374 x377)))))))) else none) := by kernel_rfl
theorem ref20_Head_L2_s (kap : FuncId → List AV → Option AV) (k : Nat) (k2 : Nat) (s0 : ByteArray) (s4 : List AV) (s7 : Bool) (b2_0 : Int) (b2_1 : ByteArray) (b2_2 : ByteArray) (b2_3 : Int) (b2_4 : Int) (b2_5 : Int) (b2_6 : Int) (b2_7 : Int) (b2_8 : Int) (b2_9 : ByteArray) (b2_10 : ByteArray) (b2_11 : Int) (b2_12 : Int) (b5_0 : Int) (b5_1 : ByteArray) (b5_2 : ByteArray) (b5_3 : Int) (b5_4 : Int) (b5_5 : Int) (b5_6 : Int) (b5_7 : Int) (b5_8 : Int) (b5_9 : ByteArray) (b5_10 : ByteArray) (b5_11 : Int) (b5_12 : Int) (b8_0 : Int) (x374 : List AV) (x377 : List AV) : ref20_Head_L2 kap k (k2 + 1) s0 s4 s7 b2_0 b2_1 b2_2 b2_3 b2_4 b2_5 b2_6 b2_7 b2_8 b2_9 b2_10 b2_11 b2_12 b5_0 b5_1 b5_2 b5_3 b5_4 b5_5 b5_6 b5_7 b5_8 b5_9 b5_10 b5_11 b5_12 b8_0 x374 x377 =
  (bif (decide ((2 : Int) < (((List.length s4) : Nat) : Int))) then ((s4[2]?).bind fun vy17 => (cellS (AV.cells vy17) 0 fun vs18 => (callT (kap ref04_Number [(.str vs18)]) fun vt20 => (tupI .i64 vt20 fun vn21 vt22 => (tupB vt22 fun vq23 vt24 => (atNil vt24 (bif s7 then (ref20_Head_L3 kap k k2 s0 s4 vq23 b2_0 b2_1 b2_2 b2_3 b2_4 b2_5 b2_6 b2_7 b2_8 b2_9 b2_10 b2_11 b2_12 b5_0 b5_1 b5_2 b5_3 b5_4 b5_5 b5_6 b5_7 b5_8 b5_9 b5_10 b5_11 b5_12 b8_0 vn21 x374 x377) else (ref20_Head_L3 kap k k2 s0 s4 false b2_0 b2_1 b2_2 b2_3 b2_4 b2_5 b2_6 b2_7 b2_8 b2_9 b2_10 b2_11 b2_12 b5_0 b5_1 b5_2 b5_3 b5_4 b5_5 b5_6 b5_7 b5_8 b5_9 b5_10 b5_11 b5_12 b8_0 vn21 x374 x377)))))))) else none) := by kernel_rfl
theorem ref20_Head_L3_s (kap : FuncId → List AV → Option AV) (k : Nat) (k3 : Nat) (s0 : ByteArray) (s4 : List AV) (s7 : Bool) (b2_0 : Int) (b2_1 : ByteArray) (b2_2 : ByteArray) (b2_3 : Int) (b2_4 : Int) (b2_5 : Int) (b2_6 : Int) (b2_7 : Int) (b2_8 : Int) (b2_9 : ByteArray) (b2_10 : ByteArray) (b2_11 : Int) (b2_12 : Int) (b5_0 : Int) (b5_1 : ByteArray) (b5_2 : ByteArray) (b5_3 : Int) (b5_4 : Int) (b5_5 : Int) (b5_6 : Int) (b5_7 : Int) (b5_8 : Int) (b5_9 : ByteArray) (b5_10 : ByteArray) (b5_11 : Int) (b5_12 : Int) (b8_0 : Int) (b8_1 : Int) (x374 : List AV) (x377 : List AV) : ref20_Head_L3 kap k (k3 + 1) s0 s4 s7 b2_0 b2_1 b2_2 b2_3 b2_4 b2_5 b2_6 b2_7 b2_8 b2_9 b2_10 b2_11 b2_12 b5_0 b5_1 b5_2 b5_3 b5_4 b5_5 b5_6 b5_7 b5_8 b5_9 b5_10 b5_11 b5_12 b8_0 b8_1 x374 x377 =
  (bif (decide ((3 : Int) < (((List.length s4) : Nat) : Int))) then ((s4[3]?).bind fun vy25 => (cellS (AV.cells vy25) 0 fun vs26 => (callT (kap ref04_Number [(.str vs26)]) fun vt28 => (tupI .i64 vt28 fun vn29 vt30 => (tupB vt30 fun vq31 vt32 => (atNil vt32 (bif s7 then (ref20_Head_L4 kap k k3 s0 s4 vq31 b2_0 b2_1 b2_2 b2_3 b2_4 b2_5 b2_6 b2_7 b2_8 b2_9 b2_10 b2_11 b2_12 b5_0 b5_1 b5_2 b5_3 b5_4 b5_5 b5_6 b5_7 b5_8 b5_9 b5_10 b5_11 b5_12 b8_0 b8_1 vn29 x374 x377) else (ref20_Head_L4 kap k k3 s0 s4 false b2_0 b2_1 b2_2 b2_3 b2_4 b2_5 b2_6 b2_7 b2_8 b2_9 b2_10 b2_11 b2_12 b5_0 b5_1 b5_2 b5_3 b5_4 b5_5 b5_6 b5_7 b5_8 b5_9 b5_10 b5_11 b5_12 b8_0 b8_1 vn29 x374 x377)))))))) else none) := by kernel_rfl
theorem ref20_Head_L4_s (kap : FuncId → List AV → Option AV) (k : Nat) (k4 : Nat) (s0 : ByteArray) (s4 : List AV) (s7 : Bool) (b2_0 : Int) (b2_1 : ByteArray) (b2_2 : ByteArray) (b2_3 : Int) (b2_4 : Int) (b2_5 : Int) (b2_6 : Int) (b2_7 : Int) (b2_8 : Int) (b2_9 : ByteArray) (b2_10 : ByteArray) (b2_11 : Int) (b2_12 : Int) (b5_0 : Int) (b5_1 : ByteArray) (b5_2 : ByteArray) (b5_3 : Int) (b5_4 : Int) (b5_5 : Int) (b5_6 : Int) (b5_7 : Int) (b5_8 : Int) (b5_9 : ByteArray) (b5_10 : ByteArray) (b5_11 : Int) (b5_12 : Int) (b8_0 : Int) (b8_1 : Int) (b8_2 : Int) (x374 : List AV) (x377 : List AV) : ref20_Head_L4 kap k (k4 + 1) s0 s4 s7 b2_0 b2_1 b2_2 b2_3 b2_4 b2_5 b2_6 b2_7 b2_8 b2_9 b2_10 b2_11 b2_12 b5_0 b5_1 b5_2 b5_3 b5_4 b5_5 b5_6 b5_7 b5_8 b5_9 b5_10 b5_11 b5_12 b8_0 b8_1 b8_2 x374 x377 =
  (bif (decide ((4 : Int) < (((List.length s4) : Nat) : Int))) then ((s4[4]?).bind fun vy33 => (cellS (AV.cells vy33) 0 fun vs34 => (callT (kap ref04_Number [(.str vs34)]) fun vt36 => (tupI .i64 vt36 fun vn37 vt38 => (tupB vt38 fun vq39 vt40 => (atNil vt40 (bif s7 then (ref20_Head_L5 kap k k4 s0 s4 vq39 b2_0 b2_1 b2_2 b2_3 b2_4 b2_5 b2_6 b2_7 b2_8 b2_9 b2_10 b2_11 b2_12 b5_0 b5_1 b5_2 b5_3 b5_4 b5_5 b5_6 b5_7 b5_8 b5_9 b5_10 b5_11 b5_12 b8_0 b8_1 b8_2 vn37 x374 x377) else (ref20_Head_L5 kap k k4 s0 s4 false b2_0 b2_1 b2_2 b2_3 b2_4 b2_5 b2_6 b2_7 b2_8 b2_9 b2_10 b2_11 b2_12 b5_0 b5_1 b5_2 b5_3 b5_4 b5_5 b5_6 b5_7 b5_8 b5_9 b5_10 b5_11 b5_12 b8_0 b8_1 b8_2 vn37 x374 x377)))))))) else none) := by kernel_rfl
theorem ref20_Head_L5_s (kap : FuncId → List AV → Option AV) (k : Nat) (k5 : Nat) (s0 : ByteArray) (s4 : List AV) (s7 : Bool) (b2_0 : Int) (b2_1 : ByteArray) (b2_2 : ByteArray) (b2_3 : Int) (b2_4 : Int) (b2_5 : Int) (b2_6 : Int) (b2_7 : Int) (b2_8 : Int) (b2_9 : ByteArray) (b2_10 : ByteArray) (b2_11 : Int) (b2_12 : Int) (b5_0 : Int) (b5_1 : ByteArray) (b5_2 : ByteArray) (b5_3 : Int) (b5_4 : Int) (b5_5 : Int) (b5_6 : Int) (b5_7 : Int) (b5_8 : Int) (b5_9 : ByteArray) (b5_10 : ByteArray) (b5_11 : Int) (b5_12 : Int) (b8_0 : Int) (b8_1 : Int) (b8_2 : Int) (b8_3 : Int) (x374 : List AV) (x377 : List AV) : ref20_Head_L5 kap k (k5 + 1) s0 s4 s7 b2_0 b2_1 b2_2 b2_3 b2_4 b2_5 b2_6 b2_7 b2_8 b2_9 b2_10 b2_11 b2_12 b5_0 b5_1 b5_2 b5_3 b5_4 b5_5 b5_6 b5_7 b5_8 b5_9 b5_10 b5_11 b5_12 b8_0 b8_1 b8_2 b8_3 x374 x377 =
  (bif (decide ((8 : Int) < (((List.length s4) : Nat) : Int))) then ((s4[8]?).bind fun vy41 => (cellS (AV.cells vy41) 0 fun vs42 => (callT (kap ref04_Number [(.str vs42)]) fun vt44 => (tupI .i64 vt44 fun vn45 vt46 => (tupB vt46 fun vq47 vt48 => (atNil vt48 (bif s7 then (ref20_Head_L6 kap k k5 s0 s4 vq47 b2_0 b2_1 b2_2 b2_3 b2_4 b2_5 b2_6 b2_7 b2_8 b2_9 b2_10 b2_11 b2_12 b5_0 b5_1 b5_2 b5_3 b5_4 b5_5 b5_6 b5_7 b5_8 b5_9 b5_10 b5_11 b5_12 b8_0 b8_1 b8_2 b8_3 vn45 x374 x377) else (ref20_Head_L6 kap k k5 s0 s4 false b2_0 b2_1 b2_2 b2_3 b2_4 b2_5 b2_6 b2_7 b2_8 b2_9 b2_10 b2_11 b2_12 b5_0 b5_1 b5_2 b5_3 b5_4 b5_5 b5_6 b5_7 b5_8 b5_9 b5_10 b5_11 b5_12 b8_0 b8_1 b8_2 b8_3 vn45 x374 x377)))))))) else none) := by kernel_rfl
theorem ref20_Head_L6_s (kap : FuncId → List AV → Option AV) (k : Nat) (k6 : Nat) (s0 : ByteArray) (s4 : List AV) (s7 : Bool) (b2_0 : Int) (b2_1 : ByteArray) (b2_2 : ByteArray) (b2_3 : Int) (b2_4 : Int) (b2_5 : Int) (b2_6 : Int) (b2_7 : Int) (b2_8 : Int) (b2_9 : ByteArray) (b2_10 : ByteArray) (b2_11 : Int) (b2_12 : Int) (b5_0 : Int) (b5_1 : ByteArray) (b5_2 : ByteArray) (b5_3 : Int) (b5_4 : Int) (b5_5 : Int) (b5_6 : Int) (b5_7 : Int) (b5_8 : Int) (b5_9 : ByteArray) (b5_10 : ByteArray) (b5_11 : Int) (b5_12 : Int) (b8_0 : Int) (b8_1 : Int) (b8_2 : Int) (b8_3 : Int) (b8_4 : Int) (x374 : List AV) (x377 : List AV) : ref20_Head_L6 kap k (k6 + 1) s0 s4 s7 b2_0 b2_1 b2_2 b2_3 b2_4 b2_5 b2_6 b2_7 b2_8 b2_9 b2_10 b2_11 b2_12 b5_0 b5_1 b5_2 b5_3 b5_4 b5_5 b5_6 b5_7 b5_8 b5_9 b5_10 b5_11 b5_12 b8_0 b8_1 b8_2 b8_3 b8_4 x374 x377 =
  (bif (decide ((9 : Int) < (((List.length s4) : Nat) : Int))) then ((s4[9]?).bind fun vy49 => (cellS (AV.cells vy49) 0 fun vs50 => (callT (kap ref04_Number [(.str vs50)]) fun vt52 => (tupI .i64 vt52 fun vn53 vt54 => (tupB vt54 fun vq55 vt56 => (atNil vt56 (bif s7 then (ref20_Head_L7 kap k k6 s0 s4 vq55 b2_0 b2_1 b2_2 b2_3 b2_4 b2_5 b2_6 b2_7 b2_8 b2_9 b2_10 b2_11 b2_12 b5_0 b5_1 b5_2 b5_3 b5_4 b5_5 b5_6 b5_7 b5_8 b5_9 b5_10 b5_11 b5_12 b8_0 b8_1 b8_2 b8_3 b8_4 vn53 x374 x377) else (ref20_Head_L7 kap k k6 s0 s4 false b2_0 b2_1 b2_2 b2_3 b2_4 b2_5 b2_6 b2_7 b2_8 b2_9 b2_10 b2_11 b2_12 b5_0 b5_1 b5_2 b5_3 b5_4 b5_5 b5_6 b5_7 b5_8 b5_9 b5_10 b5_11 b5_12 b8_0 b8_1 b8_2 b8_3 b8_4 vn53 x374 x377)))))))) else none) := by kernel_rfl
theorem ref20_Head_L7_s (kap : FuncId → List AV → Option AV) (k : Nat) (k7 : Nat) (s0 : ByteArray) (s4 : List AV) (s7 : Bool) (b2_0 : Int) (b2_1 : ByteArray) (b2_2 : ByteArray) (b2_3 : Int) (b2_4 : Int) (b2_5 : Int) (b2_6 : Int) (b2_7 : Int) (b2_8 : Int) (b2_9 : ByteArray) (b2_10 : ByteArray) (b2_11 : Int) (b2_12 : Int) (b5_0 : Int) (b5_1 : ByteArray) (b5_2 : ByteArray) (b5_3 : Int) (b5_4 : Int) (b5_5 : Int) (b5_6 : Int) (b5_7 : Int) (b5_8 : Int) (b5_9 : ByteArray) (b5_10 : ByteArray) (b5_11 : Int) (b5_12 : Int) (b8_0 : Int) (b8_1 : Int) (b8_2 : Int) (b8_3 : Int) (b8_4 : Int) (b8_5 : Int) (x374 : List AV) (x377 : List AV) : ref20_Head_L7 kap k (k7 + 1) s0 s4 s7 b2_0 b2_1 b2_2 b2_3 b2_4 b2_5 b2_6 b2_7 b2_8 b2_9 b2_10 b2_11 b2_12 b5_0 b5_1 b5_2 b5_3 b5_4 b5_5 b5_6 b5_7 b5_8 b5_9 b5_10 b5_11 b5_12 b8_0 b8_1 b8_2 b8_3 b8_4 b8_5 x374 x377 =
  (bif (decide ((5 : Int) < (((List.length s4) : Nat) : Int))) then ((s4[5]?).bind fun vy57 => (cellS (AV.cells vy57) 0 fun vs58 => (callT (kap ref04_Time [(.str vs58)]) fun vt60 => (tupG 2 vt60 fun vg61 vt62 => (cellI .i64 vg61 0 fun vn63 => (cellI .i64 vg61 1 fun vn64 => (tupB vt62 fun vq65 vt66 => (atNil vt66 (bif s7 then (ref20_Head_L8 kap k k s0 s4 vq65 (6 : Int) b2_0 b2_1 b2_2 b2_3 b2_4 b2_5 b2_6 b2_7 b2_8 b2_9 b2_10 b2_11 b2_12 b5_0 b5_1 b5_2 b8_0 b8_1 b8_2 b8_3 vn63 vn64 b5_9 b5_10 b8_4 b8_5 [] x374 x377) else (ref20_Head_L8 kap k k s0 s4 false (6 : Int) b2_0 b2_1 b2_2 b2_3 b2_4 b2_5 b2_6 b2_7 b2_8 b2_9 b2_10 b2_11 b2_12 b5_0 b5_1 b5_2 b8_0 b8_1 b8_2 b8_3 vn63 vn64 b5_9 b5_10 b8_4 b8_5 [] x374 x377)))))))))) else none) := by kernel_rfl
theorem ref20_Head_L8_s (kap : FuncId → List AV → Option AV) (k : Nat) (k8 : Nat) (s0 : ByteArray) (s4 : List AV) (s7 : Bool) (s16 : Int) (b2_0 : Int) (b2_1 : ByteArray) (b2_2 : ByteArray) (b2_3 : Int) (b2_4 : Int) (b2_5 : Int) (b2_6 : Int) (b2_7 : Int) (b2_8 : Int) (b2_9 : ByteArray) (b2_10 : ByteArray) (b2_11 : Int) (b2_12 : Int) (b5_0 : Int) (b5_1 : ByteArray) (b5_2 : ByteArray) (b5_3 : Int) (b5_4 : Int) (b5_5 : Int) (b5_6 : Int) (b5_7 : Int) (b5_8 : Int) (b5_9 : ByteArray) (b5_10 : ByteArray) (b5_11 : Int) (b5_12 : Int) (x15 : List AV) (x374 : List AV) (x377 : List AV) : ref20_Head_L8 kap k (k8 + 1) s0 s4 s7 s16 b2_0 b2_1 b2_2 b2_3 b2_4 b2_5 b2_6 b2_7 b2_8 b2_9 b2_10 b2_11 b2_12 b5_0 b5_1 b5_2 b5_3 b5_4 b5_5 b5_6 b5_7 b5_8 b5_9 b5_10 b5_11 b5_12 x15 x374 x377 =
  (bif (decide (s16 < (((List.length s4) : Nat) : Int))) then (bif (decide (s16 = (8 : Int))) then (ref20_Head_L8 kap k k8 s0 s4 s7 (IntKind.wrap .i64 (s16 + (1 : Int))) b2_0 b2_1 b2_2 b2_3 b2_4 b2_5 b2_6 b2_7 b2_8 b2_9 b2_10 b2_11 b2_12 b5_0 b5_1 b5_2 b5_3 b5_4 b5_5 b5_6 b5_7 b5_8 b5_9 b5_10 b5_11 b5_12 x15 x374 x377) else (bif (decide (s16 = (9 : Int))) then (ref20_Head_L8 kap k k8 s0 s4 s7 (IntKind.wrap .i64 (s16 + (1 : Int))) b2_0 b2_1 b2_2 b2_3 b2_4 b2_5 b2_6 b2_7 b2_8 b2_9 b2_10 b2_11 b2_12 b5_0 b5_1 b5_2 b5_3 b5_4 b5_5 b5_6 b5_7 b5_8 b5_9 b5_10 b5_11 b5_12 x15 x374 x377) else (bif ((decide ((0 : Int) ≤ s16)) && (decide (s16 < (((List.length s4) : Nat) : Int)))) then ((s4[(Int.toNat s16)]?).bind fun vy67 => (cellS (AV.cells vy67) 0 fun vs68 => (callT (kap ref20_text [(.str vs68)]) fun vt70 => (tupS vt70 fun vs71 vt72 => (tupB vt72 fun vq73 vt74 => (atNil vt74 (bif (decide (((List.length x15) + 1) * 16 ≤ 140737488355328) && decide (((List.length x15) + 1) ≤ 9223372036854775807)) then (bif s7 then (ref20_Head_L8 kap k k8 s0 s4 vq73 (IntKind.wrap .i64 (s16 + (1 : Int))) b2_0 b2_1 b2_2 b2_3 b2_4 b2_5 b2_6 b2_7 b2_8 b2_9 b2_10 b2_11 b2_12 b5_0 b5_1 b5_2 b5_3 b5_4 b5_5 b5_6 b5_7 b5_8 b5_9 b5_10 b5_11 b5_12 (x15 ++ [(.str vs71)]) x374 x377) else (ref20_Head_L8 kap k k8 s0 s4 false (IntKind.wrap .i64 (s16 + (1 : Int))) b2_0 b2_1 b2_2 b2_3 b2_4 b2_5 b2_6 b2_7 b2_8 b2_9 b2_10 b2_11 b2_12 b5_0 b5_1 b5_2 b5_3 b5_4 b5_5 b5_6 b5_7 b5_8 b5_9 b5_10 b5_11 b5_12 (x15 ++ [(.str vs71)]) x374 x377)) else none))))))) else none))) else (bif (decide ((0 : Int) < (((List.length x15) : Nat) : Int))) then ((x15[0]?).bind fun vy75 => (cellS (AV.cells vy75) 0 fun vs76 => (bif (decide ((1 : Int) < (((List.length x15) : Nat) : Int))) then ((x15[1]?).bind fun vy77 => (cellS (AV.cells vy77) 0 fun vs78 => (bif (decide ((2 : Int) < (((List.length x15) : Nat) : Int))) then ((x15[2]?).bind fun vy79 => (cellS (AV.cells vy79) 0 fun vs80 => (bif (decide ((3 : Int) < (((List.length x15) : Nat) : Int))) then ((x15[3]?).bind fun vy81 => (cellS (AV.cells vy81) 0 fun vs82 => (ref20_Head_L9 kap k k s0 s7 (4 : Int) b2_0 b2_1 b2_2 b2_3 b2_4 b2_5 b2_6 b2_7 b2_8 b2_9 b2_10 b2_11 b2_12 b5_0 vs80 vs82 b5_3 b5_4 b5_5 b5_6 b5_7 b5_8 vs76 vs78 b5_11 b5_12 x15 x374 x377))) else none))) else none))) else none))) else none)) := by kernel_rfl
theorem ref20_Head_L9_s (kap : FuncId → List AV → Option AV) (k : Nat) (k9 : Nat) (s0 : ByteArray) (s7 : Bool) (s19 : Int) (b2_0 : Int) (b2_1 : ByteArray) (b2_2 : ByteArray) (b2_3 : Int) (b2_4 : Int) (b2_5 : Int) (b2_6 : Int) (b2_7 : Int) (b2_8 : Int) (b2_9 : ByteArray) (b2_10 : ByteArray) (b2_11 : Int) (b2_12 : Int) (b5_0 : Int) (b5_1 : ByteArray) (b5_2 : ByteArray) (b5_3 : Int) (b5_4 : Int) (b5_5 : Int) (b5_6 : Int) (b5_7 : Int) (b5_8 : Int) (b5_9 : ByteArray) (b5_10 : ByteArray) (b5_11 : Int) (b5_12 : Int) (x15 : List AV) (x374 : List AV) (x377 : List AV) : ref20_Head_L9 kap k (k9 + 1) s0 s7 s19 b2_0 b2_1 b2_2 b2_3 b2_4 b2_5 b2_6 b2_7 b2_8 b2_9 b2_10 b2_11 b2_12 b5_0 b5_1 b5_2 b5_3 b5_4 b5_5 b5_6 b5_7 b5_8 b5_9 b5_10 b5_11 b5_12 x15 x374 x377 =
  (bif (decide ((IntKind.wrap .i64 (s19 + (1 : Int))) < (((List.length x15) : Nat) : Int))) then (bif ((decide ((0 : Int) ≤ s19)) && (decide (s19 < (((List.length x15) : Nat) : Int)))) then ((x15[(Int.toNat s19)]?).bind fun vy83 => (cellS (AV.cells vy83) 0 fun vs84 => (bif ((decide ((0 : Int) ≤ (IntKind.wrap .i64 (s19 + (1 : Int))))) && (decide ((IntKind.wrap .i64 (s19 + (1 : Int))) < (((List.length x15) : Nat) : Int)))) then ((x15[(Int.toNat (IntKind.wrap .i64 (s19 + (1 : Int))))]?).bind fun vy85 => (cellS (AV.cells vy85) 0 fun vs86 => (bif (decide (((List.length x377) + 1) * 32 ≤ 140737488355328) && decide (((List.length x377) + 1) ≤ 9223372036854775807)) then (ref20_Head_L9 kap k k9 s0 s7 (IntKind.wrap .i64 (s19 + (2 : Int))) b2_0 b2_1 b2_2 b2_3 b2_4 b2_5 b2_6 b2_7 b2_8 b2_9 b2_10 b2_11 b2_12 b5_0 b5_1 b5_2 b5_3 b5_4 b5_5 b5_6 b5_7 b5_8 b5_9 b5_10 b5_11 b5_12 x15 x374 (x377 ++ [(.agg [(.str vs84), (.str vs86)])])) else none))) else none))) else none) else (bif (!s7) then (some (.tup [(.agg [(.int .i64 (0 : Int)), (.str (str [])), (.str (str [])), (.int .i64 (0 : Int)), (.int .i64 (0 : Int)), (.int .i64 (0 : Int)), (.int .i64 (0 : Int)), (.int .i64 (0 : Int)), (.int .i64 (0 : Int)), (.str (str [])), (.str (str [])), (.int .i64 (0 : Int)), (.int .i64 (0 : Int)), (.list 2 [])]), (.bool false)])) else (callI .i64 (kap ref09_Wrong [(.agg [(.int .i64 b5_0), (.str b5_1), (.str b5_2), (.int .i64 b5_3), (.int .i64 b5_4), (.int .i64 b5_5), (.int .i64 b5_6), (.int .i64 b5_7), (.int .i64 b5_8), (.str b5_9), (.str b5_10), (.int .i64 b5_11), (.int .i64 b5_12), (.list 2 x377)])]) fun vn88 => (bif (!(decide (vn88 = (0 : Int)))) then (some (.tup [(.agg [(.int .i64 (0 : Int)), (.str (str [])), (.str (str [])), (.int .i64 (0 : Int)), (.int .i64 (0 : Int)), (.int .i64 (0 : Int)), (.int .i64 (0 : Int)), (.int .i64 (0 : Int)), (.int .i64 (0 : Int)), (.str (str [])), (.str (str [])), (.int .i64 (0 : Int)), (.int .i64 (0 : Int)), (.list 2 [])]), (.bool false)])) else (callS (kap ref20_Line [(.agg [(.int .i64 b5_0), (.str b5_1), (.str b5_2), (.int .i64 b5_3), (.int .i64 b5_4), (.int .i64 b5_5), (.int .i64 b5_6), (.int .i64 b5_7), (.int .i64 b5_8), (.str b5_9), (.str b5_10), (.int .i64 b5_11), (.int .i64 b5_12), (.list 2 x377)])]) fun vs90 => (bif (!(decide (vs90 = s0))) then (some (.tup [(.agg [(.int .i64 (0 : Int)), (.str (str [])), (.str (str [])), (.int .i64 (0 : Int)), (.int .i64 (0 : Int)), (.int .i64 (0 : Int)), (.int .i64 (0 : Int)), (.int .i64 (0 : Int)), (.int .i64 (0 : Int)), (.str (str [])), (.str (str [])), (.int .i64 (0 : Int)), (.int .i64 (0 : Int)), (.list 2 [])]), (.bool false)])) else (some (.tup [(.agg [(.int .i64 b5_0), (.str b5_1), (.str b5_2), (.int .i64 b5_3), (.int .i64 b5_4), (.int .i64 b5_5), (.int .i64 b5_6), (.int .i64 b5_7), (.int .i64 b5_8), (.str b5_9), (.str b5_10), (.int .i64 b5_11), (.int .i64 b5_12), (.list 2 x377)]), (.bool true)])))))))) := by kernel_rfl
theorem ref20_Head_eq {E : Ext} [Core E] (k n : Nat) (a0 : ByteArray) : kp E k (n + 1) ref20_Head [(.str a0)] =
  (callL 1 (kp E k n ref20_Words [(.str a0)]) fun vl2 => (bif (decide ((((List.length vl2) : Nat) : Int) < (12 : Int))) then (some (.tup [(.agg [(.int .i64 (0 : Int)), (.str (str [])), (.str (str [])), (.int .i64 (0 : Int)), (.int .i64 (0 : Int)), (.int .i64 (0 : Int)), (.int .i64 (0 : Int)), (.int .i64 (0 : Int)), (.int .i64 (0 : Int)), (.str (str [])), (.str (str [])), (.int .i64 (0 : Int)), (.int .i64 (0 : Int)), (.list 2 [])]), (.bool false)])) else (bif (decide ((Int.tmod (((List.length vl2) : Nat) : Int) (2 : Int)) = (1 : Int))) then (some (.tup [(.agg [(.int .i64 (0 : Int)), (.str (str [])), (.str (str [])), (.int .i64 (0 : Int)), (.int .i64 (0 : Int)), (.int .i64 (0 : Int)), (.int .i64 (0 : Int)), (.int .i64 (0 : Int)), (.int .i64 (0 : Int)), (.str (str [])), (.str (str [])), (.int .i64 (0 : Int)), (.int .i64 (0 : Int)), (.list 2 [])]), (.bool false)])) else (ref20_Head_L0 (kp E k n) k k a0 vl2 (0 : Int) (0 : Int) (str []) (str []) (0 : Int) (0 : Int) (0 : Int) (0 : Int) (0 : Int) (0 : Int) (str []) (str []) (0 : Int) (0 : Int) (0 : Int) (str []) (str []) (0 : Int) (0 : Int) (0 : Int) (0 : Int) (0 : Int) (0 : Int) (str []) (str []) (0 : Int) (0 : Int) [] [])))) := (kp_at (by kernel_rfl)).trans (by kernel_rfl)
end Go.Proofs.YtogfcfgfkggmlaaGreatDoor.Eng.U


/- Words and heads by the definition (ref20), in plain words. Written by gen/u20r.py. -/
set_option linter.unusedVariables false
set_option linter.unusedSectionVars false
set_option linter.unusedSimpArgs false
namespace Go.Proofs.YtogfcfgfkggmlaaGreatDoor.Eng.U
open Go Go.Proofs Go.Proofs.YtogfcfgfkggmlaaGreatDoor.Eng Go.Proofs.YtogfcfgfkggmlaaGreatDoor.P04
variable {E : Ext} [Core E] [HasNum E] {k n k0 kk : Nat}

def consW (cur : Tx) (ws : List Tx) : List Tx := (cur ++ ws.headD []) :: ws.tail
theorem words_loop (kap : FuncId → List AV → Option AV) (all : Tx) (hall : all.length ≤ 100000000) : ∀ (suf cur pre : Tx) (acc : List Tx) (k0 : Nat), pre ++ cur ++ suf = all → suf.length + 2 ≤ k0 → acc.length + suf.length ≤ 200000000 →
    ref20_Words_L0 kap k k0 (str all) ((pre.length : Nat) : Int) (((pre.length + cur.length : Nat)) : Int) (svs acc) = some (.list 1 (svs (acc ++ consW cur (splitL 32 suf))))
  | [], cur, pre, acc, k0 + 2, he, h, ha => by
    rw [List.append_nil] at he
    have hl : all.length = pre.length + cur.length := by rw [← he, List.length_append]
    rw [ref20_Words_L0_s, str_size, bif_t (by omega), bif_t (by omega), hl, inbE (by omega), cond_true, Int.toNat_natCast, Int.toNat_natCast, inbE (by omega), cond_true, svs_len, room16 (by simp only [List.length_nil] at ha; omega), cond_true, str_ext]
    have e : List.drop pre.length (List.take (pre.length + cur.length) all) = cur := by
      rw [← hl, List.take_length, ← he, List.drop_left]
    rw [e, svs_snoc, wrap1 (by omega), ref20_Words_L0_s, str_size, bif_f (by omega)]
    show some (AV.list 1 (svs (acc ++ [cur]))) = some (AV.list 1 (svs (acc ++ consW cur [[]])))
    unfold consW
    simp
  | c :: suf, cur, pre, acc, k0 + 1, he, h, ha => by
    have hl : all.length = pre.length + cur.length + suf.length + 1 := by rw [← he]; simp only [List.length_append, List.length_cons]; omega
    simp only [List.length_cons] at h ha
    have hb : byteAt (str all) (pre.length + cur.length) = ((c.toNat : Nat) : Int) := by
      have := mid_byte (pre ++ cur) suf c
      rw [List.length_append] at this
      rw [str_byte, ← he, this]
    have h32 : decide (((c.toNat : Nat) : Int) = 32) = decide (c = 32) := byte_is c 32 (by omega)
    rw [ref20_Words_L0_s, str_size, bif_t (by omega), bif_f (by omega), inb (by omega), cond_true, Int.toNat_natCast, hb, h32]
    by_cases hc : c = 32
    · subst hc
      have ih := words_loop kap all hall suf [] (pre ++ cur ++ [32]) (acc ++ [cur]) k0 (by rw [List.append_nil, ← he]; simp) (by omega) (by rw [List.length_append, List.length_singleton]; omega)
      rw [decide_eq_true rfl, cond_true, inbE (by omega), cond_true, Int.toNat_natCast, inbE (by omega), cond_true, svs_len, room16 (by omega), cond_true, str_ext]
      have e : List.drop pre.length (List.take (pre.length + cur.length) all) = cur := by
        rw [← he, ← List.length_append, List.append_assoc, ← List.append_assoc, List.take_left, List.drop_left]
      have e2 : (pre ++ cur ++ [32]).length = pre.length + cur.length + 1 := by simp only [List.length_append, List.length_cons, List.length_nil]
      rw [e, svs_snoc, wrap1 (by omega)]
      rw [e2, List.length_nil, Nat.add_zero] at ih
      refine ih.trans ?_
      rw [split_cons, if_pos rfl]
      have hne := split_len 32 suf
      cases hs : splitL 32 suf with
      | nil => rw [hs] at hne; simp at hne
      | cons w ws => simp [consW]
    · have ih := words_loop kap all hall suf (cur ++ [c]) pre acc k0 (by rw [← he]; simp) (by omega) (by omega)
      rw [decide_eq_false hc, cond_false, wrap1 (by omega)]
      rw [List.length_append, List.length_singleton, ← Nat.add_assoc] at ih
      refine ih.trans ?_
      rw [split_cons, if_neg hc]
      simp [consW]
theorem words_k (s : Tx) (hs : s.length ≤ 100000000) (hk : 200000000 < k) : kp E k (n + 1) ref20_Words [.str (str s)] = some (.list 1 (svs (splitL 32 s))) := by
  have := words_loop (k := k) (kp E k n) s hs s [] [] [] k rfl (by omega) (by simp; omega)
  rw [ref20_Words_eq]
  refine this.trans ?_
  have hne := split_len 32 s
  cases hs : splitL 32 s with
  | nil => rw [hs] at hne; simp at hne
  | cons w ws => simp [consW]
theorem W_at (i : Nat) (ws : List Tx) (h : i < ws.length) : ws[i]? = some (W i ws) := by
  unfold W
  rw [tl_drop, List.getElem?_eq_getElem h, ← List.getElem_cons_drop h]
  rfl
theorem at_W {β : Type} (i : Nat) (ws : List Tx) (h : i < ws.length) (K : ByteArray → Option β) : (((svs ws)[i]?).bind fun y => cellS (AV.cells y) 0 K) = K (str (W i ws)) := by
  unfold svs
  rw [List.getElem?_map, W_at i ws h]
  rfl
theorem W_mem {M : Nat} {ws : List Tx} (hw : ∀ w ∈ ws, w.length ≤ M) (i : Nat) : (W i ws).length ≤ M := head_mem _ _ (tl_mem hw i)
theorem refNum_ans (w : Tx) (hw : w.length ≤ 10000000) (hk : 100000000 < k) : kp E k (n + 3) ref04_Number [.str (str w)] = some (.tup [.int .i64 (numW w), .bool (numO w).isSome]) := by
  rw [refNumber_k w (by omega) (by omega)]
  unfold numW numO
  cases natOk w && decide (valA 0 w ≤ 9223372036854775807) <;> rfl
theorem refTime_ans (w : Tx) (hw : w.length ≤ 10000000) (hk : 100000000 < k) : kp E k (n + 3) ref04_Time [.str (str w)] = some (.tup [.agg [.int .i64 (timeV w).1, .int .i64 (timeV w).2], .bool (timeL w).isSome]) := by
  rw [refTime_k w (by omega) (by omega) (by omega)]
  unfold timeV
  cases timeL w <;> rfl
def textR (w : Tx) : Tx := (textO w).getD []
theorem refText_ans (w : Tx) (hw : w.length ≤ 10000000) (hk : 100000000 < k) : kp E k (n + 3) ref20_text [.str (str w)] = some (.tup [.str (str (textR w)), .bool (textO w).isSome]) := by
  rw [ref20_text_eq, str_dec]
  cases w with
  | nil => rfl
  | cons c w =>
    rw [decide_eq_false (by simp), cond_false, str_size, List.length_cons, bif_t (by omega), str_byte]
    have h61 : decide (((c.toNat : Nat) : Int) = 61) = decide (c = 61) := byte_is c 61 (by omega)
    have e0 : (((c :: w).getD 0 0).toNat : Int) = ((c.toNat : Nat) : Int) := rfl
    rw [e0, h61]
    by_cases hc : c = 61
    · subst hc
      rw [List.length_cons] at hw
      have ex : (str (61 :: w)).extract 1 (w.length + 1) = str w := by rw [str_ext]; simp
      rw [decide_eq_true rfl, Bool.not_true, cond_false, bif_t (by omega), ex, refUnq_k (n := n) w (by omega) (by omega) (by omega)]
      have hp : Lib.hasPrefix (61 :: w) [61] = true := by unfold Lib.hasPrefix; simp [List.isPrefixOf]
      have hcut : cutT (61 :: w) = w := by unfold cutT Lib.trimPrefix Lib.hasPrefix; simp [List.isPrefixOf]
      unfold textR textO
      rw [hp, if_pos rfl, hcut]
      cases unqL w.length w <;> rfl
    · have hp : Lib.hasPrefix (c :: w) [61] = false := by unfold Lib.hasPrefix; simp [List.isPrefixOf]; exact fun e => hc e.symm
      rw [decide_eq_false hc, Bool.not_false, cond_true]
      unfold textR textO
      rw [hp]
      rfl
theorem kinds_loop (kk : Nat) (line : Tx) (ws : List Tx) (h12 : 12 ≤ ws.length) :
    ∀ (suf pre : List Tx) (m : Int) (k0 : Nat), suf.length < k0 → pre ++ suf = kindsL →
    ref20_Head_L0 (kp E kk (n + 3)) kk k0 (str line) (svs ws) ((pre.length : Nat) : Int) (0 : Int) (str []) (str []) (0 : Int) (0 : Int) (0 : Int) (0 : Int) (0 : Int) (0 : Int) (str []) (str []) (0 : Int) (0 : Int) m (str []) (str []) (0 : Int) (0 : Int) (0 : Int) (0 : Int) (0 : Int) (0 : Int) (str []) (str []) (0 : Int) (0 : Int) [] [] =
    ref20_Head_L1 (kp E kk (n + 3)) kk kk (str line) (svs ws) (decide (numGo suf pre.length (W 0 ws) m > 0)) (0 : Int) (str []) (str []) (0 : Int) (0 : Int) (0 : Int) (0 : Int) (0 : Int) (0 : Int) (str []) (str []) (0 : Int) (0 : Int) (numGo suf pre.length (W 0 ws) m) (str []) (str []) (0 : Int) (0 : Int) (0 : Int) (0 : Int) (0 : Int) (0 : Int) (str []) (str []) (0 : Int) (0 : Int) [] []
  | [], pre, m, k0 + 1, h, he => by
    rw [List.append_nil] at he
    subst he
    rw [ref20_Head_L0_s, bif_f (by decide)]
    rfl
  | f :: suf, pre, m, k0 + 1, h, he => by
    have hl : pre.length + suf.length + 1 = 7 := by have := congrArg List.length he; rw [mid_len] at this; exact this
    have ih := fun m => kinds_loop kk line ws h12 suf (pre ++ [f]) m k0 (by simpa using h) (by simpa using he)
    rw [List.length_append, List.length_singleton] at ih
    have hkd : kp E kk (n + 3) ref20_Kinds [] = some (.list 1 (svs kindsL)) := ref20_Kinds_eq _ _
    have at1 : ∀ K : ByteArray → Option AV, (((svs kindsL)[pre.length]?).bind fun y => cellS (AV.cells y) 0 K) = K (str f) := fun K => by rw [← he]; exact svs_mid pre suf f K
    have h7 : (svs kindsL).length = 7 := rfl
    rw [ref20_Head_L0_s, bif_t (by omega), hkd, callL_ok, h7, inb' (by omega) (by omega), cond_true, Int.toNat_natCast, at1, svs_len, bif_t (by omega), at_W 0 ws (by omega), str_dec, i64w (x := ((pre.length : Nat) : Int) + 1) (by omega)]
    have e : ((pre.length : Nat) : Int) + 1 = ((pre.length + 1 : Nat) : Int) := by omega
    unfold numGo
    by_cases hs : f = W 0 ws
    · rw [decide_eq_true hs, cond_true, if_pos hs, e]
      exact ih _
    · rw [decide_eq_false hs, cond_false, if_neg hs, e]
      exact ih _
theorem rn1 (line : Tx) (ws : List Tx) (h12 : 12 ≤ ws.length) (hw : ∀ w ∈ ws, w.length ≤ 10000000) (hk : 100000000 < k) (b : Bool) (m : Int)  (k1 : Nat) :
    ref20_Head_L1 (kp E k (n + 3)) k (k1 + 1) (str line) (svs ws) b (0 : Int) (str []) (str []) (0 : Int) (0 : Int) (0 : Int) (0 : Int) (0 : Int) (0 : Int) (str []) (str []) (0 : Int) (0 : Int) m (str []) (str []) (0 : Int) (0 : Int) (0 : Int) (0 : Int) (0 : Int) (0 : Int) (str []) (str []) (0 : Int) (0 : Int)  [] [] =
    ref20_Head_L2 (kp E k (n + 3)) k k1 (str line) (svs ws) (b && (numO (W 1 ws)).isSome) (0 : Int) (str []) (str []) (0 : Int) (0 : Int) (0 : Int) (0 : Int) (0 : Int) (0 : Int) (str []) (str []) (0 : Int) (0 : Int) m (str []) (str []) (0 : Int) (0 : Int) (0 : Int) (0 : Int) (0 : Int) (0 : Int) (str []) (str []) (0 : Int) (0 : Int) (numW (W 1 ws)) [] [] := by
  rw [ref20_Head_L1_s, svs_len, bif_t (by omega), at_W 1 ws (by omega), refNum_ans (W 1 ws) (W_mem hw 1) hk, callT_ok, tupI_ok, tupB_ok, atNil_ok]
  cases b <;> rfl
theorem rn2 (line : Tx) (ws : List Tx) (h12 : 12 ≤ ws.length) (hw : ∀ w ∈ ws, w.length ≤ 10000000) (hk : 100000000 < k) (b : Bool) (m : Int) (v1 : Int) (k1 : Nat) :
    ref20_Head_L2 (kp E k (n + 3)) k (k1 + 1) (str line) (svs ws) b (0 : Int) (str []) (str []) (0 : Int) (0 : Int) (0 : Int) (0 : Int) (0 : Int) (0 : Int) (str []) (str []) (0 : Int) (0 : Int) m (str []) (str []) (0 : Int) (0 : Int) (0 : Int) (0 : Int) (0 : Int) (0 : Int) (str []) (str []) (0 : Int) (0 : Int) v1 [] [] =
    ref20_Head_L3 (kp E k (n + 3)) k k1 (str line) (svs ws) (b && (numO (W 2 ws)).isSome) (0 : Int) (str []) (str []) (0 : Int) (0 : Int) (0 : Int) (0 : Int) (0 : Int) (0 : Int) (str []) (str []) (0 : Int) (0 : Int) m (str []) (str []) (0 : Int) (0 : Int) (0 : Int) (0 : Int) (0 : Int) (0 : Int) (str []) (str []) (0 : Int) (0 : Int) v1 (numW (W 2 ws)) [] [] := by
  rw [ref20_Head_L2_s, svs_len, bif_t (by omega), at_W 2 ws (by omega), refNum_ans (W 2 ws) (W_mem hw 2) hk, callT_ok, tupI_ok, tupB_ok, atNil_ok]
  cases b <;> rfl
theorem rn3 (line : Tx) (ws : List Tx) (h12 : 12 ≤ ws.length) (hw : ∀ w ∈ ws, w.length ≤ 10000000) (hk : 100000000 < k) (b : Bool) (m : Int) (v1 : Int) (v2 : Int) (k1 : Nat) :
    ref20_Head_L3 (kp E k (n + 3)) k (k1 + 1) (str line) (svs ws) b (0 : Int) (str []) (str []) (0 : Int) (0 : Int) (0 : Int) (0 : Int) (0 : Int) (0 : Int) (str []) (str []) (0 : Int) (0 : Int) m (str []) (str []) (0 : Int) (0 : Int) (0 : Int) (0 : Int) (0 : Int) (0 : Int) (str []) (str []) (0 : Int) (0 : Int) v1 v2 [] [] =
    ref20_Head_L4 (kp E k (n + 3)) k k1 (str line) (svs ws) (b && (numO (W 3 ws)).isSome) (0 : Int) (str []) (str []) (0 : Int) (0 : Int) (0 : Int) (0 : Int) (0 : Int) (0 : Int) (str []) (str []) (0 : Int) (0 : Int) m (str []) (str []) (0 : Int) (0 : Int) (0 : Int) (0 : Int) (0 : Int) (0 : Int) (str []) (str []) (0 : Int) (0 : Int) v1 v2 (numW (W 3 ws)) [] [] := by
  rw [ref20_Head_L3_s, svs_len, bif_t (by omega), at_W 3 ws (by omega), refNum_ans (W 3 ws) (W_mem hw 3) hk, callT_ok, tupI_ok, tupB_ok, atNil_ok]
  cases b <;> rfl
theorem rn4 (line : Tx) (ws : List Tx) (h12 : 12 ≤ ws.length) (hw : ∀ w ∈ ws, w.length ≤ 10000000) (hk : 100000000 < k) (b : Bool) (m : Int) (v1 : Int) (v2 : Int) (v3 : Int) (k1 : Nat) :
    ref20_Head_L4 (kp E k (n + 3)) k (k1 + 1) (str line) (svs ws) b (0 : Int) (str []) (str []) (0 : Int) (0 : Int) (0 : Int) (0 : Int) (0 : Int) (0 : Int) (str []) (str []) (0 : Int) (0 : Int) m (str []) (str []) (0 : Int) (0 : Int) (0 : Int) (0 : Int) (0 : Int) (0 : Int) (str []) (str []) (0 : Int) (0 : Int) v1 v2 v3 [] [] =
    ref20_Head_L5 (kp E k (n + 3)) k k1 (str line) (svs ws) (b && (numO (W 4 ws)).isSome) (0 : Int) (str []) (str []) (0 : Int) (0 : Int) (0 : Int) (0 : Int) (0 : Int) (0 : Int) (str []) (str []) (0 : Int) (0 : Int) m (str []) (str []) (0 : Int) (0 : Int) (0 : Int) (0 : Int) (0 : Int) (0 : Int) (str []) (str []) (0 : Int) (0 : Int) v1 v2 v3 (numW (W 4 ws)) [] [] := by
  rw [ref20_Head_L4_s, svs_len, bif_t (by omega), at_W 4 ws (by omega), refNum_ans (W 4 ws) (W_mem hw 4) hk, callT_ok, tupI_ok, tupB_ok, atNil_ok]
  cases b <;> rfl
theorem rn5 (line : Tx) (ws : List Tx) (h12 : 12 ≤ ws.length) (hw : ∀ w ∈ ws, w.length ≤ 10000000) (hk : 100000000 < k) (b : Bool) (m : Int) (v1 : Int) (v2 : Int) (v3 : Int) (v4 : Int) (k1 : Nat) :
    ref20_Head_L5 (kp E k (n + 3)) k (k1 + 1) (str line) (svs ws) b (0 : Int) (str []) (str []) (0 : Int) (0 : Int) (0 : Int) (0 : Int) (0 : Int) (0 : Int) (str []) (str []) (0 : Int) (0 : Int) m (str []) (str []) (0 : Int) (0 : Int) (0 : Int) (0 : Int) (0 : Int) (0 : Int) (str []) (str []) (0 : Int) (0 : Int) v1 v2 v3 v4 [] [] =
    ref20_Head_L6 (kp E k (n + 3)) k k1 (str line) (svs ws) (b && (numO (W 8 ws)).isSome) (0 : Int) (str []) (str []) (0 : Int) (0 : Int) (0 : Int) (0 : Int) (0 : Int) (0 : Int) (str []) (str []) (0 : Int) (0 : Int) m (str []) (str []) (0 : Int) (0 : Int) (0 : Int) (0 : Int) (0 : Int) (0 : Int) (str []) (str []) (0 : Int) (0 : Int) v1 v2 v3 v4 (numW (W 8 ws)) [] [] := by
  rw [ref20_Head_L5_s, svs_len, bif_t (by omega), at_W 8 ws (by omega), refNum_ans (W 8 ws) (W_mem hw 8) hk, callT_ok, tupI_ok, tupB_ok, atNil_ok]
  cases b <;> rfl
theorem rn6 (line : Tx) (ws : List Tx) (h12 : 12 ≤ ws.length) (hw : ∀ w ∈ ws, w.length ≤ 10000000) (hk : 100000000 < k) (b : Bool) (m : Int) (v1 : Int) (v2 : Int) (v3 : Int) (v4 : Int) (v5 : Int) (k1 : Nat) :
    ref20_Head_L6 (kp E k (n + 3)) k (k1 + 1) (str line) (svs ws) b (0 : Int) (str []) (str []) (0 : Int) (0 : Int) (0 : Int) (0 : Int) (0 : Int) (0 : Int) (str []) (str []) (0 : Int) (0 : Int) m (str []) (str []) (0 : Int) (0 : Int) (0 : Int) (0 : Int) (0 : Int) (0 : Int) (str []) (str []) (0 : Int) (0 : Int) v1 v2 v3 v4 v5 [] [] =
    ref20_Head_L7 (kp E k (n + 3)) k k1 (str line) (svs ws) (b && (numO (W 9 ws)).isSome) (0 : Int) (str []) (str []) (0 : Int) (0 : Int) (0 : Int) (0 : Int) (0 : Int) (0 : Int) (str []) (str []) (0 : Int) (0 : Int) m (str []) (str []) (0 : Int) (0 : Int) (0 : Int) (0 : Int) (0 : Int) (0 : Int) (str []) (str []) (0 : Int) (0 : Int) v1 v2 v3 v4 v5 (numW (W 9 ws)) [] [] := by
  rw [ref20_Head_L6_s, svs_len, bif_t (by omega), at_W 9 ws (by omega), refNum_ans (W 9 ws) (W_mem hw 9) hk, callT_ok, tupI_ok, tupB_ok, atNil_ok]
  cases b <;> rfl
theorem rn7 (line : Tx) (ws : List Tx) (h12 : 12 ≤ ws.length) (hw : ∀ w ∈ ws, w.length ≤ 10000000) (hk : 100000000 < k) (b : Bool) (m v1 v2 v3 v4 v5 v6 : Int) (k1 : Nat) :
    ref20_Head_L7 (kp E k (n + 3)) k (k1 + 1) (str line) (svs ws) b (0 : Int) (str []) (str []) (0 : Int) (0 : Int) (0 : Int) (0 : Int) (0 : Int) (0 : Int) (str []) (str []) (0 : Int) (0 : Int) m (str []) (str []) (0 : Int) (0 : Int) (0 : Int) (0 : Int) (0 : Int) (0 : Int) (str []) (str []) (0 : Int) (0 : Int) v1 v2 v3 v4 v5 v6 [] [] =
    ref20_Head_L8 (kp E k (n + 3)) k k (str line) (svs ws) (b && (timeL (W 5 ws)).isSome) (6 : Int) (0 : Int) (str []) (str []) (0 : Int) (0 : Int) (0 : Int) (0 : Int) (0 : Int) (0 : Int) (str []) (str []) (0 : Int) (0 : Int) m (str []) (str []) v1 v2 v3 v4 (timeV (W 5 ws)).1 (timeV (W 5 ws)).2 (str []) (str []) v5 v6 [] [] [] := by
  have tupT : ∀ (p : Int × Int) (t : List AV) (K : Int → Int → List AV → Option AV), (tupG 2 (.agg [.int .i64 p.1, .int .i64 p.2] :: t) fun vg vt => cellI .i64 vg 0 fun a => cellI .i64 vg 1 fun b => K a b vt) = K p.1 p.2 t := fun p t K => rfl
  rw [ref20_Head_L7_s, svs_len, bif_t (by omega), at_W 5 ws (by omega), refTime_ans (W 5 ws) (W_mem hw 5) hk, callT_ok, tupT, tupB_ok, atNil_ok]
  cases b <;> rfl
/-- The texts of the words from a place on, but for two; whether all are such. -/
def textsGo : List Tx → Nat → List Tx
  | [], _ => []
  | w :: l, i => if i = 8 ∨ i = 9 then textsGo l (i + 1) else textR w :: textsGo l (i + 1)
def oksGo : List Tx → Nat → Bool → Bool
  | [], _, b => b
  | w :: l, i, b => if i = 8 ∨ i = 9 then oksGo l (i + 1) b else oksGo l (i + 1) (b && (textO w).isSome)
def pairs2 : List Tx → List Pair
  | a :: b :: l => ⟨a, b⟩ :: pairs2 l
  | _ => []
def endR (line : Tx) (h : Head) (b : Bool) : AV := if b = true ∧ wrongH h = 0 ∧ lineL h = line then .tup [.agg (encHead h), .bool true] else .tup [.agg (encHead noHead), .bool false]
theorem endR_no {line : Tx} {h : Head} {b : Bool} (hn : ¬ (b = true ∧ wrongH h = 0 ∧ lineL h = line)) : endR line h b = .tup [.agg (encHead noHead), .bool false] := if_neg hn
theorem endR_yes {line : Tx} {h : Head} (h0 : wrongH h = 0) (hl : lineL h = line) : endR line h true = .tup [.agg (encHead h), .bool true] := if_pos ⟨rfl, h0, hl⟩
theorem pairs_loop [HasTextV E] (line : Tx) (kk : Nat) (hkk : 10000000 < kk) (hd : Head) (x374 : List AV) (b : Bool) (all : List Tx) (hall : all.length ≤ 100000000) :
    ∀ (m : Nat) (suf pre : List Tx) (acc : List Pair) (k0 : Nat), suf.length ≤ m → m < k0 → pre ++ suf = all → acc.length + m ≤ 200000000 → Bd20 { hd with extra := acc ++ pairs2 suf } →
    ref20_Head_L9 (kp E kk (n + 22)) kk k0 (str line) b ((pre.length : Nat) : Int) (0 : Int) (str []) (str []) (0 : Int) (0 : Int) (0 : Int) (0 : Int) (0 : Int) (0 : Int) (str []) (str []) (0 : Int) (0 : Int) hd.kind (str hd.name) (str hd.link) hd.mode hd.uid hd.gid hd.size hd.sec hd.nano (str hd.user) (str hd.group) hd.major hd.minor (svs all) x374 (prs acc) = some (endR line { hd with extra := acc ++ pairs2 suf } b) := by
  have fin : ∀ (i : Nat) (acc : List Pair) (k0 : Nat), 0 < k0 → ¬ i + 1 < all.length → i ≤ all.length → Bd20 { hd with extra := acc } →
      ref20_Head_L9 (kp E kk (n + 22)) kk k0 (str line) b ((i : Nat) : Int) (0 : Int) (str []) (str []) (0 : Int) (0 : Int) (0 : Int) (0 : Int) (0 : Int) (0 : Int) (str []) (str []) (0 : Int) (0 : Int) hd.kind (str hd.name) (str hd.link) hd.mode hd.uid hd.gid hd.size hd.sec hd.nano (str hd.user) (str hd.group) hd.major hd.minor (svs all) x374 (prs acc) = some (endR line { hd with extra := acc } b) := by
    intro i acc k0 h0 hi hi2 hb
    obtain ⟨k0, rfl⟩ : ∃ j, k0 = j + 1 := ⟨k0 - 1, by omega⟩
    have hw := refWrong_k (E := E) (k := kk) (n := n + 14) { hd with extra := acc } hb.f (by omega)
    have hl := fun h => refLine_k (E := E) (k := kk) (n := n) { hd with extra := acc } hb h (by omega)
    unfold encHead at hw hl
    rw [ref20_Head_L9_s, svs_len, wrap1 (by omega), bif_f (by omega)]
    cases b with
    | false => rw [endR_no (fun h => by cases h.1)]; rfl
    | true =>
      rw [Bool.not_true, cond_false, hw, callI_ok]
      by_cases h0 : wrongH { hd with extra := acc } = 0
      · rw [decide_eq_true h0, Bool.not_true, cond_false, hl h0, callS_ok, str_dec]
        by_cases hln : lineL { hd with extra := acc } = line
        · rw [endR_yes h0 hln, hln, decide_eq_true rfl]; rfl
        · rw [endR_no (fun h => hln h.2.2), decide_eq_false hln]; rfl
      · rw [endR_no (fun h => h0 h.2.1), decide_eq_false h0]; rfl
  intro m
  induction m with
  | zero =>
    intro suf pre acc k0 hm hk he ha hb
    obtain rfl : suf = [] := List.eq_nil_of_length_eq_zero (by omega)
    rw [List.append_nil] at he
    subst he
    have e : acc ++ pairs2 [] = acc := by simp [pairs2]
    rw [e] at hb ⊢
    exact fin _ acc k0 (by omega) (by omega) (by omega) hb
  | succ m ih =>
    intro suf pre acc k0 hm hk he ha hb
    match suf, hm, he, hb with
    | [], hm, he, hb =>
      rw [List.append_nil] at he
      subst he
      have e : acc ++ pairs2 [] = acc := by simp [pairs2]
      rw [e] at hb ⊢
      exact fin _ acc k0 (by omega) (by omega) (by omega) hb
    | [w], hm, he, hb =>
      have hl : all.length = pre.length + 1 := by rw [← he]; simp
      have e : acc ++ pairs2 [w] = acc := by simp [pairs2]
      rw [e] at hb ⊢
      exact fin _ acc k0 (by omega) (by omega) (by omega) hb
    | w :: v :: l, hm, he, hb =>
      obtain ⟨k0, rfl⟩ : ∃ j, k0 = j + 1 := ⟨k0 - 1, by omega⟩
      have hl : all.length = pre.length + l.length + 2 := by rw [← he]; simp; omega
      have at1 : ∀ K : ByteArray → Option AV, (((svs all)[pre.length]?).bind fun y => cellS (AV.cells y) 0 K) = K (str w) := fun K => by rw [← he]; exact svs_mid pre (v :: l) w K
      have at2 : ∀ K : ByteArray → Option AV, (((svs all)[pre.length + 1]?).bind fun y => cellS (AV.cells y) 0 K) = K (str v) := fun K => by
        have := svs_mid (pre ++ [w]) l v K
        rw [List.length_append, List.length_singleton, List.append_assoc, List.singleton_append] at this
        rw [← he]; exact this
      have i2 := ih l (pre ++ [w, v]) (acc ++ [⟨w, v⟩]) k0 (by simp only [List.length_cons] at hm; omega) (by omega) (by rw [← he]; simp) (by rw [List.length_append, List.length_singleton]; omega) (by simpa [pairs2] using hb)
      have e2 : (pre ++ [w, v]).length = pre.length + 2 := by simp
      have e3 : IntKind.wrap .i64 (((pre.length : Nat) : Int) + 2) = ((pre.length + 2 : Nat) : Int) := by rw [i64w (by omega)]; omega
      have e4 : prs acc ++ [AV.agg [.str (str w), .str (str v)]] = prs (acc ++ [⟨w, v⟩]) := by simp [prs, elPair, encPair]
      rw [ref20_Head_L9_s, svs_len, wrap1 (by omega), bif_t (by omega), inb (by omega), cond_true, Int.toNat_natCast, at1, inb (by omega), cond_true, Int.toNat_natCast, at2, prs_len, room32 (by omega), cond_true, e3, e4]
      rw [e2] at i2
      refine i2.trans ?_
      simp [pairs2]
theorem texts_loop (line : Tx) (kk : Nat) (hkk : 100000000 < kk) (hd : Head) (ws : List Tx) (hl : ws.length ≤ 10000000) (hw : ∀ w ∈ ws, w.length ≤ 10000000) (T : List Tx) (B : Bool) (h4 : 4 ≤ T.length) (hT : T.length ≤ 10000000) :
    ∀ (suf pre acc : List Tx) (b : Bool) (k0 : Nat), suf.length < k0 → pre ++ suf = ws → acc ++ textsGo suf pre.length = T → oksGo suf pre.length b = B →
    ref20_Head_L8 (kp E kk (n + 22)) kk k0 (str line) (svs ws) b ((pre.length : Nat) : Int) (0 : Int) (str []) (str []) (0 : Int) (0 : Int) (0 : Int) (0 : Int) (0 : Int) (0 : Int) (str []) (str []) (0 : Int) (0 : Int) hd.kind (str hd.name) (str hd.link) hd.mode hd.uid hd.gid hd.size hd.sec hd.nano (str hd.user) (str hd.group) hd.major hd.minor (svs acc) [] [] =
    ref20_Head_L9 (kp E kk (n + 22)) kk kk (str line) B (4 : Int) (0 : Int) (str []) (str []) (0 : Int) (0 : Int) (0 : Int) (0 : Int) (0 : Int) (0 : Int) (str []) (str []) (0 : Int) (0 : Int) hd.kind (str (W 2 T)) (str (W 3 T)) hd.mode hd.uid hd.gid hd.size hd.sec hd.nano (str (W 0 T)) (str (W 1 T)) hd.major hd.minor (svs T) [] []
  | [], pre, acc, b, k0 + 1, h, he, ht, hb => by
    rw [List.append_nil] at he
    subst he
    have ht : acc = T := by rw [← ht]; simp [textsGo]
    have hb : b = B := hb
    subst ht; subst hb
    rw [ref20_Head_L8_s, svs_len, bif_f (by omega), svs_len, bif_t (by omega), at_W 0 acc (by omega), bif_t (by omega), at_W 1 acc (by omega), bif_t (by omega), at_W 2 acc (by omega), bif_t (by omega), at_W 3 acc (by omega)]
  | w :: suf, pre, acc, b, k0 + 1, h, he, ht, hb => by
    have hlen : ws.length = pre.length + suf.length + 1 := by rw [← he, mid_len]
    have hww := hw w (by rw [← he]; simp)
    have ih := fun acc b => texts_loop line kk hkk hd ws hl hw T B h4 hT suf (pre ++ [w]) acc b k0 (by simpa using h) (by simpa using he)
    rw [List.length_append, List.length_singleton] at ih
    have at1 : ∀ K : ByteArray → Option AV, (((svs ws)[pre.length]?).bind fun y => cellS (AV.cells y) 0 K) = K (str w) := fun K => by rw [← he]; exact svs_mid pre suf w K
    have hal : acc.length ≤ T.length := by rw [← ht, List.length_append]; omega
    have hTl : T.length ≤ acc.length + (suf.length + 1) := by
      have go : ∀ (l : List Tx) (i : Nat), (textsGo l i).length ≤ l.length := by
        intro l
        induction l with
        | nil => intro i; exact Nat.le_refl _
        | cons x l ihl =>
          intro i
          have := ihl (i + 1)
          unfold textsGo
          split <;> simp only [List.length_cons] <;> omega
      have := go (w :: suf) pre.length
      rw [← ht, List.length_append]
      simp only [List.length_cons] at this
      omega
    have hacc : True := trivial
    unfold textsGo at ht
    unfold oksGo at hb
    rw [ref20_Head_L8_s, svs_len, bif_t (by omega), wrap1 (by omega)]
    by_cases h8 : pre.length = 8
    · rw [if_pos (.inl h8)] at ht hb
      rw [bif_t (by omega)]
      exact ih acc b ht hb
    by_cases h9 : pre.length = 9
    · rw [if_pos (.inr h9)] at ht hb
      rw [bif_f (by omega), bif_t (by omega)]
      exact ih acc b ht hb
    rw [if_neg (by omega)] at ht hb
    rw [bif_f (by omega), bif_f (by omega), inb (by omega), cond_true, Int.toNat_natCast, at1, refText_ans (n := n + 19) w hww hkk, callT_ok, tupS_ok, tupB_ok, atNil_ok, svs_len, room16 (by omega), cond_true, svs_snoc]
    have i2 := ih (acc ++ [textR w]) (b && (textO w).isSome) (by rw [List.append_assoc]; exact ht) hb
    cases b with
    | true => rw [cond_true]; exact i2
    | false => rw [cond_false]; exact i2
end Go.Proofs.YtogfcfgfkggmlaaGreatDoor.Eng.U


/- TaleHeads in plain words: the definition's head of any text, beside the program's. -/
set_option linter.unusedVariables false
set_option linter.unusedSectionVars false
set_option linter.unusedSimpArgs false
namespace Go.Proofs.YtogfcfgfkggmlaaGreatDoor.Eng.U
open Go Go.Proofs Go.Proofs.YtogfcfgfkggmlaaGreatDoor.Eng Go.Proofs.YtogfcfgfkggmlaaGreatDoor.P04
variable {E : Ext} [Core E] [HasNum E] {k n k0 kk : Nat}

def tR (ws : List Tx) : List Tx := textsGo (ws.drop 6) 6
def hR (ws : List Tx) : Head := ⟨numGo kindsL 0 (W 0 ws) 0, W 2 (tR ws), W 3 (tR ws), numW (W 1 ws), numW (W 2 ws), numW (W 3 ws), numW (W 4 ws), (timeV (W 5 ws)).1, (timeV (W 5 ws)).2, W 0 (tR ws), W 1 (tR ws), numW (W 8 ws), numW (W 9 ws), pairs2 ((tR ws).drop 4)⟩
def okN (ws : List Tx) : Bool := ((((((decide (numGo kindsL 0 (W 0 ws) 0 > 0) && (numO (W 1 ws)).isSome) && (numO (W 2 ws)).isSome) && (numO (W 3 ws)).isSome) && (numO (W 4 ws)).isSome) && (numO (W 8 ws)).isSome) && (numO (W 9 ws)).isSome) && (timeL (W 5 ws)).isSome
def okR (ws : List Tx) : Bool := oksGo (ws.drop 6) 6 (okN ws)
theorem texts_le : ∀ (l : List Tx) (i : Nat), (textsGo l i).length ≤ l.length
  | [], i => Nat.le_refl _
  | x :: l, i => by
    have := texts_le l (i + 1)
    unfold textsGo
    split <;> simp only [List.length_cons] <;> omega
theorem texts_six (ws : List Tx) (h : 12 ≤ ws.length) : 4 ≤ (tR ws).length ∧ (tR ws).length ≤ ws.length := by
  refine ⟨?_, Nat.le_trans (texts_le _ _) (by rw [List.length_drop]; omega)⟩
  unfold tR
  have hl : 6 ≤ (ws.drop 6).length := by rw [List.length_drop]; omega
  match ws.drop 6, hl with
  | a :: b :: c :: d :: e :: f :: l, _ =>
    simp [textsGo]
theorem refHead_k [HasTextV E] [HasQuote E] [HasJn E] [HasCount E] (line : Tx) (hkk : 300000000 < kk) (hline : line.length < 100000000) (h12 : 12 ≤ (splitL 32 line).length) (he : (splitL 32 line).length % 2 = 0) (hw : ∀ w ∈ splitL 32 line, w.length ≤ 10000000) (hl : (splitL 32 line).length ≤ 10000000) (hb : Bd20 (hR (splitL 32 line))) :
    kp E kk (n + 23) ref20_Head [.str (str line)] = some (endR line (hR (splitL 32 line)) (okR (splitL 32 line))) := by
  obtain ⟨t4, tl⟩ := texts_six (splitL 32 line) h12
  rw [ref20_Head_eq, words_k (n := n + 21) line (by omega) (by omega), callL_ok]
  generalize splitL 32 line = ws at h12 he hw hl hb t4 tl ⊢
  rw [svs_len, bif_f (by omega)]
  have hm : Int.tmod ((ws.length : Nat) : Int) 2 = 0 := by
    have : ((ws.length : Nat) : Int).tmod 2 = ((ws.length % 2 : Nat) : Int) := (Int.ofNat_tmod _ _).symm
    rw [this, he]; rfl
  rw [hm, bif_f (by decide)]
  have h0 := kinds_loop (E := E) (n := n + 19) kk line ws h12 kindsL [] 0 kk (by show 7 < kk; omega) rfl
  refine h0.trans ?_
  obtain ⟨j, hj⟩ : ∃ j, kk = j + 7 := ⟨kk - 7, by omega⟩
  have hk := hkk
  have s1 := rn1 (E := E) (k := kk) (n := n + 19) line ws h12 hw (by omega) (decide (numGo kindsL 0 (W 0 ws) 0 > 0)) (numGo kindsL 0 (W 0 ws) 0) (j + 6)
  rw [show j + 6 + 1 = kk by omega] at s1
  refine s1.trans ?_
  rw [rn2 (n := n + 19) line ws h12 hw (by omega) _ _ _ (j + 5), rn3 (n := n + 19) line ws h12 hw (by omega) _ _ _ _ (j + 4), rn4 (n := n + 19) line ws h12 hw (by omega) _ _ _ _ _ (j + 3), rn5 (n := n + 19) line ws h12 hw (by omega) _ _ _ _ _ _ (j + 2), rn6 (n := n + 19) line ws h12 hw (by omega) _ _ _ _ _ _ _ (j + 1), rn7 (n := n + 19) line ws h12 hw (by omega) _ _ _ _ _ _ _ _ j]
  have hspl : ws.take 6 ++ ws.drop 6 = ws := List.take_append_drop 6 ws
  have h6 : (ws.take 6).length = 6 := by rw [List.length_take]; omega
  have t := texts_loop (E := E) (n := n) line kk (by omega) ⟨numGo kindsL 0 (W 0 ws) 0, [], [], numW (W 1 ws), numW (W 2 ws), numW (W 3 ws), numW (W 4 ws), (timeV (W 5 ws)).1, (timeV (W 5 ws)).2, [], [], numW (W 8 ws), numW (W 9 ws), []⟩ ws hl hw (tR ws) (okR ws) t4 (by omega) (ws.drop 6) (ws.take 6) [] (okN ws) kk (by rw [List.length_drop]; omega) hspl (by rw [h6, List.nil_append]; rfl) (by rw [h6]; rfl)
  rw [h6] at t
  refine Eq.trans (b := ref20_Head_L8 (kp E kk (n + 22)) kk kk (str line) (svs ws) (okN ws) ((6 : Nat) : Int) (0 : Int) (str []) (str []) (0 : Int) (0 : Int) (0 : Int) (0 : Int) (0 : Int) (0 : Int) (str []) (str []) (0 : Int) (0 : Int) (numGo kindsL 0 (W 0 ws) 0) (str []) (str []) (numW (W 1 ws)) (numW (W 2 ws)) (numW (W 3 ws)) (numW (W 4 ws)) (timeV (W 5 ws)).1 (timeV (W 5 ws)).2 (str []) (str []) (numW (W 8 ws)) (numW (W 9 ws)) (svs []) [] []) rfl (t.trans ?_)
  have hT : (tR ws).take 4 ++ (tR ws).drop 4 = tR ws := List.take_append_drop 4 _
  have h4 : ((tR ws).take 4).length = 4 := by rw [List.length_take]; omega
  have p := pairs_loop (E := E) (n := n) line kk (by omega) { hR ws with extra := [] } [] (okR ws) (tR ws) (by omega) (tR ws).length ((tR ws).drop 4) ((tR ws).take 4) [] kk (by rw [List.length_drop]; omega) (by omega) hT (by simp; omega) hb
  rw [h4] at p
  exact p
theorem textR_word (s : Tx) : textR (wordT s) = s ∧ (textO (wordT s)).isSome = true := by
  unfold textR
  rw [(text_back s).1]
  exact ⟨rfl, rfl⟩
theorem texts_pairs : ∀ (l : List Pair) (i : Nat), 10 ≤ i → textsGo (pairW l) i = (l.flatMap fun p => [p.key, p.val]) ∧ ∀ b, oksGo (pairW l) i b = b
  | [], i, _ => ⟨rfl, fun _ => rfl⟩
  | p :: l, i, h => by
    obtain ⟨h1, h2⟩ := texts_pairs l (i + 1 + 1) (by omega)
    rw [pairW_cons]
    constructor
    · show textsGo (wordT p.key :: wordT p.val :: pairW l) i = _
      rw [textsGo, if_neg (by omega), textsGo, if_neg (by omega), h1, (textR_word _).1, (textR_word _).1]
      rfl
    · intro b
      show oksGo (wordT p.key :: wordT p.val :: pairW l) i b = b
      rw [oksGo, if_neg (by omega), oksGo, if_neg (by omega), h2, (textR_word _).2, (textR_word _).2]
      simp
theorem pairs2_flat : ∀ l : List Pair, pairs2 (l.flatMap fun p => [p.key, p.val]) = l
  | [] => rfl
  | p :: l => by
    show ⟨p.key, p.val⟩ :: pairs2 (l.flatMap fun p => [p.key, p.val]) = _
    rw [pairs2_flat l]
theorem kind_ref {v : Int} (h1 : 1 ≤ v) (h2 : v ≤ 7) : numGo kindsL 0 (kindT v) 0 = v := by
  have : v = 1 ∨ v = 2 ∨ v = 3 ∨ v = 4 ∨ v = 5 ∨ v = 6 ∨ v = 7 := by omega
  rcases this with rfl | rfl | rfl | rfl | rfl | rfl | rfl <;> decide
theorem ref_back {h : Head} (hw : wrongH h = 0) (hb : Bd20 h) : hR (wordsH h) = h ∧ okR (wordsH h) = true := by
  obtain ⟨k1, k2, k3⟩ := kind_some hw
  obtain ⟨m1, m2, m3, m4, m5, m6, m7⟩ := wrong_nums hw
  have ht := time_print h.sec h.nano hb.sec m7
  obtain ⟨q1, q2⟩ := texts_pairs h.extra 12 (by omega)
  have hT : tR (wordsH h) = h.user :: h.group :: h.name :: h.link :: (h.extra.flatMap fun p => [p.key, p.val]) := by
    show textsGo (wordT h.user :: wordT h.group :: Lib.itoa h.major :: Lib.itoa h.minor :: wordT h.name :: wordT h.link :: pairW h.extra) 6 = _
    rw [textsGo, if_neg (by omega), textsGo, if_neg (by omega), textsGo, if_pos (by omega), textsGo, if_pos (by omega), textsGo, if_neg (by omega), textsGo, if_neg (by omega), q1, (textR_word _).1, (textR_word _).1, (textR_word _).1, (textR_word _).1]
  have e0 : W 0 (wordsH h) = kindT h.kind := rfl
  have e1 : W 1 (wordsH h) = Lib.itoa h.mode := rfl
  have e2 : W 2 (wordsH h) = Lib.itoa h.uid := rfl
  have e3 : W 3 (wordsH h) = Lib.itoa h.gid := rfl
  have e4 : W 4 (wordsH h) = Lib.itoa h.size := rfl
  have e5 : W 5 (wordsH h) = printL h.sec h.nano := rfl
  have e8 : W 8 (wordsH h) = Lib.itoa h.major := rfl
  have e9 : W 9 (wordsH h) = Lib.itoa h.minor := rfl
  have et : timeV (printL h.sec h.nano) = (h.sec, h.nano) := by unfold timeV; rw [ht]; rfl
  constructor
  · unfold hR
    rw [e0, e1, e2, e3, e4, e5, e8, e9, kind_ref k1 k2, numW_back m1 hb.mode.2, numW_back m2 hb.uid.2, numW_back m3 hb.gid.2, numW_back m4 hb.size.2, numW_back m5 hb.major.2, numW_back m6 hb.minor.2, et, hT]
    have p : pairs2 (List.drop 4 (h.user :: h.group :: h.name :: h.link :: (h.extra.flatMap fun p => [p.key, p.val]))) = h.extra := pairs2_flat h.extra
    rw [p]
    rfl
  · have hN : okN (wordsH h) = true := by
      unfold okN
      rw [e0, e1, e2, e3, e4, e5, e8, e9, kind_ref k1 k2, num_back m1 hb.mode.2, num_back m2 hb.uid.2, num_back m3 hb.gid.2, num_back m4 hb.size.2, num_back m5 hb.major.2, num_back m6 hb.minor.2, ht, decide_eq_true (show h.kind > 0 by omega)]
      rfl
    unfold okR
    show oksGo (wordT h.user :: wordT h.group :: Lib.itoa h.major :: Lib.itoa h.minor :: wordT h.name :: wordT h.link :: pairW h.extra) 6 _ = true
    rw [hN, oksGo, if_neg (by omega), oksGo, if_neg (by omega), oksGo, if_pos (by omega), oksGo, if_pos (by omega), oksGo, if_neg (by omega), oksGo, if_neg (by omega), q2, (textR_word _).2, (textR_word _).2, (textR_word _).2, (textR_word _).2]
    rfl
theorem textR_len (w : Tx) : (textR w).length ≤ w.length := by
  unfold textR textO
  split
  · exact textV_len w
  · exact Nat.zero_le _
theorem texts_sum : ∀ (l : List Tx) (i : Nat), sumL (textsGo l i) ≤ sumL l
  | [], i => Nat.le_refl _
  | x :: l, i => by
    have h1 := texts_sum l (i + 1)
    have h2 := textR_len x
    unfold textsGo
    split <;> simp only [sumL] <;> omega
theorem pairs2_small : ∀ (l : List Tx), sumP (pairs2 l) ≤ sumL l ∧ 2 * (pairs2 l).length ≤ l.length
  | [] => ⟨Nat.le_refl _, Nat.le_refl _⟩
  | [w] => ⟨Nat.zero_le _, Nat.zero_le _⟩
  | w :: v :: l => by
    obtain ⟨h1, h2⟩ := pairs2_small l
    simp only [pairs2, sumP, sumL, List.length_cons] at h1 h2 ⊢
    omega
theorem sum_drop (l : List Tx) (i : Nat) : sumL (l.drop i) ≤ sumL l := by rw [← tl_drop]; exact sumL_tl l i
theorem ref_small (line : Tx) (hl : line.length ≤ 3000) : Bd20 (hR (splitL 32 line)) := by
  have hs := sum_split 32 line
  have hn := split_len 32 line
  have hc := count_le 32 line
  generalize splitL 32 line = ws at hs hn ⊢
  have hT : sumL (tR ws) ≤ 3000 := by
    have h1 := texts_sum (ws.drop 6) 6
    have h2 := sum_drop ws 6
    unfold tR
    omega
  have hTl : (tR ws).length ≤ 3001 := Nat.le_trans (texts_le _ _) (by rw [List.length_drop]; omega)
  have hw := fun i => W_len i (tR ws)
  obtain ⟨q1, q2⟩ := pairs2_small ((tR ws).drop 4)
  have q3 := sum_drop (tR ws) 4
  have q4 : ((tR ws).drop 4).length ≤ 3001 := by rw [List.length_drop]; omega
  refine ⟨⟨?_, ?_, ?_, ?_, ?_, fun p hp => ?_⟩, numW_in _, numW_in _, numW_in _, numW_in _, ?_, numW_in _, numW_in _, ?_, ?_⟩
  · have := hw 2; show (W 2 (tR ws)).length ≤ 400000; omega
  · have := hw 3; show (W 3 (tR ws)).length ≤ 400000; omega
  · have := hw 0; show (W 0 (tR ws)).length ≤ 400000; omega
  · have := hw 1; show (W 1 (tR ws)).length ≤ 400000; omega
  · show (pairs2 ((tR ws).drop 4)).length ≤ 100000; omega
  · have := sum_mem (pairs2 ((tR ws).drop 4)) p hp; omega
  · show -9223372036854775808 ≤ (timeV (W 5 ws)).1 ∧ (timeV (W 5 ws)).1 ≤ 9223372036854775807
    unfold timeV
    cases h5 : timeL (W 5 ws) with
    | none => exact ⟨by decide, by decide⟩
    | some p => exact (print_time (p := p.1) (r := p.2) h5).1
  · show (pairs2 ((tR ws).drop 4)).length ≤ 2000; omega
  · show sumP (pairs2 ((tR ws).drop 4)) ≤ 400000; omega
/-- What the definition tells of a short text. -/
theorem ref_any [HasTextV E] [HasQuote E] [HasJn E] [HasCount E] (line : Tx) (hl : line.length ≤ 3000) (hkk : 300000000 < kk) : ∃ r, kp E kk (n + 23) ref20_Head [.str (str line)] = some r ∧
    ((r = .tup [.agg (encHead noHead), .bool false] ∧ ∀ h, wrongH h = 0 → Bd20 h → lineL h ≠ line) ∨ ∃ h, r = .tup [.agg (encHead h), .bool true] ∧ wrongH h = 0 ∧ lineL h = line ∧ Bd20 h) := by
  obtain ⟨b1, b2, b3⟩ := head_small line hl
  have hb := ref_small line hl
  by_cases h12 : 12 ≤ (splitL 32 line).length
  case neg =>
    refine ⟨.tup [.agg (encHead noHead), .bool false], ?_, .inl ⟨rfl, fun h hw hbh e => ?_⟩⟩
    · rw [ref20_Head_eq, words_k (n := n + 21) line (by omega) (by omega), callL_ok, svs_len, bif_t (by omega)]
      rfl
    · rw [← e, line_words hw] at h12
      exact h12 (by unfold wordsH headW; simp)
  by_cases he : (splitL 32 line).length % 2 = 0
  case neg =>
    refine ⟨.tup [.agg (encHead noHead), .bool false], ?_, .inl ⟨rfl, fun h hw hbh e => ?_⟩⟩
    · have hm : Int.tmod (((splitL 32 line).length : Nat) : Int) 2 = 1 := by
        have : (((splitL 32 line).length : Nat) : Int).tmod 2 = (((splitL 32 line).length % 2 : Nat) : Int) := (Int.ofNat_tmod _ _).symm
        rw [this]; omega
      rw [ref20_Head_eq, words_k (n := n + 21) line (by omega) (by omega), callL_ok, svs_len, bif_f (by omega), hm, bif_t rfl]
      rfl
    · rw [← e, line_words hw] at he
      apply he
      unfold wordsH headW
      rw [List.length_append, pairW_len]
      simp only [List.length_cons, List.length_nil]
      omega
  have hk := refHead_k (E := E) (n := n) (kk := kk) line hkk (by omega) h12 he (fun w hw => by have := b3 w hw; omega) (by omega) hb
  by_cases hc : okR (splitL 32 line) = true ∧ wrongH (hR (splitL 32 line)) = 0 ∧ lineL (hR (splitL 32 line)) = line
  · rw [hc.1, endR_yes hc.2.1 hc.2.2] at hk
    exact ⟨_, hk, .inr ⟨_, rfl, hc.2.1, hc.2.2, hb⟩⟩
  · rw [endR_no hc] at hk
    refine ⟨_, hk, .inl ⟨rfl, fun h hw hbh e => ?_⟩⟩
    have hs := line_words hw
    rw [e] at hs
    obtain ⟨e1, e2⟩ := ref_back hw hbh
    rw [hs, e1, e2] at hc
    exact hc ⟨rfl, hw, e⟩
theorem taleHeads_true [HasTextV E] [HasQuote E] [HasJn E] [HasCount E] (line : Tx) (hkk : 5000000000000 < kk) : kp E (kk + 6) (n + 24) law20_TaleHeads [.str (str line)] = some (.bool true) := by
  rw [law20_TaleHeads_eq, alive20 (n := n + 12) (by omega), callB_ok, Bool.not_true, cond_false, str_size]
  by_cases h3 : line.length ≤ 3000
  case neg => rw [bif_t (by omega)]
  rw [bif_f (by omega)]
  obtain ⟨r, hr, hcase⟩ := head_any (E := E) (n := n + 13) (kk := kk) line h3 (by omega)
  obtain ⟨q, hq, qcase⟩ := ref_any (E := E) (n := n) (kk := kk + 6) line h3 (by omega)
  have same : ∀ h : Head, h.extra.length ≤ 2000 → kp E (kk + 6) (n + 23) ref08_SameHead [.agg (encHead h), .agg (encHead h)] = some (.bool true) := fun h hb => by
    have := sameHead_k (E := E) (k := kk + 6) (n := n + 21) h h (by omega) (by omega)
    rw [decide_eq_true rfl] at this
    exact this
  rw [hr]
  rcases hcase with rfl | ⟨h, rfl, hw, hl, hbh⟩
  · rcases qcase with ⟨rfl, hno⟩ | ⟨h', rfl, hw', hl', hbh'⟩
    · have hs := same noHead (by decide)
      rw [callT_ok]
      refine (tup14 noHead _ _).trans ?_
      rw [tupI_ok, atNil_ok, hq, callT_ok]
      refine (tup14 noHead _ _).trans ?_
      rw [tupB_ok, atNil_ok]
      exact Eq.trans (congrArg (fun x => callB x fun v => some (AV.bool v)) hs) rfl
    · exfalso
      have := head_line (E := E) (n := n + 13) (kk := kk) hbh' hw' (by omega)
      rw [hl', hr] at this
      simp at this
  · rcases qcase with ⟨rfl, hno⟩ | ⟨h', rfl, hw', hl', hbh'⟩
    · exact absurd hl (hno h hw hbh)
    · have e : h' = h := by
        obtain ⟨e1, e2⟩ := head_back hw hbh
        obtain ⟨e3, e4⟩ := head_back hw' hbh'
        rw [← e1, ← e3, ← line_words hw, ← line_words hw', hl, hl']
      subst e
      have hs := same h' hbh.few
      rw [callT_ok]
      refine (tup14 h' _ _).trans ?_
      rw [tupI_ok, atNil_ok, hq, callT_ok]
      refine (tup14 h' _ _).trans ?_
      rw [tupB_ok, atNil_ok]
      exact Eq.trans (congrArg (fun x => callB x fun v => some (AV.bool v)) hs) rfl
end Go.Proofs.YtogfcfgfkggmlaaGreatDoor.Eng.U


/- TaleLines, TaleBack over the given functions. -/
set_option linter.unusedVariables false
namespace Go.Proofs.YtogfcfgfkggmlaaGreatDoor.Eng.U
open Go Go.Proofs Go.Proofs.YtogfcfgfkggmlaaGreatDoor.Eng
theorem heads20 (s : List UInt8) (gs : s.length ≤ 140737488351232) : (bs ext20 10000000000000).kap 24 law20_TaleHeads [.str (str s)] = some (.bool true) :=
  taleHeads_true (E := ext20) (n := 0) (kk := 9999999999994) s (by omega)
end Go.Proofs.YtogfcfgfkggmlaaGreatDoor.Eng.U

