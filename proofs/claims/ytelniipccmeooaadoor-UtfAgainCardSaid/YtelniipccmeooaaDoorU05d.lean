/- The Utf laws in plain words, part 4: UtfLooks answers true. -/
import Derived.Test.YtelniipccmeooaaDoorU05c
set_option linter.unusedVariables false
set_option linter.unusedSimpArgs false
namespace Go.Proofs.YtelniipccmeooaaDoor.Eng.U
open Go Go.Proofs Go.Proofs.YtelniipccmeooaaDoor.Eng Go.Lib

theorem kap_at {K n : Nat} {f : FuncId} {args : List AV} (h1 : (f == 17 || f == 69) = false) (h2 : ([3, 4, 5, 11, 12, 13, 14, 15, 16, 18, 19, 20, 50, 51] : List Nat).contains f = true) : (bs K).kap (n + 1) f args = (bs K).at ((bs K).kap n) f args := by
  show (bif (f == 17 || f == 69) then base f args else bif ([3, 4, 5, 11, 12, 13, 14, 15, 16, 18, 19, 20, 50, 51] : List Nat).contains f then (bs K).at ((bs K).kap n) f args else none) = _
  rw [h1, h2]
  rfl
theorem kap_base {K n : Nat} {f : FuncId} {args : List AV} (h1 : (f == 17 || f == 69) = true) : (bs K).kap n f args = base f args := by
  cases n with
  | zero =>
    show (bif (f == 17 || f == 69) then base f args else none) = _
    rw [h1]; rfl
  | succ n =>
    show (bif (f == 17 || f == 69) then base f args else bif ([3, 4, 5, 11, 12, 13, 14, 15, 16, 18, 19, 20, 50, 51] : List Nat).contains f then (bs K).at ((bs K).kap n) f args else none) = _
    rw [h1]; rfl
section
variable {K n : Nat} {s : ByteArray}
theorem k69 (t : ByteArray) : (bs K).kap n 69 [.str t] = some (.tup [.int .i32 ((goDec t).1 : Int), .int .i64 ((goDec t).2 : Int)]) := kap_base rfl
theorem k17 {t : ByteArray} (h : t.size ≤ 35184372088832) : (bs K).kap n 17 [.str t] = some (.str (mendS t)) := by
  rw [kap_base rfl]
  show (bif decide (t.size ≤ 35184372088832) then some (AV.str (mendS t)) else none) = _
  rw [decide_eq_true h]
  rfl
theorem k51 (hs : s.size ≤ 1000000) {i : Nat} (hi : i < s.size) : (bs (K + 5)).kap (n + 1) 51 [.str s, .int .i64 (i : Int)] = some (.int .i64 (sizeS s i : Int)) := by rw [kap_at rfl rfl]; exact f51_spec hs hi
theorem k16 (hs : s.size ≤ 1000000) (hK : s.size < K) : (bs (K + 5)).kap (n + 2) 16 [.str s] = some (.list 1 ((ends s).map ai)) := by rw [kap_at rfl rfl]; exact f16_spec hs (by omega) fun i hi => k51 hs hi
theorem k12 (hs : s.size ≤ 1000000) (hK : s.size < K) : (bs (K + 5)).kap (n + 3) 12 [.str s] = some (.int .i64 (first s)) := by
  rw [kap_at rfl rfl, f12_spec hs (by omega) (k16 hs hK)]
  exact congrArg (fun x => some (AV.int .i64 x)) (first_ends s s.size 0)
theorem k50 {i : Nat} (hi : i < s.size) : (bs K).kap (n + 1) 50 [.str s, .int .i64 (i : Int), .int .i32 ((Utf8.decode s i).1 : Int)] = some (.bool (decide (bad s i))) := by rw [kap_at rfl rfl]; exact f50_spec hi k69
theorem k13 (hK : s.size < K) : (bs K).kap (n + 2) 13 [.str s] = some (.int .i64 (first s)) := by rw [kap_at rfl rfl]; exact f13_spec hK fun i hi => k50 hi
theorem k14 (hK : s.size < K) : (bs K).kap (n + 3) 14 [.str s] = some (.bool (decide (first s < 0))) := by rw [kap_at rfl rfl]; exact f14_spec (k13 hK)
theorem k15 (hs : s.size ≤ 1000000) (hK : s.size < K) : (bs K).kap (n + 1) 15 [.str s] = some (.int .i64 ((ends s).length : Int)) := by rw [kap_at rfl rfl]; exact f15_spec hs hK
theorem k11 (hK : 2 < K) : (bs K).kap (n + 3) 11 [] = some (.bool true) := by
  rw [kap_at rfl rfl, f11_eq, k17 (by decide), k13 (by exact hK)]
  simp only [Option.bind_some, AV.isTup, AV.isFresh, cond_false, atStr, atInt, decide_true, cond_true]
  rw [show decide (mendS ⟨#[255, 97]⟩ = ⟨#[239, 191, 189, 97]⟩) = true from by decide +kernel, show first ⟨#[97, 255]⟩ = 1 from by decide +kernel]
  rfl
end
theorem toBytes_map : ∀ l : List UInt8, toBytes (l.map byteAV) = some l
  | [] => rfl
  | b :: l => by
    show (toBytes (l.map byteAV)).bind (fun r => some (UInt8.ofNat ((b.toNat : Int)).toNat :: r)) = _
    rw [toBytes_map l]
    simp
theorem utfLooks_true (l : List UInt8) : (bs 3000).kap 6 3 [.list 1 (l.map byteAV)] = some (.bool true) := by
  rw [kap_at rfl rfl, f3_eq, k11 (by omega)]
  simp only [Option.bind_some, AV.isTup, AV.isFresh, cond_false, atBool, Bool.not_true, List.length_map]
  by_cases h : l.length > 2000
  · rw [show decide (((l.length : Nat) : Int) > 2000) = true from by simp; omega]; rfl
  · rw [show decide (((l.length : Nat) : Int) > 2000) = false from by simp; omega, cond_false, toBytes_map, Option.bind_some]
    have hsz : (⟨l.toArray⟩ : ByteArray).size = l.length := by simp [ByteArray.size]
    generalize (⟨l.toArray⟩ : ByteArray) = s at *
    have hs : s.size ≤ 2000 := by omega
    rw [show (3000 : Nat) = 2995 + 5 from rfl, k12 (by omega) (by omega), Option.bind_some]
    simp only [AV.isTup, AV.isFresh, cond_false, atInt, decide_true, cond_true]
    rw [k13 (by omega), Option.bind_some]
    simp only [AV.isTup, AV.isFresh, cond_false, atInt, decide_true, cond_true]
    rw [k14 (by omega), Option.bind_some]
    simp only [AV.isTup, AV.isFresh, cond_false, atBool, beq_self_eq_true, cond_true]
    rw [k15 (by omega) (by omega), Option.bind_some]
    simp only [AV.isTup, AV.isFresh, cond_false, atInt, decide_true, cond_true]
    rw [k16 (by omega) (by omega), Option.bind_some]
    simp only [AV.isTup, AV.isFresh, cond_false, atList, beq_self_eq_true, cond_true, List.length_map, decide_true]
end Go.Proofs.YtelniipccmeooaaDoor.Eng.U
