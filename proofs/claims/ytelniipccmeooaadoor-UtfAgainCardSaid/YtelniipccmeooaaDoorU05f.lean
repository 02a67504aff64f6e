/- The Utf laws in plain words, part 6: UtfMends answers true. -/
import Derived.Test.YtelniipccmeooaaDoorU05e
set_option linter.unusedVariables false
set_option linter.unusedSimpArgs false
namespace Go.Proofs.YtelniipccmeooaaDoor.Eng.U
open Go Go.Proofs Go.Proofs.YtelniipccmeooaaDoor.Eng Go.Lib
section
variable {K n : Nat} {s : ByteArray} {c : Int}
theorem k18 (hs : s.size ≤ 1000000) (hK : s.size < K) : (bs (K + 5)).kap (n + 3) 18 [.str s] = some (.str (mendS s)) := by rw [kap_at rfl rfl]; exact f18_spec hs (by omega) (k16 hs hK)
theorem k19 (hs : s.size ≤ 1000000) (hK : s.size < K) : (bs K).kap (n + 1) 19 [.str s, .int .i64 c] = some (.str (cut s c)) := by rw [kap_at rfl rfl]; exact f19_spec hs hK
theorem k20 (hs : s.size ≤ 1000000) (hK : s.size < K) : (bs (K + 5)).kap (n + 3) 20 [.str s, .int .i64 c] = some (.str (cut s c)) := by rw [kap_at rfl rfl]; exact f20_spec hs (by omega) (k16 hs hK)
end
theorem utfMends_true (l : List UInt8) (c : Int) : (bs 3000).kap 6 4 [.list 1 (l.map byteAV), .int .i64 c] = some (.bool true) := by
  rw [kap_at rfl rfl, f4_eq, k11 (by omega)]
  simp only [Option.bind_some, AV.isTup, AV.isFresh, cond_false, atBool, Bool.not_true, List.length_map]
  by_cases h : l.length > 1000
  · rw [show decide (((l.length : Nat) : Int) > 1000) = true from by simp; omega]; rfl
  · rw [show decide (((l.length : Nat) : Int) > 1000) = false from by simp; omega, cond_false, toBytes_map, Option.bind_some]
    have hsz : (⟨l.toArray⟩ : ByteArray).size = l.length := by simp [ByteArray.size]
    generalize (⟨l.toArray⟩ : ByteArray) = s at *
    have hs : s.size ≤ 1000 := by omega
    rw [show (3000 : Nat) = 2995 + 5 from rfl, k17 (by omega), Option.bind_some]
    simp only [AV.isTup, AV.isFresh, cond_false, atStr]
    rw [k18 (by omega) (by omega), Option.bind_some]
    simp only [AV.isTup, AV.isFresh, cond_false, atStr, decide_true, cond_true]
    rw [k19 (by omega) (by omega), Option.bind_some]
    simp only [AV.isTup, AV.isFresh, cond_false, atStr]
    rw [k20 (by omega) (by omega), Option.bind_some]
    simp only [AV.isTup, AV.isFresh, cond_false, atStr, decide_true]
end Go.Proofs.YtelniipccmeooaaDoor.Eng.U
