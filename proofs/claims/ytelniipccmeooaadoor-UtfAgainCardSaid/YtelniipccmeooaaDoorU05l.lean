/- The Utf laws in plain words, part 12: UtfAgain answers true. -/
import Derived.Test.YtelniipccmeooaaDoorU05k
set_option linter.unusedVariables false
set_option linter.unusedSimpArgs false
namespace Go.Proofs.YtelniipccmeooaaDoor.Eng.U
open Go Go.Proofs Go.Proofs.YtelniipccmeooaaDoor.Eng Go.Lib

theorem enc_len4 (r : Nat) : (enc r).length ≤ 4 := by
  unfold enc Lib.encodeRune Lib.encodeRuneZ
  rw [List.length_map]
  repeat' split
  all_goals simp
theorem flat_len4 : ∀ rs : List Nat, (rs.flatMap enc).length ≤ 4 * rs.length
  | [] => by simp
  | r :: rs => by
    have := enc_len4 r
    have := flat_len4 rs
    simp only [List.flatMap_cons, List.length_append, List.length_cons]
    omega
theorem mend_size (s : ByteArray) : (mendS s).size ≤ 4 * s.size := by
  have h1 := flat_len4 (runes s)
  have h2 := endsL_length s s.size 0
  rw [runes_ends] at h2
  rw [← size_len, mendS_list]
  unfold runes at *
  omega
theorem utfAgain_true (l : List UInt8) (c : Int) : (bs 9000).kap 6 5 [.list 1 (l.map byteAV), .int .i64 c] = some (.bool true) := by
  rw [kap_at rfl rfl, f5_eq, k11 (by omega)]
  simp only [Option.bind_some, AV.isTup, AV.isFresh, cond_false, atBool, Bool.not_true, List.length_map]
  by_cases h : l.length > 1000
  · rw [show decide (((l.length : Nat) : Int) > 1000) = true from by simp; omega]; rfl
  · rw [show decide (((l.length : Nat) : Int) > 1000) = false from by simp; omega, cond_false, toBytes_map, Option.bind_some]
    have hsz : (⟨l.toArray⟩ : ByteArray).size = l.length := by simp [ByteArray.size]
    generalize (⟨l.toArray⟩ : ByteArray) = s at *
    have hs : s.size ≤ 1000 := by omega
    have hM := mend_size s
    obtain ⟨g1, g2, g3, g4, g5⟩ := cut_facts s c
    have hu := extract_size s (cut s c).size s.size g1 (by omega)
    have hf := (mended s).2
    rw [k17 (by omega), Option.bind_some]
    simp only [AV.isTup, AV.isFresh, cond_false, atStr]
    rw [k14 (by omega), Option.bind_some, hf]
    simp only [AV.isTup, AV.isFresh, cond_false, atBool, show decide ((-1 : Int) < 0) = true from rfl, Bool.not_true]
    rw [k17 (by omega), Option.bind_some, mend_mend]
    simp only [AV.isTup, AV.isFresh, cond_false, atStr, decide_true, Bool.not_true]
    rw [k15 (by omega) (by omega), Option.bind_some]
    simp only [AV.isTup, AV.isFresh, cond_false, atInt, decide_true, cond_true]
    rw [k15 (by omega) (by omega), Option.bind_some, mend_count]
    simp only [AV.isTup, AV.isFresh, cond_false, atInt, decide_true, cond_true, Bool.not_true]
    rw [k14 (by omega), Option.bind_some]
    simp only [AV.isTup, AV.isFresh, cond_false, atBool]
    rw [show (decide (first s < 0) == decide (mendS s = s)) = true from by rw [decide_eq_decide.2 (right_iff s)]; exact beq_self_eq_true _]
    simp only [Bool.not_true, cond_false]
    rw [k19 (by omega) (by omega), Option.bind_some]
    simp only [AV.isTup, AV.isFresh, cond_false, atStr]
    rw [show decide ((((cut s c).size : Nat) : Int) ≤ ((s.size : Nat) : Int)) = true from by simp; omega, show decide ((0 : Int) ≤ (((cut s c).size : Nat) : Int)) = true from by simp, show ((((cut s c).size : Nat) : Int)).toNat = (cut s c).size from by omega, g2]
    simp only [Bool.and_self, cond_true, decide_true]
    rw [k15 (s := cut s c) (by omega) (by omega), k15 (s := s.extract (cut s c).size s.size) (by omega) (by omega)]
    have hcut : (bs 9000).kap 5 14 [.str (cut s c)] = some (.bool (decide (first (cut s c) < 0))) := k14 (by omega)
    simp only [Option.bind_some, AV.isTup, AV.isFresh, cond_false, atInt, atBool, decide_true, cond_true, hcut]
    rw [i64w (by have := endsL_length s s.size 0; unfold ends at *; omega), show decide ((((ends (cut s c)).length : Nat) : Int) + (((ends (s.extract (cut s c).size s.size)).length : Nat) : Int) = (((ends s).length : Nat) : Int)) = true from decide_eq_true (by omega)]
    have fin : (bif !decide (first s < 0) then some (AV.bool true) else bif decide (first (cut s c) < 0) then some (AV.bool true) else some (AV.bool false)) = some (.bool true) := by
      by_cases hr : first s < 0
      · rw [decide_eq_true hr, decide_eq_true (g4 hr)]; rfl
      · rw [decide_eq_false hr]; rfl
    by_cases h0 : c < 0
    · rw [decide_eq_true h0, cond_true]
      exact fin
    · rw [decide_eq_false h0, cond_false, show decide ((((cut s c).size : Nat) : Int) ≤ c) = true from decide_eq_true (g3 (by omega)), cond_true]
      exact fin
end Go.Proofs.YtelniipccmeooaaDoor.Eng.U
