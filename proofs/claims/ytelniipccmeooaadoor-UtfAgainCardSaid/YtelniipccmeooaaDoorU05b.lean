/- The Utf laws in plain words, part 2: the size of a code point is what the decoder says. -/
import Derived.Test.YtelniipccmeooaaDoorU05a
set_option linter.unusedVariables false
set_option linter.unusedSimpArgs false
namespace Go.Proofs.YtelniipccmeooaaDoor.Eng.U
open Go Go.Proofs Go.Proofs.YtelniipccmeooaaDoor.Eng Go.Lib
variable {kap : FuncId → List AV → Option AV}

theorem sizeN_1 (n b0 b1 b2 b3 : Nat) (h : b0 < 128) : sizeN n b0 b1 b2 b3 = 1 := by
  unfold sizeN decodeN
  rw [if_pos h, szOf_ok (by omega)]
theorem sizeN_0 (n b0 b1 b2 b3 : Nat) (h : 128 ≤ b0 ∧ (b0 < 192 ∨ 248 ≤ b0)) (h0 : b0 < 256) : sizeN n b0 b1 b2 b3 = 0 := by
  unfold sizeN decodeN
  rw [if_neg (by omega), if_neg (by omega), if_neg (by omega), if_neg (by omega), szOf_bad]
theorem sizeN_2 (n b0 b1 b2 b3 : Nat) (h : 192 ≤ b0 ∧ b0 < 224) (h1 : b1 < 256) : sizeN n b0 b1 b2 b3 =
    if n < 2 then 0 else if b1 < 128 then 0 else if 192 ≤ b1 then 0 else if (b0 - 192) * 64 + b1 - 128 < 128 then 0 else if 1114111 < (b0 - 192) * 64 + b1 - 128 then 0 else if 55296 ≤ (b0 - 192) * 64 + b1 - 128 ∧ (b0 - 192) * 64 + b1 - 128 ≤ 57343 then 0 else 2 := by
  unfold sizeN decodeN
  rw [if_neg (by omega)]
  by_cases hc : 1 < n ∧ b1 / 64 = 2
  · rw [if_pos ⟨by omega, hc⟩, if_neg (show ¬ n < 2 by omega), if_neg (show ¬ b1 < 128 by omega), if_neg (show ¬ 192 ≤ b1 by omega)]
    by_cases hd : b0 % 32 * 64 + b1 % 64 ≥ 128
    · rw [if_pos hd, szOf_ok (by omega), if_neg (by omega), if_neg (by omega), if_neg (by omega)]
    · rw [if_neg hd, szOf_bad, if_pos (by omega)]
  · rw [if_neg (fun h => hc h.2), if_neg (by omega), if_neg (by omega), szOf_bad]
    by_cases g1 : n < 2
    · rw [if_pos g1]
    · rw [if_neg g1]
      by_cases g2 : b1 < 128
      · rw [if_pos g2]
      · rw [if_neg g2, if_pos (by omega)]
theorem sizeN_3 (n b0 b1 b2 b3 : Nat) (h : 224 ≤ b0 ∧ b0 < 240) (h1 : b1 < 256) (h2 : b2 < 256) : sizeN n b0 b1 b2 b3 =
    if n < 3 then 0 else if b1 < 128 then 0 else if 192 ≤ b1 then 0 else if b2 < 128 then 0 else if 192 ≤ b2 then 0 else if ((b0 - 224) * 64 + b1 - 128) * 64 + b2 - 128 < 2048 then 0 else if 1114111 < ((b0 - 224) * 64 + b1 - 128) * 64 + b2 - 128 then 0 else if 55296 ≤ ((b0 - 224) * 64 + b1 - 128) * 64 + b2 - 128 ∧ ((b0 - 224) * 64 + b1 - 128) * 64 + b2 - 128 ≤ 57343 then 0 else 3 := by
  unfold sizeN decodeN
  rw [if_neg (by omega), if_neg (show ¬ (b0 / 32 = 6 ∧ _) by omega)]
  by_cases hc : (1 < n ∧ b1 / 64 = 2) ∧ (2 < n ∧ b2 / 64 = 2)
  · rw [if_pos ⟨by omega, hc.1, hc.2⟩, if_neg (show ¬ n < 3 by omega), if_neg (show ¬ b1 < 128 by omega), if_neg (show ¬ 192 ≤ b1 by omega), if_neg (show ¬ b2 < 128 by omega), if_neg (show ¬ 192 ≤ b2 by omega)]
    have e : b0 % 16 * 4096 + b1 % 64 * 64 + b2 % 64 = ((b0 - 224) * 64 + b1 - 128) * 64 + b2 - 128 := by omega
    rw [e]
    generalize ((b0 - 224) * 64 + b1 - 128) * 64 + b2 - 128 = c at *
    by_cases hd : c ≥ 2048 ∧ (c < 55296 ∨ (57344 ≤ c ∧ c ≤ 1114111))
    · rw [if_pos hd, szOf_ok (by omega), if_neg (by omega), if_neg (by omega), if_neg (by omega)]
    · rw [if_neg hd, szOf_bad]
      by_cases g1 : c < 2048
      · rw [if_pos g1]
      · rw [if_neg g1]
        by_cases g2 : 1114111 < c
        · rw [if_pos g2]
        · rw [if_neg g2, if_pos (by omega)]
  · rw [if_neg (fun h => hc h.2), if_neg (by omega), szOf_bad]
    by_cases g1 : n < 3
    · rw [if_pos g1]
    · rw [if_neg g1]
      by_cases g2 : b1 < 128
      · rw [if_pos g2]
      · rw [if_neg g2]
        by_cases g3 : 192 ≤ b1
        · rw [if_pos g3]
        · rw [if_neg g3]
          by_cases g4 : b2 < 128
          · rw [if_pos g4]
          · rw [if_neg g4, if_pos (by omega)]
theorem sizeN_4 (n b0 b1 b2 b3 : Nat) (h : 240 ≤ b0 ∧ b0 < 248) (h1 : b1 < 256) (h2 : b2 < 256) (h3 : b3 < 256) : sizeN n b0 b1 b2 b3 =
    if n < 4 then 0 else if b1 < 128 then 0 else if 192 ≤ b1 then 0 else if b2 < 128 then 0 else if 192 ≤ b2 then 0 else if b3 < 128 then 0 else if 192 ≤ b3 then 0 else
    if (((b0 - 240) * 64 + b1 - 128) * 64 + b2 - 128) * 64 + b3 - 128 < 65536 then 0 else if 1114111 < (((b0 - 240) * 64 + b1 - 128) * 64 + b2 - 128) * 64 + b3 - 128 then 0 else if 55296 ≤ (((b0 - 240) * 64 + b1 - 128) * 64 + b2 - 128) * 64 + b3 - 128 ∧ (((b0 - 240) * 64 + b1 - 128) * 64 + b2 - 128) * 64 + b3 - 128 ≤ 57343 then 0 else 4 := by
  unfold sizeN decodeN
  rw [if_neg (by omega), if_neg (show ¬ (b0 / 32 = 6 ∧ _) by omega), if_neg (show ¬ (b0 / 16 = 14 ∧ _) by omega)]
  by_cases hc : (1 < n ∧ b1 / 64 = 2) ∧ (2 < n ∧ b2 / 64 = 2) ∧ (3 < n ∧ b3 / 64 = 2)
  · rw [if_pos ⟨by omega, hc.1, hc.2.1, hc.2.2⟩, if_neg (show ¬ n < 4 by omega), if_neg (show ¬ b1 < 128 by omega), if_neg (show ¬ 192 ≤ b1 by omega), if_neg (show ¬ b2 < 128 by omega), if_neg (show ¬ 192 ≤ b2 by omega), if_neg (show ¬ b3 < 128 by omega), if_neg (show ¬ 192 ≤ b3 by omega)]
    have e : b0 % 8 * 262144 + b1 % 64 * 4096 + b2 % 64 * 64 + b3 % 64 = (((b0 - 240) * 64 + b1 - 128) * 64 + b2 - 128) * 64 + b3 - 128 := by omega
    rw [e]
    generalize (((b0 - 240) * 64 + b1 - 128) * 64 + b2 - 128) * 64 + b3 - 128 = c at *
    by_cases hd : c ≥ 65536 ∧ (c < 55296 ∨ (57344 ≤ c ∧ c ≤ 1114111))
    · rw [if_pos hd, szOf_ok (by omega), if_neg (by omega), if_neg (by omega), if_neg (by omega)]
    · rw [if_neg hd, szOf_bad]
      by_cases g1 : c < 65536
      · rw [if_pos g1]
      · rw [if_neg g1]
        by_cases g2 : 1114111 < c
        · rw [if_pos g2]
        · rw [if_neg g2, if_pos (by omega)]
  · rw [if_neg (fun h => hc h.2), szOf_bad]
    by_cases g1 : n < 4
    · rw [if_pos g1]
    · rw [if_neg g1]
      by_cases g2 : b1 < 128
      · rw [if_pos g2]
      · rw [if_neg g2]
        by_cases g3 : 192 ≤ b1
        · rw [if_pos g3]
        · rw [if_neg g3]
          by_cases g4 : b2 < 128
          · rw [if_pos g4]
          · rw [if_neg g4]
            by_cases g5 : 192 ≤ b2
            · rw [if_pos g5]
            · rw [if_neg g5]
              by_cases g6 : b3 < 128
              · rw [if_pos g6]
              · rw [if_neg g6, if_pos (by omega)]
theorem some_if (p : Prop) [Decidable p] (a b : Nat) : (some (AV.int .i64 ((if p then a else b : Nat) : Int))) = if p then some (AV.int .i64 (a : Int)) else some (AV.int .i64 (b : Int)) := by by_cases h : p <;> simp [h]
theorem f51_spec {K : Nat} {s : ByteArray} {i : Nat} (hs : s.size ≤ 1000000) (hi : i < s.size) : (bs (K + 5)).at kap 51 [.str s, .int .i64 (i : Int)] = some (.int .i64 (sizeS s i : Int)) := by
  have h0 := by_lt s i
  have h1 := by_lt s (i + 1)
  have h2 := by_lt s (i + 2)
  have h3 := by_lt s (i + 3)
  rw [f51_num hs hi, sizeS_eq]
  by_cases a1 : by_ s i < 128
  · rw [if_pos a1, sizeN_1 _ _ _ _ _ a1]; rfl
  rw [if_neg a1]
  by_cases a2 : by_ s i < 192
  · rw [if_pos a2, sizeN_0 _ _ _ _ _ (by omega) h0]; rfl
  rw [if_neg a2]
  by_cases a3 : by_ s i < 224
  · rw [if_pos a3, sizeN_2 _ _ _ _ _ (by omega) h1]
    by_cases z : s.size < i + 2
    · rw [if_pos z, if_pos (by omega)]; rfl
    · rw [if_neg z, if_neg (by omega), L51_two hs (by omega) (by omega)]
      simp only [some_if]; rfl
  rw [if_neg a3]
  by_cases a4 : by_ s i < 240
  · rw [if_pos a4, sizeN_3 _ _ _ _ _ (by omega) h1 h2]
    by_cases z : s.size < i + 3
    · rw [if_pos z, if_pos (by omega)]; rfl
    · rw [if_neg z, if_neg (by omega), L51_three hs (by omega) (by omega)]
      simp only [some_if]; rfl
  rw [if_neg a4]
  by_cases a5 : by_ s i < 248
  · rw [if_pos a5, sizeN_4 _ _ _ _ _ (by omega) h1 h2 h3]
    by_cases z : s.size < i + 4
    · rw [if_pos z, if_pos (by omega)]; rfl
    · rw [if_neg z, if_neg (by omega), L51_four hs (by omega) (by omega)]
      simp only [some_if]; rfl
  · rw [if_neg a5, sizeN_0 _ _ _ _ _ (by omega) h0]; rfl
end Go.Proofs.YtelniipccmeooaaDoor.Eng.U
