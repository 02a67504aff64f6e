/- The Utf laws in plain words, part 7: decoding a part of a text, and what was written for a code point. -/
import Derived.Test.YtelniipccmeooaaDoorU05f
set_option linter.unusedVariables false
set_option linter.unusedSimpArgs false
namespace Go.Proofs.YtelniipccmeooaaDoor.Eng.U
open Go Go.Proofs Go.Proofs.YtelniipccmeooaaDoor.Eng Go.Lib

/-- The decoder, on what is left of a text. -/
def decL (l : List UInt8) : Nat × Nat := decodeN l.length (l.getD 0 0).toNat (l.getD 1 0).toNat (l.getD 2 0).toNat (l.getD 3 0).toNat
theorem dec_list (s : ByteArray) (i : Nat) : Utf8.decode s i = decL (s.data.toList.drop i) := by
  rw [decode_at, get_by, get_by, get_by, get_by]
  unfold decL by_
  rw [List.length_drop, size_len]
  have e : ∀ k, (s.data.toList.drop i).getD k 0 = s.data.toList.getD (i + k) 0 := fun k => by simp [List.getD_eq_getElem?_getD]
  rw [e, e, e, e]
  rfl
/-- What is written for a code point is read as that code point, whatever comes behind. -/
theorem dec_enc (r : Nat) (hr : r < 55296 ∨ (57343 < r ∧ r ≤ 1114111)) (l : List UInt8) : decL (Lib.encodeRune (r : Int) ++ l) = (r, (Lib.encodeRune (r : Int)).length) := by
  have tn : ∀ x : Nat, x < 256 → ((x : Int).toNat.toUInt8).toNat = x := fun x hx => by simp [Nat.toUInt8, UInt8.toNat_ofNat']; omega
  unfold Lib.encodeRune
  by_cases h1 : r < 128
  · rw [encodeRuneZ_one (by omega) (by omega)]
    unfold decL
    simp only [List.map_cons, List.map_nil, List.cons_append, List.nil_append, List.length_cons, List.length_nil, List.getD_cons_zero]
    rw [tn r (by omega)]
    unfold decodeN
    rw [if_pos h1]
  by_cases h2 : r < 2048
  · rw [encodeRuneZ_two (by omega) (by omega), show (192 + (r : Int) / 64) = ((192 + r / 64 : Nat) : Int) from by omega, show (128 + (r : Int) % 64) = ((128 + r % 64 : Nat) : Int) from by omega]
    unfold decL
    simp only [List.map_cons, List.map_nil, List.cons_append, List.nil_append, List.length_cons, List.length_nil, List.getD_cons_zero, List.getD_cons_succ]
    rw [tn _ (by omega), tn _ (by omega)]
    unfold decodeN
    rw [if_neg (by omega), if_pos ⟨by omega, by omega, by omega⟩, if_pos (by omega)]
    simp only [Prod.mk.injEq, and_true]
    omega
  by_cases h3 : r < 65536
  · rw [encodeRuneZ_three (by omega), show (224 + (r : Int) / 4096) = ((224 + r / 4096 : Nat) : Int) from by omega, show (128 + (r : Int) / 64 % 64) = ((128 + r / 64 % 64 : Nat) : Int) from by omega, show (128 + (r : Int) % 64) = ((128 + r % 64 : Nat) : Int) from by omega]
    unfold decL
    simp only [List.map_cons, List.map_nil, List.cons_append, List.nil_append, List.length_cons, List.length_nil, List.getD_cons_zero, List.getD_cons_succ]
    rw [tn _ (by omega), tn _ (by omega), tn _ (by omega)]
    unfold decodeN
    rw [if_neg (by omega), if_neg (by omega), if_pos ⟨by omega, ⟨by omega, by omega⟩, by omega, by omega⟩, if_pos (by omega)]
    simp only [Prod.mk.injEq, and_true]
    omega
  · rw [encodeRuneZ_four (by omega) (by omega), show (240 + (r : Int) / 262144) = ((240 + r / 262144 : Nat) : Int) from by omega, show (128 + (r : Int) / 4096 % 64) = ((128 + r / 4096 % 64 : Nat) : Int) from by omega, show (128 + (r : Int) / 64 % 64) = ((128 + r / 64 % 64 : Nat) : Int) from by omega, show (128 + (r : Int) % 64) = ((128 + r % 64 : Nat) : Int) from by omega]
    unfold decL
    simp only [List.map_cons, List.map_nil, List.cons_append, List.nil_append, List.length_cons, List.length_nil, List.getD_cons_zero, List.getD_cons_succ]
    rw [tn _ (by omega), tn _ (by omega), tn _ (by omega), tn _ (by omega)]
    unfold decodeN
    rw [if_neg (by omega), if_neg (by omega), if_neg (by omega), if_pos ⟨by omega, ⟨by omega, by omega⟩, ⟨by omega, by omega⟩, by omega, by omega⟩, if_pos (by omega)]
    simp only [Prod.mk.injEq, and_true]
    omega
end Go.Proofs.YtelniipccmeooaaDoor.Eng.U
