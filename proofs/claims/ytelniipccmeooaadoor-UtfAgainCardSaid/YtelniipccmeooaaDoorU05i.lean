/- The Utf laws in plain words, part 9: what is cut. -/
import Derived.Test.YtelniipccmeooaaDoorU05h
set_option linter.unusedVariables false
set_option linter.unusedSimpArgs false
namespace Go.Proofs.YtelniipccmeooaaDoor.Eng.U
open Go Go.Proofs Go.Proofs.YtelniipccmeooaaDoor.Eng Go.Lib

/-- What is decoded hangs on its own bytes alone. -/
theorem decodeN_trunc (n m b0 b1 b2 b3 c1 c2 c3 : Nat) (hm : 1 ≤ m) (hn : m ≤ n) (hw : (decodeN n b0 b1 b2 b3).2 ≤ m) (h1 : 1 < m → c1 = b1) (h2 : 2 < m → c2 = b2) (h3 : 3 < m → c3 = b3) : decodeN m b0 c1 c2 c3 = decodeN n b0 b1 b2 b3 := by
  rcases (show m = 1 ∨ m = 2 ∨ m = 3 ∨ 3 < m by omega) with rfl | rfl | rfl | hm4
  · revert hw
    unfold decodeN
    simp only [show ¬ ((1 : Nat) < 1) by omega, show ¬ ((2 : Nat) < 1) by omega, show ¬ ((3 : Nat) < 1) by omega, false_and, and_false, if_false]
    repeat' split
    all_goals first | (intro _; rfl) | (intro h; simp only at h; omega)
  · obtain rfl := h1 (by omega)
    revert hw
    unfold decodeN
    simp only [show ((1 : Nat) < 2) by omega, show ¬ ((2 : Nat) < 2) by omega, show ¬ ((3 : Nat) < 2) by omega, show 1 < n by omega, true_and, false_and, and_false, if_false]
    repeat' split
    all_goals first | (intro _; rfl) | (intro h; simp only at h; omega)
  · obtain rfl := h1 (by omega)
    obtain rfl := h2 (by omega)
    revert hw
    unfold decodeN
    simp only [show ((1 : Nat) < 3) by omega, show ((2 : Nat) < 3) by omega, show ¬ ((3 : Nat) < 3) by omega, show 1 < n by omega, show 2 < n by omega, true_and, false_and, and_false, if_false]
    repeat' split
    all_goals first | (intro _; rfl) | (intro h; simp only at h; omega)
  · obtain rfl := h1 (by omega)
    obtain rfl := h2 (by omega)
    obtain rfl := h3 (by omega)
    unfold decodeN
    have e : ∀ k, k < 4 → ((k < m) = True ∧ (k < n) = True) := fun k hk => ⟨by simp; omega, by simp; omega⟩
    simp only [(e 1 (by omega)).1, (e 1 (by omega)).2, (e 2 (by omega)).1, (e 2 (by omega)).2, (e 3 (by omega)).1, (e 3 (by omega)).2]
theorem by_cut {s : ByteArray} {j k : Nat} (hj : j ≤ s.size) (hk : k < j) : by_ (s.extract 0 j) k = by_ s k := by
  unfold by_
  rw [extract_list s 0 j (by omega) hj, List.drop_zero, Nat.sub_zero]
  simp only [List.getD_eq_getElem?_getD, List.getElem?_take, if_pos hk]
theorem dec_cut {s : ByteArray} {i j : Nat} (hj : j ≤ s.size) (hi : i < j) (hn : nx s i ≤ j) : Utf8.decode (s.extract 0 j) i = Utf8.decode s i := by
  unfold nx at hn
  rw [decode_at] at hn ⊢
  rw [decode_at, extract_size s 0 j (by omega) hj, Nat.sub_zero]
  simp only [get_by] at hn ⊢
  rw [by_cut hj hi]
  exact decodeN_trunc _ _ _ _ _ _ _ _ _ (by omega) (by omega) (by omega) (fun h => by_cut hj (by omega)) (fun h => by_cut hj (by omega)) (fun h => by_cut hj (by omega))
/-- The places between the code points of a text. -/
inductive Bd (s : ByteArray) : Nat → Prop where
  | zero : Bd s 0
  | next {p : Nat} : Bd s p → p < s.size → Bd s (nx s p)
theorem Bd.chain {s : ByteArray} : ∀ (m p j : Nat), p + j ≤ m → Bd s p → Bd s j → p < j → nx s p ≤ j
  | 0, p, j, hm, _, _, h => by omega
  | m + 1, p, j, hm, hp, hj, h => by
    cases hj with
    | zero => omega
    | @next q hq hqs =>
      have hw := nx_gt s q
      rcases Nat.lt_trichotomy p q with h1 | h1 | h1
      · have := Bd.chain m p q (by omega) hp hq h1
        omega
      · subst h1; omega
      · have := Bd.chain m q p (by omega) hq hp h1
        omega
theorem Bd.le {s : ByteArray} {j : Nat} (h : Bd s j) : j ≤ s.size := by
  cases h with
  | zero => omega
  | next _ hq => exact decode_in s _ hq
theorem cutL_bd (s : ByteArray) (c : Int) : ∀ (n pos cur : Nat), Bd s pos → Bd s cur → Bd s (cutL s c n pos cur)
  | 0, pos, cur, hp, hc => hc
  | n + 1, pos, cur, hp, hc => by
    unfold cutL
    split
    · rename_i hlt
      split
      · exact hc
      · exact cutL_bd s c n _ _ (.next hp hlt) hp
    · exact hc
end Go.Proofs.YtelniipccmeooaaDoor.Eng.U
