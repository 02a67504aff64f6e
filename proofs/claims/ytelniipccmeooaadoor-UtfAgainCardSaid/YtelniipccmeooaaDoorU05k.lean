/- The Utf laws in plain words, part 11: UtfAgain answers true. -/
import Derived.Test.YtelniipccmeooaaDoorU05j
set_option linter.unusedVariables false
set_option linter.unusedSimpArgs false
namespace Go.Proofs.YtelniipccmeooaaDoor.Eng.U
open Go Go.Proofs Go.Proofs.YtelniipccmeooaaDoor.Eng Go.Lib

theorem cutL_c (s : ByteArray) (c : Int) : ∀ (n pos cur : Nat), (cur : Int) ≤ c → ((cutL s c n pos cur : Nat) : Int) ≤ c
  | 0, pos, cur, h => h
  | n + 1, pos, cur, h => by
    unfold cutL
    split
    · split
      · exact h
      · exact cutL_c s c n _ _ (by omega)
    · exact h
theorem ends_runes (s : ByteArray) : (ends s).length = (runes s).length := runes_ends s s.size 0
theorem cut_facts (s : ByteArray) (c : Int) : (cut s c).size ≤ s.size ∧ s.extract 0 (cut s c).size = cut s c ∧ (0 ≤ c → ((cut s c).size : Int) ≤ c) ∧ (first s < 0 → first (cut s c) < 0) ∧
    (ends (cut s c)).length + (ends (s.extract (cut s c).size s.size)).length = (ends s).length := by
  have main : ∀ j, Bd s j → (0 ≤ c → (j : Int) ≤ c) → cut s c = s.extract 0 j → (cut s c).size ≤ s.size ∧ s.extract 0 (cut s c).size = cut s c ∧ (0 ≤ c → ((cut s c).size : Int) ≤ c) ∧ (first s < 0 → first (cut s c) < 0) ∧
      (ends (cut s c)).length + (ends (s.extract (cut s c).size s.size)).length = (ends s).length := by
    intro j hj hc he
    have hjs := hj.le
    have hsz : (s.extract 0 j).size = j := by rw [extract_size s 0 j (by omega) hjs]; omega
    have key := runes_cut hj j 0 .zero (by omega) (by omega) s.size (s.size - j) (by omega) (by omega)
    rw [he, hsz]
    refine ⟨hjs, rfl, hc, fun h => ?_, ?_⟩
    · have := key.2 h
      unfold first
      rw [hsz]
      exact this
    · rw [ends_runes, ends_runes, ends_runes]
      unfold runes
      rw [hsz, extract_size s j s.size hjs (by omega), runes_tail s j hjs, Nat.add_zero]
      exact key.1.symm
  by_cases h : c ≥ (s.size : Int)
  · have e : cut s c = s := by unfold cut; rw [if_pos h]
    rw [e]
    refine ⟨Nat.le_refl _, ByteArray.extract_zero_size, fun _ => h, fun h => h, ?_⟩
    · rw [ends_runes, ends_runes]
      unfold runes
      rw [extract_size s s.size s.size (by omega) (by omega), runes_tail s s.size (by omega), Nat.sub_self]
      simp [runesL]
  · refine main (cutL s c s.size 0 0) (cutL_bd s c _ _ _ .zero .zero) (fun h0 => cutL_c s c _ _ _ h0) ?_
    unfold cut
    rw [if_neg h]
end Go.Proofs.YtelniipccmeooaaDoor.Eng.U
