/- The Utf laws in plain words, part 10: how many code points a cut text and its rest have. -/
import Derived.Test.YtelniipccmeooaaDoorU05i
set_option linter.unusedVariables false
set_option linter.unusedSimpArgs false
namespace Go.Proofs.YtelniipccmeooaaDoor.Eng.U
open Go Go.Proofs Go.Proofs.YtelniipccmeooaaDoor.Eng Go.Lib

theorem runes_fuel (s : ByteArray) : ∀ (n m pos : Nat), s.size ≤ pos + n → s.size ≤ pos + m → runesL s n pos = runesL s m pos
  | 0, 0, pos, hn, hm => rfl
  | 0, m + 1, pos, hn, hm => by
    unfold runesL
    rw [if_neg (by omega)]
  | n + 1, 0, pos, hn, hm => by
    unfold runesL
    rw [if_neg (by omega)]
  | n + 1, m + 1, pos, hn, hm => by
    have hw := nx_gt s pos
    unfold runesL
    split
    · rw [runes_fuel s n m (nx s pos) (by omega) (by omega)]
    · rfl
theorem runes_tail (s : ByteArray) (j : Nat) (hj : j ≤ s.size) : ∀ (n i : Nat), runesL (s.extract j s.size) n i = runesL s n (j + i)
  | 0, _ => rfl
  | n + 1, i => by
    have hd : Utf8.decode (s.extract j s.size) i = Utf8.decode s (j + i) := by
      rw [dec_list, dec_list, extract_list s j s.size hj (by omega), List.take_of_length_le (by rw [List.length_drop, size_len]; omega), List.drop_drop]
    have hx : nx (s.extract j s.size) i + j = nx s (j + i) := by unfold nx; rw [hd]; omega
    unfold runesL
    rw [extract_size s j s.size hj (by omega), hd]
    by_cases h : j + i < s.size
    · rw [if_pos (by omega), if_pos h, runes_tail s j hj n, show j + nx (s.extract j s.size) i = nx s (j + i) from by omega]
    · rw [if_neg (by omega), if_neg h]
theorem runes_cut {s : ByteArray} {j : Nat} (hj : Bd s j) : ∀ (n pos : Nat), Bd s pos → pos ≤ j → j ≤ pos + n → ∀ n' n'', s.size ≤ pos + n' → s.size ≤ j + n'' →
    (runesL s n' pos).length = (runesL (s.extract 0 j) n pos).length + (runesL s n'' j).length ∧ (firstL s n' pos < 0 → firstL (s.extract 0 j) n pos < 0)
  | 0, pos, hp, h1, h2, n', n'', h3, h4 => by
    obtain rfl : pos = j := by omega
    rw [runes_fuel s n' n'' pos h3 h4]
    exact ⟨by simp [runesL], fun _ => by unfold firstL; decide⟩
  | n + 1, pos, hp, h1, h2, n', n'', h3, h4 => by
    have hsz := extract_size s 0 j (by omega) hj.le
    rw [Nat.sub_zero] at hsz
    have hjs := hj.le
    by_cases h : pos < j
    · have hnx := Bd.chain (pos + j) pos j (by omega) hp hj h
      have hd := dec_cut hjs h hnx
      have hx : nx (s.extract 0 j) pos = nx s pos := by unfold nx; rw [hd]
      have hbb : bad (s.extract 0 j) pos ↔ bad s pos := by unfold bad; rw [hd]
      have hw := nx_gt s pos
      cases n' with
      | zero => omega
      | succ n' =>
        have hlt : pos < s.size := by omega
        have ih := runes_cut hj n (nx s pos) (.next hp hlt) hnx (by omega) n' n'' (by omega) h4
        revert ih
        generalize (runesL s n'' j).length = z
        intro ih
        unfold runesL firstL
        rw [if_pos hlt, hsz, if_pos h, if_pos hlt, if_pos h, hx, hd]
        refine ⟨?_, fun hf => ?_⟩
        · rw [List.length_cons, List.length_cons, ih.1]
          omega
        · by_cases hb : bad s pos
          · rw [if_pos hb] at hf; omega
          · rw [if_neg hb] at hf
            rw [if_neg (fun x => hb (hbb.1 x))]
            exact ih.2 hf
    · obtain rfl : pos = j := by omega
      rw [runes_fuel s n' n'' pos h3 h4]
      have e1 : runesL (s.extract 0 pos) (n + 1) pos = [] := by unfold runesL; rw [if_neg (by omega)]
      have e2 : firstL (s.extract 0 pos) (n + 1) pos = -1 := by unfold firstL; rw [if_neg (by omega)]
      rw [e1, e2]
      exact ⟨by simp, fun _ => by decide⟩
end Go.Proofs.YtelniipccmeooaaDoor.Eng.U
