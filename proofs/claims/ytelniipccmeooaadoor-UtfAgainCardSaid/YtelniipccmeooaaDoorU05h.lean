/- The Utf laws in plain words, part 8: what is mended is right and stays. -/
import Derived.Test.YtelniipccmeooaaDoorU05g
set_option linter.unusedVariables false
set_option linter.unusedSimpArgs false
namespace Go.Proofs.YtelniipccmeooaaDoor.Eng.U
open Go Go.Proofs Go.Proofs.YtelniipccmeooaaDoor.Eng Go.Lib

def scalar (r : Nat) : Prop := r < 55296 ∨ (57343 < r ∧ r ≤ 1114111)
theorem dec_scalar (s : ByteArray) (i : Nat) : scalar (Utf8.decode s i).1 := by
  rw [decode_at]
  unfold scalar
  have h0 := by_lt s i
  rw [← get_by] at h0
  unfold decodeN
  repeat' split
  all_goals (simp only; omega)
/-- The code points of a text, from a place on. -/
def runesL (s : ByteArray) : Nat → Nat → List Nat
  | 0, _ => []
  | n + 1, pos => if pos < s.size then (Utf8.decode s pos).1 :: runesL s n (nx s pos) else []
def enc (r : Nat) : List UInt8 := Lib.encodeRune (r : Int)
theorem enc_len (r : Nat) : 1 ≤ (enc r).length := by
  unfold enc Lib.encodeRune Lib.encodeRuneZ
  rw [List.length_map]
  repeat' split
  all_goals simp
theorem mend_runes (s : ByteArray) : ∀ n pos, mendL s n pos = (runesL s n pos).flatMap enc
  | 0, _ => rfl
  | n + 1, pos => by
    unfold mendL runesL
    split
    · rw [List.flatMap_cons]
      exact congrArg _ (mend_runes s n _)
    · rfl
theorem runes_scalar (s : ByteArray) : ∀ n pos, ∀ r ∈ runesL s n pos, scalar r
  | 0, _, r, h => by simp [runesL] at h
  | n + 1, pos, r, h => by
    unfold runesL at h
    split at h
    · rcases List.mem_cons.1 h with rfl | h
      · exact dec_scalar s pos
      · exact runes_scalar s n _ r h
    · simp at h
theorem runes_ends (s : ByteArray) : ∀ n pos, (endsL s n pos).length = (runesL s n pos).length
  | 0, _ => rfl
  | n + 1, pos => by
    unfold endsL runesL
    split
    · simp only [List.length_cons, runes_ends s n]
    · rfl
theorem text_runes {s : ByteArray} : ∀ (rs : List Nat) (n pos : Nat), (∀ r ∈ rs, scalar r) → s.data.toList.drop pos = rs.flatMap enc → rs.length ≤ n → pos ≤ s.size → runesL s n pos = rs ∧ firstL s n pos = -1
  | [], n, pos, hr, hd, hn, hp => by
    have : s.size ≤ pos := by rw [← size_len]; simpa using hd
    cases n with
    | zero => exact ⟨rfl, rfl⟩
    | succ n =>
      unfold runesL firstL
      rw [if_neg (by omega), if_neg (by omega)]
      exact ⟨rfl, rfl⟩
  | r :: rs, 0, pos, hr, hd, hn, hp => by simp at hn
  | r :: rs, n + 1, pos, hr, hd, hn, hp => by
    rw [List.flatMap_cons] at hd
    have h1 := enc_len r
    have hlt : pos < s.size := by
      apply Classical.byContradiction
      intro h
      rw [List.drop_eq_nil_of_le (by rw [size_len]; omega)] at hd
      have := congrArg List.length hd
      simp only [List.length_nil, List.length_append] at this
      omega
    have hdec : Utf8.decode s pos = (r, (enc r).length) := by
      rw [dec_list, hd]
      exact dec_enc r (hr r (by simp)) _
    have hnb : ¬ bad s pos := by
      intro hb
      have hb' : Utf8.decode s pos = (65533, 1) := hb
      rw [hdec] at hb'
      simp only [Prod.mk.injEq] at hb'
      obtain ⟨rfl, hb'⟩ := hb'
      revert hb'
      decide
    have hnx : nx s pos = pos + (enc r).length := by unfold nx; rw [hdec]
    have hin := decode_in s pos hlt
    have hrest : s.data.toList.drop (nx s pos) = rs.flatMap enc := by
      rw [hnx, ← List.drop_drop, hd, List.drop_left]
    obtain ⟨e1, e2⟩ := text_runes rs n (nx s pos) (fun x hx => hr x (by simp [hx])) hrest (by simpa using hn) hin
    unfold runesL firstL
    rw [if_pos hlt, if_pos hlt, if_neg hnb, e1, e2, hdec]
    exact ⟨rfl, rfl⟩
theorem flat_len : ∀ rs : List Nat, rs.length ≤ (rs.flatMap enc).length
  | [] => by simp
  | r :: rs => by
    have := enc_len r
    have := flat_len rs
    simp only [List.flatMap_cons, List.length_append, List.length_cons]
    omega
def runes (s : ByteArray) : List Nat := runesL s s.size 0
theorem mendS_list (s : ByteArray) : (mendS s).data.toList = (runes s).flatMap enc := by
  show (mendL s s.size 0) = _
  exact mend_runes s s.size 0
theorem mended (s : ByteArray) : runes (mendS s) = runes s ∧ first (mendS s) = -1 :=
  text_runes (runes s) (mendS s).size 0 (runes_scalar s s.size 0) (by rw [List.drop_zero]; exact mendS_list s) (by rw [← size_len, mendS_list]; exact flat_len _) (by omega)
theorem bytes_ext {a b : ByteArray} (h : a.data.toList = b.data.toList) : a = b := by
  obtain ⟨a⟩ := a
  obtain ⟨b⟩ := b
  congr 1
  exact Array.toList_inj.1 h
theorem mend_mend (s : ByteArray) : mendS (mendS s) = mendS s := bytes_ext (by rw [mendS_list, mendS_list, (mended s).1])
theorem mend_count (s : ByteArray) : (ends (mendS s)).length = (ends s).length := by
  unfold ends
  rw [runes_ends, runes_ends]
  exact congrArg List.length (mended s).1
theorem mend_right (s : ByteArray) : ∀ n pos, s.size ≤ pos + n → pos ≤ s.size → firstL s n pos < 0 → mendL s n pos = s.data.toList.drop pos
  | 0, pos, hn, hp, h => by
    rw [List.drop_eq_nil_of_le (by rw [size_len]; omega)]
    rfl
  | n + 1, pos, hn, hp, h => by
    unfold firstL at h
    unfold mendL
    by_cases hlt : pos < s.size
    · have hw := nx_gt s pos
      have hin := decode_in s pos hlt
      rw [if_pos hlt] at h ⊢
      by_cases hb : bad s pos
      · rw [if_pos hb] at h
        omega
      · rw [if_neg hb] at h
        rw [enc_own hlt hb]
        have := mend_right s n (nx s pos) (by omega) hin h
        unfold nx at this
        rw [this, ← List.drop_drop]
        exact List.take_append_drop _ _
    · rw [if_neg hlt, List.drop_eq_nil_of_le (by rw [size_len]; omega)]
theorem right_iff (s : ByteArray) : (first s < 0) ↔ mendS s = s := by
  constructor
  · intro h
    refine bytes_ext ?_
    show mendL s s.size 0 = _
    rw [mend_right s s.size 0 (by omega) (by omega) h, List.drop_zero]
  · intro h
    rw [← h, (mended s).2]
    decide
end Go.Proofs.YtelniipccmeooaaDoor.Eng.U
