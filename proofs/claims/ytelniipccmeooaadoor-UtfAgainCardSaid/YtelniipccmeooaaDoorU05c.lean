/- The Utf laws in plain words, part 3: the functions that go through a text. -/
import Derived.Test.YtelniipccmeooaaDoorU05b
import Derived.Lib.RuneCountTail
set_option linter.unusedVariables false
set_option linter.unusedSimpArgs false
namespace Go.Proofs.YtelniipccmeooaaDoor.Eng.U
open Go Go.Proofs Go.Proofs.YtelniipccmeooaaDoor.Eng Go.Lib
variable {kap : FuncId → List AV → Option AV}

abbrev ai (n : Int) : AV := .int .i64 n
/-- Is the byte at a place no part of a code point? -/
def bad (s : ByteArray) (i : Nat) : Prop := Utf8.decode s i = (65533, 1)
instance (s : ByteArray) (i : Nat) : Decidable (bad s i) := inferInstanceAs (Decidable (_ = _))
/-- The place behind what stands at a place. -/
def nx (s : ByteArray) (i : Nat) : Nat := i + (Utf8.decode s i).2
theorem width_le (s : ByteArray) (i : Nat) : 1 ≤ (Utf8.decode s i).2 ∧ (Utf8.decode s i).2 ≤ 4 := by
  rw [decode_at]
  unfold decodeN
  repeat' split
  all_goals simp
theorem nx_gt (s : ByteArray) (i : Nat) : i < nx s i ∧ nx s i ≤ i + 4 := by have := width_le s i; unfold nx; omega
theorem decode_in (s : ByteArray) (i : Nat) (h : i < s.size) : nx s i ≤ s.size := by
  unfold nx
  rw [decode_at]
  unfold decodeN
  repeat' split
  all_goals (simp only; omega)
theorem sizeS_bad {s : ByteArray} {i : Nat} (h : bad s i) : sizeS s i = 0 := by unfold sizeS; rw [h]; rfl
theorem sizeS_good {s : ByteArray} {i : Nat} (h : ¬ bad s i) : sizeS s i = (Utf8.decode s i).2 ∧ sizeS s i ≠ 0 := by
  unfold sizeS szOf
  rw [if_neg (show ¬ Utf8.decode s i = (65533, 1) from h)]
  have := width_le s i
  exact ⟨rfl, by omega⟩
theorem nx_bad {s : ByteArray} {i : Nat} (h : bad s i) : nx s i = i + 1 := by unfold nx; rw [h]

/-- The ends of all that stands in a text, from a place on: below zero where a byte is no part of a code point. -/
def endsL (s : ByteArray) : Nat → Nat → List Int
  | 0, _ => []
  | n + 1, pos => if pos < s.size then (if bad s pos then -(nx s pos : Int) else (nx s pos : Int)) :: endsL s n (nx s pos) else []
def ends (s : ByteArray) : List Int := endsL s s.size 0
theorem L16 {K : Nat} {s : ByteArray} (hs : s.size ≤ 1000000) (h51 : ∀ i, i < s.size → kap 51 [.str s, .int .i64 (i : Int)] = some (.int .i64 (sizeS s i : Int))) :
    ∀ (n m pos : Nat) (xs : List AV), s.size ≤ pos + n → n < m → xs.length ≤ pos → pos ≤ s.size + 4 → f16_L0 kap K m s (pos : Int) xs = some (.list 1 (xs ++ (endsL s n pos).map ai)) := by
  intro n
  induction n with
  | zero =>
    intro m pos xs hn hm hx hp
    obtain ⟨m, rfl⟩ : ∃ m', m = m' + 1 := ⟨m - 1, by omega⟩
    rw [f16_L0_succ, show decide ((pos : Int) < (s.size : Int)) = false from by simp; omega]
    simp [endsL]
  | succ n ih =>
    intro m pos xs hn hm hx hp
    obtain ⟨m, rfl⟩ : ∃ m', m = m' + 1 := ⟨m - 1, by omega⟩
    by_cases hlt : pos < s.size
    · have hw := nx_gt s pos
      rw [f16_L0_succ, show decide ((pos : Int) < (s.size : Int)) = true from by simp; omega, h51 pos hlt, cond_true, Option.bind_some]
      simp only [AV.isTup, AV.isFresh, cond_false, atInt, decide_true, cond_true]
      rw [show (decide ((xs.length + 1) * 8 ≤ 140737488355328) && decide (xs.length + 1 ≤ 9223372036854775807)) = true from by simp; omega]
      simp only [cond_true]
      unfold endsL
      rw [if_pos hlt]
      by_cases hb : bad s pos
      · rw [if_pos hb, sizeS_bad hb, show decide (((0 : Nat) : Int) = 0) = true from rfl, cond_true]
        have e := nx_bad hb
        rw [i64w (x := (pos : Int) + 1) (by omega), i64w (x := 0 - ((pos : Int) + 1)) (by omega), show (pos : Int) + 1 = ((nx s pos : Nat) : Int) from by omega,
          ih m (nx s pos) _ (by omega) (by omega) (by simp; omega) (by omega)]
        simp [ai]
      · obtain ⟨e1, e2⟩ := sizeS_good hb
        rw [if_neg hb, show decide (((sizeS s pos : Nat) : Int) = 0) = false from by simp; omega, cond_false]
        have e : nx s pos = pos + sizeS s pos := by rw [e1]; rfl
        rw [i64w (x := (pos : Int) + (sizeS s pos : Int)) (by omega), show (pos : Int) + (sizeS s pos : Int) = ((nx s pos : Nat) : Int) from by omega,
          ih m (nx s pos) _ (by omega) (by omega) (by simp; omega) (by omega)]
        simp [ai]
    · rw [f16_L0_succ, show decide ((pos : Int) < (s.size : Int)) = false from by simp; omega]
      unfold endsL
      rw [if_neg hlt]
      simp
theorem f16_spec {K : Nat} {s : ByteArray} (hs : s.size ≤ 1000000) (hK : s.size < K) (h51 : ∀ i, i < s.size → kap 51 [.str s, .int .i64 (i : Int)] = some (.int .i64 (sizeS s i : Int))) : (bs K).at kap 16 [.str s] = some (.list 1 ((ends s).map ai)) := by
  rw [f16_eq]
  exact L16 hs h51 s.size K 0 [] (by omega) hK (by simp) (by omega)

/-- The place of the first byte that is no part of a code point; -1: there is none. -/
def firstL (s : ByteArray) : Nat → Nat → Int
  | 0, _ => -1
  | n + 1, pos => if pos < s.size then (if bad s pos then (pos : Int) else firstL s n (nx s pos)) else -1
def first (s : ByteArray) : Int := firstL s s.size 0
theorem f50_spec {K : Nat} {s : ByteArray} {i : Nat} (hi : i < s.size) (h69 : ∀ t, kap 69 [.str t] = some (.tup [.int .i32 ((goDec t).1 : Int), .int .i64 ((goDec t).2 : Int)])) :
    (bs K).at kap 50 [.str s, .int .i64 (i : Int), .int .i32 ((Utf8.decode s i).1 : Int)] = some (.bool (decide (bad s i))) := by
  rw [f50_eq]
  by_cases h : (Utf8.decode s i).1 = 65533
  · rw [show decide ((((Utf8.decode s i).1 : Nat) : Int) = 65533) = true from by simp; omega, show (decide ((0 : Int) ≤ (i : Int)) && decide ((i : Int) ≤ (s.size : Int))) = true from by simp; omega]
    simp only [Bool.not_true, cond_false, cond_true, h69, Option.bind_some, atTup, atCons, AV.isFresh, atInt, decide_true, atNil]
    have e : goDec (s.extract ((i : Int)).toNat s.size) = Utf8.decode s i := by
      rw [show ((i : Int)).toNat = i from by omega]
      unfold goDec
      rw [if_neg (by rw [tail_size]; omega), decode_at, decode_at, tail_size, Nat.sub_zero]
      simp only [tail_get!, Nat.add_zero, Nat.zero_add]
    rw [e]
    congr 2
    refine decide_eq_decide.2 ?_
    unfold bad
    rw [Prod.ext_iff]
    simp only [h, true_and]
    omega
  · rw [show decide ((((Utf8.decode s i).1 : Nat) : Int) = 65533) = false from by simp; omega]
    simp only [Bool.not_false, cond_true]
    rw [show decide (bad s i) = false from by simp only [decide_eq_false_iff_not]; intro hb; exact h (by rw [show Utf8.decode s i = _ from hb])]
theorem L13 {K : Nat} {s : ByteArray} (h50 : ∀ i, i < s.size → kap 50 [.str s, .int .i64 (i : Int), .int .i32 ((Utf8.decode s i).1 : Int)] = some (.bool (decide (bad s i)))) :
    ∀ (n m pos : Nat), s.size ≤ pos + n → n < m → f13_L0 kap K m s s pos = some (.int .i64 (firstL s n pos)) := by
  intro n
  induction n with
  | zero =>
    intro m pos hn hm
    obtain ⟨m, rfl⟩ : ∃ m', m = m' + 1 := ⟨m - 1, by omega⟩
    rw [f13_L0_succ, show decide (pos < s.size) = false from by simp; omega]
    rfl
  | succ n ih =>
    intro m pos hn hm
    obtain ⟨m, rfl⟩ : ∃ m', m = m' + 1 := ⟨m - 1, by omega⟩
    unfold firstL
    by_cases hlt : pos < s.size
    · have hw := nx_gt s pos
      rw [f13_L0_succ, show decide (pos < s.size) = true from by simpa using hlt, h50 pos hlt, if_pos hlt]
      simp only [cond_true, Option.bind_some, AV.isTup, AV.isFresh, cond_false, atBool]
      by_cases hb : bad s pos
      · rw [if_pos hb, decide_eq_true hb]; rfl
      · rw [if_neg hb, decide_eq_false hb]
        exact ih m (nx s pos) (by omega) (by omega)
    · rw [f13_L0_succ, show decide (pos < s.size) = false from by simpa using hlt, if_neg hlt]
      rfl
theorem f13_spec {K : Nat} {s : ByteArray} (hK : s.size < K) (h50 : ∀ i, i < s.size → kap 50 [.str s, .int .i64 (i : Int), .int .i32 ((Utf8.decode s i).1 : Int)] = some (.bool (decide (bad s i)))) : (bs K).at kap 13 [.str s] = some (.int .i64 (first s)) := by
  rw [f13_eq]
  exact L13 h50 s.size K 0 (by omega) hK
theorem f14_spec {K : Nat} {s : ByteArray} (h13 : kap 13 [.str s] = some (.int .i64 (first s))) : (bs K).at kap 14 [.str s] = some (.bool (decide (first s < 0))) := by
  rw [f14_eq, h13]
  rfl
theorem L15 {K : Nat} {s : ByteArray} (hs : s.size ≤ 1000000) : ∀ (n m pos c : Nat), s.size ≤ pos + n → n < m → c ≤ pos → pos ≤ s.size + 4 → f15_L0 kap K m (c : Int) s pos = some (.int .i64 ((c + (endsL s n pos).length : Nat) : Int)) := by
  intro n
  induction n with
  | zero =>
    intro m pos c hn hm hc hp
    obtain ⟨m, rfl⟩ : ∃ m', m = m' + 1 := ⟨m - 1, by omega⟩
    rw [f15_L0_succ, show decide (pos < s.size) = false from by simp; omega]
    rfl
  | succ n ih =>
    intro m pos c hn hm hc hp
    obtain ⟨m, rfl⟩ : ∃ m', m = m' + 1 := ⟨m - 1, by omega⟩
    unfold endsL
    by_cases hlt : pos < s.size
    · have hw := nx_gt s pos
      rw [f15_L0_succ, show decide (pos < s.size) = true from by simpa using hlt, if_pos hlt, cond_true, i64w (x := (c : Int) + 1) (by omega), show (c : Int) + 1 = ((c + 1 : Nat) : Int) from by omega]
      have := ih m (nx s pos) (c + 1) (by omega) (by omega) (by omega) (by omega)
      unfold nx at this ⊢
      rw [this]
      simp only [List.length_cons]
      congr 3
      omega
    · rw [f15_L0_succ, show decide (pos < s.size) = false from by simpa using hlt, if_neg hlt]
      rfl
theorem f15_spec {K : Nat} {s : ByteArray} (hs : s.size ≤ 1000000) (hK : s.size < K) : (bs K).at kap 15 [.str s] = some (.int .i64 ((ends s).length : Int)) := by
  rw [f15_eq]
  have := L15 (kap := kap) (K := K) hs s.size K 0 0 (by omega) hK (by omega) (by omega)
  rw [Nat.zero_add] at this
  exact this

/-- The first of the ends that is below zero. -/
def firstNeg : List Int → Int
  | [] => -1
  | e :: l => if e < 0 then -e - 1 else firstNeg l
theorem L12 {K : Nat} {es : List Int} (hes : ∀ e ∈ es, -1000010 ≤ e ∧ e ≤ 1000010) (hl : es.length ≤ 1000000) : ∀ (n m j : Nat), es.length ≤ j + n → n < m → f12_L0 kap K m (es.map ai) (j : Int) = some (.int .i64 (firstNeg (es.drop j))) := by
  intro n
  induction n with
  | zero =>
    intro m j hn hm
    obtain ⟨m, rfl⟩ : ∃ m', m = m' + 1 := ⟨m - 1, by omega⟩
    rw [f12_L0_succ, show decide ((j : Int) < ((es.map ai).length : Int)) = false from by simp; omega, List.drop_eq_nil_of_le (by omega)]
    rfl
  | succ n ih =>
    intro m j hn hm
    obtain ⟨m, rfl⟩ : ∃ m', m = m' + 1 := ⟨m - 1, by omega⟩
    by_cases hlt : j < es.length
    · have he := hes es[j] (List.getElem_mem hlt)
      rw [f12_L0_succ, show decide ((j : Int) < ((es.map ai).length : Int)) = true from by simp; omega, show decide ((0 : Int) ≤ (j : Int)) = true from by simp, show ((j : Int)).toNat = j from by omega]
      rw [List.getElem?_map, List.getElem?_eq_getElem hlt, List.drop_eq_getElem_cons hlt]
      simp only [cond_true, Bool.and_self, Option.map_some, Option.bind_some, cellAt, AV.cells, List.drop_zero, atInt, decide_true, firstNeg, ai]
      by_cases h0 : es[j] < 0
      · rw [if_pos h0, show decide (es[j] < 0) = true from by simpa using h0, cond_true, i64w (x := 0 - es[j]) (by omega), i64w (x := 0 - es[j] - 1) (by omega)]
        congr 2
        omega
      · rw [if_neg h0, show decide (es[j] < 0) = false from by simpa using h0, cond_false, i64w (x := (j : Int) + 1) (by omega), show (j : Int) + 1 = ((j + 1 : Nat) : Int) from by omega]
        exact ih m (j + 1) (by omega) (by omega)
    · rw [f12_L0_succ, show decide ((j : Int) < ((es.map ai).length : Int)) = false from by simp; omega, List.drop_eq_nil_of_le (by omega)]
      rfl
theorem endsL_range (s : ByteArray) : ∀ (n pos : Nat), pos ≤ s.size + 4 → ∀ e ∈ endsL s n pos, -((s.size : Int) + 8) ≤ e ∧ e ≤ (s.size : Int) + 8
  | 0, pos, hp, e, he => by simp [endsL] at he
  | n + 1, pos, hp, e, he => by
    have hw := nx_gt s pos
    unfold endsL at he
    split at he
    · rename_i hlt
      rcases List.mem_cons.1 he with rfl | he
      · split <;> omega
      · exact endsL_range s n (nx s pos) (by omega) e he
    · simp at he
theorem endsL_length (s : ByteArray) : ∀ (n pos : Nat), (endsL s n pos).length ≤ n
  | 0, pos => by simp [endsL]
  | n + 1, pos => by
    unfold endsL
    split
    · have := endsL_length s n (nx s pos)
      simp; omega
    · simp
theorem f12_spec {K : Nat} {s : ByteArray} (hs : s.size ≤ 1000000) (hK : s.size < K) (h16 : kap 16 [.str s] = some (.list 1 ((ends s).map ai))) : (bs K).at kap 12 [.str s] = some (.int .i64 (firstNeg (ends s))) := by
  rw [f12_eq, h16]
  have hl := endsL_length s s.size 0
  exact L12 (fun e he => by have := endsL_range s s.size 0 (by omega) e he; omega) (by unfold ends; omega) s.size K 0 (by unfold ends; omega) hK
theorem first_ends (s : ByteArray) : ∀ (n pos : Nat), firstNeg (endsL s n pos) = firstL s n pos
  | 0, pos => rfl
  | n + 1, pos => by
    have hw := nx_gt s pos
    unfold endsL firstL
    split
    · rename_i hlt
      simp only [firstNeg]
      by_cases hb : bad s pos
      · have := nx_bad hb
        rw [if_pos hb, if_pos hb, if_pos (by omega)]
        omega
      · rw [if_neg hb, if_neg hb, if_neg (by omega)]
        exact first_ends s n _
    · rfl
end Go.Proofs.YtelniipccmeooaaDoor.Eng.U
