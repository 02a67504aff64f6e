/- The Utf laws in plain words, part 5: what is mended. -/
import Derived.Test.YtelniipccmeooaaDoorU05d
set_option linter.unusedVariables false
set_option linter.unusedSimpArgs false
namespace Go.Proofs.YtelniipccmeooaaDoor.Eng.U
open Go Go.Proofs Go.Proofs.YtelniipccmeooaaDoor.Eng Go.Lib
variable {kap : FuncId → List AV → Option AV}

/-- A code point's own bytes, by numbers. -/
theorem encN (n b0 b1 b2 b3 : Nat) (h0 : b0 < 256) (h1 : b1 < 256) (h2 : b2 < 256) (h3 : b3 < 256) (hb : decodeN n b0 b1 b2 b3 ≠ (65533, 1)) :
    Lib.encodeRuneZ ((decodeN n b0 b1 b2 b3).1 : Int) = List.map (fun x : Nat => (x : Int)) (List.take (decodeN n b0 b1 b2 b3).2 [b0, b1, b2, b3]) := by
  revert hb
  unfold decodeN
  split
  · intro _
    rw [encodeRuneZ_one (by omega) (by omega)]
    rfl
  split
  · split
    · intro _
      rw [encodeRuneZ_two (by omega) (by omega)]
      simp only [List.take_succ_cons, List.take_zero, List.map_cons, List.map_nil, List.cons.injEq, and_true]
      omega
    · intro h; exact absurd rfl h
  split
  · split
    · intro _
      rw [encodeRuneZ_three (by omega)]
      simp only [List.take_succ_cons, List.take_zero, List.map_cons, List.map_nil, List.cons.injEq, and_true]
      omega
    · intro h; exact absurd rfl h
  split
  · split
    · intro _
      rw [encodeRuneZ_four (by omega) (by omega)]
      simp only [List.take_succ_cons, List.take_zero, List.map_cons, List.map_nil, List.cons.injEq, and_true]
      omega
    · intro h; exact absurd rfl h
  · intro h; exact absurd rfl h
theorem take_four (l : List UInt8) (i w : Nat) (hw : w ≤ 4) (h : i + w ≤ l.length) : (l.drop i).take w = ([l.getD i 0, l.getD (i + 1) 0, l.getD (i + 2) 0, l.getD (i + 3) 0] : List UInt8).take w := by
  refine List.ext_getElem? fun j => ?_
  rw [List.getElem?_take, List.getElem?_take]
  by_cases hj : j < w
  · rw [if_pos hj, if_pos hj, List.getElem?_drop, List.getElem?_eq_getElem (by omega)]
    have e : ∀ k (hk : k < l.length), l.getD k 0 = l[k] := fun k hk => by rw [List.getD_eq_getElem?_getD, List.getElem?_eq_getElem hk]; rfl
    match j, hj with
    | 0, _ => simp [List.getD_eq_getElem?_getD, List.getElem?_eq_getElem (show i < l.length by omega)]
    | 1, _ => simp [List.getD_eq_getElem?_getD, List.getElem?_eq_getElem (show i + 1 < l.length by omega)]
    | 2, _ => simp [List.getD_eq_getElem?_getD, List.getElem?_eq_getElem (show i + 2 < l.length by omega)]
    | 3, _ => simp [List.getD_eq_getElem?_getD, List.getElem?_eq_getElem (show i + 3 < l.length by omega)]
    | j + 4, hj => omega
  · rw [if_neg hj, if_neg hj]
theorem size_len (s : ByteArray) : s.data.toList.length = s.size := by rw [Array.length_toList]; rfl
/-- Of a code point that stands in a text, what is written for it is what stands there. -/
theorem enc_own {s : ByteArray} {i : Nat} (hi : i < s.size) (hb : ¬ bad s i) : Lib.encodeRune ((Utf8.decode s i).1 : Int) = (s.data.toList.drop i).take (Utf8.decode s i).2 := by
  have hin := decode_in s i hi
  have hw := width_le s i
  rw [take_four _ _ _ hw.2 (by rw [size_len]; exact hin)]
  have hb' : Utf8.decode s i ≠ (65533, 1) := hb
  rw [decode_at, get_by, get_by, get_by, get_by] at hb' ⊢
  unfold Lib.encodeRune
  rw [encN _ _ _ _ _ (by_lt s i) (by_lt s (i + 1)) (by_lt s (i + 2)) (by_lt s (i + 3)) hb', List.map_map]
  rw [List.map_take]
  congr 1
  simp [by_]
theorem enc_bad {s : ByteArray} {i : Nat} (hb : bad s i) : Lib.encodeRune ((Utf8.decode s i).1 : Int) = [239, 191, 189] := by
  have : (Utf8.decode s i).1 = 65533 := by rw [show Utf8.decode s i = _ from hb]
  rw [this]
  decide

theorem extract_list (s : ByteArray) (i j : Nat) (h : i ≤ j) (hj : j ≤ s.size) : (s.extract i j).data.toList = (s.data.toList.drop i).take (j - i) := by
  simp [ByteArray.data_extract, Array.toList_extract]
theorem append_list (a b : ByteArray) : (a ++ b).data.toList = a.data.toList ++ b.data.toList := by simp [ByteArray.data_append]
theorem extract_size (s : ByteArray) (i j : Nat) (h : i ≤ j) (hj : j ≤ s.size) : (s.extract i j).size = j - i := by simp [ByteArray.size_extract]; omega
theorem append_size (a b : ByteArray) : (a ++ b).size = a.size + b.size := by simp
theorem mendL_end (s : ByteArray) (n pos : Nat) (h : ¬ pos < s.size) : mendL s n pos = [] := by
  cases n with
  | zero => rfl
  | succ f => simp [mendL, h]

theorem L18 {K : Nat} {s : ByteArray} (hs : s.size ≤ 1000000) (es : List Int) (hes : es.length ≤ 1000000) :
    ∀ (n m pos j : Nat) (t : ByteArray), s.size ≤ pos + n → n < m → pos ≤ s.size → es.drop j = endsL s n pos → j ≤ es.length → t.size ≤ 4 * pos →
      f18_L0 kap K m s t (pos : Int) (es.map ai) (j : Int) = some (.str ⟨(t.data.toList ++ mendL s n pos).toArray⟩) := by
  intro n
  induction n with
  | zero =>
    intro m pos j t hn hm hp hd hj ht
    obtain ⟨m, rfl⟩ : ∃ m', m = m' + 1 := ⟨m - 1, by omega⟩
    have : es.length ≤ j := by simpa [endsL] using hd
    rw [f18_L0_succ, show decide ((j : Int) < ((es.map ai).length : Int)) = false from by simp; omega]
    simp [mendL]
  | succ n ih =>
    intro m pos j t hn hm hp hd hj ht
    obtain ⟨m, rfl⟩ : ∃ m', m = m' + 1 := ⟨m - 1, by omega⟩
    by_cases hlt : pos < s.size
    · have hw := nx_gt s pos
      have hin := decode_in s pos hlt
      unfold endsL at hd
      rw [if_pos hlt] at hd
      have hjl : j < es.length := by
        apply Classical.byContradiction
        intro hn
        rw [List.drop_eq_nil_of_le (by omega)] at hd
        cases hd
      have hd2 := hd
      rw [List.drop_eq_getElem_cons hjl, List.cons.injEq] at hd2
      obtain ⟨he, hrest⟩ := hd2
      unfold mendL
      rw [if_pos hlt]
      rw [f18_L0_succ, show decide ((j : Int) < ((es.map ai).length : Int)) = true from by simp; omega, show decide ((0 : Int) ≤ (j : Int)) = true from by simp, show ((j : Int)).toNat = j from by omega]
      rw [List.getElem?_map, List.getElem?_eq_getElem hjl, he]
      simp only [cond_true, Bool.and_self, Option.map_some, Option.bind_some, cellAt, AV.cells, List.drop_zero, atInt, decide_true, ai]
      rw [i64w (x := (j : Int) + 1) (by omega), show (j : Int) + 1 = ((j + 1 : Nat) : Int) from by omega]
      by_cases hb : bad s pos
      · rw [if_pos hb, show decide (-((nx s pos : Nat) : Int) < 0) = true from by simp; omega, cond_true, show decide (t.size + 3 ≤ 9223372036854775807) = true from by simp; omega, cond_true, i64w (x := 0 - -((nx s pos : Nat) : Int)) (by omega), show 0 - -((nx s pos : Nat) : Int) = ((nx s pos : Nat) : Int) from by omega]
        have hnx := nx_bad hb
        rw [ih m (nx s pos) (j + 1) (t ++ ⟨#[239, 191, 189]⟩) (by omega) (by omega) (by omega) hrest (by omega) (by rw [append_size]; show t.size + 3 ≤ _; omega)]
        rw [append_list, enc_bad hb, List.append_assoc]
        rfl
      · rw [if_neg hb, show decide (((nx s pos : Nat) : Int) < 0) = false from decide_eq_false (by omega), cond_false, show ((nx s pos : Nat) : Int).toNat = nx s pos from by omega, show ((pos : Nat) : Int).toNat = pos from by omega]
        rw [show (decide ((0 : Int) ≤ ((nx s pos : Nat) : Int)) && decide (((nx s pos : Nat) : Int) ≤ (s.size : Int))) = true from by simp; unfold nx at *; omega, cond_true]
        rw [show (decide ((0 : Int) ≤ (pos : Int)) && decide ((pos : Int) ≤ ((nx s pos : Nat) : Int))) = true from by simp; omega, cond_true]
        rw [extract_size s pos (nx s pos) (by omega) hin, show decide (t.size + (nx s pos - pos) ≤ 9223372036854775807) = true from by simp; omega, cond_true]
        rw [ih m (nx s pos) (j + 1) (t ++ s.extract pos (nx s pos)) (by omega) (by omega) hin hrest (by omega) (by rw [append_size, extract_size s pos (nx s pos) (by omega) hin]; omega)]
        rw [append_list, extract_list s pos (nx s pos) (by omega) hin, enc_own hlt hb, List.append_assoc, show nx s pos - pos = (Utf8.decode s pos).2 from by unfold nx; omega]
        rfl
    · have hd' : es.drop j = [] := by rw [hd]; unfold endsL; rw [if_neg hlt]
      have : es.length ≤ j := by simpa using hd'
      rw [f18_L0_succ, show decide ((j : Int) < ((es.map ai).length : Int)) = false from by simp; omega, mendL_end _ _ _ hlt]
      simp
theorem f18_spec {K : Nat} {s : ByteArray} (hs : s.size ≤ 1000000) (hK : s.size < K) (h16 : kap 16 [.str s] = some (.list 1 ((ends s).map ai))) : (bs K).at kap 18 [.str s] = some (.str (mendS s)) := by
  rw [f18_eq, h16]
  have hl := endsL_length s s.size 0
  have := L18 (kap := kap) (K := K) hs (ends s) (by unfold ends; omega) s.size K 0 0 ⟨#[]⟩ (by omega) hK (by omega) rfl (by omega) (by simp [ByteArray.size])
  exact this

/-- Where a text is cut. -/
def cutL (s : ByteArray) (c : Int) : Nat → Nat → Nat → Nat
  | 0, _, cur => cur
  | n + 1, pos, cur => if pos < s.size then (if (pos : Int) > c then cur else cutL s c n (nx s pos) pos) else cur
theorem cutL_le (s : ByteArray) (c : Int) : ∀ (n pos cur : Nat), cur ≤ s.size → cutL s c n pos cur ≤ s.size
  | 0, _, cur, h => h
  | n + 1, pos, cur, h => by
    unfold cutL
    split
    · split
      · exact h
      · exact cutL_le s c n _ _ (by omega)
    · exact h
def cut (s : ByteArray) (c : Int) : ByteArray := if c ≥ (s.size : Int) then s else s.extract 0 (cutL s c s.size 0 0)
theorem L19 {K : Nat} {s : ByteArray} {c : Int} (hs : s.size ≤ 1000000) : ∀ (n m pos cur : Nat), s.size ≤ pos + n → n < m → cur ≤ s.size → f19_L0 kap K m s c (cur : Int) s pos = some (.str (s.extract 0 (cutL s c n pos cur))) := by
  have hend : ∀ cur : Nat, cur ≤ s.size → (bif (decide ((0 : Int) ≤ (cur : Int)) && decide ((cur : Int) ≤ (s.size : Int))) then some (AV.str (s.extract 0 ((cur : Int)).toNat)) else none) = some (.str (s.extract 0 cur)) := fun cur h => by
    rw [show (decide ((0 : Int) ≤ (cur : Int)) && decide ((cur : Int) ≤ (s.size : Int))) = true from by simp; omega, show ((cur : Int)).toNat = cur from by omega]
    rfl
  intro n
  induction n with
  | zero =>
    intro m pos cur hn hm hc
    obtain ⟨m, rfl⟩ : ∃ m', m = m' + 1 := ⟨m - 1, by omega⟩
    rw [f19_L0_succ, show decide (pos < s.size) = false from by simp; omega, cond_false]
    exact hend cur hc
  | succ n ih =>
    intro m pos cur hn hm hc
    obtain ⟨m, rfl⟩ : ∃ m', m = m' + 1 := ⟨m - 1, by omega⟩
    unfold cutL
    by_cases hlt : pos < s.size
    · have hw := nx_gt s pos
      rw [f19_L0_succ, show decide (pos < s.size) = true from by simpa using hlt, cond_true, if_pos hlt]
      by_cases hg : (pos : Int) > c
      · rw [if_pos hg, decide_eq_true hg, cond_true]
        exact hend cur hc
      · rw [if_neg hg, decide_eq_false hg, cond_false]
        exact ih m (nx s pos) pos (by omega) (by omega) (by omega)
    · rw [f19_L0_succ, show decide (pos < s.size) = false from by simpa using hlt, cond_false, if_neg hlt]
      exact hend cur hc
theorem f19_spec {K : Nat} {s : ByteArray} {c : Int} (hs : s.size ≤ 1000000) (hK : s.size < K) : (bs K).at kap 19 [.str s, .int .i64 c] = some (.str (cut s c)) := by
  rw [f19_eq]
  unfold cut
  by_cases h : c ≥ (s.size : Int)
  · rw [if_pos h, decide_eq_true h]; rfl
  · rw [if_neg h, decide_eq_false h, cond_false]
    exact L19 hs s.size K 0 0 (by omega) hK (by omega)

/-- The last of the ends, each by its size, that lies within c. -/
def cutE (c : Int) : List Int → Int → Int
  | [], cur => cur
  | e :: l, cur => cutE c l (if (if e < 0 then -e else e) ≤ c then (if e < 0 then -e else e) else cur)
theorem L20 {K : Nat} {s : ByteArray} {c : Int} {es : List Int} (hs : s.size ≤ 1000000) (hes : ∀ e ∈ es, -(s.size : Int) ≤ e ∧ e ≤ (s.size : Int)) (hl : es.length ≤ 1000000) :
    ∀ (n m j : Nat) (cur : Int), es.length ≤ j + n → n < m → 0 ≤ cur ∧ cur ≤ (s.size : Int) → f20_L0 kap K m s c cur (es.map ai) (j : Int) = some (.str (s.extract 0 (cutE c (es.drop j) cur).toNat)) := by
  have hend : ∀ cur : Int, 0 ≤ cur ∧ cur ≤ (s.size : Int) → (bif (decide ((0 : Int) ≤ cur) && decide (cur ≤ (s.size : Int))) then some (AV.str (s.extract 0 cur.toNat)) else none) = some (.str (s.extract 0 cur.toNat)) := fun cur h => by
    rw [decide_eq_true h.1, decide_eq_true h.2]
    rfl
  intro n
  induction n with
  | zero =>
    intro m j cur hn hm hc
    obtain ⟨m, rfl⟩ : ∃ m', m = m' + 1 := ⟨m - 1, by omega⟩
    rw [f20_L0_succ, show decide ((j : Int) < ((es.map ai).length : Int)) = false from by simp; omega, cond_false, List.drop_eq_nil_of_le (by omega)]
    exact hend cur hc
  | succ n ih =>
    intro m j cur hn hm hc
    obtain ⟨m, rfl⟩ : ∃ m', m = m' + 1 := ⟨m - 1, by omega⟩
    by_cases hlt : j < es.length
    · have he := hes es[j] (List.getElem_mem hlt)
      rw [f20_L0_succ, show decide ((j : Int) < ((es.map ai).length : Int)) = true from by simp; omega, show decide ((0 : Int) ≤ (j : Int)) = true from by simp, show ((j : Int)).toNat = j from by omega]
      rw [List.getElem?_map, List.getElem?_eq_getElem hlt, List.drop_eq_getElem_cons hlt]
      simp only [cond_true, Bool.and_self, Option.map_some, Option.bind_some, cellAt, AV.cells, List.drop_zero, atInt, decide_true, ai, cutE]
      rw [i64w (x := (j : Int) + 1) (by omega), show (j : Int) + 1 = ((j + 1 : Nat) : Int) from by omega, i64w (x := 0 - es[j]) (by omega), show 0 - es[j] = -es[j] from by omega]
      have next := fun cur' hc' => ih m (j + 1) cur' (by omega) (by omega) hc'
      by_cases h0 : es[j] < 0
      · rw [decide_eq_true h0, cond_true, if_pos h0]
        by_cases h1 : -es[j] ≤ c
        · rw [decide_eq_true h1, cond_true, if_pos h1]
          exact next _ (by omega)
        · rw [decide_eq_false h1, cond_false, if_neg h1]
          exact next _ hc
      · rw [decide_eq_false h0, cond_false, if_neg h0]
        by_cases h1 : es[j] ≤ c
        · rw [decide_eq_true h1, cond_true, if_pos h1]
          exact next _ (by omega)
        · rw [decide_eq_false h1, cond_false, if_neg h1]
          exact next _ hc
    · rw [f20_L0_succ, show decide ((j : Int) < ((es.map ai).length : Int)) = false from by simp; omega, cond_false, List.drop_eq_nil_of_le (by omega)]
      exact hend cur hc
theorem endsL_in (s : ByteArray) : ∀ (n pos : Nat), ∀ e ∈ endsL s n pos, -(s.size : Int) ≤ e ∧ e ≤ (s.size : Int) ∧ (pos : Int) < (if e < 0 then -e else e)
  | 0, pos, e, he => by simp [endsL] at he
  | n + 1, pos, e, he => by
    have hw := nx_gt s pos
    unfold endsL at he
    split at he
    · rename_i hlt
      have hin := decode_in s pos hlt
      rcases List.mem_cons.1 he with rfl | he
      · by_cases hb : bad s pos
        · rw [if_pos hb, if_pos (by omega)]; omega
        · rw [if_neg hb, if_neg (by omega)]; omega
      · have := endsL_in s n (nx s pos) e he
        omega
    · simp at he
theorem cutE_none {c : Int} : ∀ {l : List Int} {cur : Int}, (∀ e ∈ l, c < (if e < 0 then -e else e)) → cutE c l cur = cur
  | [], cur, h => rfl
  | e :: l, cur, h => by
    simp only [cutE]
    rw [if_neg (by have := h e (by simp); omega)]
    exact cutE_none fun e he => h e (by simp [he])
theorem head_abs (s : ByteArray) (pos : Nat) : (if (if bad s pos then -(nx s pos : Int) else (nx s pos : Int)) < 0 then -(if bad s pos then -(nx s pos : Int) else (nx s pos : Int)) else (if bad s pos then -(nx s pos : Int) else (nx s pos : Int))) = (nx s pos : Int) := by
  have hw := nx_gt s pos
  by_cases hb : bad s pos
  · rw [if_pos hb, if_pos (by omega)]; omega
  · rw [if_neg hb, if_neg (by omega)]
theorem cut_same (s : ByteArray) (c : Int) (hc : c < (s.size : Int)) : ∀ (n pos cur : Nat), s.size ≤ pos + n → pos ≤ s.size → (pos : Int) ≤ c → cutE c (endsL s n pos) (pos : Int) = ((cutL s c n pos cur : Nat) : Int)
  | 0, pos, cur, hn, hp, h => by omega
  | n + 1, pos, cur, hn, hp, h => by
    have hlt : pos < s.size := by omega
    have hw := nx_gt s pos
    have hin := decode_in s pos hlt
    unfold endsL cutL
    rw [if_pos hlt, if_pos hlt, if_neg (show ¬ ((pos : Int) > c) by omega)]
    simp only [cutE]
    rw [head_abs]
    by_cases h1 : ((nx s pos : Nat) : Int) ≤ c
    · rw [if_pos h1]
      exact cut_same s c hc n (nx s pos) pos (by omega) hin h1
    · rw [if_neg h1, cutE_none fun e he => by have := endsL_in s n (nx s pos) e he; omega]
      cases n with
      | zero => rfl
      | succ n =>
        unfold cutL
        split
        · rw [if_pos (by omega)]
        · rfl
theorem cutE_all (s : ByteArray) (c : Int) (hc : (s.size : Int) ≤ c) : ∀ (n pos : Nat), s.size ≤ pos + n → pos ≤ s.size → cutE c (endsL s n pos) (pos : Int) = (s.size : Int)
  | 0, pos, hn, hp => by
    show (pos : Int) = _
    omega
  | n + 1, pos, hn, hp => by
    unfold endsL
    by_cases hlt : pos < s.size
    · have hw := nx_gt s pos
      have hin := decode_in s pos hlt
      rw [if_pos hlt]
      simp only [cutE]
      rw [head_abs, if_pos (by omega)]
      exact cutE_all s c hc n (nx s pos) (by omega) hin
    · rw [if_neg hlt]
      show (pos : Int) = _
      omega
theorem cutE_cut (s : ByteArray) (c : Int) : s.extract 0 (cutE c (ends s) 0).toNat = cut s c := by
  unfold cut ends
  by_cases h : c ≥ (s.size : Int)
  · rw [if_pos h]
    have := cutE_all s c h s.size 0 (by omega) (by omega)
    rw [show ((0 : Nat) : Int) = 0 from rfl] at this
    rw [this, show ((s.size : Nat) : Int).toNat = s.size from by omega]
    exact ByteArray.extract_zero_size
  · rw [if_neg h]
    by_cases h0 : 0 ≤ c
    · have := cut_same s c (by omega) s.size 0 0 (by omega) (by omega) (by omega)
      rw [show ((0 : Nat) : Int) = 0 from rfl] at this
      rw [this]
      congr 1
    · rw [cutE_none fun e he => by have := endsL_in s s.size 0 e he; omega]
      congr 1
      cases hz : s.size with
      | zero => rfl
      | succ n =>
        unfold cutL
        rw [if_pos (by omega), if_pos (by omega)]
        rfl
theorem f20_spec {K : Nat} {s : ByteArray} {c : Int} (hs : s.size ≤ 1000000) (hK : s.size < K) (h16 : kap 16 [.str s] = some (.list 1 ((ends s).map ai))) : (bs K).at kap 20 [.str s, .int .i64 c] = some (.str (cut s c)) := by
  rw [f20_eq, h16, ← cutE_cut]
  have hl := endsL_length s s.size 0
  exact L20 hs (fun e he => by have := endsL_in s s.size 0 e he; omega) (by unfold ends; omega) s.size K 0 0 (by unfold ends; omega) hK (by omega)
end Go.Proofs.YtelniipccmeooaaDoor.Eng.U
