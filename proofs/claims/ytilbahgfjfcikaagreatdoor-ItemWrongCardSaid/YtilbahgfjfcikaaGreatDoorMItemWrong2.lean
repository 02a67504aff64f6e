/- Several texts of this proof in one file: U07, Q08, U08, U09g, U09h, U09i, U09j, V09, B09. -/
import Derived.Test.YtilbahgfjfcikaaGreatDoorMItemWrong1
import Derived.Test.YtilbahgfjfcikaaGreatDoorMItemWrong0
/- What a pair of a record is: both sides in plain words. -/
set_option linter.unusedVariables false
set_option linter.unusedSectionVars false
set_option linter.unusedSimpArgs false
namespace Go.Proofs.YtilbahgfjfcikaaGreatDoor.Eng.U
open Go Go.Proofs Go.Proofs.YtilbahgfjfcikaaGreatDoor.Eng Go.Proofs.YtilbahgfjfcikaaGreatDoor.P04
variable {E : Ext} [Core E] [HasNum E] {k n : Nat}

def utfOk (l : List UInt8) : Bool := decide (first (str l) < 0)
theorem refFirst_k (l : List UInt8) (hl : l.length ≤ 1000000) (hk : l.length + 5 < k) : kp E k (n + 3) ref05_First [.str (str l)] = some (.int .i64 (first (str l))) := by
  obtain ⟨K, rfl⟩ : ∃ K, k = K + 5 := ⟨k - 5, by omega⟩
  have hs : (str l).size ≤ 1000000 := by rw [str_size]; exact hl
  have h1 : ∀ i, i < (str l).size → kp E (K + 5) (n + 1) ref05_size [.str (str l), .int .i64 (i : Int)] = some (.int .i64 (sizeS (str l) i : Int)) := fun i hi => size_spec hs hi
  have h2 := ref05_Ends_spec (E := E) (K := K + 5) (n := n + 1) hs (by rw [str_size]; omega) h1
  rw [ref05_First_spec hs (by rw [str_size]; omega) h2, ends, first_ends, first]
section
variable [HasTextV E]
theorem utf_k (l : List UInt8) (hk : l.length < k) : kp E k (n + 3) utf_Right [.str (str l)] = some (.bool (utfOk l)) := by
  have h1 : ∀ i, i < (str l).size → kp E k (n + 1) utf_wrong [.str (str l), .int .i64 (i : Int), .int .i32 ((Utf8.decode (str l) i).1 : Int)] = some (.bool (decide (bad (str l) i))) := fun i hi => utf_wrong_spec hi (HasTextV.dec k n)
  exact utf_Right_spec (utf_First_spec (by rw [str_size]; omega) h1)
theorem contains_k (s : List UInt8) (hs : s.length ≤ 1000000) : kp E k (n + 1) strings_ContainsAny [.str (str s), .str (str [61, 0])] = some (.bool (!noEq s)) := by
  obtain ⟨i, hi, h⟩ := HasTextV.idx (E := E) k n s hs
  rw [strings_ContainsAny_eq, hi, callI_ok, h]
end
def clean (s : List UInt8) : Bool := s.all fun c => decide (c ≠ 0)
theorem index0 (s : List UInt8) : decide (Lib.indexByte s 0 < 0) = clean s := by
  induction s with
  | nil => rfl
  | cons b l ih =>
    have hg := Lib.indexByte_ge l 0
    unfold Lib.indexByte clean
    rw [List.all_cons]
    by_cases hb : b = 0
    · subst hb; rfl
    · have h1 : (b == 0) = false := by simpa using hb
      rw [h1, decide_eq_true hb, Bool.true_and, show (l.all fun c => decide (c ≠ 0)) = clean l from rfl, ← ih]
      simp only [Bool.false_eq_true, if_false, beq_iff_eq]
      split
      · rename_i h; rw [h]
      · rename_i h
        rw [decide_eq_decide]
        omega
theorem index0_k (s : List UInt8) : kp E k n strings_IndexByte [.str (str s), .int .u8 0] = some (.int .i64 (Lib.indexByte s 0)) := HasNum.indexB k n s 0
theorem textClean_k (s : List UInt8) : kp E k (n + 1) text_Clean [.str (str s)] = some (.bool (clean s)) := by
  rw [text_Clean_eq, index0_k, callI_ok, index0]
theorem paxClean_k (s : List UInt8) : kp E k (n + 1) pax_clean [.str (str s)] = some (.bool (clean s)) := by
  rw [pax_clean_eq, index0_k, callI_ok, index0]
theorem get_loop (kap : FuncId → List AV → Option AV) : ∀ (suf pre acc : List UInt8) (k0 : Nat), suf.length < k0 → (pre ++ suf).length < 1000000000 → acc.length ≤ pre.length →
    ref02_Get_L0 kap k k0 (bys (pre ++ suf)) ((pre.length : Nat) : Int) (bys acc) = some (.str (str (acc ++ suf.takeWhile fun c => decide (c ≠ 0))))
  | [], pre, acc, k0 + 1, h, hb, ha => by
    have e : toBytes (bys acc) = some acc := toBytes_map acc
    rw [ref02_Get_L0_s, bys_len, bif_f (by simp), e]
    simp
  | c :: suf, pre, acc, k0 + 1, h, hb, ha => by
    have h' : suf.length < k0 := by simp only [List.length_cons] at h; omega
    have hb' : pre.length + (suf.length + 1) < 1000000000 := by simp only [List.length_append, List.length_cons] at hb; exact hb
    have e : toBytes (bys acc) = some acc := toBytes_map acc
    rw [ref02_Get_L0_s, bys_len, mid_len, bif_t (by omega), bif_a, bif_t (by omega), bif_t (by omega), Int.toNat_natCast, bys_mid, byte_c, bys_len]
    by_cases hc : c = 0
    · subst hc
      rw [show (!decide (((UInt8.toNat 0 : Nat) : Int) = 0)) = false from rfl, cond_false, e]
      simp
    · have h0 : ¬ ((c.toNat : Nat) : Int) = 0 := fun h => hc (UInt8.toNat_inj.1 (by show c.toNat = 0; omega))
      rw [decide_eq_false h0, Bool.not_false, cond_true, bif_a, bif_t (by omega), bif_t (by omega), bys_mid, byte_c, bif_a, bif_t (by omega), bif_t (by omega), i64w (by omega)]
      have e1 : bys acc ++ [AV.int .u8 ((c.toNat : Nat) : Int)] = bys (acc ++ [c]) := by unfold bys; rw [List.map_append]; rfl
      have e2 : ((pre.length : Nat) : Int) + 1 = (((pre ++ [c]).length : Nat) : Int) := by simp
      have e3 : pre ++ c :: suf = (pre ++ [c]) ++ suf := by simp
      rw [e1, e2, e3, get_loop kap suf (pre ++ [c]) (acc ++ [c]) k0 h' (by simp only [List.length_append, List.length_cons, List.length_nil]; omega) (by simp only [List.length_append, List.length_cons, List.length_nil]; omega)]
      rw [List.takeWhile_cons, decide_eq_true hc]
      simp
theorem takeWhile_all (p : UInt8 → Bool) : ∀ s : List UInt8, decide (s.takeWhile p = s) = s.all p
  | [] => rfl
  | c :: l => by
    rw [List.takeWhile_cons, List.all_cons]
    cases h : p c with
    | true => simp only [Bool.true_and, if_true, List.cons.injEq, true_and]; exact takeWhile_all p l
    | false => simp
theorem refClean_k (s : List UInt8) (hs : s.length < 1000000000) (hk : s.length < k) : kp E k (n + 2) ref02_Clean [.str (str s)] = some (.bool (clean s)) := by
  have h := get_loop (k := k) (kp E k n) s [] [] k hk (by simpa using hs) (by simp)
  rw [ref02_Clean_eq, str_bytes, ref02_Get_eq]
  have h' : ref02_Get_L0 (kp E k n) k k (s.map byteAV) (0 : Int) [] = some (.str (str (s.takeWhile fun c => decide (c ≠ 0)))) := by simpa [bys] using h
  rw [h', callS_ok, str_dec, takeWhile_all, clean]

def whichL (key : List UInt8) : Int :=
  if key = [112, 97, 116, 104] then 0 else if key = [108, 105, 110, 107, 112, 97, 116, 104] then 1 else if key = [117, 110, 97, 109, 101] then 2 else if key = [103, 110, 97, 109, 101] then 3 else if key = [117, 105, 100] then 4 else if key = [103, 105, 100] then 5 else if key = [115, 105, 122, 101] then 6 else if key = [109, 116, 105, 109, 101] then 7 else -1
theorem is_path (key : List UInt8) : decide (str key = str [112, 97, 116, 104]) = decide (whichL key = 0) := by
  rw [str_dec, decide_eq_decide]
  constructor
  · rintro rfl; rfl
  · intro h
    unfold whichL at h
    repeat' split at h
    all_goals first | assumption | (exfalso; revert h; decide)
theorem is_linkpath (key : List UInt8) : decide (str key = str [108, 105, 110, 107, 112, 97, 116, 104]) = decide (whichL key = 1) := by
  rw [str_dec, decide_eq_decide]
  constructor
  · rintro rfl; rfl
  · intro h
    unfold whichL at h
    repeat' split at h
    all_goals first | assumption | (exfalso; revert h; decide)
theorem is_uname (key : List UInt8) : decide (str key = str [117, 110, 97, 109, 101]) = decide (whichL key = 2) := by
  rw [str_dec, decide_eq_decide]
  constructor
  · rintro rfl; rfl
  · intro h
    unfold whichL at h
    repeat' split at h
    all_goals first | assumption | (exfalso; revert h; decide)
theorem is_gname (key : List UInt8) : decide (str key = str [103, 110, 97, 109, 101]) = decide (whichL key = 3) := by
  rw [str_dec, decide_eq_decide]
  constructor
  · rintro rfl; rfl
  · intro h
    unfold whichL at h
    repeat' split at h
    all_goals first | assumption | (exfalso; revert h; decide)
theorem is_uid (key : List UInt8) : decide (str key = str [117, 105, 100]) = decide (whichL key = 4) := by
  rw [str_dec, decide_eq_decide]
  constructor
  · rintro rfl; rfl
  · intro h
    unfold whichL at h
    repeat' split at h
    all_goals first | assumption | (exfalso; revert h; decide)
theorem is_gid (key : List UInt8) : decide (str key = str [103, 105, 100]) = decide (whichL key = 5) := by
  rw [str_dec, decide_eq_decide]
  constructor
  · rintro rfl; rfl
  · intro h
    unfold whichL at h
    repeat' split at h
    all_goals first | assumption | (exfalso; revert h; decide)
theorem is_size (key : List UInt8) : decide (str key = str [115, 105, 122, 101]) = decide (whichL key = 6) := by
  rw [str_dec, decide_eq_decide]
  constructor
  · rintro rfl; rfl
  · intro h
    unfold whichL at h
    repeat' split at h
    all_goals first | assumption | (exfalso; revert h; decide)
theorem is_mtime (key : List UInt8) : decide (str key = str [109, 116, 105, 109, 101]) = decide (whichL key = 7) := by
  rw [str_dec, decide_eq_decide]
  constructor
  · rintro rfl; rfl
  · intro h
    unfold whichL at h
    repeat' split at h
    all_goals first | assumption | (exfalso; revert h; decide)
theorem which_lt (key : List UInt8) : -1 ≤ whichL key ∧ whichL key ≤ 7 := by
  unfold whichL
  repeat' split
  all_goals decide
theorem known_k (key : List UInt8) : kp E k (n + 1) pax_Known [.str (str key)] = some (.bool (decide (0 ≤ whichL key))) := by
  have hw := which_lt key
  rw [pax_Known_eq, is_path, is_linkpath, is_uname, is_gname, is_uid, is_gid, is_size, is_mtime]
  generalize whichL key = w at hw
  have : w = -1 ∨ w = 0 ∨ w = 1 ∨ w = 2 ∨ w = 3 ∨ w = 4 ∨ w = 5 ∨ w = 6 ∨ w = 7 := by omega
  rcases this with rfl | rfl | rfl | rfl | rfl | rfl | rfl | rfl | rfl <;> rfl
theorem which_k (key : List UInt8) (hk : 10 < k) : kp E k (n + 2) ref07_Which [.str (str key)] = some (.int .i64 (whichL key)) := by
  obtain ⟨K, rfl⟩ : ∃ K, k = K + 9 := ⟨k - 9, by omega⟩
  rw [ref07_Which_eq, ref07_Keys_eq, callL_ok]
  have hw := which_lt key
  have st : ∀ (j : Nat) (s : List UInt8) (m : Nat), j < 8 → ([(.str (str [112, 97, 116, 104])), (.str (str [108, 105, 110, 107, 112, 97, 116, 104])), (.str (str [117, 110, 97, 109, 101])), (.str (str [103, 110, 97, 109, 101])), (.str (str [117, 105, 100])), (.str (str [103, 105, 100])), (.str (str [115, 105, 122, 101])), (.str (str [109, 116, 105, 109, 101]))] : List AV)[j]? = some (.str (str s)) →
      ref07_Which_L0 (kp E (K + 9) (n + 1)) (K + 9) (m + 1) (str key) [(.str (str [112, 97, 116, 104])), (.str (str [108, 105, 110, 107, 112, 97, 116, 104])), (.str (str [117, 110, 97, 109, 101])), (.str (str [103, 110, 97, 109, 101])), (.str (str [117, 105, 100])), (.str (str [103, 105, 100])), (.str (str [115, 105, 122, 101])), (.str (str [109, 116, 105, 109, 101]))] ((j : Nat) : Int) = bif decide (str key = str s) then some (.int .i64 ((j : Nat) : Int)) else ref07_Which_L0 (kp E (K + 9) (n + 1)) (K + 9) m (str key) [(.str (str [112, 97, 116, 104])), (.str (str [108, 105, 110, 107, 112, 97, 116, 104])), (.str (str [117, 110, 97, 109, 101])), (.str (str [103, 110, 97, 109, 101])), (.str (str [117, 105, 100])), (.str (str [103, 105, 100])), (.str (str [115, 105, 122, 101])), (.str (str [109, 116, 105, 109, 101]))] (((j + 1 : Nat) : Nat) : Int) := by
    intro j s m hj hs
    rw [ref07_Which_L0_s, Int.toNat_natCast, hs, Option.bind_some, i64w (by omega), show ((j : Nat) : Int) + 1 = ((j + 1 : Nat) : Int) by omega]
    rw [bif_t (by simp only [List.length_cons, List.length_nil]; omega), bif_a, bif_t (by omega), bif_t (by simp only [List.length_cons, List.length_nil]; omega)]
    show (bif decide (str s = str key) then _ else _) = _
    rw [show decide (str s = str key) = decide (str key = str s) from decide_eq_decide.2 eq_comm]
  refine (st 0 [112, 97, 116, 104] (K + 8) (by omega) rfl).trans ?_
  rw [is_path]
  rw [st 1 [108, 105, 110, 107, 112, 97, 116, 104] (K + 7) (by omega) rfl, is_linkpath]
  rw [st 2 [117, 110, 97, 109, 101] (K + 6) (by omega) rfl, is_uname]
  rw [st 3 [103, 110, 97, 109, 101] (K + 5) (by omega) rfl, is_gname]
  rw [st 4 [117, 105, 100] (K + 4) (by omega) rfl, is_uid]
  rw [st 5 [103, 105, 100] (K + 3) (by omega) rfl, is_gid]
  rw [st 6 [115, 105, 122, 101] (K + 2) (by omega) rfl, is_size]
  rw [st 7 [109, 116, 105, 109, 101] (K + 1) (by omega) rfl, is_mtime]
  have en : ∀ m (l : List AV), l.length = 8 → ref07_Which_L0 (kp E (K + 9) (n + 1)) (K + 9) (m + 1) (str key) l (((7 + 1 : Nat) : Nat) : Int) = some (.int .i64 (-1)) := by
    intro m l hl
    rw [ref07_Which_L0_s, hl, bif_f (by omega)]
  rw [en _ _ rfl]
  generalize whichL key = w at hw
  have : w = -1 ∨ w = 0 ∨ w = 1 ∨ w = 2 ∨ w = 3 ∨ w = 4 ∨ w = 5 ∨ w = 6 ∨ w = 7 := by omega
  rcases this with rfl | rfl | rfl | rfl | rfl | rfl | rfl | rfl | rfl <;> rfl
def numOk (s : List UInt8) : Bool := natOk s && decide (valA 0 s ≤ 9223372036854775807)
def valR (key s : List UInt8) : Bool :=
  if s = [] then true else if whichL key < 0 then true else if whichL key < 4 then clean s else if whichL key < 7 then numOk s else (timeL s).isSome
theorem value_k [HasTextV E] (key s : List UInt8) (hs : s.length ≤ 1000000) (hk : s.length < k) : kp E k (n + 4) pax_value [.str (str key), .str (str s)] = some (.bool (utfOk s && valR key s)) := by
  have hN : (callT (kp E k (n + 3) dec_Number [(.str (str s))]) fun vt6 => (tupI .i64 vt6 fun vn7 vt8 => (tupI .u8 vt8 fun vn9 vt10 => (atNil vt10 (some (.bool (decide (vn9 = (0 : Int)))))))) : Option AV) = some (.bool (numOk s)) := by
    rw [number_k s (by omega) hk]
    unfold numOk
    cases natOk s && decide (valA 0 s ≤ 9223372036854775807) <;> rfl
  have hT : (callT (kp E k (n + 3) dec_Time [(.str (str s))]) fun vt12 => (tupG 2 vt12 fun vg13 vt14 => (cellI .i64 vg13 0 fun vn15 => (cellI .i64 vg13 1 fun vn16 => (tupI .u8 vt14 fun vn17 vt18 => (atNil vt18 (some (.bool (decide (vn17 = (0 : Int)))))))))) : Option AV) = some (.bool (timeL s).isSome) := by
    rw [time_k s (by omega) hk]
    cases timeL s <;> rfl
  have hC : (callB (kp E k (n + 3) pax_clean [(.str (str s))]) fun vq4 => (some (.bool vq4)) : Option AV) = some (.bool (clean s)) := by rw [paxClean_k, callB_ok]
  rw [pax_value_eq, utf_k s hk, callB_ok, is_path, is_linkpath, is_uname, is_gname, is_uid, is_gid, is_size, is_mtime]
  simp only [hN, hT, hC]
  unfold valR
  have hw := which_lt key
  generalize whichL key = w at hw
  cases utfOk s with
  | false => rfl
  | true =>
    rw [Bool.not_true, cond_false, Bool.true_and, show (str [] : ByteArray) = str [] from rfl, str_dec]
    by_cases h0 : s = []
    · rw [decide_eq_true h0, if_pos h0]; rfl
    · rw [decide_eq_false h0, if_neg h0, cond_false]
      have : w = -1 ∨ w = 0 ∨ w = 1 ∨ w = 2 ∨ w = 3 ∨ w = 4 ∨ w = 5 ∨ w = 6 ∨ w = 7 := by omega
      rcases this with rfl | rfl | rfl | rfl | rfl | rfl | rfl | rfl | rfl <;> rfl
def pairOk (p : Pair) : Bool := decide (p.key ≠ []) && (utfOk p.key && (noEq p.key && (utfOk p.val && valR p.key p.val)))
theorem paxRight_k [HasTextV E] (p : Pair) (h1 : p.key.length ≤ 1000000) (h2 : p.val.length ≤ 1000000) (hk : 1000000 < k) : kp E k (n + 5) pax_Right [.agg [.str (str p.key), .str (str p.val)]] = some (.bool (pairOk p)) := by
  rw [pax_Right_eq, utf_k p.key (by omega), contains_k p.key h1, value_k p.key p.val h2 (by omega), str_dec]
  simp only [callB_ok]
  unfold pairOk
  by_cases h : p.key = []
  · rw [decide_eq_true h]
    simp [h]
  · rw [decide_eq_false h, decide_eq_true h]
    cases utfOk p.key <;> cases noEq p.key <;> cases utfOk p.val <;> rfl
theorem eq_loop (kap : FuncId → List AV → Option AV) (val : ByteArray) (R : Option AV) (suf : List UInt8) : ∀ (pre : List UInt8) (k0 : Nat), suf.length < k0 → (pre ++ suf).length < 1000000000 →
    (∀ m, ref07_Right_L0 kap k (m + 1) (((pre ++ suf).length : Nat) : Int) (str (pre ++ suf)) val = R) →
    ref07_Right_L0 kap k k0 ((pre.length : Nat) : Int) (str (pre ++ suf)) val = bif suf.all (fun c => decide (c ≠ 61)) then R else some (.bool false) := by
  induction suf with
  | nil =>
    intro pre k0 h hb hR
    obtain ⟨m, rfl⟩ : ∃ m, k0 = m + 1 := ⟨k0 - 1, by simp only [List.length_nil] at h; omega⟩
    have := hR m
    rw [List.append_nil] at this ⊢
    rw [this]; rfl
  | cons c suf ih =>
    intro pre k0 h hb hR
    obtain ⟨m, rfl⟩ : ∃ m, k0 = m + 1 := ⟨k0 - 1, by simp only [List.length_cons] at h; omega⟩
    have h' : suf.length < m := by simp only [List.length_cons] at h; omega
    have hb' : pre.length + (suf.length + 1) < 1000000000 := by simp only [List.length_append, List.length_cons] at hb; exact hb
    rw [ref07_Right_L0_s, str_size, mid_len, bif_t (by omega), bif_a, bif_t (by omega), bif_t (by omega), Int.toNat_natCast, str_byte, mid_byte]
    rw [show decide (((c.toNat : Nat) : Int) = 61) = decide (c = 61) from byte_is c 61 (by omega), List.all_cons]
    by_cases hc : c = 61
    · rw [decide_eq_true hc, hc]; rfl
    · rw [decide_eq_false hc, cond_false, decide_eq_true hc, Bool.true_and, i64w (by omega)]
      have e2 : ((pre.length : Nat) : Int) + 1 = (((pre ++ [c]).length : Nat) : Int) := by simp
      have e3 : pre ++ c :: suf = (pre ++ [c]) ++ suf := by simp
      rw [e2, e3]
      rw [e3] at hR
      exact ih (pre ++ [c]) m h' (by simp only [List.length_append, List.length_cons, List.length_nil]; omega) hR
theorem noEq_split (s : List UInt8) : noEq s = (clean s && s.all fun c => decide (c ≠ 61)) := by
  unfold noEq clean
  induction s with
  | nil => rfl
  | cons c l ih =>
    simp only [List.all_cons, ih]
    cases decide (c ≠ 61) <;> cases decide (c ≠ 0) <;> simp
theorem refPair_k (p : Pair) (h1 : p.key.length ≤ 1000000) (h2 : p.val.length ≤ 1000000) (hk : 2000000 < k) : kp E k (n + 4) ref07_Right [.agg [.str (str p.key), .str (str p.val)]] = some (.bool (pairOk p)) := by
  have hend : ∀ m, ref07_Right_L0 (kp E k (n + 3)) k (m + 1) (((([] : List UInt8) ++ p.key).length : Nat) : Int) (str ([] ++ p.key)) (str p.val) = some (.bool (valR p.key p.val)) := by
    intro m
    rw [List.nil_append, ref07_Right_L0_s, str_size, bif_f (by omega), which_k p.key (by omega), callI_ok, refClean_k p.val (by omega) (by omega), callB_ok, refNumber_k p.val (by omega) (by omega), refTime_k p.val (by omega) (by omega) (by omega), str_dec]
    unfold valR numOk
    have hw := which_lt p.key
    generalize whichL p.key = w at hw
    by_cases h0 : p.val = []
    · rw [decide_eq_true h0, if_pos h0]; rfl
    · rw [decide_eq_false h0, if_neg h0, cond_false]
      by_cases a1 : w < 0
      · rw [decide_eq_true a1, if_pos a1]; rfl
      rw [decide_eq_false a1, if_neg a1, cond_false]
      by_cases a2 : w < 4
      · rw [decide_eq_true a2, if_pos a2]; rfl
      rw [decide_eq_false a2, if_neg a2, cond_false]
      by_cases a3 : w < 7
      · rw [decide_eq_true a3, if_pos a3, cond_true]
        cases natOk p.val && decide (valA 0 p.val ≤ 9223372036854775807) <;> rfl
      rw [decide_eq_false a3, if_neg a3, cond_false]
      cases timeL p.val <;> rfl
  have hl := eq_loop (k := k) (kp E k (n + 3)) (str p.val) _ p.key [] k (by omega) (by simp; omega) hend
  simp only [List.nil_append, List.length_nil] at hl
  rw [ref07_Right_eq, refFirst_k p.key (by omega) (by omega), callI_ok, refFirst_k p.val (by omega) (by omega), callI_ok, refClean_k p.key (by omega) (by omega), callB_ok, str_dec]
  rw [show ((0 : Nat) : Int) = 0 from rfl] at hl
  rw [hl]
  unfold pairOk
  rw [noEq_split]
  have g1 : decide (first (str p.key) ≥ 0) = !utfOk p.key := by unfold utfOk; rw [← decide_not, decide_eq_decide]; omega
  have g2 : decide (first (str p.val) ≥ 0) = !utfOk p.val := by unfold utfOk; rw [← decide_not, decide_eq_decide]; omega
  rw [g1, g2]
  by_cases h : p.key = []
  · rw [decide_eq_true h]
    simp [h]
  · rw [decide_eq_false h, decide_eq_true h]
    cases utfOk p.key <;> cases utfOk p.val <;> cases clean p.key <;> cases (p.key.all fun c => decide (c ≠ 61)) <;> rfl
end Go.Proofs.YtilbahgfjfcikaaGreatDoor.Eng.U

/- Overlays in plain words: the order of keys, what is laid. No program. -/
set_option linter.unusedVariables false
set_option linter.unusedSimpArgs false
namespace Go.Proofs.YtilbahgfjfcikaaGreatDoor.Eng.U
open Go Go.Proofs Go.Proofs.YtilbahgfjfcikaaGreatDoor.Eng

theorem u8_lt_irrefl (a : UInt8) : ¬ a < a := fun h => by rw [UInt8.lt_iff_toNat_lt] at h; omega
theorem lt_irr : ∀ a : Tx, Op.bytesLess a a = false
  | [] => rfl
  | a :: x => by
    unfold Op.bytesLess
    rw [lt_irr x, decide_eq_false (u8_lt_irrefl a), Bool.and_false, Bool.or_false]
theorem lt_cons (a b : UInt8) (x y : Tx) : Op.bytesLess (a :: x) (b :: y) = true ↔ a.toNat < b.toNat ∨ a = b ∧ Op.bytesLess x y = true := by
  rw [Op.bytesLess, Bool.or_eq_true, Bool.and_eq_true, decide_eq_true_eq, beq_iff_eq, UInt8.lt_iff_toNat_lt]
theorem lt_tr : ∀ {a b c : Tx}, Op.bytesLess a b = true → Op.bytesLess b c = true → Op.bytesLess a c = true
  | _, _, [], _, h => by cases ‹Tx› <;> simp [Op.bytesLess] at h
  | [], _, _ :: _, _, _ => rfl
  | a :: x, [], c :: z, h, _ => by simp [Op.bytesLess] at h
  | a :: x, b :: y, c :: z, h1, h2 => by
    rw [lt_cons] at *
    rcases h1 with h1 | ⟨rfl, h1⟩
    · rcases h2 with h2 | ⟨rfl, h2⟩
      · left; omega
      · left; exact h1
    · rcases h2 with h2 | ⟨rfl, h2⟩
      · left; exact h2
      · right; exact ⟨rfl, lt_tr h1 h2⟩
theorem lt_tot : ∀ {a b : Tx}, Op.bytesLess a b = false → a ≠ b → Op.bytesLess b a = true
  | [], [], _, h => absurd rfl h
  | [], _ :: _, h, _ => by simp [Op.bytesLess] at h
  | _ :: _, [], _, _ => rfl
  | a :: x, b :: y, h, hn => by
    rw [lt_cons]
    have h' : ¬ (a.toNat < b.toNat ∨ a = b ∧ Op.bytesLess x y = true) := by rw [← lt_cons, h]; simp
    by_cases e : a = b
    · subst e
      right
      refine ⟨rfl, lt_tot ?_ fun e => hn (by rw [e])⟩
      cases hq : Op.bytesLess x y with
      | false => rfl
      | true => exact absurd (.inr ⟨rfl, hq⟩) h'
    · left
      have : a.toNat ≠ b.toNat := fun h => e (UInt8.toNat_inj.1 h)
      omega
theorem lt_asym {a b : Tx} (h : Op.bytesLess a b = true) : Op.bytesLess b a = false := by
  cases hq : Op.bytesLess b a with
  | false => rfl
  | true => have := lt_tr h hq; rw [lt_irr] at this; cases this
theorem not_le (a b : Tx) : (!(Op.bytesLess a b || decide (a = b))) = Op.bytesLess b a := by
  by_cases e : a = b
  · subst e; rw [decide_eq_true rfl, Bool.or_true, lt_irr]; rfl
  · rw [decide_eq_false e, Bool.or_false]
    cases h : Op.bytesLess a b with
    | true => rw [lt_asym h]; rfl
    | false => rw [lt_tot h e]; rfl

/-- Above what was ahead. -/
def gtO (a : Option Tx) (x : Tx) : Bool := match a with | none => true | some y => Op.bytesLess y x
def ltO (x : Tx) (m : Option Tx) : Bool := match m with | none => true | some y => Op.bytesLess x y
def leastL (a : Option Tx) : List Pair → Option Tx → Option Tx
  | [], m => m
  | p :: l, m => leastL a l (if (gtO a p.key && ltO p.key m) = true then some p.key else m)
def lastL (l : List Pair) (key : Tx) : Tx := l.foldl (fun v p => if p.key = key then p.val else v) []
def layF (l : List Pair) : Nat → Option Tx → List Pair
  | 0, _ => []
  | m + 1, a => match leastL a l none with
    | none => []
    | some k => if lastL l k = [] then layF l m (some k) else ⟨k, lastL l k⟩ :: layF l m (some k)
def okSt : Option Tx → List Pair → Bool
  | _, [] => true
  | a, p :: l => gtO a p.key && decide (p.val ≠ []) && okSt (some p.key) l
def cnt (a : Option Tx) (l : List Pair) : Nat := (l.filter fun p => gtO a p.key).length

theorem least_none (a : Option Tx) : ∀ (l : List Pair) (m : Option Tx), leastL a l m = none → m = none ∧ ∀ q ∈ l, gtO a q.key = false
  | [], m, h => ⟨h, fun q hq => by cases hq⟩
  | p :: l, m, h => by
    obtain ⟨h1, h2⟩ := least_none a l _ h
    by_cases hc : (gtO a p.key && ltO p.key m) = true
    · rw [if_pos hc] at h1; cases h1
    · rw [if_neg hc] at h1
      subst h1
      refine ⟨rfl, fun q hq => ?_⟩
      rcases List.mem_cons.1 hq with rfl | hq
      · cases hg : gtO a q.key with
        | false => rfl
        | true => exact absurd (by rw [hg]; rfl) hc
      · exact h2 q hq
theorem least_some (a : Option Tx) : ∀ (l : List Pair) (m : Option Tx) (k : Tx), leastL a l m = some k →
    (m = some k ∨ ∃ p ∈ l, p.key = k ∧ gtO a k = true) ∧ (∀ q ∈ l, gtO a q.key = true → Op.bytesLess q.key k = false) ∧ (∀ y, m = some y → Op.bytesLess y k = false)
  | [], m, k, h => ⟨.inl h, fun q hq => (by cases hq), fun y hy => by rw [show leastL a [] m = m from rfl] at h; rw [h] at hy; cases hy; exact lt_irr _⟩
  | p :: l, m, k, h => by
    obtain ⟨h1, h2, h3⟩ := least_some a l _ k h
    by_cases hc : (gtO a p.key && ltO p.key m) = true
    · rw [if_pos hc] at h1 h3
      rw [Bool.and_eq_true] at hc
      have hpk := h3 _ rfl
      refine ⟨?_, fun q hq hg => ?_, fun y hy => ?_⟩
      · rcases h1 with h1 | ⟨q, hq, e, g⟩
        · cases h1; exact .inr ⟨p, .head _, rfl, hc.1⟩
        · exact .inr ⟨q, .tail _ hq, e, g⟩
      · rcases List.mem_cons.1 hq with rfl | hq
        · exact hpk
        · exact h2 q hq hg
      · subst hy
        have hlt : Op.bytesLess p.key y = true := hc.2
        cases hq : Op.bytesLess y k with
        | false => rfl
        | true => rw [lt_tr hlt hq] at hpk; cases hpk
    · rw [if_neg hc] at h1 h3
      refine ⟨?_, fun q hq hg => ?_, h3⟩
      · rcases h1 with h1 | ⟨q, hq, e, g⟩
        · exact .inl h1
        · exact .inr ⟨q, .tail _ hq, e, g⟩
      · rcases List.mem_cons.1 hq with rfl | hq
        · have hn : ltO q.key m = false := by
            cases hx : ltO q.key m with
            | false => rfl
            | true => exact absurd (by rw [hg, hx]; rfl) hc
          cases m with
          | none => cases hn
          | some y =>
            have hn : Op.bytesLess q.key y = false := hn
            have h4 := h3 y rfl
            cases hx : Op.bytesLess q.key k with
            | false => rfl
            | true =>
              by_cases e : q.key = y
              · rw [e] at hx; rw [hx] at h4; cases h4
              · have := lt_tr (lt_tot hn e) hx
                rw [this] at h4; cases h4
        · exact h2 q hq hg
theorem gtO_tr {a : Option Tx} {k x : Tx} (h1 : gtO a k = true) (h2 : Op.bytesLess k x = true) : gtO a x = true := by
  cases a with
  | none => rfl
  | some y => exact lt_tr h1 h2
theorem cnt_lt {a : Option Tx} {l : List Pair} {k : Tx} (h : leastL a l none = some k) : cnt (some k) l < cnt a l := by
  have h1 := (least_some a l none k h).1
  rcases h1 with h1 | ⟨p, hp, rfl, hg⟩
  · cases h1
  have sub : ∀ q : Pair, gtO (some p.key) q.key = true → gtO a q.key = true := fun q hq => gtO_tr hg hq
  have irr : gtO (some p.key) p.key = false := lt_irr _
  unfold cnt
  clear h
  induction l with
  | nil => cases hp
  | cons q l ih =>
    have hle : ∀ l : List Pair, (l.filter fun r => gtO (some p.key) r.key).length ≤ (l.filter fun r => gtO a r.key).length := by
      intro l
      induction l with
      | nil => exact Nat.le_refl _
      | cons r l ih =>
        rw [List.filter_cons, List.filter_cons]
        by_cases hr : gtO (some p.key) r.key = true
        · rw [if_pos hr, if_pos (sub r hr), List.length_cons, List.length_cons]; omega
        · rw [if_neg hr]; split <;> (try rw [List.length_cons]) <;> omega
    rw [List.filter_cons, List.filter_cons]
    rcases List.mem_cons.1 hp with rfl | hp
    · rw [if_neg (by rw [irr]; simp), if_pos hg, List.length_cons]
      have := hle l
      omega
    · have hi := ih hp
      by_cases hr : gtO (some p.key) q.key = true
      · rw [if_pos hr, if_pos (sub q hr), List.length_cons, List.length_cons]; exact Nat.succ_lt_succ hi
      · rw [if_neg hr]
        split
        · rw [List.length_cons]; exact Nat.lt_succ_of_lt hi
        · exact hi
theorem okSt_mono {a : Option Tx} {k : Tx} (h : gtO a k = true) : ∀ {l : List Pair}, okSt (some k) l = true → okSt a l = true
  | [], _ => rfl
  | p :: l, h2 => by
    simp only [okSt, Bool.and_eq_true] at h2 ⊢
    exact ⟨⟨gtO_tr h h2.1.1, h2.1.2⟩, h2.2⟩
theorem lay_ok (l : List Pair) : ∀ (m : Nat) (a : Option Tx), okSt a (layF l m a) = true
  | 0, a => rfl
  | m + 1, a => by
    unfold layF
    cases h : leastL a l none with
    | none => rfl
    | some k =>
      have hg : gtO a k = true := by
        obtain ⟨h1, _, _⟩ := least_some a l none k h
        rcases h1 with h1 | ⟨p, hp, e, g⟩
        · cases h1
        · exact g
      have ih := lay_ok l m (some k)
      dsimp only
      split
      · exact okSt_mono hg ih
      · rename_i hv
        simp only [okSt, hg, ih, decide_eq_true hv, Bool.and_self]
theorem okSt_facts : ∀ (l : List Pair) (a : Option Tx), okSt a l = true → (∀ p ∈ l, gtO a p.key = true ∧ p.val ≠ []) ∧ l.Pairwise fun p q => Op.bytesLess p.key q.key = true
  | [], a, h => ⟨fun p hp => (by cases hp), .nil⟩
  | p :: l, a, h => by
    simp only [okSt, Bool.and_eq_true, decide_eq_true_eq] at h
    obtain ⟨i1, i2⟩ := okSt_facts l _ h.2
    refine ⟨fun q hq => ?_, .cons (fun q hq => (i1 q hq).1) i2⟩
    rcases List.mem_cons.1 hq with rfl | hq
    · exact h.1
    · exact ⟨gtO_tr h.1.1 (i1 q hq).1, (i1 q hq).2⟩
theorem last_app (l : List Pair) (p : Pair) (key : Tx) : lastL (l ++ [p]) key = if p.key = key then p.val else lastL l key := by
  unfold lastL; rw [List.foldl_append]; rfl
theorem last_skip (key : Tx) : ∀ (l : List Pair) (v : Tx), (∀ q ∈ l, q.key ≠ key) → l.foldl (fun v p => if p.key = key then p.val else v) v = v
  | [], v, h => rfl
  | q :: l, v, h => by rw [List.foldl_cons, if_neg (h q (.head _))]; exact last_skip key l v fun r hr => h r (.tail _ hr)
theorem last_mid (pre suf : List Pair) (p : Pair) (h : ∀ q ∈ suf, q.key ≠ p.key) : lastL (pre ++ p :: suf) p.key = p.val := by
  unfold lastL
  rw [List.foldl_append, List.foldl_cons, if_pos rfl, last_skip _ _ _ h]
theorem lay_same : ∀ (suf pre : List Pair) (a : Option Tx) (m : Nat), suf.length ≤ m → okSt a suf = true → (∀ q ∈ pre, gtO a q.key = false) → layF (pre ++ suf) m a = suf
  | [], pre, a, m, hm, ho, hp => by
    cases m with
    | zero => rfl
    | succ m =>
      unfold layF
      cases h : leastL a (pre ++ []) none with
      | none => rfl
      | some k =>
        obtain ⟨h1, _, _⟩ := least_some a _ none k h
        rcases h1 with h1 | ⟨q, hq, e, g⟩
        · cases h1
        · rw [List.append_nil] at hq
          have := hp q hq
          rw [e, g] at this; cases this
  | p :: suf, pre, a, m, hm, ho, hp => by
    obtain ⟨m, rfl⟩ : ∃ j, m = j + 1 := ⟨m - 1, by rw [List.length_cons] at hm; omega⟩
    have hf := okSt_facts _ _ ho
    have ho' := ho
    simp only [okSt, Bool.and_eq_true, decide_eq_true_eq] at ho'
    have hpw := hf.2
    rw [List.pairwise_cons] at hpw
    have hk : leastL a (pre ++ p :: suf) none = some p.key := by
      cases h : leastL a (pre ++ p :: suf) none with
      | none =>
        have := (least_none a _ none h).2 p (by simp)
        rw [ho'.1.1] at this; cases this
      | some k =>
        obtain ⟨h1, h2, _⟩ := least_some a _ none k h
        have hpk := h2 p (by simp) ho'.1.1
        rcases h1 with h1 | ⟨q, hq, rfl, g⟩
        · cases h1
        rcases List.mem_append.1 hq with hq | hq
        · have := hp q hq
          rw [g] at this; cases this
        · rcases List.mem_cons.1 hq with rfl | hq
          · rfl
          · rw [hpw.1 q hq] at hpk; cases hpk
    have hl : lastL (pre ++ p :: suf) p.key = p.val := last_mid pre suf p fun q hq e => by
      have := hpw.1 q hq
      rw [e, lt_irr] at this; cases this
    unfold layF
    rw [hk]
    dsimp only
    rw [hl, if_neg ho'.1.2]
    have hnext := lay_same suf (pre ++ [p]) (some p.key) m (by rw [List.length_cons] at hm; omega) ho'.2 fun q hq => by
      rcases List.mem_append.1 hq with hq | hq
      · have h1 := hp q hq
        cases hx : gtO (some p.key) q.key with
        | false => rfl
        | true => rw [gtO_tr ho'.1.1 hx] at h1; cases h1
      · rw [List.mem_singleton.1 hq]; exact lt_irr _
    rw [List.append_assoc, List.singleton_append] at hnext
    rw [hnext]
theorem lay_iff (l : List Pair) (m : Nat) (hm : l.length ≤ m) : decide (layF l m none = l) = okSt none l := by
  cases h : okSt none l with
  | true => exact decide_eq_true (lay_same l [] none m hm h fun q hq => by cases hq)
  | false =>
    refine decide_eq_false fun e => ?_
    have := lay_ok l m none
    rw [e, h] at this; cases this
theorem cnt_le (a : Option Tx) (l : List Pair) : cnt a l ≤ l.length := List.length_filter_le _ _
end Go.Proofs.YtilbahgfjfcikaaGreatDoor.Eng.U

/- Overlays: what both sides answer, in plain words. -/
set_option linter.unusedVariables false
set_option linter.unusedSectionVars false
set_option linter.unusedSimpArgs false
namespace Go.Proofs.YtilbahgfjfcikaaGreatDoor.Eng.U
open Go Go.Proofs Go.Proofs.YtilbahgfjfcikaaGreatDoor.Eng Go.Proofs.YtilbahgfjfcikaaGreatDoor.P04
variable {E : Ext} [Core E] [HasNum E] {k n : Nat}

theorem snoc_len (pre : List Pair) (p : Pair) : ((pre.length : Nat) : Int) + 1 = (((pre ++ [p]).length : Nat) : Int) := by simp
theorem str_tl (l : Tx) : ByteArray.toList (str l) = l := str_list l
theorem overRight_loop (kap : FuncId → List AV → Option AV) (hR : ∀ p : Pair, p.key.length ≤ 1000000 → p.val.length ≤ 1000000 → kap pax_Right [.agg [.str (str p.key), .str (str p.val)]] = some (.bool (pairOk p))) (suf : List Pair) :
    ∀ (pre : List Pair) (k0 : Nat), suf.length < k0 → (pre ++ suf).length < 1000000000 → (∀ p ∈ suf, p.key.length ≤ 1000000 ∧ p.val.length ≤ 1000000) →
    over_Right_L0 kap k k0 (prs (pre ++ suf)) (prs (pre ++ suf)) (((pre ++ suf).length : Nat) : Int) ((pre.length : Nat) : Int) = some (.bool (okSt (pre.getLast?.map (·.key)) suf && suf.all pairOk)) := by
  induction suf with
  | nil =>
    intro pre k0 h hb hs
    obtain ⟨m, rfl⟩ : ∃ m, k0 = m + 1 := ⟨k0 - 1, by simp only [List.length_nil] at h; omega⟩
    rw [over_Right_L0_s, bif_f (by simp)]
    rfl
  | cons p suf ih =>
    intro pre k0 h hb hs
    obtain ⟨m, rfl⟩ : ∃ m, k0 = m + 1 := ⟨k0 - 1, by simp only [List.length_cons] at h; omega⟩
    have h' : suf.length < m := by simp only [List.length_cons] at h; omega
    have hb' : pre.length + (suf.length + 1) < 1000000000 := by simp only [List.length_append, List.length_cons] at hb; exact hb
    obtain ⟨g1, g2⟩ := hs p (.head _)
    have ih' := ih (pre ++ [p]) m h' (by simp only [List.length_append, List.length_cons, List.length_nil]; omega) fun q hq => hs q (.tail _ hq)
    rw [List.append_assoc, List.singleton_append, ← snoc_len] at ih'
    rw [over_Right_L0_s, prs_len, mid_len, bif_t (by omega), bif_a, bif_t (by omega), bif_t (by omega), Int.toNat_natCast, prs_mid, cells_pair, p_0, p_1, hR p g1 g2, callB_ok, str_dec]
    rw [mid_len] at ih'
    simp only [okSt, List.all_cons]
    by_cases hv : p.val = []
    · rw [decide_eq_true hv, cond_true, decide_eq_false (by simp [hv])]
      simp
    rw [decide_eq_false hv, cond_false, decide_eq_true hv]
    cases hq : pairOk p with
    | false => simp
    | true =>
      rw [Bool.not_true, cond_false, i64w (by omega), i64w (by omega), ih', List.getLast?_append, List.getLast?_singleton]
      rcases snoc_pairs pre with rfl | ⟨l, q, rfl⟩
      · rw [bif_f (by simp)]
        simp [gtO]
      · have hl1 : (l ++ [q]).length = l.length + 1 := by simp
        rw [bif_t (by omega), bif_a, bif_t (by omega), bif_t (by omega)]
        have e : Int.toNat ((((l ++ [q]).length : Nat) : Int) - 1) = l.length := by simp
        rw [e, show l ++ [q] ++ p :: suf = l ++ q :: (p :: suf) by simp, prs_mid, cells_pair, p_0, str_tl, str_tl, List.getLast?_append, List.getLast?_singleton]
        show (bif !Op.bytesLess q.key p.key then _ else _) = some (AV.bool ((Op.bytesLess q.key p.key && true && okSt (some p.key) suf) && (true && suf.all pairOk)))
        cases Op.bytesLess q.key p.key <;> simp
def overOk (l : List Pair) : Bool := okSt none l && l.all pairOk
theorem overRight_k [HasTextV E] (l : List Pair) (hl : l.length ≤ 1000000) (hp : ∀ p ∈ l, p.key.length ≤ 1000000 ∧ p.val.length ≤ 1000000) (hk : 1000000 < k) : kp E k (n + 6) over_Right [.list 2 (prs l)] = some (.bool (overOk l)) := by
  have h := overRight_loop (k := k) (kp E k (n + 5)) (fun p h1 h2 => paxRight_k p h1 h2 hk) l [] k (by omega) (by simp; omega) hp
  rw [List.nil_append] at h
  rw [over_Right_eq, prs_len]
  exact h
theorem last_loop (kap : FuncId → List AV → Option AV) (l : List Pair) (key : Tx) (hl : l.length ≤ 1000000) : ∀ (i k0 : Nat), i < k0 → i ≤ l.length →
    ref08_Last_L0 kap k k0 (prs l) (str key) ((i : Int) - 1) = some (.tup [.str (str (lastL (l.take i) key)), .bool (decide (lastL (l.take i) key ≠ []))])
  | 0, k0 + 1, h, hi => by
    rw [ref08_Last_L0_s, bif_f (by omega)]
    rfl
  | i + 1, k0 + 1, h, hi => by
    have hlt : i < l.length := by omega
    have e : Int.toNat (((i + 1 : Nat) : Int) - 1) = i := by omega
    have et : l.take (i + 1) = l.take i ++ [l[i]] := by rw [List.take_succ_eq_append_getElem hlt]
    rw [ref08_Last_L0_s, prs_len, e, bif_t (by omega), bif_a, bif_t (by omega), bif_t (by omega), prs_at l i hlt, cells_pair, p_0, str_dec, et, last_app]
    by_cases hk : (l[i]).key = key
    · rw [decide_eq_true hk, cond_true, bif_a, bif_t (by omega), bif_t (by omega), prs_at l i hlt, cells_pair, p_1, bif_a, bif_t (by omega), bif_t (by omega), prs_at l i hlt, cells_pair, p_1, str_dec, if_pos hk, decide_not]
    · rw [decide_eq_false hk, cond_false, if_neg hk, i64w (by omega), show ((i + 1 : Nat) : Int) - 1 - 1 = (i : Int) - 1 by omega]
      exact last_loop kap l key hl i k0 (by omega) (by omega)
theorem last_k (l : List Pair) (key : Tx) (hl : l.length ≤ 1000000) (hk : l.length < k) : kp E k (n + 1) ref08_Last [.list 2 (prs l), .str (str key)] = some (.tup [.str (str (lastL l key)), .bool (decide (lastL l key ≠ []))]) := by
  rw [ref08_Last_eq, prs_len, i64w (by omega), last_loop (kp E k n) l key hl l.length k hk (Nat.le_refl _), List.take_length]
def kO (m : Option Tx) : Tx := m.getD []
theorem lay_in (kap : FuncId → List AV → Option AV) (all : List Pair) (a : Option Tx) (x6 : List AV) (R : Option AV) (r : Option Tx) (k0 : Nat)
    (hend : ∀ j, ref08_Lay_L1 kap k k0 (j + 1) (str (kO a)) a.isNone (str (kO r)) r.isSome ((all.length : Nat) : Int) (prs all) x6 = R) (suf : List Pair) :
    ∀ (pre : List Pair) (m : Option Tx) (k1 : Nat), all = pre ++ suf → suf.length < k1 → all.length ≤ 1000000 → leastL a suf m = r →
    ref08_Lay_L1 kap k k0 k1 (str (kO a)) a.isNone (str (kO m)) m.isSome ((pre.length : Nat) : Int) (prs all) x6 = R := by
  induction suf with
  | nil =>
    intro pre m k1 he h hb hr
    obtain ⟨j, rfl⟩ : ∃ m, k1 = m + 1 := ⟨k1 - 1, by simp only [List.length_nil] at h; omega⟩
    rw [List.append_nil] at he
    subst he
    have hr : m = r := hr
    subst hr
    exact hend j
  | cons p suf ih =>
    intro pre m k1 he h hb hr
    obtain ⟨j, rfl⟩ : ∃ m, k1 = m + 1 := ⟨k1 - 1, by simp only [List.length_cons] at h; omega⟩
    have h' : suf.length < j := by simp only [List.length_cons] at h; omega
    have hb' : pre.length + (suf.length + 1) ≤ 1000000 := by rw [he] at hb; simp only [List.length_append, List.length_cons] at hb; exact hb
    have he' : all = (pre ++ [p]) ++ suf := by rw [he]; simp
    rw [show leastL a (p :: suf) m = leastL a suf (if (gtO a p.key && ltO p.key m) = true then some p.key else m) from rfl] at hr
    have hi := ih (pre ++ [p]) _ j he' h' hb hr
    rw [← snoc_len] at hi
    rw [ref08_Lay_L1_s, prs_len, he, mid_len, bif_t (by omega), bif_a, bif_t (by omega), bif_t (by omega), Int.toNat_natCast, prs_mid, cells_pair, p_0, ← he, str_tl, str_tl, str_tl, i64w (by omega), str_dec, not_le]
    cases a with
    | none =>
      rw [show (none : Option Tx).isNone = true from rfl, cond_true]
      cases m with
      | none => exact hi
      | some y =>
        rw [show (some y : Option Tx).isSome = true from rfl, Bool.not_true, cond_false, show kO (some y) = y from rfl]
        have hs : (gtO none p.key && ltO p.key (some y)) = Op.bytesLess p.key y := rfl
        rw [hs] at hi
        cases hx : Op.bytesLess p.key y with
        | true => rw [hx] at hi; exact hi
        | false => rw [hx] at hi; exact hi
    | some x =>
      rw [show (some x : Option Tx).isNone = false from rfl, cond_false, show kO (some x) = x from rfl]
      have hg : gtO (some x) p.key = Op.bytesLess x p.key := rfl
      rw [hg] at hi
      cases hgx : Op.bytesLess x p.key with
      | false => rw [hgx] at hi; exact hi
      | true =>
        rw [hgx] at hi
        rw [cond_true]
        cases m with
        | none => exact hi
        | some y =>
          rw [show (some y : Option Tx).isSome = true from rfl, Bool.not_true, cond_false, show kO (some y) = y from rfl]
          have hs : (true && ltO p.key (some y)) = Op.bytesLess p.key y := rfl
          rw [hs] at hi
          cases hx : Op.bytesLess p.key y with
          | true => rw [hx] at hi; exact hi
          | false => rw [hx] at hi; exact hi
theorem lay_out (kap : FuncId → List AV → Option AV) (all : List Pair) (hb : all.length ≤ 1000000) (hk : all.length < k) (hL : ∀ key, kap ref08_Last [.list 2 (prs all), .str (str key)] = some (.tup [.str (str (lastL all key)), .bool (decide (lastL all key ≠ []))])) :
    ∀ (m : Nat) (a : Option Tx) (acc : List Pair) (k0 : Nat), cnt a all ≤ m → m < k0 → acc.length + m ≤ 2000000 →
    ref08_Lay_L0 kap k k0 (str (kO a)) a.isNone (prs all) (prs acc) = some (.list 2 (prs (acc ++ layF all m a)))
  | m, a, acc, k0, hc, hk0, ha => by
    obtain ⟨k0, rfl⟩ : ∃ j, k0 = j + 1 := ⟨k0 - 1, by omega⟩
    rw [ref08_Lay_L0_s]
    refine lay_in kap all a (prs acc) _ (leastL a all none) k0 (fun j => ?_) all [] none k (by simp) hk hb rfl
    rw [ref08_Lay_L1_s, prs_len, bif_f (by omega)]
    cases h : leastL a all none with
    | none =>
      rw [show (none : Option Tx).isSome = false from rfl, Bool.not_false, cond_true]
      have e : layF all m a = [] := by cases m with
        | zero => rfl
        | succ m => unfold layF; rw [h]
      rw [e, List.append_nil]
    | some key =>
      have hlt := cnt_lt h
      obtain ⟨m, rfl⟩ : ∃ j, m = j + 1 := ⟨m - 1, by omega⟩
      rw [show (some key : Option Tx).isSome = true from rfl, Bool.not_true, cond_false, show kO (some key) = key from rfl, hL key, callT_ok]
      unfold layF
      rw [h]
      dsimp only
      have hx : ∀ (s : ByteArray) (b : Bool) (K : ByteArray → Bool → Option AV), (tupS [.str s, .bool b] fun vs5 vt6 => tupB vt6 fun vq7 vt8 => atNil vt8 (K vs5 vq7)) = K s b := fun s b K => rfl
      rw [hx]
      by_cases hv : lastL all key = []
      · rw [if_pos hv, decide_eq_false (by simp [hv]), cond_false]
        exact lay_out kap all hb hk hL m (some key) acc k0 (by omega) (by omega) (by omega)
      · rw [if_neg hv, decide_eq_true hv, cond_true, prs_len, bif_a, bif_t (by omega), bif_t (by omega)]
        have e1 : prs acc ++ [AV.agg [.str (str key), .str (str (lastL all key))]] = prs (acc ++ [⟨key, lastL all key⟩]) := by unfold prs; rw [List.map_append]; rfl
        rw [e1]
        have := lay_out kap all hb hk hL m (some key) (acc ++ [⟨key, lastL all key⟩]) k0 (by omega) (by omega) (by simp only [List.length_append, List.length_cons, List.length_nil]; omega)
        rw [List.append_assoc, List.singleton_append] at this
        exact this
theorem refLay_k (l more : List Pair) (hb : (l ++ more).length ≤ 1000000) (hk : (l ++ more).length < k) : kp E k (n + 2) ref08_Lay [.list 2 (prs l), .list 2 (prs more)] = some (.list 2 (prs (layF (l ++ more) (l ++ more).length none))) := by
  have h := lay_out (k := k) (kp E k (n + 1)) (l ++ more) hb hk (fun key => last_k _ key hb hk) (l ++ more).length none [] k (cnt_le _ _) hk (by simp only [List.length_nil]; omega)
  rw [List.length_append] at hb
  rw [ref08_Lay_eq, prs_len, bif_a, bif_t (by omega), bif_t (by omega), List.nil_append, prs_len, prs_len, bif_a, bif_t (by omega), bif_t (by omega)]
  have e : prs l ++ prs more = prs (l ++ more) := by unfold prs; rw [List.map_append]
  rw [e]
  exact h
theorem same_loop (kap : FuncId → List AV → Option AV) (suf : List Pair) : ∀ (pre suf' pre' : List Pair) (k0 : Nat), suf.length < k0 → pre.length = pre'.length → suf.length = suf'.length → (pre ++ suf).length ≤ 1000000 →
    ref07_Same_L0 kap k k0 (prs (pre ++ suf)) (prs (pre' ++ suf')) ((pre.length : Nat) : Int) = some (.bool (decide (suf = suf'))) := by
  induction suf with
  | nil =>
    intro pre suf' pre' k0 h hp hs hb
    obtain ⟨m, rfl⟩ : ∃ m, k0 = m + 1 := ⟨k0 - 1, by simp only [List.length_nil] at h; omega⟩
    obtain rfl : suf' = [] := List.length_eq_zero_iff.1 hs.symm
    rw [ref07_Same_L0_s, prs_len, bif_f (by simp)]
    rfl
  | cons p suf ih =>
    intro pre suf' pre' k0 h hp hs hb
    obtain ⟨m, rfl⟩ : ∃ m, k0 = m + 1 := ⟨k0 - 1, by simp only [List.length_cons] at h; omega⟩
    cases suf' with
    | nil => cases hs
    | cons q suf' =>
      have h' : suf.length < m := by simp only [List.length_cons] at h; omega
      have hb' : pre.length + (suf.length + 1) ≤ 1000000 := by simp only [List.length_append, List.length_cons] at hb; exact hb
      have hs' : suf.length = suf'.length := by simp only [List.length_cons] at hs; omega
      have hi := ih (pre ++ [p]) suf' (pre' ++ [q]) m h' (by simp [hp]) hs' (by simp only [List.length_append, List.length_cons, List.length_nil]; omega)
      rw [← snoc_len, List.append_assoc, List.append_assoc, List.singleton_append, List.singleton_append] at hi
      have key : ∀ {β : Type} (F : AV → Option β), ((prs (pre' ++ q :: suf'))[pre.length]?).bind F = F (elPair q) := by
        intro β F; rw [hp, prs_mid]
      rw [ref07_Same_L0_s, prs_len, prs_len, mid_len, mid_len, bif_t (by omega), bif_a, bif_t (by omega), bif_t (by omega), Int.toNat_natCast, prs_mid, cells_pair, p_0, p_1, bif_a, bif_t (by omega), bif_t (by omega), key, cells_pair, p_0, p_1, str_dec, str_dec, i64w (by omega), hi]
      have e : decide (p :: suf = q :: suf') = ((decide (p.key = q.key) && (decide (p.val = q.val) && true)) && decide (suf = suf')) := by
        have e0 : (p :: suf = q :: suf') ↔ (p.key = q.key ∧ p.val = q.val) ∧ suf = suf' := by
          rw [List.cons.injEq]; cases p; cases q; simp
        have e1 : decide (p :: suf = q :: suf') = decide ((p.key = q.key ∧ p.val = q.val) ∧ suf = suf') := decide_eq_decide.2 e0
        rw [e1]
        by_cases a1 : p.key = q.key <;> by_cases a2 : p.val = q.val <;> by_cases a3 : suf = suf' <;> simp [a1, a2, a3]
      rw [e]
      cases decide (p.key = q.key) && (decide (p.val = q.val) && true) <;> rfl
theorem pSame_k (a b : List Pair) (ha : a.length ≤ 1000000) (hk : a.length < k) : kp E k (n + 1) ref07_Same [.list 2 (prs a), .list 2 (prs b)] = some (.bool (decide (a = b))) := by
  rw [ref07_Same_eq, prs_len, prs_len]
  by_cases h : a.length = b.length
  · rw [decide_eq_true (by omega), Bool.not_true, cond_false]
    have := same_loop (k := k) (kp E k n) a [] b [] k hk rfl h (by simpa using ha)
    exact this
  · rw [decide_eq_false (by omega), Bool.not_false, cond_true, decide_eq_false (fun e => h (by rw [e]))]
theorem refOver_loop (kap : FuncId → List AV → Option AV) (all : List Pair) (R : Bool) (hR : ∀ p : Pair, p.key.length ≤ 1000000 → p.val.length ≤ 1000000 → kap ref07_Right [.agg [.str (str p.key), .str (str p.val)]] = some (.bool (pairOk p)))
    (hend : ∀ j, ref08_Right_L0 kap k (j + 1) (prs all) ((all.length : Nat) : Int) = some (.bool R)) (suf : List Pair) :
    ∀ (pre : List Pair) (k0 : Nat), all = pre ++ suf → suf.length < k0 → all.length ≤ 1000000 → (∀ p ∈ suf, p.key.length ≤ 1000000 ∧ p.val.length ≤ 1000000) →
    ref08_Right_L0 kap k k0 (prs all) ((pre.length : Nat) : Int) = some (.bool (suf.all pairOk && R)) := by
  induction suf with
  | nil =>
    intro pre k0 he h hb hs
    obtain ⟨m, rfl⟩ : ∃ m, k0 = m + 1 := ⟨k0 - 1, by simp only [List.length_nil] at h; omega⟩
    rw [List.append_nil] at he
    subst he
    exact hend m
  | cons p suf ih =>
    intro pre k0 he h hb hs
    obtain ⟨m, rfl⟩ : ∃ m, k0 = m + 1 := ⟨k0 - 1, by simp only [List.length_cons] at h; omega⟩
    have h' : suf.length < m := by simp only [List.length_cons] at h; omega
    have hb' : pre.length + (suf.length + 1) ≤ 1000000 := by rw [he] at hb; simp only [List.length_append, List.length_cons] at hb; exact hb
    obtain ⟨g1, g2⟩ := hs p (.head _)
    have hi := ih (pre ++ [p]) m (by rw [he]; simp) h' hb fun q hq => hs q (.tail _ hq)
    rw [← snoc_len] at hi
    rw [ref08_Right_L0_s, prs_len, he, mid_len, bif_t (by omega), bif_a, bif_t (by omega), bif_t (by omega), Int.toNat_natCast, prs_mid, cells_pair, p_0, p_1, ← he, hR p g1 g2, callB_ok, i64w (by omega), hi, List.all_cons]
    cases pairOk p <;> rfl
theorem refOver_k (l : List Pair) (hl : l.length ≤ 100000) (hp : ∀ p ∈ l, p.key.length ≤ 1000000 ∧ p.val.length ≤ 1000000) (hk : 2000000 < k) : kp E k (n + 5) ref08_Right [.list 2 (prs l)] = some (.bool (overOk l)) := by
  have hend : ∀ j, ref08_Right_L0 (kp E k (n + 4)) k (j + 1) (prs l) ((l.length : Nat) : Int) = some (.bool (okSt none l)) := by
    intro j
    have hlay := refLay_k (E := E) (k := k) (n := n + 2) l [] (by simp; omega) (by simp; omega)
    rw [show prs [] = [] from rfl, List.append_nil] at hlay
    have hlen : (layF l l.length none).length ≤ 1000000 := by
      have : ∀ (m : Nat) (a : Option Tx), (layF l m a).length ≤ m := by
        intro m
        induction m with
        | zero => intro a; exact Nat.le_refl _
        | succ m ih =>
          intro a
          unfold layF
          split
          · simp
          · split
            · have := ih (some ‹Tx›); omega
            · rw [List.length_cons]; have := ih (some ‹Tx›); omega
      have := this l.length none
      omega
    rw [ref08_Right_L0_s, prs_len, bif_f (by omega), hlay, callL_ok, pSame_k _ l hlen (by
      have : ∀ (m : Nat) (a : Option Tx), (layF l m a).length ≤ m := by
        intro m
        induction m with
        | zero => intro a; exact Nat.le_refl _
        | succ m ih =>
          intro a
          unfold layF
          split
          · simp
          · split
            · have := ih (some ‹Tx›); omega
            · rw [List.length_cons]; have := ih (some ‹Tx›); omega
      have := this l.length none
      omega), callB_ok, lay_iff l _ (Nat.le_refl _)]
  have h := refOver_loop (k := k) (kp E k (n + 4)) l _ (fun p h1 h2 => refPair_k p h1 h2 hk) hend l [] k (by simp) (by omega) (by omega) hp
  rw [ref08_Right_eq]
  unfold overOk
  rw [Bool.and_comm]
  exact h
end Go.Proofs.YtilbahgfjfcikaaGreatDoor.Eng.U

/- Which field of a head is the first that isn't right: both sides. -/
set_option linter.unusedVariables false
set_option linter.unusedSectionVars false
set_option linter.unusedSimpArgs false
namespace Go.Proofs.YtilbahgfjfcikaaGreatDoor.Eng.U
open Go Go.Proofs Go.Proofs.YtilbahgfjfcikaaGreatDoor.Eng Go.Proofs.YtilbahgfjfcikaaGreatDoor.P04
variable {E : Ext} [Core E] [HasNum E] {k n k0 : Nat}

def nameOk (s : List UInt8) : Bool := decide (s ≠ []) && (decide (s.length ≤ 65536) && clean s)
def plainOk (s : List UInt8) : Bool := decide (s.length ≤ 65536) && clean s
def links (h : Head) : Bool := decide (h.kind = 2) || decide (h.kind = 3)
def devs (h : Head) : Bool := decide (h.kind = 4) || decide (h.kind = 5)
def f1 (h : Head) : Bool := decide (h.kind ≥ 1) && decide (h.kind ≤ 7)
def f2 (h : Head) : Bool := nameOk h.name && !(decide (h.kind = 1) && sl h.name)
def f3 (h : Head) : Bool := bif links h then nameOk h.link else decide (h.link = [])
def f4 (h : Head) : Bool := decide (h.mode ≥ 0)
def f5 (h : Head) : Bool := decide (h.uid ≥ 0)
def f6 (h : Head) : Bool := decide (h.gid ≥ 0)
def f7 (h : Head) : Bool := decide (h.size = 0) || (decide (h.size > 0) && decide (h.kind = 1))
def f8 (h : Head) : Bool := rightT h.nano
def f9 (h : Head) : Bool := plainOk h.user
def f10 (h : Head) : Bool := plainOk h.group
def devOk (h : Head) (v : Int) : Bool := decide (v = 0) || (decide (v > 0) && devs h)
def f11 (h : Head) : Bool := devOk h h.major
def f12 (h : Head) : Bool := devOk h h.minor
def f13 (h : Head) : Bool := overOk h.extra && h.extra.all fun p => decide (whichL p.key < 0)
def wrongH (h : Head) : Int :=
  bif !f1 h then 1 else bif !f2 h then 2 else bif !f3 h then 3 else bif !f4 h then 4 else bif !f5 h then 5 else bif !f6 h then 6 else bif !f7 h then 7 else bif !f8 h then 8 else
  bif !f9 h then 9 else bif !f10 h then 10 else bif !f11 h then 11 else bif !f12 h then 12 else bif !f13 h then 13 else 0
theorem len_le (s : List UInt8) : decide (((s.length : Nat) : Int) ≤ 65536) = decide (s.length ≤ 65536) := by rw [decide_eq_decide]; omega
theorem named_k (s : List UInt8) : kp E k (n + 2) item_named [.str (str s)] = some (.bool (nameOk s)) := by
  rw [item_named_eq, textClean_k, callB_ok, str_dec, str_size, len_le]
  unfold nameOk
  rw [decide_not]
  cases decide (s = []) <;> cases decide (s.length ≤ 65536) <;> rfl
theorem plain_k (s : List UInt8) : kp E k (n + 2) item_plain [.str (str s)] = some (.bool (plainOk s)) := by
  rw [item_plain_eq, textClean_k, callB_ok, str_size, len_le]
  unfold plainOk
  cases decide (s.length ≤ 65536) <;> rfl
theorem refName_k (s : List UInt8) (hs : s.length < 1000000000) (hk : s.length < k) : kp E k (n + 3) ref09_name [.str (str s)] = some (.bool (nameOk s)) := by
  rw [ref09_name_eq, refClean_k s hs hk, callB_ok, str_dec, str_size, len_le]
  unfold nameOk
  rw [decide_not]
  cases decide (s = []) <;> cases decide (s.length ≤ 65536) <;> rfl
theorem plain_name (s : List UInt8) : (bif decide (s = []) then true else nameOk s) = plainOk s := by
  unfold nameOk plainOk
  by_cases h : s = []
  · subst h; rfl
  · rw [decide_eq_false h, decide_eq_true h]; rfl
theorem refSlash_k (s : List UInt8) (hs : s.length < 1000000000) : kp E k (n + 1) ref09_Slash [.str (str s)] = some (.bool (sl s)) := by
  rw [ref09_Slash_eq, str_dec, str_size]
  rcases snoc_cases s with rfl | ⟨l, c, rfl⟩
  · rfl
  · rw [decide_eq_false (by simp), Bool.not_false, cond_true]
    rw [List.length_append, List.length_singleton] at hs ⊢
    rw [i64w (by omega), bif_a, bif_t (by omega), bif_t (by omega), show Int.toNat (((l.length + 1 : Nat) : Int) - 1) = l.length by omega, str_byte]
    have e := mid_byte l [] c
    rw [show l ++ [c] = l ++ c :: [] from rfl, e, show decide (((c.toNat : Nat) : Int) = 47) = decide (c = 47) from byte_is c 47 (by omega)]
    unfold sl
    simp
theorem link_k (h : Head) : kp E k (n + 3) item_link [.agg (encHead h)] = some (.bool (f3 h)) := by
  unfold encHead f3 links
  rw [item_link_eq, named_k, callB_ok, str_dec]
  cases decide (h.kind = 2) <;> cases decide (h.kind = 3) <;> rfl
theorem device_k (h : Head) (v : Int) : kp E k (n + 1) item_device [.agg (encHead h), .int .i64 v] = some (.bool (devOk h v)) := by
  unfold encHead devOk devs
  rw [item_device_eq]
  cases decide (v = 0) <;> cases decide (v > 0) <;> cases decide (h.kind = 4) <;> rfl
theorem extra1_k (p : Pair) : kp E k (n + 2) item_extra_1 [.agg [.str (str p.key), .str (str p.val)]] = some (.bool (decide (0 ≤ whichL p.key))) := by
  rw [item_extra_1_eq, known_k, callB_ok]
theorem index_loop (kap : FuncId → List AV → Option AV) (hK : ∀ p : Pair, kap item_extra_1 [.agg [.str (str p.key), .str (str p.val)]] = some (.bool (decide (0 ≤ whichL p.key)))) (suf : List Pair) : ∀ (pre : List Pair) (k0 : Nat), suf.length < k0 → (pre ++ suf).length < 1000000 →
    ∃ i : Int, slices_IndexFunc_api_Pair_L0 kap k k0 (prs (pre ++ suf)) (((pre ++ suf).length : Nat) : Int) ((pre.length : Nat) : Int) = some (.int .i64 i) ∧ decide (i ≥ 0) = !(suf.all fun p => decide (whichL p.key < 0)) := by
  induction suf with
  | nil =>
    intro pre k0 h hb
    obtain ⟨m, rfl⟩ : ∃ m, k0 = m + 1 := ⟨k0 - 1, by simp only [List.length_nil] at h; omega⟩
    rw [slices_IndexFunc_api_Pair_L0_s, bif_f (by simp)]
    exact ⟨_, rfl, rfl⟩
  | cons p suf ih =>
    intro pre k0 h hb
    obtain ⟨m, rfl⟩ : ∃ m, k0 = m + 1 := ⟨k0 - 1, by simp only [List.length_cons] at h; omega⟩
    have h' : suf.length < m := by simp only [List.length_cons] at h; omega
    have hb' : pre.length + (suf.length + 1) < 1000000 := by simp only [List.length_append, List.length_cons] at hb; exact hb
    obtain ⟨i, hi, he⟩ := ih (pre ++ [p]) m h' (by simp only [List.length_append, List.length_cons, List.length_nil]; omega)
    rw [List.append_assoc, List.singleton_append, ← snoc_len, mid_len] at hi
    rw [slices_IndexFunc_api_Pair_L0_s, prs_len, mid_len, bif_t (by omega), bif_a, bif_t (by omega), bif_t (by omega), Int.toNat_natCast, prs_mid, cells_pair, p_0, p_1, hK, callB_ok, i64w (by omega), List.all_cons]
    by_cases hw : 0 ≤ whichL p.key
    · rw [decide_eq_true hw, cond_true, decide_eq_false (show ¬ whichL p.key < 0 by omega)]
      exact ⟨_, rfl, by rw [decide_eq_true (by omega)]; rfl⟩
    · rw [decide_eq_false hw, cond_false, decide_eq_true (show whichL p.key < 0 by omega), Bool.true_and]
      exact ⟨i, hi, he⟩
theorem extra_k [HasTextV E] (h : Head) (hl : h.extra.length ≤ 100000) (hp : ∀ p ∈ h.extra, p.key.length ≤ 1000000 ∧ p.val.length ≤ 1000000) (hk : 1000000 < k) : kp E k (n + 7) item_extra [.list 2 (prs h.extra)] = some (.bool (f13 h)) := by
  obtain ⟨i, hi, he⟩ := index_loop (k := k) (kp E k (n + 4)) (fun p => extra1_k p) h.extra [] k (by omega) (by simpa using (show h.extra.length < 1000000 by omega))
  simp only [List.nil_append, List.length_nil] at hi
  rw [item_extra_eq, overRight_k h.extra (by omega) hp hk, callB_ok, slices_ContainsFunc_api_Pair_eq, slices_IndexFunc_api_Pair_eq, prs_len]
  rw [show ((0 : Nat) : Int) = 0 from rfl] at hi
  rw [hi, callI_ok, he, callB_ok, Bool.not_not]
  unfold f13
  cases overOk h.extra <;> rfl
def BdF (h : Head) : Prop := h.name.length ≤ 200000 ∧ h.link.length ≤ 200000 ∧ h.user.length ≤ 200000 ∧ h.group.length ≤ 200000 ∧ h.extra.length ≤ 100000 ∧ ∀ p ∈ h.extra, p.key.length ≤ 1000000 ∧ p.val.length ≤ 1000000
theorem flag_k (v : Int) : ∃ f : Int, kp E k (n + 1) item_Flag [.int .i64 v] = some (.int .u8 f) ∧ decide (f = 0) = !(decide (v ≥ 1) && decide (v ≤ 7)) := by
  rw [item_Flag_eq]
  by_cases h1 : v < 1
  · rw [bif_t h1]; exact ⟨_, rfl, by rw [decide_eq_false (show ¬ v ≥ 1 by omega)]; rfl⟩
  · rw [bif_f h1]
    by_cases h2 : v > 7
    · rw [bif_t h2]; exact ⟨_, rfl, by rw [decide_eq_true (show v ≥ 1 by omega), decide_eq_false (show ¬ v ≤ 7 by omega)]; rfl⟩
    · rw [bif_f h2]
      have : v = 1 ∨ v = 2 ∨ v = 3 ∨ v = 4 ∨ v = 5 ∨ v = 6 ∨ v = 7 := by omega
      rcases this with rfl | rfl | rfl | rfl | rfl | rfl | rfl <;> exact ⟨_, rfl, by decide⟩
theorem wrong_kv [HasTextV E] (h : Head) (hb : BdF h) (hk : 1000000 < k) : kp E k (n + 8) item_Wrong [.agg (encHead h)] = some (.int .i64 (wrongH h)) := by
  have hlink := link_k (E := E) (k := k) (n := n + 4) h
  have hdev : ∀ v : Int, kp E k (n + 7) item_device [.agg (encHead h), .int .i64 v] = _ := fun v => device_k (n := n + 6) h v
  have hext := extra_k (E := E) (k := k) (n := n) h hb.2.2.2.2.1 hb.2.2.2.2.2 hk
  have hright : ∀ s t : Int, kp E k (n + 7) dec_Right [.agg [.int .i64 s, .int .i64 t]] = _ := fun s t => right_k (n := n + 6) s t
  have hplain : ∀ s : List UInt8, kp E k (n + 7) item_plain [.str (str s)] = _ := fun s => plain_k (n := n + 5) s
  have hname : kp E k (n + 7) item_named [.str (str h.name)] = _ := named_k (n := n + 5) h.name
  obtain ⟨f, hfl, hf1⟩ := flag_k (E := E) (k := k) (n := n + 6) h.kind
  have hsuf := suffix_k (E := E) (k := k) (n := n + 5) h.name (by have := hb.1; omega)
  have e1 : decide (f = 0) = !f1 h := hf1
  unfold encHead at hlink hdev ⊢
  rw [item_Wrong_eq]
  simp only [hfl, callI_ok, e1, hname, hsuf, hlink, hdev, hright, hplain, hext, callB_ok]
  unfold wrongH
  have e2 : f2 h = (nameOk h.name && !(decide (h.kind = 1) && sl h.name)) := rfl
  have e4 : decide (h.mode < 0) = !f4 h := by unfold f4; rw [← decide_not, decide_eq_decide]; omega
  have e5 : decide (h.uid < 0) = !f5 h := by unfold f5; rw [← decide_not, decide_eq_decide]; omega
  have e6 : decide (h.gid < 0) = !f6 h := by unfold f6; rw [← decide_not, decide_eq_decide]; omega
  have e7 : f7 h = (decide (h.size = 0) || (decide (h.size > 0) && decide (h.kind = 1))) := rfl
  have e8 : rightT h.nano = f8 h := rfl
  have e9 : plainOk h.user = f9 h := rfl
  have e10 : plainOk h.group = f10 h := rfl
  have e11 : devOk h h.major = f11 h := rfl
  have e12 : devOk h h.minor = f12 h := rfl
  rw [e2, e4, e5, e6, e7, e8, e9, e10, e11, e12]
  have s3 : (h.size < 0 ∧ ¬ h.size = 0 ∧ ¬ h.size > 0) ∨ (¬ h.size < 0 ∧ h.size = 0 ∧ ¬ h.size > 0) ∨ (¬ h.size < 0 ∧ ¬ h.size = 0 ∧ h.size > 0) := by omega
  generalize nameOk h.name = b2
  generalize sl h.name = bs
  generalize f1 h = b1
  generalize f3 h = b3
  generalize f4 h = b4
  generalize f5 h = b5
  generalize f6 h = b6
  generalize f8 h = b8
  generalize f9 h = b9
  generalize f10 h = b10
  generalize f11 h = b11
  generalize f12 h = b12
  generalize f13 h = b13
  generalize decide (h.kind = 1) = bk
  cases b1
  · rfl
  cases b2
  · rfl
  have tail : ∀ a8 a9 a10 a11 a12 a13 : Bool, (bif !a8 then some (AV.int .i64 8) else bif !a9 then some (AV.int .i64 9) else bif !a10 then some (AV.int .i64 10) else bif !a11 then some (AV.int .i64 11) else bif !a12 then some (AV.int .i64 12) else bif !a13 then some (AV.int .i64 13) else some (AV.int .i64 0)) =
      some (AV.int .i64 (bif !a8 then 8 else bif !a9 then 9 else bif !a10 then 10 else bif !a11 then 11 else bif !a12 then 12 else bif !a13 then 13 else 0)) := by
    intro a8 a9 a10 a11 a12 a13
    cases a8 <;> cases a9 <;> cases a10 <;> cases a11 <;> cases a12 <;> cases a13 <;> rfl
  rcases s3 with ⟨x1, x2, x3⟩ | ⟨x1, x2, x3⟩ | ⟨x1, x2, x3⟩
  · rw [decide_eq_true x1, decide_eq_false x2, decide_eq_false x3]
    cases bk <;> cases bs <;> cases b3 <;> cases b4 <;> cases b5 <;> cases b6 <;> rfl
  · rw [decide_eq_false x1, decide_eq_true x2, decide_eq_false x3]
    cases bk <;> cases bs <;> cases b3 <;> cases b4 <;> cases b5 <;> cases b6 <;> first | rfl | exact tail _ _ _ _ _ _
  · rw [decide_eq_false x1, decide_eq_false x2, decide_eq_true x3]
    cases bk <;> cases bs <;> cases b3 <;> cases b4 <;> cases b5 <;> cases b6 <;> first | rfl | exact tail _ _ _ _ _ _
theorem known_loop (kap : FuncId → List AV → Option AV) (hW : ∀ key : List UInt8, kap ref07_Which [.str (str key)] = some (.int .i64 (whichL key))) (h : Head) (g1 g2 g3 g4 g5 g6 g7 g8 g9 g10 g11 g12 : Bool) (suf : List Pair) : ∀ (pre : List Pair) (k0 : Nat) (v : Bool), h.extra = pre ++ suf → suf.length < k0 → h.extra.length < 1000000 →
    ref09_fields_L10 kap k k0 ((pre.length : Nat) : Int) h.kind (str h.name) (str h.link) h.mode h.uid h.gid h.size h.sec h.nano (str h.user) (str h.group) h.major h.minor (prs h.extra) false false false false false false false false false false false false false false false g1 g2 g3 g4 g5 g6 g7 g8 g9 g10 g11 g12 v = some (.agg [.bool false, .bool g1, .bool g2, .bool g3, .bool g4, .bool g5, .bool g6, .bool g7, .bool g8, .bool g9, .bool g10, .bool g11, .bool g12, .bool (v && suf.all fun p => decide (whichL p.key < 0))]) := by
  induction suf with
  | nil =>
    intro pre k0 v he h' hb
    obtain ⟨m, rfl⟩ : ∃ m, k0 = m + 1 := ⟨k0 - 1, by simp only [List.length_nil] at h'; omega⟩
    rw [ref09_fields_L10_s, prs_len, he, bif_f (by simp)]
    simp
  | cons p suf ih =>
    intro pre k0 v he h' hb
    obtain ⟨m, rfl⟩ : ∃ m, k0 = m + 1 := ⟨k0 - 1, by simp only [List.length_cons] at h'; omega⟩
    have h2 : suf.length < m := by simp only [List.length_cons] at h'; omega
    have hb' : pre.length + (suf.length + 1) < 1000000 := by rw [he] at hb; simp only [List.length_append, List.length_cons] at hb; exact hb
    have hl : h.extra.length = pre.length + (suf.length + 1) := by rw [he]; simp
    have hi := fun v => ih (pre ++ [p]) m v (by rw [he]; simp) h2 hb
    rw [← snoc_len] at hi
    have hat : ∀ (F : AV → Option AV), ((prs h.extra)[pre.length]?).bind F = F (elPair p) := fun F => by rw [he, prs_mid]
    rw [ref09_fields_L10_s, prs_len, hl, bif_t (by omega), i64w (by omega), hi, bif_a, bif_t (by omega), bif_t (by omega), Int.toNat_natCast, hat, cells_pair, p_0, hW, callI_ok, hi, List.all_cons]
    cases v <;> simp
end Go.Proofs.YtilbahgfjfcikaaGreatDoor.Eng.U

/- Which field of a head is the first that isn't right: the reference's side. -/
set_option linter.unusedVariables false
set_option linter.unusedSectionVars false
set_option linter.unusedSimpArgs false
namespace Go.Proofs.YtilbahgfjfcikaaGreatDoor.Eng.U
open Go Go.Proofs Go.Proofs.YtilbahgfjfcikaaGreatDoor.Eng Go.Proofs.YtilbahgfjfcikaaGreatDoor.P04
variable {E : Ext} [Core E] [HasNum E] {k n k0 : Nat}

theorem fld0 (kap : FuncId → List AV → Option AV) (h : Head) (hb : BdF h) (K : Nat) : ref09_fields_J0 kap (K + 1) (K + 1) (links h) h.kind (str h.name) (str h.link) h.mode h.uid h.gid h.size h.sec h.nano (str h.user) (str h.group) h.major h.minor (prs h.extra) false false false false false false false false false false false false false false = ref09_fields_J1 kap (K + 1) (K + 1) (links h) (devs h) h.kind (str h.name) (str h.link) h.mode h.uid h.gid h.size h.sec h.nano (str h.user) (str h.group) h.major h.minor (prs h.extra) false false false false false false false false false false false false false false := by
  rw [ref09_fields_J0_s]
  cases hx : decide (h.kind = 4)
  · have e : devs h = decide (h.kind = 5) := by unfold devs; rw [hx, Bool.false_or]
    rw [e, cond_false]
  · have e : devs h = true := by unfold devs; rw [hx, Bool.true_or]
    rw [e, cond_true]
theorem fld1 (kap : FuncId → List AV → Option AV) (h : Head) (hb : BdF h) (K : Nat) : ref09_fields_J1 kap (K + 1) (K + 1) (links h) (devs h) h.kind (str h.name) (str h.link) h.mode h.uid h.gid h.size h.sec h.nano (str h.user) (str h.group) h.major h.minor (prs h.extra) false false false false false false false false false false false false false false = ref09_fields_J2 kap (K + 1) (K + 1) (links h) (devs h) h.kind (str h.name) (str h.link) h.mode h.uid h.gid h.size h.sec h.nano (str h.user) (str h.group) h.major h.minor (prs h.extra) false false false false false false false false false false false false false false false (f1 h) false false false false false false false false false false false false := by
  rw [ref09_fields_J1_s]
  cases hx : decide (h.kind ≥ 1)
  · have e : f1 h = false := by unfold f1; rw [hx, Bool.false_and]
    rw [e, cond_false]
  · have e : f1 h = decide (h.kind ≤ 7) := by unfold f1; rw [hx, Bool.true_and]
    rw [e, cond_true]
theorem fld2 (kap : FuncId → List AV → Option AV) (h : Head) (hb : BdF h) (hname : ∀ s : List UInt8, s.length ≤ 200000 → kap ref09_name [.str (str s)] = some (.bool (nameOk s))) (hslash : kap ref09_Slash [.str (str h.name)] = some (.bool (sl h.name))) (K : Nat) : ref09_fields_J2 kap (K + 1) (K + 1) (links h) (devs h) h.kind (str h.name) (str h.link) h.mode h.uid h.gid h.size h.sec h.nano (str h.user) (str h.group) h.major h.minor (prs h.extra) false false false false false false false false false false false false false false false (f1 h) false false false false false false false false false false false false = ref09_fields_J3 kap (K + 1) (K + 1) (links h) (devs h) h.kind (str h.name) (str h.link) h.mode h.uid h.gid h.size h.sec h.nano (str h.user) (str h.group) h.major h.minor (prs h.extra) false false false false false false false false false false false false false false false (f1 h) (f2 h) false false false false false false false false false false false := by
  rw [ref09_fields_J2_s]
  rw [hname h.name hb.1, callB_ok]
  cases hn : nameOk h.name
  · have e : f2 h = false := by unfold f2; rw [hn, Bool.false_and]
    rw [e, cond_false]
  · rw [cond_true]
    cases hk : decide (h.kind = 1)
    · have e : f2 h = true := by unfold f2; rw [hn, hk]; rfl
      rw [e, cond_false]
    · have e : f2 h = !sl h.name := by unfold f2; rw [hn, hk, Bool.true_and, Bool.true_and]
      rw [cond_true, hslash, callB_ok, e]
theorem fld3 (kap : FuncId → List AV → Option AV) (h : Head) (hb : BdF h) (hname : ∀ s : List UInt8, s.length ≤ 200000 → kap ref09_name [.str (str s)] = some (.bool (nameOk s))) (K : Nat) : ref09_fields_J3 kap (K + 1) (K + 1) (links h) (devs h) h.kind (str h.name) (str h.link) h.mode h.uid h.gid h.size h.sec h.nano (str h.user) (str h.group) h.major h.minor (prs h.extra) false false false false false false false false false false false false false false false (f1 h) (f2 h) false false false false false false false false false false false = ref09_fields_J4 kap (K + 1) (K + 1) (devs h) h.kind (str h.name) (str h.link) h.mode h.uid h.gid h.size h.sec h.nano (str h.user) (str h.group) h.major h.minor (prs h.extra) false false false false false false false false false false false false false false false (f1 h) (f2 h) (f3 h) false false false false false false false false false false := by
  rw [ref09_fields_J3_s]
  cases hl : links h
  · have e : f3 h = decide (h.link = []) := by unfold f3; rw [hl, cond_false]
    rw [cond_false, Bool.not_false, cond_true, str_dec, e]
  · rw [cond_true, hname h.link hb.2.1, callB_ok]
    cases hn : nameOk h.link
    · have e : f3 h = false := by unfold f3; rw [hl, cond_true, hn]
      rw [cond_false, Bool.not_true, cond_false, e]
    · have e : f3 h = true := by unfold f3; rw [hl, cond_true, hn]
      rw [cond_true, e]
theorem fld4 (kap : FuncId → List AV → Option AV) (h : Head) (hb : BdF h) (K : Nat) : ref09_fields_J4 kap (K + 1) (K + 1) (devs h) h.kind (str h.name) (str h.link) h.mode h.uid h.gid h.size h.sec h.nano (str h.user) (str h.group) h.major h.minor (prs h.extra) false false false false false false false false false false false false false false false (f1 h) (f2 h) (f3 h) false false false false false false false false false false = ref09_fields_J5 kap (K + 1) (K + 1) (devs h) h.kind (str h.name) (str h.link) h.mode h.uid h.gid h.size h.sec h.nano (str h.user) (str h.group) h.major h.minor (prs h.extra) false false false false false false false false false false false false false false false (f1 h) (f2 h) (f3 h) (f4 h) (f5 h) (f6 h) (f7 h) false false false false false false := by
  rw [ref09_fields_J4_s]
  rw [show decide (h.mode ≥ 0) = f4 h from rfl, show decide (h.uid ≥ 0) = f5 h from rfl, show decide (h.gid ≥ 0) = f6 h from rfl]
  cases hz : decide (h.size = 0)
  · rw [cond_false]
    cases hp : decide (h.size > 0)
    · have e : f7 h = false := by unfold f7; rw [hz, hp]; rfl
      rw [cond_false, e]
    · have e : f7 h = decide (h.kind = 1) := by unfold f7; rw [hz, hp, Bool.false_or, Bool.true_and]
      rw [cond_true, e]
  · have e : f7 h = true := by unfold f7; rw [hz, Bool.true_or]
    rw [cond_true, e]
theorem fld5 (kap : FuncId → List AV → Option AV) (h : Head) (hb : BdF h) (hname : ∀ s : List UInt8, s.length ≤ 200000 → kap ref09_name [.str (str s)] = some (.bool (nameOk s))) (hright : ∀ s t : Int, kap ref04_Right [.agg [.int .i64 s, .int .i64 t]] = some (.bool (rightT t))) (K : Nat) : ref09_fields_J5 kap (K + 1) (K + 1) (devs h) h.kind (str h.name) (str h.link) h.mode h.uid h.gid h.size h.sec h.nano (str h.user) (str h.group) h.major h.minor (prs h.extra) false false false false false false false false false false false false false false false (f1 h) (f2 h) (f3 h) (f4 h) (f5 h) (f6 h) (f7 h) false false false false false false = ref09_fields_J6 kap (K + 1) (K + 1) (devs h) h.kind (str h.name) (str h.link) h.mode h.uid h.gid h.size h.sec h.nano (str h.user) (str h.group) h.major h.minor (prs h.extra) false false false false false false false false false false false false false false false (f1 h) (f2 h) (f3 h) (f4 h) (f5 h) (f6 h) (f7 h) (f8 h) (f9 h) false false false false := by
  rw [ref09_fields_J5_s]
  rw [hright, callB_ok, show rightT h.nano = f8 h from rfl, str_dec]
  cases hu : decide (h.user = [])
  · have e : f9 h = nameOk h.user := by unfold f9; rw [← plain_name, hu, cond_false]
    rw [cond_false, hname h.user hb.2.2.1, callB_ok, e]
  · have e : f9 h = true := by unfold f9; rw [← plain_name, hu, cond_true]
    rw [cond_true, e]
theorem fld6 (kap : FuncId → List AV → Option AV) (h : Head) (hb : BdF h) (hname : ∀ s : List UInt8, s.length ≤ 200000 → kap ref09_name [.str (str s)] = some (.bool (nameOk s))) (K : Nat) : ref09_fields_J6 kap (K + 1) (K + 1) (devs h) h.kind (str h.name) (str h.link) h.mode h.uid h.gid h.size h.sec h.nano (str h.user) (str h.group) h.major h.minor (prs h.extra) false false false false false false false false false false false false false false false (f1 h) (f2 h) (f3 h) (f4 h) (f5 h) (f6 h) (f7 h) (f8 h) (f9 h) false false false false = ref09_fields_J7 kap (K + 1) (K + 1) (devs h) h.kind (str h.name) (str h.link) h.mode h.uid h.gid h.size h.sec h.nano (str h.user) (str h.group) h.major h.minor (prs h.extra) false false false false false false false false false false false false false false false (f1 h) (f2 h) (f3 h) (f4 h) (f5 h) (f6 h) (f7 h) (f8 h) (f9 h) (f10 h) false false false := by
  rw [ref09_fields_J6_s]
  rw [str_dec]
  cases hu : decide (h.group = [])
  · have e : f10 h = nameOk h.group := by unfold f10; rw [← plain_name, hu, cond_false]
    rw [cond_false, hname h.group hb.2.2.2.1, callB_ok, e]
  · have e : f10 h = true := by unfold f10; rw [← plain_name, hu, cond_true]
    rw [cond_true, e]
theorem fld7 (kap : FuncId → List AV → Option AV) (h : Head) (hb : BdF h) (K : Nat) : ref09_fields_J7 kap (K + 1) (K + 1) (devs h) h.kind (str h.name) (str h.link) h.mode h.uid h.gid h.size h.sec h.nano (str h.user) (str h.group) h.major h.minor (prs h.extra) false false false false false false false false false false false false false false false (f1 h) (f2 h) (f3 h) (f4 h) (f5 h) (f6 h) (f7 h) (f8 h) (f9 h) (f10 h) false false false = ref09_fields_J8 kap (K + 1) (K + 1) (devs h) h.kind (str h.name) (str h.link) h.mode h.uid h.gid h.size h.sec h.nano (str h.user) (str h.group) h.major h.minor (prs h.extra) false false false false false false false false false false false false false false false (f1 h) (f2 h) (f3 h) (f4 h) (f5 h) (f6 h) (f7 h) (f8 h) (f9 h) (f10 h) (f11 h) false false := by
  rw [ref09_fields_J7_s]
  cases hz : decide (h.major = 0)
  · rw [cond_false]
    cases hp : decide (h.major > 0)
    · have e : f11 h = false := by unfold f11 devOk; rw [hz, hp]; rfl
      rw [cond_false, e]
    · have e : f11 h = devs h := by unfold f11 devOk; rw [hz, hp, Bool.false_or, Bool.true_and]
      rw [cond_true, e]
  · have e : f11 h = true := by unfold f11 devOk; rw [hz, Bool.true_or]
    rw [cond_true, e]
theorem fld8 (kap : FuncId → List AV → Option AV) (h : Head) (hb : BdF h) (K : Nat) : ref09_fields_J8 kap (K + 1) (K + 1) (devs h) h.kind (str h.name) (str h.link) h.mode h.uid h.gid h.size h.sec h.nano (str h.user) (str h.group) h.major h.minor (prs h.extra) false false false false false false false false false false false false false false false (f1 h) (f2 h) (f3 h) (f4 h) (f5 h) (f6 h) (f7 h) (f8 h) (f9 h) (f10 h) (f11 h) false false = ref09_fields_J9 kap (K + 1) (K + 1)  h.kind (str h.name) (str h.link) h.mode h.uid h.gid h.size h.sec h.nano (str h.user) (str h.group) h.major h.minor (prs h.extra) false false false false false false false false false false false false false false false (f1 h) (f2 h) (f3 h) (f4 h) (f5 h) (f6 h) (f7 h) (f8 h) (f9 h) (f10 h) (f11 h) (f12 h) false := by
  rw [ref09_fields_J8_s]
  cases hz : decide (h.minor = 0)
  · rw [cond_false]
    cases hp : decide (h.minor > 0)
    · have e : f12 h = false := by unfold f12 devOk; rw [hz, hp]; rfl
      rw [cond_false, e]
    · have e : f12 h = devs h := by unfold f12 devOk; rw [hz, hp, Bool.false_or, Bool.true_and]
      rw [cond_true, e]
  · have e : f12 h = true := by unfold f12 devOk; rw [hz, Bool.true_or]
    rw [cond_true, e]
end Go.Proofs.YtilbahgfjfcikaaGreatDoor.Eng.U

/- Which field of a head is the first that isn't right: the reference's side. -/
set_option linter.unusedVariables false
set_option linter.unusedSectionVars false
set_option linter.unusedSimpArgs false
namespace Go.Proofs.YtilbahgfjfcikaaGreatDoor.Eng.U
open Go Go.Proofs Go.Proofs.YtilbahgfjfcikaaGreatDoor.Eng Go.Proofs.YtilbahgfjfcikaaGreatDoor.P04
variable {E : Ext} [Core E] [HasNum E] {k n k0 : Nat}

set_option maxRecDepth 100000 in
theorem wrong_loop (kap : FuncId → List AV → Option AV) (b0 b1 b2 b3 b4 b5 b6 b7 b8 b9 b10 b11 b12 b13 : Bool) : ref09_Wrong_L0 kap k (k0 + 14) (1 : Int) b0 b1 b2 b3 b4 b5 b6 b7 b8 b9 b10 b11 b12 b13 = some (.int .i64 (bif !b1 then 1 else bif !b2 then 2 else bif !b3 then 3 else bif !b4 then 4 else bif !b5 then 5 else bif !b6 then 6 else bif !b7 then 7 else bif !b8 then 8 else bif !b9 then 9 else bif !b10 then 10 else bif !b11 then 11 else bif !b12 then 12 else bif !b13 then 13 else 0)) := by
  have t1 : ∀ m, ref09_Wrong_L0 kap k (m + 1) (1 : Int) b0 b1 b2 b3 b4 b5 b6 b7 b8 b9 b10 b11 b12 b13 = bif !b1 then some (.int .i64 1) else ref09_Wrong_L0 kap k m (2 : Int) b0 b1 b2 b3 b4 b5 b6 b7 b8 b9 b10 b11 b12 b13 := fun m => (ref09_Wrong_L0_s ..).trans rfl
  have t2 : ∀ m, ref09_Wrong_L0 kap k (m + 1) (2 : Int) b0 b1 b2 b3 b4 b5 b6 b7 b8 b9 b10 b11 b12 b13 = bif !b2 then some (.int .i64 2) else ref09_Wrong_L0 kap k m (3 : Int) b0 b1 b2 b3 b4 b5 b6 b7 b8 b9 b10 b11 b12 b13 := fun m => (ref09_Wrong_L0_s ..).trans rfl
  have t3 : ∀ m, ref09_Wrong_L0 kap k (m + 1) (3 : Int) b0 b1 b2 b3 b4 b5 b6 b7 b8 b9 b10 b11 b12 b13 = bif !b3 then some (.int .i64 3) else ref09_Wrong_L0 kap k m (4 : Int) b0 b1 b2 b3 b4 b5 b6 b7 b8 b9 b10 b11 b12 b13 := fun m => (ref09_Wrong_L0_s ..).trans rfl
  have t4 : ∀ m, ref09_Wrong_L0 kap k (m + 1) (4 : Int) b0 b1 b2 b3 b4 b5 b6 b7 b8 b9 b10 b11 b12 b13 = bif !b4 then some (.int .i64 4) else ref09_Wrong_L0 kap k m (5 : Int) b0 b1 b2 b3 b4 b5 b6 b7 b8 b9 b10 b11 b12 b13 := fun m => (ref09_Wrong_L0_s ..).trans rfl
  have t5 : ∀ m, ref09_Wrong_L0 kap k (m + 1) (5 : Int) b0 b1 b2 b3 b4 b5 b6 b7 b8 b9 b10 b11 b12 b13 = bif !b5 then some (.int .i64 5) else ref09_Wrong_L0 kap k m (6 : Int) b0 b1 b2 b3 b4 b5 b6 b7 b8 b9 b10 b11 b12 b13 := fun m => (ref09_Wrong_L0_s ..).trans rfl
  have t6 : ∀ m, ref09_Wrong_L0 kap k (m + 1) (6 : Int) b0 b1 b2 b3 b4 b5 b6 b7 b8 b9 b10 b11 b12 b13 = bif !b6 then some (.int .i64 6) else ref09_Wrong_L0 kap k m (7 : Int) b0 b1 b2 b3 b4 b5 b6 b7 b8 b9 b10 b11 b12 b13 := fun m => (ref09_Wrong_L0_s ..).trans rfl
  have t7 : ∀ m, ref09_Wrong_L0 kap k (m + 1) (7 : Int) b0 b1 b2 b3 b4 b5 b6 b7 b8 b9 b10 b11 b12 b13 = bif !b7 then some (.int .i64 7) else ref09_Wrong_L0 kap k m (8 : Int) b0 b1 b2 b3 b4 b5 b6 b7 b8 b9 b10 b11 b12 b13 := fun m => (ref09_Wrong_L0_s ..).trans rfl
  have t8 : ∀ m, ref09_Wrong_L0 kap k (m + 1) (8 : Int) b0 b1 b2 b3 b4 b5 b6 b7 b8 b9 b10 b11 b12 b13 = bif !b8 then some (.int .i64 8) else ref09_Wrong_L0 kap k m (9 : Int) b0 b1 b2 b3 b4 b5 b6 b7 b8 b9 b10 b11 b12 b13 := fun m => (ref09_Wrong_L0_s ..).trans rfl
  have t9 : ∀ m, ref09_Wrong_L0 kap k (m + 1) (9 : Int) b0 b1 b2 b3 b4 b5 b6 b7 b8 b9 b10 b11 b12 b13 = bif !b9 then some (.int .i64 9) else ref09_Wrong_L0 kap k m (10 : Int) b0 b1 b2 b3 b4 b5 b6 b7 b8 b9 b10 b11 b12 b13 := fun m => (ref09_Wrong_L0_s ..).trans rfl
  have t10 : ∀ m, ref09_Wrong_L0 kap k (m + 1) (10 : Int) b0 b1 b2 b3 b4 b5 b6 b7 b8 b9 b10 b11 b12 b13 = bif !b10 then some (.int .i64 10) else ref09_Wrong_L0 kap k m (11 : Int) b0 b1 b2 b3 b4 b5 b6 b7 b8 b9 b10 b11 b12 b13 := fun m => (ref09_Wrong_L0_s ..).trans rfl
  have t11 : ∀ m, ref09_Wrong_L0 kap k (m + 1) (11 : Int) b0 b1 b2 b3 b4 b5 b6 b7 b8 b9 b10 b11 b12 b13 = bif !b11 then some (.int .i64 11) else ref09_Wrong_L0 kap k m (12 : Int) b0 b1 b2 b3 b4 b5 b6 b7 b8 b9 b10 b11 b12 b13 := fun m => (ref09_Wrong_L0_s ..).trans rfl
  have t12 : ∀ m, ref09_Wrong_L0 kap k (m + 1) (12 : Int) b0 b1 b2 b3 b4 b5 b6 b7 b8 b9 b10 b11 b12 b13 = bif !b12 then some (.int .i64 12) else ref09_Wrong_L0 kap k m (13 : Int) b0 b1 b2 b3 b4 b5 b6 b7 b8 b9 b10 b11 b12 b13 := fun m => (ref09_Wrong_L0_s ..).trans rfl
  have t13 : ∀ m, ref09_Wrong_L0 kap k (m + 1) (13 : Int) b0 b1 b2 b3 b4 b5 b6 b7 b8 b9 b10 b11 b12 b13 = bif !b13 then some (.int .i64 13) else ref09_Wrong_L0 kap k m (14 : Int) b0 b1 b2 b3 b4 b5 b6 b7 b8 b9 b10 b11 b12 b13 := fun m => (ref09_Wrong_L0_s ..).trans rfl
  have t14 : ∀ m, ref09_Wrong_L0 kap k (m + 1) (14 : Int) b0 b1 b2 b3 b4 b5 b6 b7 b8 b9 b10 b11 b12 b13 = some (.int .i64 0) := fun m => (ref09_Wrong_L0_s ..).trans rfl
  rw [t1]
  cases b1
  · rfl
  rw [Bool.not_true, cond_false, cond_false]
  rw [t2]
  cases b2
  · rfl
  rw [Bool.not_true, cond_false, cond_false]
  rw [t3]
  cases b3
  · rfl
  rw [Bool.not_true, cond_false, cond_false]
  rw [t4]
  cases b4
  · rfl
  rw [Bool.not_true, cond_false, cond_false]
  rw [t5]
  cases b5
  · rfl
  rw [Bool.not_true, cond_false, cond_false]
  rw [t6]
  cases b6
  · rfl
  rw [Bool.not_true, cond_false, cond_false]
  rw [t7]
  cases b7
  · rfl
  rw [Bool.not_true, cond_false, cond_false]
  rw [t8]
  cases b8
  · rfl
  rw [Bool.not_true, cond_false, cond_false]
  rw [t9]
  cases b9
  · rfl
  rw [Bool.not_true, cond_false, cond_false]
  rw [t10]
  cases b10
  · rfl
  rw [Bool.not_true, cond_false, cond_false]
  rw [t11]
  cases b11
  · rfl
  rw [Bool.not_true, cond_false, cond_false]
  rw [t12]
  cases b12
  · rfl
  rw [Bool.not_true, cond_false, cond_false]
  rw [t13]
  cases b13
  · rfl
  rw [Bool.not_true, cond_false, cond_false]
  rw [t14]
end Go.Proofs.YtilbahgfjfcikaaGreatDoor.Eng.U

/- Which field of a head is the first that isn't right: the reference's side. -/
set_option linter.unusedVariables false
set_option linter.unusedSectionVars false
set_option linter.unusedSimpArgs false
namespace Go.Proofs.YtilbahgfjfcikaaGreatDoor.Eng.U
open Go Go.Proofs Go.Proofs.YtilbahgfjfcikaaGreatDoor.Eng Go.Proofs.YtilbahgfjfcikaaGreatDoor.P04
variable {E : Ext} [Core E] [HasNum E] {k n k0 : Nat}

theorem fields_k [HasTextV E] (h : Head) (hb : BdF h) (hk : 2000000 < k) : kp E k (n + 7) ref09_fields [.agg (encHead h)] = some (.agg [.bool false, .bool (f1 h), .bool (f2 h), .bool (f3 h), .bool (f4 h), .bool (f5 h), .bool (f6 h), .bool (f7 h), .bool (f8 h), .bool (f9 h), .bool (f10 h), .bool (f11 h), .bool (f12 h), .bool (f13 h)]) := by
  obtain ⟨K, rfl⟩ : ∃ K, k = K + 1 := ⟨k - 1, by omega⟩
  have hname : ∀ s : List UInt8, s.length ≤ 200000 → kp E (K + 1) (n + 6) ref09_name [.str (str s)] = some (.bool (nameOk s)) := fun s hs => refName_k (n := n + 3) s (by omega) (by omega)
  have hslash : kp E (K + 1) (n + 6) ref09_Slash [.str (str h.name)] = some (.bool (sl h.name)) := refSlash_k (n := n + 5) h.name (by have := hb.1; omega)
  have hright : ∀ s t : Int, kp E (K + 1) (n + 6) ref04_Right [.agg [.int .i64 s, .int .i64 t]] = some (.bool (rightT t)) := fun s t => refRight_k (n := n + 5) s t
  have hover : kp E (K + 1) (n + 6) ref08_Right [.list 2 (prs h.extra)] = some (.bool (overOk h.extra)) := refOver_k (n := n + 1) h.extra hb.2.2.2.2.1 hb.2.2.2.2.2 (by omega)
  have hl := known_loop (k := K + 1) (kp E (K + 1) (n + 6)) (fun key => which_k (n := n + 4) key (by omega)) h (f1 h) (f2 h) (f3 h) (f4 h) (f5 h) (f6 h) (f7 h) (f8 h) (f9 h) (f10 h) (f11 h) (f12 h) h.extra [] (K + 1) (overOk h.extra) rfl (by have := hb.2.2.2.2.1; omega) (by have := hb.2.2.2.2.1; omega)
  unfold encHead
  rw [ref09_fields_eq]
  have s : (bif decide (h.kind = 2) then ref09_fields_J0 (kp E (K + 1) (n + 6)) (K + 1) (K + 1) true h.kind (str h.name) (str h.link) h.mode h.uid h.gid h.size h.sec h.nano (str h.user) (str h.group) h.major h.minor (prs h.extra) false false false false false false false false false false false false false false else ref09_fields_J0 (kp E (K + 1) (n + 6)) (K + 1) (K + 1) (decide (h.kind = 3)) h.kind (str h.name) (str h.link) h.mode h.uid h.gid h.size h.sec h.nano (str h.user) (str h.group) h.major h.minor (prs h.extra) false false false false false false false false false false false false false false) = ref09_fields_J0 (kp E (K + 1) (n + 6)) (K + 1) (K + 1) (links h) h.kind (str h.name) (str h.link) h.mode h.uid h.gid h.size h.sec h.nano (str h.user) (str h.group) h.major h.minor (prs h.extra) false false false false false false false false false false false false false false := by
    cases hx : decide (h.kind = 2)
    · have e : links h = decide (h.kind = 3) := by unfold links; rw [hx, Bool.false_or]
      rw [e, cond_false]
    · have e : links h = true := by unfold links; rw [hx, Bool.true_or]
      rw [e, cond_true]
  refine s.trans ?_
  refine (fld0 _ h hb K).trans ?_
  refine (fld1 _ h hb K).trans ?_
  refine (fld2 _ h hb hname hslash K).trans ?_
  refine (fld3 _ h hb hname K).trans ?_
  refine (fld4 _ h hb K).trans ?_
  refine (fld5 _ h hb hname hright K).trans ?_
  refine (fld6 _ h hb hname K).trans ?_
  refine (fld7 _ h hb K).trans ?_
  refine (fld8 _ h hb K).trans ?_
  rw [ref09_fields_J9_s, hover, callB_ok]
  exact hl
theorem callG14 {β : Type} (b0 b1 b2 b3 b4 b5 b6 b7 b8 b9 b10 b11 b12 b13 : Bool) (F : Bool → Bool → Bool → Bool → Bool → Bool → Bool → Bool → Bool → Bool → Bool → Bool → Bool → Bool → Option β) : (callG 14 (some (.agg [.bool b0, .bool b1, .bool b2, .bool b3, .bool b4, .bool b5, .bool b6, .bool b7, .bool b8, .bool b9, .bool b10, .bool b11, .bool b12, .bool b13])) fun vg2 => (cellB vg2 0 fun q0 => (cellB vg2 1 fun q1 => (cellB vg2 2 fun q2 => (cellB vg2 3 fun q3 => (cellB vg2 4 fun q4 => (cellB vg2 5 fun q5 => (cellB vg2 6 fun q6 => (cellB vg2 7 fun q7 => (cellB vg2 8 fun q8 => (cellB vg2 9 fun q9 => (cellB vg2 10 fun q10 => (cellB vg2 11 fun q11 => (cellB vg2 12 fun q12 => (cellB vg2 13 fun q13 => (F q0 q1 q2 q3 q4 q5 q6 q7 q8 q9 q10 q11 q12 q13)))))))))))))))) = F b0 b1 b2 b3 b4 b5 b6 b7 b8 b9 b10 b11 b12 b13 := rfl
theorem refWrong_k [HasTextV E] (h : Head) (hb : BdF h) (hk : 2000000 < k) : kp E k (n + 8) ref09_Wrong [.agg (encHead h)] = some (.int .i64 (wrongH h)) := by
  have hf := fields_k (E := E) (k := k) (n := n) h hb hk
  obtain ⟨K, rfl⟩ : ∃ K, k = K + 14 := ⟨k - 14, by omega⟩
  have hw := wrong_loop (k := K + 14) (k0 := K) (kp E (K + 14) (n + 7)) false (f1 h) (f2 h) (f3 h) (f4 h) (f5 h) (f6 h) (f7 h) (f8 h) (f9 h) (f10 h) (f11 h) (f12 h) (f13 h)
  unfold encHead at hf ⊢
  unfold wrongH
  rw [ref09_Wrong_eq, hf]
  exact (callG14 _ _ _ _ _ _ _ _ _ _ _ _ _ _ fun q0 q1 q2 q3 q4 q5 q6 q7 q8 q9 q10 q11 q12 q13 => ref09_Wrong_L0 (kp E (K + 14) (n + 7)) (K + 14) (K + 14) (1 : Int) q0 q1 q2 q3 q4 q5 q6 q7 q8 q9 q10 q11 q12 q13).trans hw
end Go.Proofs.YtilbahgfjfcikaaGreatDoor.Eng.U

/- ItemWrong in plain words: it answers true. -/
set_option linter.unusedVariables false
set_option linter.unusedSectionVars false
set_option linter.unusedSimpArgs false
namespace Go.Proofs.YtilbahgfjfcikaaGreatDoor.Eng.U
open Go Go.Proofs Go.Proofs.YtilbahgfjfcikaaGreatDoor.Eng Go.Proofs.YtilbahgfjfcikaaGreatDoor.P04
variable {E : Ext} [Core E] [HasNum E] {k n : Nat}

theorem refFulls_k (h : Head) (hl : h.name.length < 1000000000) : kp E k (n + 2) ref09_Fulls [.agg (encHead h)] = some (.list 1 (svs (fulls h.kind h.name))) := by
  unfold encHead
  rw [ref09_Fulls_eq, str_size]
  unfold fulls
  by_cases h6 : h.kind = 6
  · rw [decide_eq_true h6, Bool.not_true, cond_false, bif_t (by omega), refSlash_k _ hl, callB_ok, if_pos h6, str_app, str_dec]
    cases hs : sl h.name with
    | false => rw [cond_false, bif_t (by omega), if_neg (by simp)]; rfl
    | true =>
      have hne : decide (h.name = [47]) = !decide (1 < h.name.length) := by
        rw [← decide_not, decide_eq_decide]
        constructor
        · intro e; rw [e]; simp
        · intro hx
          rcases snoc_cases h.name with e | ⟨l, c, e⟩
          · rw [e] at hs; simp [sl] at hs
          · rw [e] at hs hx ⊢
            have : l = [] := List.length_eq_zero_iff.1 (by simp only [List.length_append, List.length_cons, List.length_nil] at hx; omega)
            subst this
            simp [sl] at hs
            rw [hs]; rfl
      rw [cond_true, hne, Bool.not_not]
      by_cases hl2 : 1 < h.name.length
      · rw [decide_eq_true hl2, cond_true, if_pos ⟨rfl, hl2⟩]; rfl
      · rw [decide_eq_false hl2, cond_false, bif_t (by omega), if_neg (fun h => hl2 h.2)]; rfl
  · rw [decide_eq_false h6, Bool.not_false, cond_true, if_neg h6]; rfl
theorem itemRight_k [HasTextV E] (x : Item) (hb : BdF x.head) (hk : 1000000 < k) : kp E k (n + 9) item_Right [.agg (encItem x)] = some (.bool (decide (wrongH x.head = 0) && decide (x.head.size = ((x.data.length : Nat) : Int)))) := by
  have hw := wrong_kv (E := E) (k := k) (n := n) x.head hb hk
  unfold encHead at hw
  unfold encItem
  rw [item_Right_eq, hw, callI_ok, bys_len]
  cases decide (wrongH x.head = 0) <;> rfl
theorem refItemRight_k [HasTextV E] (x : Item) (hb : BdF x.head) (hk : 2000000 < k) : kp E k (n + 9) ref09_Right [.agg (encItem x)] = some (.bool (decide (wrongH x.head = 0) && decide (x.head.size = ((x.data.length : Nat) : Int)))) := by
  have hw := refWrong_k (E := E) (k := k) (n := n) x.head hb hk
  unfold encHead at hw
  unfold encItem
  rw [ref09_Right_eq, hw, callI_ok, bys_len]
  cases decide (wrongH x.head = 0) <;> rfl
theorem fullsEq_loop (kap : FuncId → List AV → Option AV) (h : Head) (dat : List AV) (all : List (List UInt8)) (R : Option AV) (hend : ∀ j, law09_ItemWrong_L0 kap k (j + 1) (svs all) (svs all) ((all.length : Nat) : Int) h.kind (str h.name) (str h.link) h.mode h.uid h.gid h.size h.sec h.nano (str h.user) (str h.group) h.major h.minor (prs h.extra) dat = R) (suf : List (List UInt8)) :
    ∀ (pre : List (List UInt8)) (k0 : Nat), all = pre ++ suf → suf.length < k0 → all.length < 1000000 → law09_ItemWrong_L0 kap k k0 (svs all) (svs all) ((pre.length : Nat) : Int) h.kind (str h.name) (str h.link) h.mode h.uid h.gid h.size h.sec h.nano (str h.user) (str h.group) h.major h.minor (prs h.extra) dat = R := by
  induction suf with
  | nil =>
    intro pre k0 he h' hb
    obtain ⟨m, rfl⟩ : ∃ m, k0 = m + 1 := ⟨k0 - 1, by simp only [List.length_nil] at h'; omega⟩
    rw [List.append_nil] at he
    subst he
    exact hend m
  | cons p suf ih =>
    intro pre k0 he h' hb
    obtain ⟨m, rfl⟩ : ∃ m, k0 = m + 1 := ⟨k0 - 1, by simp only [List.length_cons] at h'; omega⟩
    have h2 : suf.length < m := by simp only [List.length_cons] at h'; omega
    have hl : all.length = pre.length + (suf.length + 1) := by rw [he]; simp
    have hi := ih (pre ++ [p]) m (by rw [he]; simp) h2 hb
    have e1 : (((pre ++ [p]).length : Nat) : Int) = ((pre.length : Nat) : Int) + 1 := by simp
    rw [e1] at hi
    have hat : ∀ (F : ByteArray → Option AV), (((svs all)[pre.length]?).bind fun y => cellS (AV.cells y) 0 F) = F (str p) := fun F => by rw [he, svs_mid]
    rw [law09_ItemWrong_L0_s, svs_len, hl, bif_t (by omega), bif_a, bif_t (by omega), bif_t (by omega), Int.toNat_natCast, hat, bif_a, bif_t (by omega), bif_t (by omega), hat, decide_eq_true rfl, Bool.not_true, cond_false, i64w (by omega)]
    exact hi
theorem itemWrong_true [HasText E] [HasTextV E] (x : Item) (hb : BdH x.head) (hd : x.data.length ≤ 140737488351232) (hk : 10000000000000 ≤ k) : kp E k (n + 11) law09_ItemWrong [.agg (encItem x)] = some (.bool true) := by
  have ha := alive9 (E := E) (k := k) (n := n + 6)
  have hm := many9_k (E := E) (k := k) (n := n + 9) x.head hb (by have := hb.2.2.2.2.2; omega)
  have hfu := fulls_k (E := E) (k := k) (n := n + 7) x.head (by have := hb.1; omega)
  cases hmb : manyB x.head with
  | true =>
    rw [hmb] at hm
    unfold encHead at hm
    unfold encItem
    rw [law09_ItemWrong_eq, ha, callB_ok, Bool.not_true, cond_false, hm, callB_ok]
    rfl
  | false =>
    have hfew := few_of x.head hb hmb
    have hF : BdF x.head := ⟨hfew.1, hfew.2.1, hfew.2.2.1, hfew.2.2.2.1, by have := hfew.2.2.2.2.2; omega, fun p hp => by have := hfew.2.2.2.2.1 p hp; omega⟩
    have hrf := refFulls_k (E := E) (k := k) (n := n + 8) x.head (by have := hfew.1; omega)
    have hw1 := wrong_kv (E := E) (k := k) (n := n + 2) x.head hF (by omega)
    have hw2 := refWrong_k (E := E) (k := k) (n := n + 2) x.head hF (by omega)
    have hr1 := itemRight_k (E := E) (k := k) (n := n + 1) x hF (by omega)
    have hr2 := refItemRight_k (E := E) (k := k) (n := n + 1) x hF (by omega)
    have hend : ∀ j, law09_ItemWrong_L0 (kp E k (n + 10)) k (j + 1) (svs (fulls x.head.kind x.head.name)) (svs (fulls x.head.kind x.head.name)) (((fulls x.head.kind x.head.name).length : Nat) : Int) x.head.kind (str x.head.name) (str x.head.link) x.head.mode x.head.uid x.head.gid x.head.size x.head.sec x.head.nano (str x.head.user) (str x.head.group) x.head.major x.head.minor (prs x.head.extra) (bys x.data) = some (.bool true) := by
      intro j
      unfold encHead at hw1 hw2
      unfold encItem at hr1 hr2
      rw [law09_ItemWrong_L0_s, svs_len, bif_f (by omega), hw1, callI_ok, hw2, callI_ok, decide_eq_true rfl, cond_true, hr1, callB_ok, hr2, callB_ok, beq_self_eq_true]
    have hlen : (fulls x.head.kind x.head.name).length ≤ 2 := by
      unfold fulls
      split
      · split <;> simp
      · simp
    have hl := fullsEq_loop (k := k) (kp E k (n + 10)) x.head (bys x.data) (fulls x.head.kind x.head.name) _ hend (fulls x.head.kind x.head.name) [] k rfl (by omega) (by omega)
    rw [hmb] at hm
    unfold encHead at hm hfu hrf
    unfold encItem
    rw [law09_ItemWrong_eq, ha, callB_ok, Bool.not_true, cond_false, hm, callB_ok, cond_false, bys_len]
    by_cases h5 : 5000 < x.data.length
    · rw [bif_t (by omega)]
    · rw [bif_f (by omega), hfu, callL_ok, hrf, callL_ok, decide_eq_true rfl, Bool.not_true, cond_false]
      exact hl
end Go.Proofs.YtilbahgfjfcikaaGreatDoor.Eng.U

/- ItemFulls over the library's pieces: strings.IndexAny at "=\\x00", decoding beside the numbers' own. -/
set_option linter.unusedVariables false
set_option linter.unusedSectionVars false
set_option linter.unusedSimpArgs false
namespace Go.Proofs.YtilbahgfjfcikaaGreatDoor.Eng.U
open Go Go.Proofs Go.Proofs.YtilbahgfjfcikaaGreatDoor.Eng Go.RowKit

/-- The tables of the decoder, off the variables. -/
theorem utf_tabs {S : Stab} {w : World} (hag : Agree S w) (hG : GlobOk glob S w) : Lib.Utf8Tabs 3 4 w := by
  refine ⟨fun c hc => ?_, fun i hi => ?_⟩
  · obtain ⟨u, hu, hv⟩ := glob_cell (g := 3) hag hG rfl c (.int .u8 (Lib.firstT c : Int)) (by rw [List.getElem?_map, List.getElem?_range hc]; rfl)
    rw [V_int hv] at hu
    exact hu
  · obtain ⟨u, hu, hv⟩ := glob_cell (g := 4) hag hG rfl (2 * i) (.int .u8 (Lib.accLo i : Int)) (by
      rw [List.getElem?_map, List.getElem?_range (by omega)]
      show some (AV.int .u8 (((if 2 * i % 2 = 0 then Lib.accLo (2 * i / 2) else Lib.accHi (2 * i / 2) : Nat) : Int))) = _
      rw [if_pos (by omega), show 2 * i / 2 = i from by omega])
    obtain ⟨u', hu', hv'⟩ := glob_cell (g := 4) hag hG rfl (2 * i + 1) (.int .u8 (Lib.accHi i : Int)) (by
      rw [List.getElem?_map, List.getElem?_range (by omega)]
      show some (AV.int .u8 (((if (2 * i + 1) % 2 = 0 then Lib.accLo ((2 * i + 1) / 2) else Lib.accHi ((2 * i + 1) / 2) : Nat) : Int))) = _
      rw [if_neg (by omega), show (2 * i + 1) / 2 = i from by omega])
    rw [V_int hv] at hu
    rw [V_int hv'] at hu'
    exact ⟨hu, hu'⟩
def pDec : Piece := { f := unicode_utf8_DecodeRuneInString, ans := fun args => match args with
  | [.str s] => some (.tup [.int .i32 (Lib.decodeGo s).1, .int .i64 (Lib.decodeGo s).2])
  | _ => none }
theorem dec_right : pDec.Right := by
  refine ⟨⟨Tryz.f137, Tryz.func137, by kernel_rfl, by kernel_rfl⟩, fun args res h => ?_⟩
  unfold pDec at h
  dsimp only at h
  split at h
  · rename_i s
    obtain rfl := Option.some.inj h
    refine ok_tup rfl fun S w vals hag hG hV => ?_
    obtain ⟨v, rfl, hv⟩ := VL_1 hV
    obtain rfl := V_str hv
    refine (Tryz.utf8_DecodeRuneInString s w (utf_tabs hag hG)).mono ?_
    rintro e w' ⟨rfl, hb⟩
    exact ⟨[_, _], rfl, rfl, fun S' => V2 (V.int _ _) (V.int _ _), hb⟩
  · cases h
def ps09a : List Piece := [pItoa, pCutP, pIndex, pIndexByte, pRepeat, pPInt, pPUint, pDec]
def ext09a : Ext := { extOf ps09a with fs := strings_IndexAny :: coreFs }
theorem good09b (k : Nat) : (bs (extOf ps09a) k).Good := good_of (fun p hp => by
  simp only [ps09a, List.mem_cons, List.not_mem_nil, or_false] at hp
  rcases hp with rfl | rfl | rfl | rfl | rfl | rfl | rfl | rfl
  · exact itoa_right
  · exact cutP_right
  · exact index_right
  · exact indexByte_right
  · exact repeat_right
  · exact pInt_right
  · exact pUint_right
  · exact dec_right) names_ok k
theorem good09a (k : Nat) : (bs ext09a k).Good := { mixed := by kernel_rfl, names := by kernel_rfl, base := (good09b k).base }
instance core09a : Core ext09a where
  isB f hf := (core_of (ps := ps09a) (by kernel_rfl)).isB f hf
  has f hf := by
    show (strings_IndexAny :: coreFs).contains f = true
    rw [List.contains_cons, hf, Bool.or_true]
instance ib09a : HasIB ext09a := ⟨fun k n s c => (kp_base (E := ext09a) (by kernel_rfl)).trans rfl⟩
noncomputable def pAny : Piece := { f := strings_IndexAny, ans := fun args => match args with
  | [.str s, .str c] => bif decide (c = str [61, 0]) && decide (s.size ≤ 1000000) then (bif decide (8 < s.size) then some (.int .i64 (Lib.indexAny s.data.toList [61, 0])) else (bs ext09a 100).kap 3 strings_IndexAny [.str s, .str c]) else none
  | _ => none }
theorem any_right : pAny.Right := by
  refine ⟨⟨Tryz.f93, Tryz.func93, by kernel_rfl, by kernel_rfl⟩, fun args res h => ?_⟩
  unfold pAny at h
  dsimp only at h
  split at h
  · rename_i s c
    obtain ⟨hc, h'⟩ := some_of_bif h
    clear h
    simp only [Bool.and_eq_true, decide_eq_true_eq] at hc
    obtain ⟨rfl, h1⟩ := hc
    by_cases h8 : 8 < s.size
    · rw [decide_eq_true h8, cond_true] at h'
      obtain rfl := Option.some.inj h'
      refine ok_pure ⟨rfl, rfl⟩ fun S w vals hag hG hV => ?_
      obtain ⟨v, u, rfl, hv, hu⟩ := VL_2 hV
      obtain rfl := V_str hv
      obtain rfl := V_str hu
      have h2 : ∀ (j : Nat) b, (str [61, 0]).data.toList[j]? = some b → b.toNat < 128 := by
        intro j b hb
        match j, hb with
        | 0, hb => cases hb; decide
        | 1, hb => cases hb; decide
        | j + 2, hb => simp [str] at hb
      refine (Tryz.strings_IndexAny_long (fun w => by kernel_rfl) s (str [61, 0]) w (by decide) h8 (by omega) (by decide) h2).mono ?_
      rintro e w' ⟨rfl, rfl⟩
      exact ⟨_, rfl, fun S' => V.int _ _, ((Below.refl _ _).alloc (Nat.le_refl _) _).alloc (by simp) _⟩
    · rw [decide_eq_false h8, cond_false] at h'
      exact Base.ok (good09a 100) h'
  · cases h
noncomputable def ps09 : List Piece := [pItoa, pCutP, pIndex, pIndexByte, pRepeat, pPInt, pPUint, pDec, pAny]
noncomputable def ext09 : Ext := extOf ps09
instance core09 : Core ext09 := core_of (by kernel_rfl)
instance num09 : HasNum ext09 := num_of rfl rfl rfl rfl rfl rfl rfl
instance text09 : HasText ext09 where
  dec k n s := ⟨_, _, (kp_piece (ps := ps09) (p := pDec) (k := k) (n := n) (args := [.str (str s)]) rfl).trans rfl⟩
  idx k n s hs := by
    have h := kp_piece (ps := ps09) (p := pAny) (k := k) (n := n) (args := [.str (str s), .str (str [61, 0])]) rfl
    have e : pAny.ans [.str (str s), .str (str [61, 0])] = (bif decide (str [61, 0] = str [61, 0]) && decide ((str s).size ≤ 1000000) then (bif decide (8 < (str s).size) then some (.int .i64 (Lib.indexAny (str s).data.toList [61, 0])) else (bs ext09a 100).kap 3 strings_IndexAny [.str (str s), .str (str [61, 0])]) else none) := rfl
    rw [e, str_size, decide_eq_true rfl, decide_eq_true hs, Bool.true_and, cond_true] at h
    by_cases h8 : 8 < s.length
    · rw [decide_eq_true h8, cond_true] at h
      exact ⟨_, h⟩
    · rw [decide_eq_false h8, cond_false] at h
      obtain ⟨r, hr⟩ := any_short (E := ext09a) (k := 100) (n := 0) (by kernel_rfl) (by kernel_rfl) (by omega) s (by omega)
      exact ⟨r, h.trans hr⟩
theorem good09 (k : Nat) : (bs ext09 k).Good := good_of (fun p hp => by
  simp only [ps09, List.mem_cons, List.not_mem_nil, or_false] at hp
  rcases hp with rfl | rfl | rfl | rfl | rfl | rfl | rfl | rfl | rfl
  · exact itoa_right
  · exact cutP_right
  · exact index_right
  · exact indexByte_right
  · exact repeat_right
  · exact pInt_right
  · exact pUint_right
  · exact dec_right
  · exact any_right) names_ok k
theorem decGo (s : ByteArray) : Lib.decodeGo s = goDec s := rfl
instance textV09 : HasTextV ext09 where
  dec k n s := (kp_piece (ps := ps09) (p := pDec) (k := k) (n := n) (args := [.str s]) rfl).trans rfl
  idx k n s hs := by
    have h := kp_piece (ps := ps09) (p := pAny) (k := k) (n := n) (args := [.str (str s), .str (str [61, 0])]) rfl
    have e : pAny.ans [.str (str s), .str (str [61, 0])] = (bif decide (str [61, 0] = str [61, 0]) && decide ((str s).size ≤ 1000000) then (bif decide (8 < (str s).size) then some (.int .i64 (Lib.indexAny (str s).data.toList [61, 0])) else (bs ext09a 100).kap 3 strings_IndexAny [.str (str s), .str (str [61, 0])]) else none) := rfl
    rw [e, str_size, decide_eq_true rfl, decide_eq_true hs, Bool.true_and, cond_true] at h
    by_cases h8 : 8 < s.length
    · rw [decide_eq_true h8, cond_true] at h
      exact ⟨_, h, any_long_v s⟩
    · rw [decide_eq_false h8, cond_false] at h
      obtain ⟨r, hr, hv⟩ := any_short_v (E := ext09a) (k := 100) (n := 0) (by kernel_rfl) (by kernel_rfl) (by omega) s (by omega)
      exact ⟨r, h.trans hr, hv⟩
theorem wrong09 (x : Item) (g : G_apiItem x) : (bs ext09 10000000000000).kap 11 law09_ItemWrong [.agg (encItem x)] = some (.bool true) :=
  itemWrong_true (E := ext09) (k := 10000000000000) (n := 0) x ⟨g.head.name, g.head.link, g.head.user, g.head.group, fun p hp => ⟨(g.head.pairs p hp).key, (g.head.pairs p hp).val⟩, by have := g.head.extra; omega⟩ g.data (by omega)
end Go.Proofs.YtilbahgfjfcikaaGreatDoor.Eng.U
