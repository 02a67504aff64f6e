/- Several texts of this proof in one file: Z05c, U09f, U04d, U07, S07a, Ext, S07b, S07, U07b, ApiR, B04, U09d, Q08, U08, U09g, U09h, U09i, U09j, V09, B09, B07, X07, V07, Q04b, U07c, U07d, U07e, V07b. -/
import Derived.Test.YtilbahgfjfcikaaGreatDoorMPaxParses0
import Derived.Lib.RuneCountTail
import Derived.Lib.IndexAny
import Derived.Test.YtilbahgfjfcikaaGreatDoorMEPaxParses2
import Derived.WalkKit
import Derived.BigCall
import Derived.Lib.OthersKept
import Derived.Lib.BufferKept
import Derived.Lib.BufferOld
import Derived.WalkSmall
import Derived.Lib.SmallJoins
import Derived.Lib.ItoaMem
/- The Utf laws in plain words, part 3: the functions that go through a text. -/
set_option linter.unusedVariables false
set_option linter.unusedSimpArgs false
namespace Go.Proofs.YtilbahgfjfcikaaGreatDoor.Eng.U
open Go Go.Proofs Go.Proofs.YtilbahgfjfcikaaGreatDoor.Eng Go.Lib
variable {kap : FuncId → List AV → Option AV} {E : Ext} [Core E] {n : Nat}

abbrev ai (n : Int) : AV := .int .i64 n
/-- Is the byte at a place no part of a code point? -/
def bad (s : ByteArray) (i : Nat) : Prop := Utf8.decode s i = (65533, 1)
instance (s : ByteArray) (i : Nat) : Decidable (bad s i) := inferInstanceAs (Decidable (_ = _))
/-- The place behind what stands at a place. -/
def nx (s : ByteArray) (i : Nat) : Nat := i + (Utf8.decode s i).2
theorem width_le (s : ByteArray) (i : Nat) : 1 ≤ (Utf8.decode s i).2 ∧ (Utf8.decode s i).2 ≤ 4 := by
  rw [decode_at]
  unfold decodeN
  repeat' split
  all_goals simp
theorem nx_gt (s : ByteArray) (i : Nat) : i < nx s i ∧ nx s i ≤ i + 4 := by have := width_le s i; unfold nx; omega
theorem sizeS_bad {s : ByteArray} {i : Nat} (h : bad s i) : sizeS s i = 0 := by unfold sizeS; rw [h]; rfl
theorem sizeS_good {s : ByteArray} {i : Nat} (h : ¬ bad s i) : sizeS s i = (Utf8.decode s i).2 ∧ sizeS s i ≠ 0 := by
  unfold sizeS szOf
  rw [if_neg (show ¬ Utf8.decode s i = (65533, 1) from h)]
  have := width_le s i
  exact ⟨rfl, by omega⟩
theorem nx_bad {s : ByteArray} {i : Nat} (h : bad s i) : nx s i = i + 1 := by unfold nx; rw [h]

/-- The ends of all that stands in a text, from a place on: below zero where a byte is no part of a code point. -/
def endsL (s : ByteArray) : Nat → Nat → List Int
  | 0, _ => []
  | n + 1, pos => if pos < s.size then (if bad s pos then -(nx s pos : Int) else (nx s pos : Int)) :: endsL s n (nx s pos) else []
def ends (s : ByteArray) : List Int := endsL s s.size 0
theorem L16 {K : Nat} {s : ByteArray} (hs : s.size ≤ 1000000) (h51 : ∀ i, i < s.size → kap ref05_size [.str s, .int .i64 (i : Int)] = some (.int .i64 (sizeS s i : Int))) :
    ∀ (n m pos : Nat) (xs : List AV), s.size ≤ pos + n → n < m → xs.length ≤ pos → pos ≤ s.size + 4 → ref05_Ends_L0 kap K m s (pos : Int) xs = some (.list 1 (xs ++ (endsL s n pos).map ai)) := by
  intro n
  induction n with
  | zero =>
    intro m pos xs hn hm hx hp
    obtain ⟨m, rfl⟩ : ∃ m', m = m' + 1 := ⟨m - 1, by omega⟩
    rw [ref05_Ends_L0_s, show decide ((pos : Int) < (s.size : Int)) = false from by simp; omega]
    simp [endsL]
  | succ n ih =>
    intro m pos xs hn hm hx hp
    obtain ⟨m, rfl⟩ : ∃ m', m = m' + 1 := ⟨m - 1, by omega⟩
    by_cases hlt : pos < s.size
    · have hw := nx_gt s pos
      rw [ref05_Ends_L0_s, show decide ((pos : Int) < (s.size : Int)) = true from by simp; omega, h51 pos hlt, cond_true, callI_ok]
      rw [show (decide ((xs.length + 1) * 8 ≤ 140737488355328) && decide (xs.length + 1 ≤ 9223372036854775807)) = true from by simp; omega]
      simp only [cond_true]
      unfold endsL
      rw [if_pos hlt]
      by_cases hb : bad s pos
      · rw [if_pos hb, sizeS_bad hb, show decide (((0 : Nat) : Int) = 0) = true from rfl, cond_true]
        have e := nx_bad hb
        rw [i64w (x := (pos : Int) + 1) (by omega), i64w (x := 0 - ((pos : Int) + 1)) (by omega), show (pos : Int) + 1 = ((nx s pos : Nat) : Int) from by omega,
          ih m (nx s pos) _ (by omega) (by omega) (by simp; omega) (by omega)]
        simp [ai]
      · obtain ⟨e1, e2⟩ := sizeS_good hb
        rw [if_neg hb, show decide (((sizeS s pos : Nat) : Int) = 0) = false from by simp; omega, cond_false]
        have e : nx s pos = pos + sizeS s pos := by rw [e1]; rfl
        rw [i64w (x := (pos : Int) + (sizeS s pos : Int)) (by omega), show (pos : Int) + (sizeS s pos : Int) = ((nx s pos : Nat) : Int) from by omega,
          ih m (nx s pos) _ (by omega) (by omega) (by simp; omega) (by omega)]
        simp [ai]
    · rw [ref05_Ends_L0_s, show decide ((pos : Int) < (s.size : Int)) = false from by simp; omega]
      unfold endsL
      rw [if_neg hlt]
      simp
theorem ref05_Ends_spec {K : Nat} {s : ByteArray} (hs : s.size ≤ 1000000) (hK : s.size < K) (h51 : ∀ i, i < s.size → kp E K n ref05_size [.str s, .int .i64 (i : Int)] = some (.int .i64 (sizeS s i : Int))) : kp E K (n + 1) ref05_Ends [.str s] = some (.list 1 ((ends s).map ai)) := by
  rw [ref05_Ends_eq]
  exact L16 hs h51 s.size K 0 [] (by omega) hK (by simp) (by omega)

/-- The place of the first byte that is no part of a code point; -1: there is none. -/
def firstL (s : ByteArray) : Nat → Nat → Int
  | 0, _ => -1
  | n + 1, pos => if pos < s.size then (if bad s pos then (pos : Int) else firstL s n (nx s pos)) else -1
def first (s : ByteArray) : Int := firstL s s.size 0
theorem utf_wrong_spec {K : Nat} {s : ByteArray} {i : Nat} (hi : i < s.size) (h69 : ∀ t, kp E K n unicode_utf8_DecodeRuneInString [.str t] = some (.tup [.int .i32 ((goDec t).1 : Int), .int .i64 ((goDec t).2 : Int)])) :
    kp E K (n + 1) utf_wrong [.str s, .int .i64 (i : Int), .int .i32 ((Utf8.decode s i).1 : Int)] = some (.bool (decide (bad s i))) := by
  rw [utf_wrong_eq]
  by_cases h : (Utf8.decode s i).1 = 65533
  · rw [show decide ((((Utf8.decode s i).1 : Nat) : Int) = 65533) = true from by simp; omega, show (decide ((0 : Int) ≤ (i : Int)) && decide ((i : Int) ≤ (s.size : Int))) = true from by simp; omega]
    simp only [Bool.not_true, cond_false, cond_true, h69, callT_ok, tupI_ok, atNil_ok]
    have e : goDec (s.extract ((i : Int)).toNat s.size) = Utf8.decode s i := by
      rw [show ((i : Int)).toNat = i from by omega]
      unfold goDec
      rw [if_neg (by rw [tail_size]; omega), decode_at, decode_at, tail_size, Nat.sub_zero]
      simp only [tail_get!, Nat.add_zero, Nat.zero_add]
    rw [e]
    congr 2
    refine decide_eq_decide.2 ?_
    unfold bad
    rw [Prod.ext_iff]
    simp only [h, true_and]
    omega
  · rw [show decide ((((Utf8.decode s i).1 : Nat) : Int) = 65533) = false from by simp; omega]
    simp only [Bool.not_false, cond_true]
    rw [show decide (bad s i) = false from by simp only [decide_eq_false_iff_not]; intro hb; exact h (by rw [show Utf8.decode s i = _ from hb])]
theorem L13 {K : Nat} {s : ByteArray} (h50 : ∀ i, i < s.size → kap utf_wrong [.str s, .int .i64 (i : Int), .int .i32 ((Utf8.decode s i).1 : Int)] = some (.bool (decide (bad s i)))) :
    ∀ (n m pos : Nat), s.size ≤ pos + n → n < m → utf_First_L0 kap K m s s pos = some (.int .i64 (firstL s n pos)) := by
  intro n
  induction n with
  | zero =>
    intro m pos hn hm
    obtain ⟨m, rfl⟩ : ∃ m', m = m' + 1 := ⟨m - 1, by omega⟩
    rw [utf_First_L0_s, show decide (pos < s.size) = false from by simp; omega]
    rfl
  | succ n ih =>
    intro m pos hn hm
    obtain ⟨m, rfl⟩ : ∃ m', m = m' + 1 := ⟨m - 1, by omega⟩
    unfold firstL
    by_cases hlt : pos < s.size
    · have hw := nx_gt s pos
      rw [utf_First_L0_s, show decide (pos < s.size) = true from by simpa using hlt, h50 pos hlt, if_pos hlt]
      simp only [cond_true, callB_ok]
      by_cases hb : bad s pos
      · rw [if_pos hb, decide_eq_true hb]; rfl
      · rw [if_neg hb, decide_eq_false hb]
        exact ih m (nx s pos) (by omega) (by omega)
    · rw [utf_First_L0_s, show decide (pos < s.size) = false from by simpa using hlt, if_neg hlt]
      rfl
theorem utf_First_spec {K : Nat} {s : ByteArray} (hK : s.size < K) (h50 : ∀ i, i < s.size → kp E K n utf_wrong [.str s, .int .i64 (i : Int), .int .i32 ((Utf8.decode s i).1 : Int)] = some (.bool (decide (bad s i)))) : kp E K (n + 1) utf_First [.str s] = some (.int .i64 (first s)) := by
  rw [utf_First_eq]
  exact L13 h50 s.size K 0 (by omega) hK
theorem utf_Right_spec {K : Nat} {s : ByteArray} (h13 : kp E K n utf_First [.str s] = some (.int .i64 (first s))) : kp E K (n + 1) utf_Right [.str s] = some (.bool (decide (first s < 0))) := by
  rw [utf_Right_eq, h13]
  rfl
/-- The first of the ends that is below zero. -/
def firstNeg : List Int → Int
  | [] => -1
  | e :: l => if e < 0 then -e - 1 else firstNeg l
theorem L12 {K : Nat} {es : List Int} (hes : ∀ e ∈ es, -1000010 ≤ e ∧ e ≤ 1000010) (hl : es.length ≤ 1000000) : ∀ (n m j : Nat), es.length ≤ j + n → n < m → ref05_First_L0 kap K m (es.map ai) (j : Int) = some (.int .i64 (firstNeg (es.drop j))) := by
  intro n
  induction n with
  | zero =>
    intro m j hn hm
    obtain ⟨m, rfl⟩ : ∃ m', m = m' + 1 := ⟨m - 1, by omega⟩
    rw [ref05_First_L0_s, show decide ((j : Int) < ((es.map ai).length : Int)) = false from by simp; omega, List.drop_eq_nil_of_le (by omega)]
    rfl
  | succ n ih =>
    intro m j hn hm
    obtain ⟨m, rfl⟩ : ∃ m', m = m' + 1 := ⟨m - 1, by omega⟩
    by_cases hlt : j < es.length
    · have he := hes es[j] (List.getElem_mem hlt)
      rw [ref05_First_L0_s, show decide ((j : Int) < ((es.map ai).length : Int)) = true from by simp; omega, show decide ((0 : Int) ≤ (j : Int)) = true from by simp, show ((j : Int)).toNat = j from by omega]
      rw [List.getElem?_map, List.getElem?_eq_getElem hlt, List.drop_eq_getElem_cons hlt]
      simp only [cond_true, Bool.and_self, Option.map_some, Option.bind_some, AV.cells, cellI_0, firstNeg, ai]
      by_cases h0 : es[j] < 0
      · rw [if_pos h0, show decide (es[j] < 0) = true from by simpa using h0, cond_true, i64w (x := 0 - es[j]) (by omega), i64w (x := 0 - es[j] - 1) (by omega)]
        congr 2
        omega
      · rw [if_neg h0, show decide (es[j] < 0) = false from by simpa using h0, cond_false, i64w (x := (j : Int) + 1) (by omega), show (j : Int) + 1 = ((j + 1 : Nat) : Int) from by omega]
        exact ih m (j + 1) (by omega) (by omega)
    · rw [ref05_First_L0_s, show decide ((j : Int) < ((es.map ai).length : Int)) = false from by simp; omega, List.drop_eq_nil_of_le (by omega)]
      rfl
theorem endsL_range (s : ByteArray) : ∀ (n pos : Nat), pos ≤ s.size + 4 → ∀ e ∈ endsL s n pos, -((s.size : Int) + 8) ≤ e ∧ e ≤ (s.size : Int) + 8
  | 0, pos, hp, e, he => by simp [endsL] at he
  | n + 1, pos, hp, e, he => by
    have hw := nx_gt s pos
    unfold endsL at he
    split at he
    · rename_i hlt
      rcases List.mem_cons.1 he with rfl | he
      · split <;> omega
      · exact endsL_range s n (nx s pos) (by omega) e he
    · simp at he
theorem endsL_length (s : ByteArray) : ∀ (n pos : Nat), (endsL s n pos).length ≤ n
  | 0, pos => by simp [endsL]
  | n + 1, pos => by
    unfold endsL
    split
    · have := endsL_length s n (nx s pos)
      simp; omega
    · simp
theorem ref05_First_spec {K : Nat} {s : ByteArray} (hs : s.size ≤ 1000000) (hK : s.size < K) (h16 : kp E K n ref05_Ends [.str s] = some (.list 1 ((ends s).map ai))) : kp E K (n + 1) ref05_First [.str s] = some (.int .i64 (firstNeg (ends s))) := by
  rw [ref05_First_eq, h16]
  have hl := endsL_length s s.size 0
  exact L12 (fun e he => by have := endsL_range s s.size 0 (by omega) e he; omega) (by unfold ends; omega) s.size K 0 (by unfold ends; omega) hK
theorem first_ends (s : ByteArray) : ∀ (n pos : Nat), firstNeg (endsL s n pos) = firstL s n pos
  | 0, pos => rfl
  | n + 1, pos => by
    have hw := nx_gt s pos
    unfold endsL firstL
    split
    · rename_i hlt
      simp only [firstNeg]
      by_cases hb : bad s pos
      · have := nx_bad hb
        rw [if_pos hb, if_pos hb, if_pos (by omega)]
        omega
      · rw [if_neg hb, if_neg hb, if_neg (by omega)]
        exact first_ends s n _
    · rfl
end Go.Proofs.YtilbahgfjfcikaaGreatDoor.Eng.U


/- Which texts hold = or a nought, told exactly. -/
set_option linter.unusedVariables false
set_option linter.unusedSectionVars false
set_option linter.unusedSimpArgs false
namespace Go.Proofs.YtilbahgfjfcikaaGreatDoor.Eng.U
open Go Go.Proofs Go.Proofs.YtilbahgfjfcikaaGreatDoor.Eng
variable {E : Ext} [Core E] {k n : Nat}

def noEq (s : List UInt8) : Bool := s.all fun c => decide (c ≠ 61) && decide (c ≠ 0)
theorem idx_rune (r : Nat) (h : r < 128) : (0 : Int) ≤ Lib.indexByte [61, 0] (IntKind.wrap .u8 (r : Int)).toNat.toUInt8 ↔ r = 61 ∨ r = 0 := by
  have : ∀ r : _root_.Fin 128, ((0 : Int) ≤ Lib.indexByte [61, 0] (IntKind.wrap .u8 ((r.1 : Nat) : Int)).toNat.toUInt8 ↔ r.1 = 61 ∨ r.1 = 0) := by decide +kernel
  exact this ⟨r, h⟩
theorem rune_V [HasIB E] (r : Nat) (hk : 10 < k) : ∃ i : Int, kp E k (n + 2) strings_IndexRune [.str (str [61, 0]), .int .i32 (r : Int)] = some (.int .i64 i) ∧ (0 ≤ i ↔ r = 61 ∨ r = 0) := by
  obtain ⟨k, rfl⟩ : ∃ j, k = j + 3 := ⟨k - 3, by omega⟩
  rw [strings_IndexRune_eq, bif_t (by omega)]
  by_cases h1 : r < 128
  · rw [bif_t (by omega), HasIB.indexB, callI_ok]; exact ⟨_, rfl, idx_rune r h1⟩
  · rw [bif_f (by omega)]
    by_cases h2 : (r : Int) = 65533
    · rw [bif_t h2]
      have d0 : Utf8.decode (str [61, 0]) 0 = (61, 1) := by decide +kernel
      have d1 : Utf8.decode (str [61, 0]) 1 = (0, 1) := by decide +kernel
      have sz : (str [61, 0]).size = 2 := rfl
      have z1 : 0 + ((61, 1) : Nat × Nat).2 = 1 := rfl
      have z2 : 1 + ((0, 1) : Nat × Nat).2 = 2 := rfl
      rw [strings_IndexRune_L0_s, sz, d0, z1, bif_t (by omega), bif_f (by decide), strings_IndexRune_L0_s, sz, d1, z2, bif_t (by omega), bif_f (by decide), strings_IndexRune_L0_s, sz, bif_f (by omega)]
      exact ⟨_, rfl, by omega⟩
    · rw [bif_f h2]
      obtain ⟨b, hb⟩ := valid_B (E := E) (k := k + 3) (n := n) (r : Int)
      rw [hb, callB_ok]
      cases b with
      | false => exact ⟨_, rfl, by omega⟩
      | true =>
        rw [Bool.not_true, cond_false]
        have sz : (str [61, 0]).size = 2 := rfl
        rcases enc_facts r (by omega) with ⟨e1, e2⟩ | e1 | e1
        · rw [e1, i64w (by omega), strings_IndexRune_L1_s, sz, e1]
          have hb1 : byteAt (str [61, 0]) 1 = 0 := rfl
          have e3 : Int.toNat (((2 : Nat) : Int) - 1) = 1 := rfl
          rw [bif_t (by omega), bif_a, bif_t (by omega), bif_t (by omega), bif_a, bif_t (by omega), bif_t (by omega), e3, hb1, decide_eq_false (by omega), Bool.not_false, cond_true, i64w (by omega), bif_a, bif_t (by omega), bif_t (by omega), bif_a, bif_t (by omega), bif_t (by omega)]
          have e4 : Int.toNat (((2 : Nat) : Int) - 1 + 1) = 2 := rfl
          have e5 : ByteArray.extract (str [61, 0]) 2 2 = str [] := by decide +kernel
          rw [e4, e5, HasIB.indexB, callI_ok]
          have e6 : Lib.indexByte [] (byteAt (Utf8.encode (r : Int)) 1).toNat.toUInt8 = -1 := rfl
          rw [e6, bif_t (by omega)]
          exact ⟨_, rfl, by omega⟩
        · rw [e1, i64w (by omega), strings_IndexRune_L1_s, sz, bif_f (by omega)]; exact ⟨_, rfl, by omega⟩
        · rw [e1, i64w (by omega), strings_IndexRune_L1_s, sz, bif_f (by omega)]; exact ⟨_, rfl, by omega⟩
theorem dec_low (s : ByteArray) (i : Nat) (h : by_ s i < 128) : Utf8.decode s i = (by_ s i, 1) := by
  rw [Lib.decode_at, get_by, get_by, get_by, get_by]
  unfold Lib.decodeN
  rw [if_pos h]
theorem dec_wide (s : ByteArray) (i : Nat) (h : 128 ≤ by_ s i) : 128 ≤ (Utf8.decode s i).1 ∧ ∀ j, j < (Utf8.decode s i).2 → 128 ≤ by_ s (i + j) := by
  rw [Lib.decode_at, get_by, get_by, get_by, get_by]
  unfold Lib.decodeN
  rw [if_neg (by omega)]
  have key : ∀ (c w : Nat), 128 ≤ c → (w ≤ 4) → (1 < w → 128 ≤ by_ s (i + 1)) → (2 < w → 128 ≤ by_ s (i + 2)) → (3 < w → 128 ≤ by_ s (i + 3)) → 128 ≤ ((c, w) : Nat × Nat).1 ∧ ∀ j, j < ((c, w) : Nat × Nat).2 → 128 ≤ by_ s (i + j) := by
    intro c w hc hw h1 h2 h3
    refine ⟨hc, fun j hj => ?_⟩
    have hj : j < w := hj
    have : j = 0 ∨ j = 1 ∨ j = 2 ∨ j = 3 := by omega
    rcases this with rfl | rfl | rfl | rfl
    · exact h
    · exact h1 (by omega)
    · exact h2 (by omega)
    · exact h3 (by omega)
  repeat' split
  all_goals exact key _ _ (by omega) (by omega) (by omega) (by omega) (by omega)
theorem any_lv [HasIB E] (hk : 10 < k) (s : List UInt8) : ∀ (m k0 i : Nat), s.length - i < m → m ≤ k0 → ∃ r : Int, strings_IndexAny_L0 (kp E k (n + 2)) k k0 (str [61, 0]) (str s) i = some (.int .i64 r) ∧ (0 ≤ r ↔ ∃ j, i ≤ j ∧ j < s.length ∧ (by_ (str s) j = 61 ∨ by_ (str s) j = 0))
  | 0, k0, i, h, _ => by omega
  | m + 1, k0 + 1, i, h, hkk => by
    rw [strings_IndexAny_L0_s, str_size]
    by_cases hi : i < s.length
    · rw [decide_eq_true hi, cond_true]
      obtain ⟨x, hx, hxi⟩ := rune_V (E := E) (k := k) (n := n) (Utf8.decode (str s) i).1 hk
      rw [hx, callI_ok]
      have hw := width_pos (str s) i
      by_cases h0 : x ≥ 0
      · rw [bif_t h0]
        refine ⟨_, rfl, by
          constructor
          · intro _
            refine ⟨i, by omega, hi, ?_⟩
            by_cases hb : by_ (str s) i < 128
            · have := dec_low (str s) i hb
              have h1 := hxi.1 h0
              rw [this] at h1
              exact h1
            · have := (dec_wide (str s) i (by omega)).1
              have h1 := hxi.1 h0
              omega
          · intro _; omega⟩
      · rw [bif_f h0]
        obtain ⟨r, hr, hri⟩ := any_lv hk s m k0 (i + (Utf8.decode (str s) i).2) (by omega) (by omega)
        refine ⟨r, hr, hri.trans ⟨fun ⟨j, a, b, c⟩ => ⟨j, by omega, b, c⟩, fun ⟨j, a, b, c⟩ => ⟨j, ?_, b, c⟩⟩⟩
        have hn : ¬ ((Utf8.decode (str s) i).1 = 61 ∨ (Utf8.decode (str s) i).1 = 0) := fun h => h0 (hxi.2 h)
        by_cases hb : by_ (str s) i < 128
        · rw [dec_low (str s) i hb] at hn ⊢
          have hn : ¬ (by_ (str s) i = 61 ∨ by_ (str s) i = 0) := hn
          show i + 1 ≤ j
          by_cases e : i = j
          · subst e; exact absurd c hn
          · omega
        · have hall := (dec_wide (str s) i (by omega)).2
          by_cases e : i + (Utf8.decode (str s) i).2 ≤ j
          · exact e
          · have := hall (j - i) (by omega)
            rw [show i + (j - i) = j by omega] at this
            omega
    · rw [decide_eq_false hi, cond_false]
      exact ⟨_, rfl, ⟨fun h => by omega, fun ⟨j, a, b, _⟩ => by omega⟩⟩
theorem noEq_iff (s : List UInt8) : noEq s = false ↔ ∃ j, 0 ≤ j ∧ j < s.length ∧ (by_ (str s) j = 61 ∨ by_ (str s) j = 0) := by
  rw [noEq, List.all_eq_false]
  constructor
  · rintro ⟨c, hc, h⟩
    obtain ⟨j, hj, rfl⟩ := List.mem_iff_getElem.1 hc
    refine ⟨j, by omega, hj, ?_⟩
    have e : by_ (str s) j = (s[j]).toNat := by
      show ((str s).data.toList.getD j 0).toNat = _
      rw [show (str s).data.toList = s from rfl, List.getD_eq_getElem?_getD, List.getElem?_eq_getElem hj]; rfl
    rw [e]
    simp only [ne_eq, Bool.and_eq_true, decide_eq_true_eq] at h
    by_cases h6 : s[j] = 61
    · left; rw [h6]; rfl
    · by_cases h7 : s[j] = 0
      · right; rw [h7]; rfl
      · exact absurd ⟨h6, h7⟩ h
  · rintro ⟨j, _, hj, h⟩
    refine ⟨s[j], List.getElem_mem hj, ?_⟩
    have e : by_ (str s) j = (s[j]).toNat := by
      show ((str s).data.toList.getD j 0).toNat = _
      rw [show (str s).data.toList = s from rfl, List.getD_eq_getElem?_getD, List.getElem?_eq_getElem hj]; rfl
    rw [e] at h
    simp only [ne_eq, Bool.and_eq_true, decide_eq_true_eq]
    rintro ⟨h6, h7⟩
    rcases h with h | h
    · exact h6 (UInt8.toNat_inj.1 h)
    · exact h7 (UInt8.toNat_inj.1 h)
theorem any_short_v [HasIB E] (hB : E.isBase strings_IndexAny = false) (hF : E.fs.contains strings_IndexAny = true) (hk : 10 < k) (s : List UInt8) (hs : s.length ≤ 8) : ∃ r : Int, kp E k (n + 3) strings_IndexAny [.str (str s), .str (str [61, 0])] = some (.int .i64 r) ∧ decide (r ≥ 0) = !noEq s := by
  have sz : (str [61, 0]).size = 2 := rfl
  rw [strings_IndexAny_eq hB hF, sz, str_size, bif_f (by decide), bif_f (by omega), strings_shouldUseASCIISet_eq, callB_ok, bif_f (by omega)]
  obtain ⟨r, hr, h⟩ := any_lv (E := E) (n := n) hk s k k 0 (by omega) (Nat.le_refl _)
  refine ⟨r, hr, ?_⟩
  rw [← noEq_iff] at h
  cases hq : noEq s with
  | true => rw [hq] at h; simp only [Bool.true_eq_false, iff_false] at h; rw [decide_eq_false h]; rfl
  | false => rw [hq] at h; simp only [iff_true] at h; rw [decide_eq_true h]; rfl
theorem any_long_v (s : List UInt8) : decide (Lib.indexAny s [61, 0] ≥ 0) = !noEq s := by
  induction s with
  | nil => rfl
  | cons b l ih =>
    have hg := Lib.indexAny_ge [61, 0] l
    unfold Lib.indexAny noEq
    rw [List.all_cons]
    by_cases hb : b = 61 ∨ b = 0
    · have e : List.contains [61, 0] b = true := by rcases hb with rfl | rfl <;> rfl
      rw [if_pos e]
      rcases hb with rfl | rfl <;> rfl
    · have e : List.contains [61, 0] b = false := by
        simp only [not_or] at hb
        simp [List.contains_cons, hb.1, hb.2]
      rw [e]
      simp only [not_or] at hb
      rw [decide_eq_true hb.1, decide_eq_true hb.2, Bool.and_self, Bool.true_and]
      rw [show (l.all fun c => decide (c ≠ 61) && decide (c ≠ 0)) = noEq l from rfl, ← ih]
      by_cases h1 : Lib.indexAny l [61, 0] = -1
      · rw [h1]; rfl
      · have h2 : (Lib.indexAny l [61, 0] == -1) = false := by simpa using h1
        rw [h2]
        simp only [Bool.false_eq_true, if_false]
        rw [decide_eq_decide]
        omega
class HasTextV (E : Ext) : Prop where
  dec : ∀ (k n : Nat) (s : ByteArray), kp E k n unicode_utf8_DecodeRuneInString [.str s] = some (.tup [.int .i32 ((goDec s).1 : Int), .int .i64 ((goDec s).2 : Int)])
  idx : ∀ (k n : Nat) (s : List UInt8), s.length ≤ 1000000 → ∃ i : Int, kp E k n strings_IndexAny [.str (str s), .str (str [61, 0])] = some (.int .i64 i) ∧ decide (i ≥ 0) = !noEq s
end Go.Proofs.YtilbahgfjfcikaaGreatDoor.Eng.U


/- The functions of the Dec laws in plain words, part 4: the document's own reading of a time. -/
set_option linter.unusedVariables false
set_option linter.unusedSectionVars false
set_option linter.unusedSimpArgs false
namespace Go.Proofs.YtilbahgfjfcikaaGreatDoor.Eng.U
open Go Go.Proofs Go.Proofs.YtilbahgfjfcikaaGreatDoor.Eng Go.Proofs.YtilbahgfjfcikaaGreatDoor.P04
variable {E : Ext} [Core E] {k n : Nat}

theorem byte46 (c : UInt8) : decide (((c.toNat : Nat) : Int) = (46 : Int)) = decide (c = 46) := byte_is c 46 (by omega)
theorem byte45 (c : UInt8) : decide (((c.toNat : Nat) : Int) = (45 : Int)) = decide (c = 45) := byte_is c 45 (by omega)
/-- The first point from a place on. -/
def dotAt (t : List UInt8) (i : Nat) : Nat := i + dot (t.drop i)
theorem dotAt_step (t : List UInt8) (i : Nat) (h : i < t.length) : dotAt t i = if t.getD i 0 = 46 then i else dotAt t (i + 1) := by
  unfold dotAt
  rw [List.drop_eq_getElem_cons h]
  have e : t.getD i 0 = t[i] := by simp [List.getD_eq_getElem?_getD, List.getElem?_eq_getElem h]
  rw [e]
  unfold dot
  rw [List.findIdx_cons]
  by_cases hc : t[i] = 46
  · rw [if_pos hc, hc]; rfl
  · rw [if_neg hc, beq_eq_false_iff_ne.2 hc, cond_false]; omega
theorem back_loop (kap : FuncId → List AV → Option AV) (t : List UInt8) (q : Bool) (ht : t.length < 100000000000) : ∀ (i k0 : Nat), i < k0 → i ≤ t.length → ref04_Time_L0 kap k k0 (str t) q (dotAt t i : Int) ((i : Int) - 1) 0 0 = ref04_Time_L0 kap k 1 (str t) q (dot t : Int) (-1) 0 0
  | 0, k0 + 1, _, _ => by
    have e : ((0 : Nat) : Int) - 1 = -1 := rfl
    have e' : dotAt t 0 = dot t := by simp [dotAt]
    rw [e, e', ref04_Time_L0_s, ref04_Time_L0_s kap k 0, bif_f (by omega), bif_f (by omega)]
  | i + 1, k0 + 1, h, hi => by
    have ih := back_loop kap t q ht i k0 (by omega) (by omega)
    rw [dotAt_step t i (by omega)] at ih
    have e : ((i + 1 : Nat) : Int) - 1 = (i : Int) := by omega
    rw [e, ref04_Time_L0_s, bif_t (by omega), str_size, bif_a, bif_t (by omega), bif_t (by omega), Int.toNat_natCast, str_byte, byte46, i64w (x := (i : Int) - 1) (by omega)]
    by_cases hc : t.getD i 0 = 46
    · rw [if_pos hc] at ih
      rw [decide_eq_true hc, cond_true, ih]
    · rw [if_neg hc] at ih
      rw [decide_eq_false hc, cond_false, ih]
theorem nano_step (b : List UInt8) (hb : b.length ≤ 9) (j : Nat) (hj : j < 9) : valA 0 ((b ++ List.replicate (9 - b.length) 48).take (j + 1)) = valA 0 ((b ++ List.replicate (9 - b.length) 48).take j) * 10 + (if j < b.length then (b.getD j 0).toNat - 48 else 0) := by
  have hl : (b ++ List.replicate (9 - b.length) (48 : UInt8)).length = 9 := by rw [List.length_append, List.length_replicate]; omega
  rw [List.take_succ_eq_append_getElem (by omega), valA_app]
  have e : ∀ (a : Nat) (c : UInt8), valA a [c] = a * 10 + (c.toNat - 48) := fun a c => rfl
  rw [e]
  congr 1
  by_cases h : j < b.length
  · rw [if_pos h, List.getElem_append_left h]
    simp [List.getD_eq_getElem?_getD, h]
  · rw [if_neg h, List.getElem_append_right (by omega), List.getElem_replicate]
    rfl
theorem nano_loop (kap : FuncId → List AV → Option AV) (q ok : Bool) (sec : Int) (b : List UInt8) (hb : b.length ≤ 9) (hd : digs b = true) : ∀ (r j k0 : Nat), r + j = 9 → r < k0 →
    ref04_Time_L1 kap k k0 q sec ok (valA 0 ((b ++ List.replicate (9 - b.length) 48).take j) : Int) (str b) (j : Int) 0 0 = ref04_Time_L1 kap k 1 q sec ok (valA 0 (b ++ List.replicate (9 - b.length) 48) : Int) (str b) 9 0 0
  | 0, j, k0 + 1, h, _ => by
    obtain rfl : j = 9 := by omega
    have hl : (b ++ List.replicate (9 - b.length) (48 : UInt8)).length = 9 := by rw [List.length_append, List.length_replicate]; omega
    rw [List.take_of_length_le (by omega)]
    have e : ((9 : Nat) : Int) = 9 := rfl
    rw [e, ref04_Time_L1_s, ref04_Time_L1_s kap k 0, bif_f (show ¬ (9 : Int) < 9 by omega), bif_f (show ¬ (9 : Int) < 9 by omega)]
  | r + 1, j, k0 + 1, h, hk => by
    have ih := nano_loop kap q ok sec b hb hd r (j + 1) k0 (by omega) (by omega)
    obtain ⟨q1, q2⟩ := nano_digs hd hb
    have hall := digs_all q1
    have hv : valA 0 ((b ++ List.replicate (9 - b.length) 48).take j) < 1000000000 := by
      have hlt := valA_lt ((b ++ List.replicate (9 - b.length) (48 : UInt8)).take j) 0 0 (List.all_eq_true.2 fun x hx => List.all_eq_true.1 hall x (List.mem_of_mem_take hx)) (by omega)
      have : 10 ^ (0 + ((b ++ List.replicate (9 - b.length) (48 : UInt8)).take j).length) ≤ 10 ^ 9 := Nat.pow_le_pow_right (by omega) (by rw [List.length_take]; omega)
      omega
    rw [nano_step b hb j (by omega)] at ih
    generalize valA 0 ((b ++ List.replicate (9 - b.length) 48).take j) = a at hv ih
    rw [ref04_Time_L1_s, bif_t (by omega), str_size, i64w (x := (10 : Int) * (a : Int)) (by omega), wrap1 (by omega)]
    by_cases hj : j < b.length
    · have hc : isDig (b.getD j 0) = true := by
        rw [List.getD_eq_getElem?_getD, List.getElem?_eq_getElem hj]
        exact List.all_eq_true.1 (digs_all hd) _ (List.getElem_mem hj)
      have hc := dig_iff.1 hc
      rw [if_pos hj] at ih
      rw [bif_t (by omega), bif_a, bif_t (by omega), bif_t (by omega), Int.toNat_natCast, str_byte, i64w (x := (((b.getD j 0).toNat : Nat) : Int)) (by omega), i64w (x := (10 : Int) * (a : Int) + (((b.getD j 0).toNat : Nat) : Int)) (by omega), i64w (x := (10 : Int) * (a : Int) + (((b.getD j 0).toNat : Nat) : Int) - 48) (by omega)]
      rw [← ih]
      congr 1
      omega
    · rw [if_neg hj] at ih
      rw [bif_f (by omega), ← ih]
      congr 1
      omega
def timeRV : Option (Int × Int) → AV
  | some (a, b) => .tup [.agg [.int .i64 a, .int .i64 b], .bool true]
  | none => .tup [.agg [.int .i64 0, .int .i64 0], .bool false]
def endT (q ok : Bool) (v w : Nat) : Option (Int × Int) :=
  if ok = false then none
  else if q = false then (if 9223372036854775807 < v then none else some ((v : Int), (w : Int)))
  else if w = 0 then some (-(v : Int), 0)
  else if 9223372036854775807 < v then none
  else some (-(v : Int) - 1, 1000000000 - (w : Int))
theorem nano_end (kap : FuncId → List AV → Option AV) (q ok : Bool) (v w : Nat) (s : ByteArray) (hv : v ≤ 9223372036854775808) (hw : w < 1000000000) : ref04_Time_L1 kap k 1 q (if ok then -(v : Int) else 0) ok (w : Int) s 9 0 0 = some (timeRV (endT q ok v w)) := by
  rw [ref04_Time_L1_s kap k 0, bif_f (show ¬ (9 : Int) < 9 by omega)]
  cases ok with
  | false => rfl
  | true =>
    simp only [if_true, Bool.not_true, Bool.not_false, cond_true, cond_false, endT, if_neg (show ¬ true = false by decide)]
    cases q with
    | false =>
      simp only [if_true, Bool.not_true, Bool.not_false, cond_true, cond_false]
      by_cases h : 9223372036854775807 < v
      · rw [bif_t (by omega), if_pos h]; rfl
      · rw [bif_f (by omega), if_neg h, i64w (by omega), show (0 : Int) - -(v : Int) = (v : Int) from by omega]; rfl
    | true =>
      simp only [if_true, Bool.not_true, Bool.not_false, cond_true, cond_false, if_neg (show ¬ true = false by decide)]
      by_cases h0 : w = 0
      · subst h0
        rw [if_pos rfl]
        by_cases h : 9223372036854775807 < v
        · rw [bif_t (by omega), bif_f (by omega), bif_t (by omega)]; rfl
        · rw [bif_f (by omega), bif_t (by omega)]; rfl
      · rw [if_neg h0]
        by_cases h : 9223372036854775807 < v
        · rw [bif_t (by omega), bif_t (by omega), if_pos h]; rfl
        · rw [bif_f (by omega), bif_f (by omega), if_neg h, i64w (x := -(v : Int) - 1) (by omega), i64w (by omega)]; rfl
theorem refBody (t : List UInt8) (q : Bool) (ht : t.length < 100000000000) (hk : t.length < k) (h9 : 10 < k) : ref04_Time_L0 (kp E k (n + 2)) k k (str t) q ((t.length : Nat) : Int) (((t.length : Nat) : Int) - 1) 0 0 = some (timeRV (timeB q t)) := by
  have e : dotAt t t.length = t.length := by simp [dotAt, dot]
  have hb := back_loop (k := k) (kp E k (n + 2)) t q ht t.length k hk (Nat.le_refl _)
  rw [e] at hb
  rw [hb, ref04_Time_L0_s]
  have hdl : dot t ≤ t.length := List.findIdx_le_length
  rw [bif_f (by omega), str_size, bif_a, bif_t (by omega), bif_t (by omega), Int.toNat_natCast, str_ext, List.drop_zero, below_k (n := n) (t.take (dot t)) (by rw [List.length_take]; omega) (by rw [List.length_take]; omega)]
  simp (disch := first | omega | (simp only [List.length_append, List.length_cons, List.length_nil, List.length_take, List.length_drop]; done) | (simp only [List.length_append, List.length_cons, List.length_nil, List.length_take, List.length_drop]; omega) | fail) only [bif_t, bif_f, bif_n, bif_a, callB_ok, callI_ok, callS_ok, callL_ok, callF_ok, callT_ok, tupB_ok, tupI_ok, tupS_ok, tupL_ok, tupF_ok, atNil_ok, wrap1, wrapM, wrapP, Int.toNat_natCast, svs_len, ivs_len, bvs_len, str_size, svs_mid, ivs_mid, str_dec, str_ext, str_byte, mid_byte, mid_cut, List.length_nil, List.length_singleton, svs_snoc, ivs_snoc, svs_take, svs_drop, str_app, List.take_length, List.drop_zero, List.nil_append, cond_true, cond_false, Option.bind_some, Bool.not_true, Bool.not_false, Bool.true_and, Bool.and_true]
  unfold timeB
  dsimp only
  have hv : natOk (t.take (dot t)) = true → valA 0 (t.take (dot t)) ≤ 9223372036854775808 := natOk_le
  generalize natOk (t.take (dot t)) = ok at hv
  generalize valA 0 (t.take (dot t)) = v at hv
  by_cases hp : dot t < t.length
  · rw [bif_t (by omega), bif_t (by omega)]
    have hbl : (t.drop (dot t + 1)).length ≤ t.length := by rw [List.length_drop]; omega
    generalize t.drop (dot t + 1) = b at hbl
    rw [only_k (n := n + 1) b (by omega) (by omega), callB_ok]
    cases hd : digs b with
    | false =>
      rw [cond_false]
      cases ok with
      | false => rfl
      | true => rw [if_neg (by simp), if_pos ⟨hp, by simp⟩]; rfl
    | true =>
      rw [cond_true]
      by_cases hl : b.length ≤ 9
      · obtain ⟨q1, q2⟩ := nano_digs hd hl
        obtain ⟨q3, q4⟩ := parseI_eq q1 (by omega)
        rw [bif_f (by omega)]
        have hn := nano_loop (k := k) (kp E k (n + 2)) q ok (if ok = true then -(v : Int) else 0) b hl hd 9 0 k rfl (by omega)
        rw [List.take_zero] at hn
        have e0 : ((valA 0 [] : Nat) : Int) = 0 := rfl
        have e1 : ((0 : Nat) : Int) = 0 := rfl
        rw [e0, e1] at hn
        rw [hn]
        generalize valA 0 (b ++ List.replicate (9 - b.length) 48) = w at q4
        cases ok with
        | false =>
          exact nano_end _ q false 0 w _ (by omega) q4
        | true =>
          rw [nano_end _ q true v w _ (hv rfl) q4]
          unfold endT
          have t1 : ¬ (true = false) := by decide
          have t2 : ¬ (dot t < t.length ∧ ¬ (true = true ∧ b.length ≤ 9)) := fun h => h.2 ⟨rfl, hl⟩
          rw [if_neg t1, if_neg t1, if_neg t2, if_pos hp]
      · rw [bif_t (by omega)]
        cases ok with
        | false => rfl
        | true => rw [if_neg (by simp), if_pos ⟨hp, fun h => hl h.2⟩]; rfl
  · rw [bif_f (by omega)]
    cases ok with
    | false => rfl
    | true =>
      have hv := hv rfl
      have t1 : ¬ (true = false) := by decide
      have t2 : ¬ (dot t < t.length ∧ ¬ (digs (t.drop (dot t + 1)) = true ∧ (t.drop (dot t + 1)).length ≤ 9)) := fun h => hp h.1
      have t3 : (if true = true then -(v : Int) else 0) = -(v : Int) := if_pos rfl
      rw [if_neg t1, if_neg t2, if_neg hp, t3]
      simp only [if_true, Bool.not_true, Bool.not_false, cond_true, cond_false]
      cases q with
      | false =>
        simp only [if_true, Bool.not_true, Bool.not_false, cond_true, cond_false]
        by_cases h : 9223372036854775807 < v
        · rw [bif_t (by omega), if_pos h]; rfl
        · rw [bif_f (by omega), if_neg h, i64w (by omega), show (0 : Int) - -(v : Int) = (v : Int) from by omega]; rfl
      | true =>
        simp only [if_true, Bool.not_true, Bool.not_false, cond_true, cond_false, if_neg (show ¬ true = false by decide)]
        by_cases h : 9223372036854775807 < v
        · rw [bif_t (by omega)]; rfl
        · rw [bif_f (by omega)]; rfl
theorem refTime_k (s : List UInt8) (hs : s.length < 100000000000) (hk : s.length < k) (h9 : 10 < k) : kp E k (n + 3) ref04_Time [.str (str s)] = some (timeRV (timeL s)) := by
  rw [ref04_Time_eq, str_size]
  unfold timeL
  cases s with
  | nil =>
    rw [bif_f (by simp), i64w (by simp)]
    exact refBody (n := n) [] false hs hk h9
  | cons c s =>
    have hl : (c :: s).length = s.length + 1 := rfl
    rw [bif_t (by omega), bif_t (by omega), str_byte, byte45]
    have hg : (c :: s).getD 0 0 = c := rfl
    rw [hg]
    by_cases hc : c = 45
    · subst hc
      have e : ByteArray.extract (str (45 :: s)) 1 (45 :: s).length = str s := ext_one 45 s
      rw [bif_t rfl, bif_t (by omega), e, str_size, i64w (by omega)]
      have := refBody (E := E) (k := k) (n := n) s true (by omega) (by omega) h9
      exact this
    · rw [bif_f hc, i64w (by omega), decide_eq_false hc]
      have := refBody (E := E) (k := k) (n := n) (c :: s) false hs hk h9
      rw [this]
      have hh : ¬ (c :: s).head? = some 45 := by simpa using hc
      rw [decide_eq_false hh, if_neg hh]
end Go.Proofs.YtilbahgfjfcikaaGreatDoor.Eng.U


/- What a pair of a record is: both sides in plain words. -/
set_option linter.unusedVariables false
set_option linter.unusedSectionVars false
set_option linter.unusedSimpArgs false
namespace Go.Proofs.YtilbahgfjfcikaaGreatDoor.Eng.U
open Go Go.Proofs Go.Proofs.YtilbahgfjfcikaaGreatDoor.Eng Go.Proofs.YtilbahgfjfcikaaGreatDoor.P04
variable {E : Ext} [Core E] [HasNum E] {k n : Nat}

def utfOk (l : List UInt8) : Bool := decide (first (str l) < 0)
theorem refFirst_k (l : List UInt8) (hl : l.length ≤ 1000000) (hk : l.length + 5 < k) : kp E k (n + 3) ref05_First [.str (str l)] = some (.int .i64 (first (str l))) := by
  obtain ⟨K, rfl⟩ : ∃ K, k = K + 5 := ⟨k - 5, by omega⟩
  have hs : (str l).size ≤ 1000000 := by rw [str_size]; exact hl
  have h1 : ∀ i, i < (str l).size → kp E (K + 5) (n + 1) ref05_size [.str (str l), .int .i64 (i : Int)] = some (.int .i64 (sizeS (str l) i : Int)) := fun i hi => size_spec hs hi
  have h2 := ref05_Ends_spec (E := E) (K := K + 5) (n := n + 1) hs (by rw [str_size]; omega) h1
  rw [ref05_First_spec hs (by rw [str_size]; omega) h2, ends, first_ends, first]
section
variable [HasTextV E]
theorem utf_k (l : List UInt8) (hk : l.length < k) : kp E k (n + 3) utf_Right [.str (str l)] = some (.bool (utfOk l)) := by
  have h1 : ∀ i, i < (str l).size → kp E k (n + 1) utf_wrong [.str (str l), .int .i64 (i : Int), .int .i32 ((Utf8.decode (str l) i).1 : Int)] = some (.bool (decide (bad (str l) i))) := fun i hi => utf_wrong_spec hi (HasTextV.dec k n)
  exact utf_Right_spec (utf_First_spec (by rw [str_size]; omega) h1)
theorem contains_k (s : List UInt8) (hs : s.length ≤ 1000000) : kp E k (n + 1) strings_ContainsAny [.str (str s), .str (str [61, 0])] = some (.bool (!noEq s)) := by
  obtain ⟨i, hi, h⟩ := HasTextV.idx (E := E) k n s hs
  rw [strings_ContainsAny_eq, hi, callI_ok, h]
end
def clean (s : List UInt8) : Bool := s.all fun c => decide (c ≠ 0)
theorem index0 (s : List UInt8) : decide (Lib.indexByte s 0 < 0) = clean s := by
  induction s with
  | nil => rfl
  | cons b l ih =>
    have hg := Lib.indexByte_ge l 0
    unfold Lib.indexByte clean
    rw [List.all_cons]
    by_cases hb : b = 0
    · subst hb; rfl
    · have h1 : (b == 0) = false := by simpa using hb
      rw [h1, decide_eq_true hb, Bool.true_and, show (l.all fun c => decide (c ≠ 0)) = clean l from rfl, ← ih]
      simp only [Bool.false_eq_true, if_false, beq_iff_eq]
      split
      · rename_i h; rw [h]
      · rename_i h
        rw [decide_eq_decide]
        omega
theorem index0_k (s : List UInt8) : kp E k n strings_IndexByte [.str (str s), .int .u8 0] = some (.int .i64 (Lib.indexByte s 0)) := HasNum.indexB k n s 0
theorem paxClean_k (s : List UInt8) : kp E k (n + 1) pax_clean [.str (str s)] = some (.bool (clean s)) := by
  rw [pax_clean_eq, index0_k, callI_ok, index0]
theorem get_loop (kap : FuncId → List AV → Option AV) : ∀ (suf pre acc : List UInt8) (k0 : Nat), suf.length < k0 → (pre ++ suf).length < 1000000000 → acc.length ≤ pre.length →
    ref02_Get_L0 kap k k0 (bys (pre ++ suf)) ((pre.length : Nat) : Int) (bys acc) = some (.str (str (acc ++ suf.takeWhile fun c => decide (c ≠ 0))))
  | [], pre, acc, k0 + 1, h, hb, ha => by
    have e : toBytes (bys acc) = some acc := toBytes_map acc
    rw [ref02_Get_L0_s, bys_len, bif_f (by simp), e]
    simp
  | c :: suf, pre, acc, k0 + 1, h, hb, ha => by
    have h' : suf.length < k0 := by simp only [List.length_cons] at h; omega
    have hb' : pre.length + (suf.length + 1) < 1000000000 := by simp only [List.length_append, List.length_cons] at hb; exact hb
    have e : toBytes (bys acc) = some acc := toBytes_map acc
    rw [ref02_Get_L0_s, bys_len, mid_len, bif_t (by omega), bif_a, bif_t (by omega), bif_t (by omega), Int.toNat_natCast, bys_mid, byte_c, bys_len]
    by_cases hc : c = 0
    · subst hc
      rw [show (!decide (((UInt8.toNat 0 : Nat) : Int) = 0)) = false from rfl, cond_false, e]
      simp
    · have h0 : ¬ ((c.toNat : Nat) : Int) = 0 := fun h => hc (UInt8.toNat_inj.1 (by show c.toNat = 0; omega))
      rw [decide_eq_false h0, Bool.not_false, cond_true, bif_a, bif_t (by omega), bif_t (by omega), bys_mid, byte_c, bif_a, bif_t (by omega), bif_t (by omega), i64w (by omega)]
      have e1 : bys acc ++ [AV.int .u8 ((c.toNat : Nat) : Int)] = bys (acc ++ [c]) := by unfold bys; rw [List.map_append]; rfl
      have e2 : ((pre.length : Nat) : Int) + 1 = (((pre ++ [c]).length : Nat) : Int) := by simp
      have e3 : pre ++ c :: suf = (pre ++ [c]) ++ suf := by simp
      rw [e1, e2, e3, get_loop kap suf (pre ++ [c]) (acc ++ [c]) k0 h' (by simp only [List.length_append, List.length_cons, List.length_nil]; omega) (by simp only [List.length_append, List.length_cons, List.length_nil]; omega)]
      rw [List.takeWhile_cons, decide_eq_true hc]
      simp
theorem takeWhile_all (p : UInt8 → Bool) : ∀ s : List UInt8, decide (s.takeWhile p = s) = s.all p
  | [] => rfl
  | c :: l => by
    rw [List.takeWhile_cons, List.all_cons]
    cases h : p c with
    | true => simp only [Bool.true_and, if_true, List.cons.injEq, true_and]; exact takeWhile_all p l
    | false => simp
theorem refClean_k (s : List UInt8) (hs : s.length < 1000000000) (hk : s.length < k) : kp E k (n + 2) ref02_Clean [.str (str s)] = some (.bool (clean s)) := by
  have h := get_loop (k := k) (kp E k n) s [] [] k hk (by simpa using hs) (by simp)
  rw [ref02_Clean_eq, str_bytes, ref02_Get_eq]
  have h' : ref02_Get_L0 (kp E k n) k k (s.map byteAV) (0 : Int) [] = some (.str (str (s.takeWhile fun c => decide (c ≠ 0)))) := by simpa [bys] using h
  rw [h', callS_ok, str_dec, takeWhile_all, clean]

def whichL (key : List UInt8) : Int :=
  if key = [112, 97, 116, 104] then 0 else if key = [108, 105, 110, 107, 112, 97, 116, 104] then 1 else if key = [117, 110, 97, 109, 101] then 2 else if key = [103, 110, 97, 109, 101] then 3 else if key = [117, 105, 100] then 4 else if key = [103, 105, 100] then 5 else if key = [115, 105, 122, 101] then 6 else if key = [109, 116, 105, 109, 101] then 7 else -1
theorem is_path (key : List UInt8) : decide (str key = str [112, 97, 116, 104]) = decide (whichL key = 0) := by
  rw [str_dec, decide_eq_decide]
  constructor
  · rintro rfl; rfl
  · intro h
    unfold whichL at h
    repeat' split at h
    all_goals first | assumption | (exfalso; revert h; decide)
theorem is_linkpath (key : List UInt8) : decide (str key = str [108, 105, 110, 107, 112, 97, 116, 104]) = decide (whichL key = 1) := by
  rw [str_dec, decide_eq_decide]
  constructor
  · rintro rfl; rfl
  · intro h
    unfold whichL at h
    repeat' split at h
    all_goals first | assumption | (exfalso; revert h; decide)
theorem is_uname (key : List UInt8) : decide (str key = str [117, 110, 97, 109, 101]) = decide (whichL key = 2) := by
  rw [str_dec, decide_eq_decide]
  constructor
  · rintro rfl; rfl
  · intro h
    unfold whichL at h
    repeat' split at h
    all_goals first | assumption | (exfalso; revert h; decide)
theorem is_gname (key : List UInt8) : decide (str key = str [103, 110, 97, 109, 101]) = decide (whichL key = 3) := by
  rw [str_dec, decide_eq_decide]
  constructor
  · rintro rfl; rfl
  · intro h
    unfold whichL at h
    repeat' split at h
    all_goals first | assumption | (exfalso; revert h; decide)
theorem is_uid (key : List UInt8) : decide (str key = str [117, 105, 100]) = decide (whichL key = 4) := by
  rw [str_dec, decide_eq_decide]
  constructor
  · rintro rfl; rfl
  · intro h
    unfold whichL at h
    repeat' split at h
    all_goals first | assumption | (exfalso; revert h; decide)
theorem is_gid (key : List UInt8) : decide (str key = str [103, 105, 100]) = decide (whichL key = 5) := by
  rw [str_dec, decide_eq_decide]
  constructor
  · rintro rfl; rfl
  · intro h
    unfold whichL at h
    repeat' split at h
    all_goals first | assumption | (exfalso; revert h; decide)
theorem is_size (key : List UInt8) : decide (str key = str [115, 105, 122, 101]) = decide (whichL key = 6) := by
  rw [str_dec, decide_eq_decide]
  constructor
  · rintro rfl; rfl
  · intro h
    unfold whichL at h
    repeat' split at h
    all_goals first | assumption | (exfalso; revert h; decide)
theorem is_mtime (key : List UInt8) : decide (str key = str [109, 116, 105, 109, 101]) = decide (whichL key = 7) := by
  rw [str_dec, decide_eq_decide]
  constructor
  · rintro rfl; rfl
  · intro h
    unfold whichL at h
    repeat' split at h
    all_goals first | assumption | (exfalso; revert h; decide)
theorem which_lt (key : List UInt8) : -1 ≤ whichL key ∧ whichL key ≤ 7 := by
  unfold whichL
  repeat' split
  all_goals decide
theorem which_k (key : List UInt8) (hk : 10 < k) : kp E k (n + 2) ref07_Which [.str (str key)] = some (.int .i64 (whichL key)) := by
  obtain ⟨K, rfl⟩ : ∃ K, k = K + 9 := ⟨k - 9, by omega⟩
  rw [ref07_Which_eq, ref07_Keys_eq, callL_ok]
  have hw := which_lt key
  have st : ∀ (j : Nat) (s : List UInt8) (m : Nat), j < 8 → ([(.str (str [112, 97, 116, 104])), (.str (str [108, 105, 110, 107, 112, 97, 116, 104])), (.str (str [117, 110, 97, 109, 101])), (.str (str [103, 110, 97, 109, 101])), (.str (str [117, 105, 100])), (.str (str [103, 105, 100])), (.str (str [115, 105, 122, 101])), (.str (str [109, 116, 105, 109, 101]))] : List AV)[j]? = some (.str (str s)) →
      ref07_Which_L0 (kp E (K + 9) (n + 1)) (K + 9) (m + 1) (str key) [(.str (str [112, 97, 116, 104])), (.str (str [108, 105, 110, 107, 112, 97, 116, 104])), (.str (str [117, 110, 97, 109, 101])), (.str (str [103, 110, 97, 109, 101])), (.str (str [117, 105, 100])), (.str (str [103, 105, 100])), (.str (str [115, 105, 122, 101])), (.str (str [109, 116, 105, 109, 101]))] ((j : Nat) : Int) = bif decide (str key = str s) then some (.int .i64 ((j : Nat) : Int)) else ref07_Which_L0 (kp E (K + 9) (n + 1)) (K + 9) m (str key) [(.str (str [112, 97, 116, 104])), (.str (str [108, 105, 110, 107, 112, 97, 116, 104])), (.str (str [117, 110, 97, 109, 101])), (.str (str [103, 110, 97, 109, 101])), (.str (str [117, 105, 100])), (.str (str [103, 105, 100])), (.str (str [115, 105, 122, 101])), (.str (str [109, 116, 105, 109, 101]))] (((j + 1 : Nat) : Nat) : Int) := by
    intro j s m hj hs
    rw [ref07_Which_L0_s, Int.toNat_natCast, hs, Option.bind_some, i64w (by omega), show ((j : Nat) : Int) + 1 = ((j + 1 : Nat) : Int) by omega]
    rw [bif_t (by simp only [List.length_cons, List.length_nil]; omega), bif_a, bif_t (by omega), bif_t (by simp only [List.length_cons, List.length_nil]; omega)]
    show (bif decide (str s = str key) then _ else _) = _
    rw [show decide (str s = str key) = decide (str key = str s) from decide_eq_decide.2 eq_comm]
  refine (st 0 [112, 97, 116, 104] (K + 8) (by omega) rfl).trans ?_
  rw [is_path]
  rw [st 1 [108, 105, 110, 107, 112, 97, 116, 104] (K + 7) (by omega) rfl, is_linkpath]
  rw [st 2 [117, 110, 97, 109, 101] (K + 6) (by omega) rfl, is_uname]
  rw [st 3 [103, 110, 97, 109, 101] (K + 5) (by omega) rfl, is_gname]
  rw [st 4 [117, 105, 100] (K + 4) (by omega) rfl, is_uid]
  rw [st 5 [103, 105, 100] (K + 3) (by omega) rfl, is_gid]
  rw [st 6 [115, 105, 122, 101] (K + 2) (by omega) rfl, is_size]
  rw [st 7 [109, 116, 105, 109, 101] (K + 1) (by omega) rfl, is_mtime]
  have en : ∀ m (l : List AV), l.length = 8 → ref07_Which_L0 (kp E (K + 9) (n + 1)) (K + 9) (m + 1) (str key) l (((7 + 1 : Nat) : Nat) : Int) = some (.int .i64 (-1)) := by
    intro m l hl
    rw [ref07_Which_L0_s, hl, bif_f (by omega)]
  rw [en _ _ rfl]
  generalize whichL key = w at hw
  have : w = -1 ∨ w = 0 ∨ w = 1 ∨ w = 2 ∨ w = 3 ∨ w = 4 ∨ w = 5 ∨ w = 6 ∨ w = 7 := by omega
  rcases this with rfl | rfl | rfl | rfl | rfl | rfl | rfl | rfl | rfl <;> rfl
def numOk (s : List UInt8) : Bool := natOk s && decide (valA 0 s ≤ 9223372036854775807)
def valR (key s : List UInt8) : Bool :=
  if s = [] then true else if whichL key < 0 then true else if whichL key < 4 then clean s else if whichL key < 7 then numOk s else (timeL s).isSome
theorem value_k [HasTextV E] (key s : List UInt8) (hs : s.length ≤ 1000000) (hk : s.length < k) : kp E k (n + 4) pax_value [.str (str key), .str (str s)] = some (.bool (utfOk s && valR key s)) := by
  have hN : (callT (kp E k (n + 3) dec_Number [(.str (str s))]) fun vt6 => (tupI .i64 vt6 fun vn7 vt8 => (tupI .u8 vt8 fun vn9 vt10 => (atNil vt10 (some (.bool (decide (vn9 = (0 : Int)))))))) : Option AV) = some (.bool (numOk s)) := by
    rw [number_k s (by omega) hk]
    unfold numOk
    cases natOk s && decide (valA 0 s ≤ 9223372036854775807) <;> rfl
  have hT : (callT (kp E k (n + 3) dec_Time [(.str (str s))]) fun vt12 => (tupG 2 vt12 fun vg13 vt14 => (cellI .i64 vg13 0 fun vn15 => (cellI .i64 vg13 1 fun vn16 => (tupI .u8 vt14 fun vn17 vt18 => (atNil vt18 (some (.bool (decide (vn17 = (0 : Int)))))))))) : Option AV) = some (.bool (timeL s).isSome) := by
    rw [time_k s (by omega) hk]
    cases timeL s <;> rfl
  have hC : (callB (kp E k (n + 3) pax_clean [(.str (str s))]) fun vq4 => (some (.bool vq4)) : Option AV) = some (.bool (clean s)) := by rw [paxClean_k, callB_ok]
  rw [pax_value_eq, utf_k s hk, callB_ok, is_path, is_linkpath, is_uname, is_gname, is_uid, is_gid, is_size, is_mtime]
  simp only [hN, hT, hC]
  unfold valR
  have hw := which_lt key
  generalize whichL key = w at hw
  cases utfOk s with
  | false => rfl
  | true =>
    rw [Bool.not_true, cond_false, Bool.true_and, show (str [] : ByteArray) = str [] from rfl, str_dec]
    by_cases h0 : s = []
    · rw [decide_eq_true h0, if_pos h0]; rfl
    · rw [decide_eq_false h0, if_neg h0, cond_false]
      have : w = -1 ∨ w = 0 ∨ w = 1 ∨ w = 2 ∨ w = 3 ∨ w = 4 ∨ w = 5 ∨ w = 6 ∨ w = 7 := by omega
      rcases this with rfl | rfl | rfl | rfl | rfl | rfl | rfl | rfl | rfl <;> rfl
def pairOk (p : Pair) : Bool := decide (p.key ≠ []) && (utfOk p.key && (noEq p.key && (utfOk p.val && valR p.key p.val)))
theorem paxRight_k [HasTextV E] (p : Pair) (h1 : p.key.length ≤ 1000000) (h2 : p.val.length ≤ 1000000) (hk : 1000000 < k) : kp E k (n + 5) pax_Right [.agg [.str (str p.key), .str (str p.val)]] = some (.bool (pairOk p)) := by
  rw [pax_Right_eq, utf_k p.key (by omega), contains_k p.key h1, value_k p.key p.val h2 (by omega), str_dec]
  simp only [callB_ok]
  unfold pairOk
  by_cases h : p.key = []
  · rw [decide_eq_true h]
    simp [h]
  · rw [decide_eq_false h, decide_eq_true h]
    cases utfOk p.key <;> cases noEq p.key <;> cases utfOk p.val <;> rfl
theorem eq_loop (kap : FuncId → List AV → Option AV) (val : ByteArray) (R : Option AV) (suf : List UInt8) : ∀ (pre : List UInt8) (k0 : Nat), suf.length < k0 → (pre ++ suf).length < 1000000000 →
    (∀ m, ref07_Right_L0 kap k (m + 1) (((pre ++ suf).length : Nat) : Int) (str (pre ++ suf)) val = R) →
    ref07_Right_L0 kap k k0 ((pre.length : Nat) : Int) (str (pre ++ suf)) val = bif suf.all (fun c => decide (c ≠ 61)) then R else some (.bool false) := by
  induction suf with
  | nil =>
    intro pre k0 h hb hR
    obtain ⟨m, rfl⟩ : ∃ m, k0 = m + 1 := ⟨k0 - 1, by simp only [List.length_nil] at h; omega⟩
    have := hR m
    rw [List.append_nil] at this ⊢
    rw [this]; rfl
  | cons c suf ih =>
    intro pre k0 h hb hR
    obtain ⟨m, rfl⟩ : ∃ m, k0 = m + 1 := ⟨k0 - 1, by simp only [List.length_cons] at h; omega⟩
    have h' : suf.length < m := by simp only [List.length_cons] at h; omega
    have hb' : pre.length + (suf.length + 1) < 1000000000 := by simp only [List.length_append, List.length_cons] at hb; exact hb
    rw [ref07_Right_L0_s, str_size, mid_len, bif_t (by omega), bif_a, bif_t (by omega), bif_t (by omega), Int.toNat_natCast, str_byte, mid_byte]
    rw [show decide (((c.toNat : Nat) : Int) = 61) = decide (c = 61) from byte_is c 61 (by omega), List.all_cons]
    by_cases hc : c = 61
    · rw [decide_eq_true hc, hc]; rfl
    · rw [decide_eq_false hc, cond_false, decide_eq_true hc, Bool.true_and, i64w (by omega)]
      have e2 : ((pre.length : Nat) : Int) + 1 = (((pre ++ [c]).length : Nat) : Int) := by simp
      have e3 : pre ++ c :: suf = (pre ++ [c]) ++ suf := by simp
      rw [e2, e3]
      rw [e3] at hR
      exact ih (pre ++ [c]) m h' (by simp only [List.length_append, List.length_cons, List.length_nil]; omega) hR
theorem noEq_split (s : List UInt8) : noEq s = (clean s && s.all fun c => decide (c ≠ 61)) := by
  unfold noEq clean
  induction s with
  | nil => rfl
  | cons c l ih =>
    simp only [List.all_cons, ih]
    cases decide (c ≠ 61) <;> cases decide (c ≠ 0) <;> simp
theorem refPair_k (p : Pair) (h1 : p.key.length ≤ 1000000) (h2 : p.val.length ≤ 1000000) (hk : 2000000 < k) : kp E k (n + 4) ref07_Right [.agg [.str (str p.key), .str (str p.val)]] = some (.bool (pairOk p)) := by
  have hend : ∀ m, ref07_Right_L0 (kp E k (n + 3)) k (m + 1) (((([] : List UInt8) ++ p.key).length : Nat) : Int) (str ([] ++ p.key)) (str p.val) = some (.bool (valR p.key p.val)) := by
    intro m
    rw [List.nil_append, ref07_Right_L0_s, str_size, bif_f (by omega), which_k p.key (by omega), callI_ok, refClean_k p.val (by omega) (by omega), callB_ok, refNumber_k p.val (by omega) (by omega), refTime_k p.val (by omega) (by omega) (by omega), str_dec]
    unfold valR numOk
    have hw := which_lt p.key
    generalize whichL p.key = w at hw
    by_cases h0 : p.val = []
    · rw [decide_eq_true h0, if_pos h0]; rfl
    · rw [decide_eq_false h0, if_neg h0, cond_false]
      by_cases a1 : w < 0
      · rw [decide_eq_true a1, if_pos a1]; rfl
      rw [decide_eq_false a1, if_neg a1, cond_false]
      by_cases a2 : w < 4
      · rw [decide_eq_true a2, if_pos a2]; rfl
      rw [decide_eq_false a2, if_neg a2, cond_false]
      by_cases a3 : w < 7
      · rw [decide_eq_true a3, if_pos a3, cond_true]
        cases natOk p.val && decide (valA 0 p.val ≤ 9223372036854775807) <;> rfl
      rw [decide_eq_false a3, if_neg a3, cond_false]
      cases timeL p.val <;> rfl
  have hl := eq_loop (k := k) (kp E k (n + 3)) (str p.val) _ p.key [] k (by omega) (by simp; omega) hend
  simp only [List.nil_append, List.length_nil] at hl
  rw [ref07_Right_eq, refFirst_k p.key (by omega) (by omega), callI_ok, refFirst_k p.val (by omega) (by omega), callI_ok, refClean_k p.key (by omega) (by omega), callB_ok, str_dec]
  rw [show ((0 : Nat) : Int) = 0 from rfl] at hl
  rw [hl]
  unfold pairOk
  rw [noEq_split]
  have g1 : decide (first (str p.key) ≥ 0) = !utfOk p.key := by unfold utfOk; rw [← decide_not, decide_eq_decide]; omega
  have g2 : decide (first (str p.val) ≥ 0) = !utfOk p.val := by unfold utfOk; rw [← decide_not, decide_eq_decide]; omega
  rw [g1, g2]
  by_cases h : p.key = []
  · rw [decide_eq_true h]
    simp [h]
  · rw [decide_eq_false h, decide_eq_true h]
    cases utfOk p.key <;> cases utfOk p.val <;> cases clean p.key <;> cases (p.key.all fun c => decide (c ≠ 61)) <;> rfl
end Go.Proofs.YtilbahgfjfcikaaGreatDoor.Eng.U


/- pax.Print's drawn region, by the engine: the line that is written. -/
set_option linter.unusedVariables false
set_option linter.unusedSectionVars false
set_option linter.unusedSimpArgs false
namespace Go.Proofs.YtilbahgfjfcikaaGreatDoor.Eng.U
open Go Go.RowKit Go.Proofs Go.Proofs.YtilbahgfjfcikaaGreatDoor.Eng

noncomputable def os7A : Array Oper := match sel (Tryz.f19.body.getD .skip) [1, 1, 0, 1, 0, 0, 1, 1, 0, 0, 1, 1] with | .region _ os _ => os | _ => #[]
noncomputable def strOf (fr : Fr) : Option ByteArray := match fr.get 27 with | .str s => some s | _ => none
theorem ahead7 (kap : FuncId → List AV → Option AV) (k : Nat) (x y : ByteArray) : aheadK ((bs E0 k).cfg kap pax_Print) os7A.toList 12 (mkFr 31 [(6, .eptr [.str x, .str y] 0)] []) strOf =
  (callI .i64 (kap pax_Len [(.agg [(.str x), (.str y)])]) fun vn2 => (callS (kap strconv_Itoa [(.int .i64 vn2)]) fun vs4 => (bif (decide ((ByteArray.size vs4) + 1 ≤ 9223372036854775807)) then (bif (decide ((ByteArray.size (vs4 ++ (str [32]))) + (ByteArray.size x) ≤ 9223372036854775807)) then (bif (decide ((ByteArray.size ((vs4 ++ (str [32])) ++ x)) + 1 ≤ 9223372036854775807)) then (bif (decide ((ByteArray.size (((vs4 ++ (str [32])) ++ x) ++ (str [61]))) + (ByteArray.size y) ≤ 9223372036854775807)) then (bif (decide ((ByteArray.size ((((vs4 ++ (str [32])) ++ x) ++ (str [61])) ++ y)) + 1 ≤ 9223372036854775807)) then (some (((((vs4 ++ (str [32])) ++ x) ++ (str [61])) ++ y) ++ (str [10]))) else none) else none) else none) else none) else none))) := by kernel_rfl
end Go.Proofs.YtilbahgfjfcikaaGreatDoor.Eng.U


/- Given functions in pieces: each with what it answers, and that it does. -/
set_option linter.unusedVariables false
set_option linter.unusedSectionVars false
set_option linter.unusedSimpArgs false
namespace Go.Proofs.YtilbahgfjfcikaaGreatDoor.Eng.U
open Go Go.Proofs Go.Proofs.YtilbahgfjfcikaaGreatDoor.Eng Go.RowKit

structure Piece where
  f : FuncId
  ans : List AV → Option AV
def extOf (ps : List Piece) : Ext := { fs := coreFs, isBase := fun f => ps.any fun p => p.f == f, base := fun f args => (ps.find? fun p => p.f == f).bind fun p => p.ans args }
def Piece.Right (p : Piece) : Prop := Enters Tryz.prog p.f ∧ ∀ args res, p.ans args = some res → Ok Tryz.prog glob p.f args res
theorem core_of {ps : List Piece} (h : coreFs.all (fun f => !ps.any fun p => p.f == f) = true) : Core (extOf ps) where
  isB f hf := by
    have := List.all_eq_true.1 h f (List.contains_iff_mem.1 hf)
    simpa [extOf] using this
  has f hf := hf
theorem good_of {ps : List Piece} (h : ∀ p ∈ ps, p.Right) (hn : coreFs.all (namedOk Tryz.prog) = true) (k : Nat) : (bs (extOf ps) k).Good where
  mixed := by kernel_rfl
  names := hn
  base f args res hb hr := by
    change ((ps.find? fun p => p.f == f).bind fun p => p.ans args) = some res at hr
    obtain ⟨p, hp, ha⟩ := Option.bind_eq_some_iff.1 hr
    have hm := List.mem_of_find?_eq_some hp
    have hf : (p.f == f) = true := List.find?_some (p := fun q : Piece => q.f == f) hp
    have hf : p.f = f := by simpa using hf
    obtain ⟨h1, h2⟩ := h p hm
    rw [hf] at h1 h2
    exact ⟨h1, h2 args res ha⟩
theorem names_ok : coreFs.all (namedOk Tryz.prog) = true := by kernel_rfl
theorem kp_piece {ps : List Piece} {p : Piece} {k n : Nat} {args : List AV} (hp : ps.find? (fun q => q.f == p.f) = some p) : kp (extOf ps) k n p.f args = p.ans args := by
  rw [kp_base (by
    show (ps.any fun q => q.f == p.f) = true
    have := List.find?_some (p := fun q : Piece => q.f == p.f) hp
    exact List.any_eq_true.2 ⟨p, List.mem_of_find?_eq_some hp, this⟩)]
  show ((ps.find? fun q => q.f == p.f).bind fun q => q.ans args) = _
  rw [hp]
  rfl
theorem VL_1 {S : Stab} {x : AV} {vals : List Value} (h : VL S [x] vals) : ∃ v, vals = [v] ∧ V S x v := by
  obtain ⟨h1, h2⟩ := h
  match vals, h1 with
  | [v], _ => exact ⟨v, rfl, h2 0 _ _ rfl rfl⟩
theorem VL_2 {S : Stab} {x y : AV} {vals : List Value} (h : VL S [x, y] vals) : ∃ v u, vals = [v, u] ∧ V S x v ∧ V S y u := by
  obtain ⟨h1, h2⟩ := h
  match vals, h1 with
  | [v, u], _ => exact ⟨v, u, rfl, h2 0 _ _ rfl rfl, h2 1 _ _ rfl rfl⟩
theorem VL_3 {S : Stab} {x y z : AV} {vals : List Value} (h : VL S [x, y, z] vals) : ∃ v u t, vals = [v, u, t] ∧ V S x v ∧ V S y u ∧ V S z t := by
  obtain ⟨h1, h2⟩ := h
  match vals, h1 with
  | [v, u, t], _ => exact ⟨v, u, t, rfl, h2 0 _ _ rfl rfl, h2 1 _ _ rfl rfl, h2 2 _ _ rfl rfl⟩
theorem V_str {S : Stab} {s : ByteArray} {v : Value} (h : V S (.str s) v) : v = .string s := by cases h; rfl
theorem V_int {S : Stab} {k : IntKind} {n : Int} {v : Value} (h : V S (.int k n) v) : v = .int k n := by cases h; rfl
theorem agree_below {S : Stab} {w w' : World} (h : Agree S w) (hb : Below w.heap.size w w') : Agree S w' := fun x v hx =>
  (World.cell?_of_block (hb.block _ (World.block_lt_of_cell? w x (h x v hx)))).trans (h x v hx)
/-- A result that is pure, and nothing that lay has turned. -/
theorem ok_pure {f : FuncId} {args : List AV} {res : AV} (hres : res.isTup = false ∧ res.isFresh = false) (h : ∀ (S : Stab) (w : World) (vals : List Value), Agree S w → GlobOk glob S w → VL S args vals → Calls Tryz.prog f vals.toArray w fun e w' => ∃ v, e = .returned v ∧ (∀ S', V S' res v) ∧ Below w.heap.size w w') (hr : (args.all fun c => !c.isRes) = true := by rfl) : Ok Tryz.prog glob f args res := by
  refine Ok.of_plain (fun c hc => by simpa using List.all_eq_true.1 hr c hc) fun S w vals hag hG hV => ?_
  refine (h S w vals hag hG hV).mono ?_
  rintro e w' ⟨v, rfl, hv, hb⟩
  refine ⟨v, S, rfl, fun _ _ h => h, agree_below hag hb, fun _ _ h => .inl h, hb, ?_⟩
  have := hv S
  cases res <;> first | (cases hres.1; done) | (cases hres.2; done) | exact this
/-- A new row, frozen as it comes. -/
theorem row_V {S : Stab} {B : Nat} {w : World} {e : TypeId} {sz : Nat} {v : Value} {us : List Value} {xs : List AV} (hag : Agree S w) (hown : w.ownsRow B e sz v xs.length us) (hone : ∀ (i : Nat) (x : AV), xs[i]? = some x → x.cells.length = sz ∧ ∀ (j : Nat) (c : AV), x.cells[j]? = some c → c.leaf = true ∧ ∀ u, us[i * sz + j]? = some u → V S c u) :
    ∃ S', S.le S' ∧ Agree S' w ∧ (∀ x u, S' x = some u → S x = some u ∨ B ≤ x.block) ∧ V S' (.list sz xs) v := by
  have hul : us.length = xs.length * sz := hown.1
  rcases ownsRow_form hown with ⟨rfl, hn⟩ | ⟨g, cap, rfl, hb⟩
  · have hx : xs = [] := List.eq_nil_of_length_eq_zero hn
    subst hx
    exact ⟨S, fun _ _ h => h, hag, fun _ _ h => .inl h, .listn _⟩
  · let S' : Stab := fun x => if x.block = g ∧ x.spot = none ∧ x.off < xs.length * sz then w.cell? x else S x
    have hle : S.le S' := by
      intro x v hx
      show (if _ then _ else _) = _
      split
      · exact hag x v hx
      · exact hx
    have hS'g : ∀ k u, us[k]? = some u → S' ⟨g, k, none⟩ = some u := by
      intro k u hu
      have hk : k < xs.length * sz := by rw [← hul]; exact (List.getElem?_eq_some_iff.1 hu).1
      show (if _ then _ else _) = _
      rw [if_pos ⟨rfl, rfl, hk⟩]
      exact cell_of_us hown rfl hu
    refine ⟨S', hle, fun x v hx => ?_, fun x u hx => ?_, ?_⟩
    · have hx : (if x.block = g ∧ x.spot = none ∧ x.off < xs.length * sz then w.cell? x else S x) = some v := hx
      split at hx
      · exact hx
      · exact hag x v hx
    · have hx : (if x.block = g ∧ x.spot = none ∧ x.off < xs.length * sz then w.cell? x else S x) = some u := hx
      split at hx
      · rename_i hh; exact .inr (by rw [hh.1]; exact hb)
      · exact .inl hx
    · have hcle : xs.length ≤ cap := by
        rcases hown.2 with ⟨hv2, _⟩ | ⟨g2, cap2, cur2, hv2, _, _, hnc, _⟩
        · cases hv2
        · cases hv2; exact hnc
      have hval : ∀ (i : Nat) (x : AV) (j : Nat) (c : AV), xs[i]? = some x → x.cells[j]? = some c → us[i * sz + j]? = some (us.getD (i * sz + j) undef) := by
        intro i x j c hx hj
        have hi : i < xs.length := (List.getElem?_eq_some_iff.1 hx).1
        have hj' : j < sz := by rw [← (hone i x hx).1]; exact (List.getElem?_eq_some_iff.1 hj).1
        have hlt : i * sz + j < us.length := by rw [hul]; exact flat_lt hi hj'
        rw [List.getD_eq_getElem?_getD, List.getElem?_eq_getElem hlt]; rfl
      exact .list _ _ _ _ (fun i j => us.getD (i * sz + j) undef) hcle (fun i x hx => (hone i x hx).1) (fun i x j c hx hj => ((hone i x hx).2 j c hj).1)
        (fun i x j c hx hj => by rw [add_lit', Nat.zero_add]; exact hS'g _ _ (hval i x j c hx hj))
        (fun i x j c hx hj => (((hone i x hx).2 j c hj).2 _ (hval i x j c hx hj)).mono hle)
end Go.Proofs.YtilbahgfjfcikaaGreatDoor.Eng.U


/- pax.Print's drawn region: whatever order is drawn, the line of the pair is written. -/
set_option linter.unusedVariables false
set_option linter.unusedSectionVars false
set_option linter.unusedSimpArgs false
namespace Go.Proofs.YtilbahgfjfcikaaGreatDoor.Eng.U
open Go Go.RowKit Go.Proofs Go.Proofs.YtilbahgfjfcikaaGreatDoor.Eng Go.Proofs.YtilbahgfjfcikaaGreatDoor.Eng.Rdv

theorem eptr_two {w : World} {b : Nat} {x y : ByteArray} (h0 : w.cell? ⟨b, 0, none⟩ = some (.string x)) (h1 : w.cell? ⟨b, 1, none⟩ = some (.string y)) : V (stab w) (.eptr [.str x, .str y] 0) (.pointer (some ⟨b, 0, none⟩)) := by
  have e : ∀ j, (⟨b, 0, none⟩ : Addr).add j = ⟨b, j, none⟩ := fun j => by rw [add_lit', Nat.zero_add]
  have := V.eptr (S := stab w) [.str x, .str y] 0 ⟨b, 0, none⟩ (fun j => if j = 0 then .string x else .string y) (fun j c h => by
    match j, h with
    | 0, h => cases h; rfl
    | 1, h => cases h; rfl) (fun j c h => by
    rw [e]
    match j, h with
    | 0, h => exact h0
    | 1, h => exact h1) (fun j c h => by
    match j, h with
    | 0, h => cases h; exact V.str _
    | 1, h => cases h; exact V.str _)
  rwa [e] at this
theorem rel_one {P : Program} {w : World} {a : Act} {N t : Nat} {c : AV} (hsz : a.tmps.size = N) (hdf : a.defers = []) (ht : t < N) (h : V (stab w) c (a.tmps.getD t undef)) (hp : ∀ S gv ob v, V S c v → SV P S gv ob c v) :
    Rel P (stab w) { w := w, x := [], held := fun _ => none } (stab w) (fun _ => undef) (mkFr N [(t, c)] []) a w where
  below := BelX.refl _
  agree := agree_stab w
  ext := fun _ _ h => h
  fresh := fun x v h => .inl h
  held := fun r v h => by cases h
  len := by simp [mkFr, fillS, hsz]
  obl := by simp [mkFr, fillS, fillO]
  defers := hdf
  slot := fun s hs => by
    have hs : s < N := by simpa [mkFr, fillS] using hs
    by_cases e : s = t
    · subst e
      have : (mkFr N [(s, c)] []).get s = c := by
        simp only [mkFr, fillS, Fr.get, List.getD_eq_getElem?_getD]
        rw [List.getElem?_set_self (by rw [List.length_replicate]; exact ht)]; rfl
      rw [this]
      exact hp _ _ _ _ h
    · have : (mkFr N [(t, c)] []).get s = .junk := by
        simp only [mkFr, fillS, Fr.get, List.getD_eq_getElem?_getD]
        rw [List.getElem?_set_ne (fun h => e h.symm)]
        simp [hs]
      rw [this]; trivial
  objs := fun r o h => by
    have : (mkFr N [(t, c)] []).obj r = none := by simp [mkFr, fillO, Fr.obj, List.getD_eq_getElem?_getD, List.getElem?_replicate]; split <;> rfl
    rw [this] at h; cases h
  dis := fun r r' o o' g h => by
    have : (mkFr N [(t, c)] []).obj r = none := by simp [mkFr, fillO, Fr.obj, List.getD_eq_getElem?_getD, List.getElem?_replicate]; split <;> rfl
    rw [this] at h; cases h
def lineOf (s : ByteArray) (key val : List UInt8) : ByteArray := ((((s ++ (str [32])) ++ str key) ++ (str [61])) ++ str val) ++ (str [10])
theorem arr31 {a : Array Value} (h : a.size = 31) : a = #[a.getD 0 undef, a.getD 1 undef, a.getD 2 undef, a.getD 3 undef, a.getD 4 undef, a.getD 5 undef, a.getD 6 undef, a.getD 7 undef, a.getD 8 undef, a.getD 9 undef, a.getD 10 undef, a.getD 11 undef, a.getD 12 undef, a.getD 13 undef, a.getD 14 undef, a.getD 15 undef, a.getD 16 undef, a.getD 17 undef, a.getD 18 undef, a.getD 19 undef, a.getD 20 undef, a.getD 21 undef, a.getD 22 undef, a.getD 23 undef, a.getD 24 undef, a.getD 25 undef, a.getD 26 undef, a.getD 27 undef, a.getD 28 undef, a.getD 29 undef, a.getD 30 undef] := by
  obtain ⟨l⟩ := a
  match l, h with
  | [x0, x1, x2, x3, x4, x5, x6, x7, x8, x9, x10, x11, x12, x13, x14, x15, x16, x17, x18, x19, x20, x21, x22, x23, x24, x25, x26, x27, x28, x29, x30], _ => rfl
theorem reg7 {E : Ext} [Core E] {k n : Nat} (hB : (bs E k).Good) (key val : List UInt8) (m : Int) (s : ByteArray)
    (hLen : kp E k n pax_Len [.agg [.str (str key), .str (str val)]] = some (.int .i64 m)) (hIt : kp E k n strconv_Itoa [.int .i64 m] = some (.str s))
    (hs : s.size ≤ 1000) (hk : key.length ≤ 1000000) (hv : val.length ≤ 1000000)
    {a : Act} {w : World} {bt : Nat} (h6 : a.tmps.getD 6 undef = .pointer (some ⟨bt, 0, none⟩)) (hc0 : w.cell? ⟨bt, 0, none⟩ = some (.string (str key))) (hc1 : w.cell? ⟨bt, 1, none⟩ = some (.string (str val)))
    (hsz : a.tmps.size = 31) (hdf : a.defers = []) (hG : GlobOk glob (stab w) w) {Q : Exit → Act → World → Prop} {o : Oper} (ho : os7A[12]? = some o) (hwant : ∀ a' : Act, Region.wanted o (yielded os7A a'.tmps) = true)
    {os : Array Oper} (hos : os = os7A) (hQ : ∀ a' w', HeldT (os7A.toList.filterMap (·.dst)) a a' → a'.tmps.size = 31 → a'.defers = [] → a'.tmps.getD 27 undef = .string (lineOf s key val) → Below w.heap.size w w' → o.wp Tryz.prog a' w' (fun a2 w2 => Q .normal a2 w2) Q) : (Code.region 7 os true).wp Tryz.prog Q a w := by
  subst hos
  have hr : Rel Tryz.prog (stab w) { w := w, x := [], held := fun _ => none } (stab w) (fun _ => undef) (mkFr 31 [(6, .eptr [.str (str key), .str (str val)] 0)] []) a w :=
    rel_one hsz hdf (by omega) (by rw [h6]; exact eptr_two hc0 hc1) (fun _ _ _ _ h => h)
  have hS : Sound ((bs E k).cfg (kp E k n) pax_Print) := fun f args res h => Base.sound hB n pax_Print f args res h
  have hC : Ctx ((bs E k).cfg (kp E k n) pax_Print) (stab w) { w := w, x := [], held := fun _ => none } := ⟨⟨hG, fun _ _ _ => by simp⟩, fun _ _ => rfl⟩
  have hke : aheadK ((bs E k).cfg (kp E k n) pax_Print) os7A.toList 12 (mkFr 31 [(6, .eptr [.str (str key), .str (str val)] 0)] []) strOf = some (lineOf s key val) := by
    have := ahead7 (kp E k n) k (str key) (str val)
    rw [hLen, callI_ok, hIt, callS_ok, bif_t (by omega), bif_t (by rw [ByteArray.size_append, str_size, str_size]; simp only [List.length_cons, List.length_nil]; omega), bif_t (by rw [ByteArray.size_append, ByteArray.size_append, str_size, str_size]; simp only [List.length_cons, List.length_nil]; omega),
      bif_t (by rw [ByteArray.size_append, ByteArray.size_append, ByteArray.size_append, str_size, str_size, str_size, str_size]; simp only [List.length_cons, List.length_nil]; omega),
      bif_t (by rw [ByteArray.size_append, ByteArray.size_append, ByteArray.size_append, ByteArray.size_append, str_size, str_size, str_size, str_size]; simp only [List.length_cons, List.length_nil]; omega)] at this
    exact this
  refine draw_last (C := (bs E k).cfg (kp E k n) pax_Print) hB.mixed hS hC (show os7A.size = 12 + 1 by kernel_rfl) ho hr hke hwant fun fr1 S' gv' a' w' hf hj hR => ?_
  refine hQ a' w' hj (hj.1.trans hsz) hR.defers ?_ ?_
  · have h27 : fr1.get 27 = .str (lineOf s key val) := by
      unfold strOf at hf
      cases hx : fr1.get 27 with
      | str t => rw [hx] at hf; simp only [Option.some.injEq] at hf; rw [hf]
      | _ => rw [hx] at hf; cases hf
    have hlen : 27 < fr1.sl.length := by have := hR.len; have := hj.1; omega
    have := hR.slot 27 hlen
    rw [h27] at this
    exact V_str this
  · exact ⟨hR.below.os, hR.below.tape, hR.below.output, hR.below.size, fun j hj => hR.below.block j hj (by simp)⟩
end Go.Proofs.YtilbahgfjfcikaaGreatDoor.Eng.U


/- pax.Print, walked. (under way) -/
set_option linter.unusedVariables false
set_option linter.unusedSectionVars false
set_option linter.unusedSimpArgs false
namespace Go.Proofs.YtilbahgfjfcikaaGreatDoor.Eng.U
open Go Go.RowKit Go.Proofs Go.Shelf Go.Proofs.YtilbahgfjfcikaaGreatDoor.Eng Go.Proofs.YtilbahgfjfcikaaGreatDoor.Eng.Rdv

/-- The lines of pairs. -/
def linesOf (txt : Pair → ByteArray) (l : List Pair) : List UInt8 := l.flatMap fun p => (lineOf (txt p) p.key p.val).data.toList
theorem glob_below {w w1 : World} (h : GlobOk glob (stab w) w) (hb : Below w.heap.size w w1) : GlobOk glob (stab w1) w1 := fun g cs hg => by
  obtain ⟨h1, arr, t, f, h2, h3⟩ := h g cs hg
  refine ⟨h1.mono (agree_below (agree_stab w) hb), arr, t, f, ?_, h3⟩
  rw [hb.block g (Array.getElem?_eq_some_iff.1 h2).1]
  exact h2
theorem dst7 : os7A.toList.filterMap (·.dst) = [16, 17, 18, 19, 20, 21, 22, 23, 24, 25, 26, 27, 28] := by kernel_rfl
noncomputable def op12 : Oper := os7A[12]?.getD default
/-- The write at the end of the region. -/
theorem write7 {a' : Act} {w2 : World} {K : Act → World → Prop} {Q : Exit → Act → World → Prop} {B : Nat} {bs : List Value} {s : ByteArray} (h4 : a'.tmps.getD 4 undef = .pointer (some ⟨B, 0, none⟩)) (h27 : a'.tmps.getD 27 undef = .string s)
    (hI : Lib.IsBuffer 77 5 B B bs w2) (hB : B ≤ w2.heap.size) (h1 : ∀ v ∈ bs, v.oneCell' = true) (hlim : bs.length + s.size ≤ 140737488355328)
    (hK : ∀ v w3, Lib.IsBuffer 77 5 B B (bs ++ Lib.byteCells s.data.toList) w3 → Below B w2 w3 → K (a'.put (some 28) v) w3) : op12.wp Tryz.prog a' w2 K Q := by
  unfold Oper.wp
  rw [run_enter (o := op12) (fo := .func 53) (args := #[.tmp 4, .tmp 27]) (ats := #[77, 9]) (cv := []) (fn := Tryz.f53) Tryz.func53 (by kernel_rfl) (by kernel_rfl) (by kernel_rfl) rfl, Oper.upon_enter]
  have e : (((#[Operand.tmp 4, Operand.tmp 27] : Array Operand).toList.map a'.eval ++ []).toArray : Array Value) = #[.pointer (some ⟨B, 0, none⟩), .string s] := by
    rw [← h4, ← h27]; rfl
  rw [e]
  refine (Tryz.Buffer_WriteString_k B B bs s w2 hI hB h1 hlim).mono ?_
  rintro e w3 ⟨rfl, k1, k2, _⟩
  exact hK _ _ k1 k2
theorem size_toList (s : ByteArray) : s.data.toList.length = s.size := Array.length_toList
theorem lines_app (txt : Pair → ByteArray) (l : List Pair) (p : Pair) : linesOf txt (l ++ [p]) = linesOf txt l ++ (lineOf (txt p) p.key p.val).data.toList := by simp [linesOf]
theorem one_bytes (l : List UInt8) : ∀ v ∈ Lib.byteCells l, v.oneCell' = true := by
  intro v hv
  obtain ⟨b, _, rfl⟩ := List.mem_map.1 hv
  rfl
theorem right_calls {E : Ext} [Core E] {k n : Nat} (hB : (bs E k).Good) (p : Pair) (h : kp E k n pax_Right [.agg [.str (str p.key), .str (str p.val)]] = some (.bool (pairOk p))) {w : World} (hG : GlobOk glob (stab w) w) :
    Calls Tryz.prog 26 #[.agg #[.string (str p.key), .string (str p.val)]] w fun e w' => e = .returned (.bool (pairOk p)) ∧ Below w.heap.size w w' := by
  have hok := Base.ok (B := bs E k) hB (n := n) h
  refine (hok.plain (stab w) w [.agg #[.string (str p.key), .string (str p.val)]] (agree_stab w) hG ⟨rfl, fun j c x hc hx => by
    match j, hc, hx with
    | 0, hc, hx =>
      cases hc; cases hx
      exact V.agg _ [.string (str p.key), .string (str p.val)] rfl (fun j c h => by
        match j, h with
        | 0, h => cases h; rfl
        | 1, h => cases h; rfl) (fun j c u h hu => by
        match j, h, hu with
        | 0, h, hu => cases h; cases hu; exact V.str _
        | 1, h, hu => cases h; cases hu; exact V.str _)⟩).mono fun e w' ⟨v, S', he, _, _, _, bel, hv⟩ => ?_
  obtain rfl : v = .bool (pairOk p) := by cases (show V S' (.bool (pairOk p)) v from hv); rfl
  exact ⟨he, bel⟩
set_option maxHeartbeats 4000000 in
set_option maxRecDepth 1000000 in
theorem print_walk {E : Ext} [Core E] {k n : Nat} (hB : (bs E k).Good) (txt : Pair → ByteArray) (len : Pair → Int) (l : List Pair) (ao : Option Addr) (cap : Nat) (w : World) (hl : l.length ≤ 1000000) (hG : GlobOk glob (stab w) w)
    (hb : ∀ p ∈ l, p.key.length ≤ 1000000 ∧ p.val.length ≤ 1000000 ∧ (txt p).size ≤ 1000) (htot : ∀ i, (linesOf txt (l.take i)).length ≤ 100000000000)
    (hLen : ∀ p ∈ l, kp E k n pax_Len [.agg [.str (str p.key), .str (str p.val)]] = some (.int .i64 (len p))) (hIt : ∀ p ∈ l, kp E k n strconv_Itoa [.int .i64 (len p)] = some (.str (txt p)))
    (hR : ∀ p ∈ l, kp E k n pax_Right [.agg [.str (str p.key), .str (str p.val)]] = some (.bool (pairOk p)))
    (hc : ∀ (i : Nat) (p : Pair), l[i]? = some p → ∃ a : Addr, ao = some a ∧ w.cell? (a.add (i * 2)) = some (.string (str p.key)) ∧ w.cell? (a.add (i * 2 + 1)) = some (.string (str p.val))) :
    Calls Tryz.prog 19 #[.slice ao l.length cap] w fun e w' => Below w.heap.size w w' ∧
      ((l.all pairOk = true ∧ ∃ r, e = .returned (.tuple #[r, .int .u8 0]) ∧ w'.ownsRow w.heap.size 5 1 r (linesOf txt l).length (Lib.byteCells (linesOf txt l))) ∨ (l.all pairOk = false ∧ e = .returned (.tuple #[.slice none 0 0, .int .u8 15]))) := by
  go_enter Tryz.func19, Tryz.ntmps19
  go_wp2
  go_loopw [9] (fun s9 wr => ∃ i : Nat, s9 = .int .i64 (i : Int) ∧ i ≤ l.length ∧ Lib.IsBuffer 77 5 w.heap.size w.heap.size (Lib.byteCells (linesOf txt (l.take i))) wr ∧ Below w.heap.size w wr ∧ (l.take i).all pairOk = true) (fun s9 wr => l.length - (intOf s9).toNat)
  case atStart =>
    exact ⟨0, rfl, by omega, Lib.fresh_isBuffer 77 5 w, (Below.refl _ w).alloc (Nat.le_refl _) _, rfl⟩
  case round =>
    obtain ⟨i, rfl, hi, hI, hbw, hall⟩ := hrel
    by_cases hlt : i < l.length
    · obtain ⟨p, hp⟩ : ∃ p, l[i]? = some p := ⟨l[i], List.getElem?_eq_getElem hlt⟩
      have hmem := List.mem_of_getElem? hp
      obtain ⟨a, rfl, hc0, hc1⟩ := hc i p hp
      obtain ⟨q1, q2, q3⟩ := hb p hmem
      have g0 : wr.cell? (a.add (i * 2)) = some (.string (str p.key)) := agree_below (agree_stab w) hbw _ _ hc0
      have g1 : wr.cell? { block := (a.add (i * 2)).block, off := (a.add (i * 2)).off + 1 } = some (.string (str p.val)) := by
        have h := agree_below (agree_stab w) hbw _ _ hc1
        rw [← Addr.add_add] at h
        exact h
      have hsz : w.heap.size ≤ wr.heap.size := hbw.size
      have hbw1 := hbw.alloc (show w.heap.size ≤ wr.heap.size by omega) (.cells #[.string (str p.key), .string (str p.val)] 42)
      go_wp2_with (go_at_call 26; refine (right_calls hB p (hR p hmem) (glob_below hG hbw1)).mono ?_)
      rintro e w1 ⟨rfl, b1⟩
      have hbw2 := hbw1.trans (b1.mono (show w.heap.size ≤ _ by rw [World.size_alloc]; omega))
      have hI1 := (hI.alloc (.cells #[.string (str p.key), .string (str p.val)] 42)).old b1
      cases hpo : pairOk p with
      | false =>
        go_wp2
        refine bodyPost_ret (results_tmp2 rfl _ _ _) rfl ?_
        exact ⟨hbw2, .inr ⟨List.all_eq_false.2 ⟨p, hmem, by rw [hpo]; simp⟩, rfl⟩⟩
      | true =>
        have hn := cell_two_new wr (.string (str p.key)) (.string (str p.val)) 42
        have e0 : w1.cell? ⟨wr.heap.size, 0, none⟩ = some (.string (str p.key)) := by
          rw [b1.cell (by rw [World.size_alloc]; exact Nat.lt_succ_self _)]
          exact hn 0 _ rfl
        have e1 : w1.cell? ⟨wr.heap.size, 1, none⟩ = some (.string (str p.val)) := by
          rw [b1.cell (by rw [World.size_alloc]; exact Nat.lt_succ_self _)]
          have := hn 1 _ rfl
          rwa [add_lit', Nat.zero_add] at this
        go_wp2
        refine reg7 hB p.key p.val (len p) (txt p) (hLen p hmem) (hIt p hmem) q3 q1 q2 (bt := wr.heap.size) rfl e0 e1 rfl rfl (glob_below hG hbw2) (o := op12) (by kernel_rfl) (fun _ => rfl) (by kernel_rfl) ?_
        intro a' w2 hj hsz2 hdf2 h27 b2
        rw [dst7] at hj
        have hI2 := hI1.old b2
        have hbw3 := hbw2.trans (b2.mono hbw2.size)
        have hln : (linesOf txt (l.take (i + 1))) = linesOf txt (l.take i) ++ (lineOf (txt p) p.key p.val).data.toList := by
          rw [List.take_add_one, hp]; exact lines_app txt _ p
        have htl := htot (i + 1)
        rw [hln, List.length_append] at htl
        refine write7 (hj.2 4 (by decide)) h27 hI2 hbw3.size (one_bytes _) (by rw [Lib.byteCells_length]; rw [size_toList] at htl; omega) fun v w3 k1 k2 => ?_
        rw [← Lib.byteCells_append, ← hln] at k1
        have ha' := arr31 hsz2
        obtain ⟨tm, df⟩ := a'
        rename_i hgo
        refine hgo _ _ ?_
        have z0 : tm.getD 0 undef = _ := hj.2 0 (by decide)
        have z1 : tm.getD 1 undef = _ := hj.2 1 (by decide)
        have z4 : tm.getD 4 undef = _ := hj.2 4 (by decide)
        have z5 : tm.getD 5 undef = _ := hj.2 5 (by decide)
        have z7 : tm.getD 7 undef = _ := hj.2 7 (by decide)
        have z8 : tm.getD 8 undef = _ := hj.2 8 (by decide)
        have z9 : tm.getD 9 undef = _ := hj.2 9 (by decide)
        have z30 : tm.getD 30 undef = _ := hj.2 30 (by decide)
        have ha2 : tm = _ := ha'
        have hdf3 : df = [] := hdf2
        subst hdf3
        rw [ha2]
        rw [z0, z1, z4, z5, z7, z8, z9, z30]
        generalize tm.getD 2 undef = y2
        generalize tm.getD 3 undef = y3
        generalize tm.getD 6 undef = y6
        generalize tm.getD 10 undef = y10
        generalize tm.getD 11 undef = y11
        generalize tm.getD 12 undef = y12
        generalize tm.getD 13 undef = y13
        generalize tm.getD 14 undef = y14
        generalize tm.getD 15 undef = y15
        generalize tm.getD 16 undef = y16
        generalize tm.getD 17 undef = y17
        generalize tm.getD 18 undef = y18
        generalize tm.getD 19 undef = y19
        generalize tm.getD 20 undef = y20
        generalize tm.getD 21 undef = y21
        generalize tm.getD 22 undef = y22
        generalize tm.getD 23 undef = y23
        generalize tm.getD 24 undef = y24
        generalize tm.getD 25 undef = y25
        generalize tm.getD 26 undef = y26
        generalize tm.getD 27 undef = y27
        generalize tm.getD 28 undef = y28
        generalize tm.getD 29 undef = y29
        simp only [Act.put]
        go_wp2
        go_roundw
        case rel =>
          exact ⟨i + 1, by simp, by omega, k1, hbw3.trans k2, by rw [List.take_add_one, hp]; simp [hall, hpo]⟩
        case measure =>
          show l.length - (intOf (.int .i64 ((i : Int) + 1))).toNat < l.length - (intOf (.int .i64 (i : Int))).toNat
          show l.length - ((i : Int) + 1).toNat < l.length - (i : Int).toNat
          omega
    · obtain rfl : i = l.length := by omega
      rw [List.take_length] at hI hall
      go_wp2_with (go_at_call 55; refine (Tryz.Buffer_Bytes w.heap.size w.heap.size _ _ hI).mono ?_)
      rintro e w1 ⟨v, rfl, hown, m, rfl⟩
      go_wp2
      refine bodyPost_ret (results_tmp2 rfl _ _ _) rfl ?_
      rw [Lib.byteCells_length] at hown
      exact ⟨⟨hbw.os, hbw.tape, hbw.output, hbw.size, hbw.block⟩, .inl ⟨hall, v, rfl, hown⟩⟩
end Go.Proofs.YtilbahgfjfcikaaGreatDoor.Eng.U


/- How many bytes a record has: both sides. -/
set_option linter.unusedVariables false
set_option linter.unusedSectionVars false
set_option linter.unusedSimpArgs false
namespace Go.Proofs.YtilbahgfjfcikaaGreatDoor.Eng.U
open Go Go.Proofs Go.Proofs.YtilbahgfjfcikaaGreatDoor.Eng Go.Proofs.YtilbahgfjfcikaaGreatDoor.P04
variable {E : Ext} [Core E] [HasNum E] {k n : Nat}

def dl (u : Nat) : Nat := (Lib.decDigits u).length
theorem dl_small {u : Nat} (h : u < 10) : dl u = 1 := by unfold dl; rw [Lib.decDigits, dif_pos h]; rfl
theorem dl_big {u : Nat} (h : ¬ u < 10) : dl u = dl (u / 10) + 1 := by unfold dl; rw [decDigits_rec h, List.length_append]; rfl
theorem dl_pos (u : Nat) : 1 ≤ dl u := by
  by_cases h : u < 10
  · rw [dl_small h]; exact Nat.le_refl _
  · rw [dl_big h]; omega
theorem dl_mono : ∀ (b a : Nat), a ≤ b → dl a ≤ dl b := by
  intro b
  induction b using Nat.strongRecOn with
  | ind b ih =>
    intro a h
    by_cases ha : a < 10
    · rw [dl_small ha]; exact dl_pos b
    · rw [dl_big ha, dl_big (show ¬ b < 10 by omega)]
      have := ih (b / 10) (by omega) (a / 10) (by omega)
      omega
theorem dl_le (u : Nat) (h : u ≤ 9223372036854775807) : dl u ≤ 21 := dig_len u (by omega)
def lenF : Nat → Nat → Nat → Nat
  | 0, rest, m => m
  | f + 1, rest, m => if rest + dl m = m then m else lenF f rest (rest + dl m)
def restP (p : Pair) : Nat := p.key.length + p.val.length + 3
def lenP (p : Pair) : Nat := lenF 30 (restP p) (restP p)
theorem lenF_fix (rest : Nat) (hr : rest ≤ 100000000) : ∀ (f m : Nat), m ≤ rest + dl m → rest + 21 < m + f → m ≤ rest + 21 → rest + dl (lenF f rest m) = lenF f rest m ∧ lenF f rest m ≤ rest + 21 ∧ ∀ q, rest + dl q = q → m ≤ q → lenF f rest m ≤ q
  | 0, m, h1, h2, h3 => by omega
  | f + 1, m, h1, h2, h3 => by
    unfold lenF
    split
    · rename_i h; exact ⟨h, h3, fun q _ hq => hq⟩
    · rename_i h
      have hd := dl_le m (by omega)
      have hm : m < rest + dl m := by omega
      have hmono := dl_mono (rest + dl m) m (by omega)
      obtain ⟨i1, i2, i3⟩ := lenF_fix rest hr f (rest + dl m) (by omega) (by omega) (by omega)
      exact ⟨i1, i2, fun q hq hmq => i3 q hq (by have := dl_mono q m hmq; omega)⟩
theorem itoa_nat (u : Nat) : Lib.itoa (u : Int) = Lib.decDigits u := by
  unfold Lib.itoa
  first | rw [if_neg (by omega)]; simp | simp
theorem len_loop (kap : FuncId → List AV → Option AV) (hI : ∀ u : Nat, u ≤ 9223372036854775807 → kap strconv_Itoa [.int .i64 (u : Int)] = some (.str (str (Lib.decDigits u)))) (rest : Nat) (hr : rest ≤ 100000000) :
    ∀ (f m k0 : Nat), m ≤ rest + dl m → rest + 21 < m + f → m ≤ rest + 21 → f < k0 → pax_Len_L0 kap k k0 ((rest : Nat) : Int) ((m : Nat) : Int) = some (.int .i64 (lenF f rest m : Nat))
  | 0, m, k0, h1, h2, h3, hk => by omega
  | f + 1, m, k0 + 1, h1, h2, h3, hk => by
    have hd := dl_le m (by omega)
    have hs : (Lib.decDigits m).length = dl m := rfl
    rw [pax_Len_L0_s, hI m (by omega), callS_ok, str_size, hs, i64w (by omega)]
    unfold lenF
    by_cases h : rest + dl m = m
    · rw [if_pos h, bif_t (by omega)]
    · rw [if_neg h, bif_f (by omega)]
      have hmono := dl_mono (rest + dl m) m (by omega)
      have := len_loop kap hI rest hr f (rest + dl m) k0 (by omega) (by omega) (by omega) (by omega)
      rw [← this]
      congr 1
theorem lenP_facts (p : Pair) (h1 : p.key.length ≤ 1000000) (h2 : p.val.length ≤ 1000000) : restP p + dl (lenP p) = lenP p ∧ lenP p ≤ restP p + 21 ∧ ∀ q, restP p + dl q = q → restP p ≤ q → lenP p ≤ q :=
  lenF_fix (restP p) (by unfold restP; omega) 30 (restP p) (by omega) (by omega) (by omega)
theorem paxLen_k (p : Pair) (h1 : p.key.length ≤ 1000000) (h2 : p.val.length ≤ 1000000) (hk : 100 < k) : kp E k (n + 1) pax_Len [.agg [.str (str p.key), .str (str p.val)]] = some (.int .i64 (lenP p : Nat)) := by
  have hI : ∀ u : Nat, u ≤ 9223372036854775807 → kp E k n strconv_Itoa [.int .i64 (u : Int)] = some (.str (str (Lib.decDigits u))) := fun u hu => by rw [HasNum.itoa k n _ (by omega) (by omega), itoa_nat]
  have := len_loop (k := k) (kp E k n) hI (restP p) (by unfold restP; omega) 30 (restP p) k (by omega) (by omega) (by omega) (by omega)
  rw [pax_Len_eq, str_size, str_size, i64w (x := ((p.key.length : Nat) : Int) + ((p.val.length : Nat) : Int)) (by omega), i64w (by omega)]
  rw [show ((p.key.length : Nat) : Int) + ((p.val.length : Nat) : Int) + 3 = ((restP p : Nat) : Int) by unfold restP; omega]
  exact this
end Go.Proofs.YtilbahgfjfcikaaGreatDoor.Eng.U


/- The program's own data as a row hands them in: what is read is some item, with bounds. -/
set_option linter.unusedVariables false
set_option linter.unusedSimpArgs false
namespace Go.Proofs.YtilbahgfjfcikaaGreatDoor.Eng.U
open Go Go.Proofs Go.Proofs.YtilbahgfjfcikaaGreatDoor.Eng Go.Proofs.YtilbahgfjfcikaaGreatDoor.Eng.Rdv

def InR (n : Int) : Prop := -9223372036854775808 ≤ n ∧ n ≤ 9223372036854775807
structure G_apiPair (p : Pair) : Prop where
  key : p.key.length ≤ 140737488351232
  val : p.val.length ≤ 140737488351232
structure G_apiTime (t : Time) : Prop where
  sec : InR t.sec
  nano : InR t.nano
structure G_apiHead (h : Head) : Prop where
  kind : InR h.kind
  name : h.name.length ≤ 140737488351232
  link : h.link.length ≤ 140737488351232
  mode : InR h.mode
  uid : InR h.uid
  gid : InR h.gid
  size : InR h.size
  sec : InR h.sec
  nano : InR h.nano
  user : h.user.length ≤ 140737488351232
  group : h.group.length ≤ 140737488351232
  major : InR h.major
  minor : InR h.minor
  extra : h.extra.length * 32 ≤ 140737488351232
  pairs : ∀ p ∈ h.extra, G_apiPair p
structure G_apiItem (x : Item) : Prop where
  head : G_apiHead x.head
  data : x.data.length ≤ 140737488351232
theorem rd_bytes : Rd Tryz.prog 27 (fun l : Tx => [.list 1 (bys l)]) (fun l => l.length ≤ 140737488351232) := by
  have h := sliceAt (sz := 1) (P := Tryz.prog) (t := 27) (e := 5) (B := 1) (en := fun n : Int => [.int .u8 n]) (fun n : Int => .int .u8 n) (fun _ => rfl) Tryz.underlying27 (by kernel_rfl) (by kernel_rfl) (by kernel_rfl) (int (k := .u8) Tryz.underlying5 (by kernel_rfl))
  refine ⟨fun _ => (by kernel_rfl), fun a b => ?_⟩
  obtain ⟨r, h1, h2, h3⟩ := h.out a b
  have e : r.map (fun n : Int => AV.int .u8 n) = bys (r.map fun n => UInt8.ofNat n.toNat) := by
    unfold bys
    rw [List.map_map]
    apply List.map_congr_left
    intro n hn
    have := h3 n hn
    simp [IntKind.min, IntKind.max, IntKind.signed, IntKind.bits] at this
    show AV.int .u8 n = byteAV (UInt8.ofNat n.toNat)
    have h8 : (UInt8.ofNat n.toNat).toNat = n.toNat := by rw [UInt8.toNat_ofNat']; omega
    simp only [byteAV, h8, Int.toNat_of_nonneg this.1]
  refine ⟨r.map fun n => UInt8.ofNat n.toNat, ?_, by simp; omega⟩
  rw [e] at h1
  exact h1
end Go.Proofs.YtilbahgfjfcikaaGreatDoor.Eng.U


/- The library's functions that the Dec laws call, in pieces: numbers to text and back, texts cut. -/
set_option linter.unusedVariables false
set_option linter.unusedSectionVars false
set_option linter.unusedSimpArgs false
namespace Go.Proofs.YtilbahgfjfcikaaGreatDoor.Eng.U
open Go Go.Proofs Go.Proofs.YtilbahgfjfcikaaGreatDoor.Eng Go.RowKit

theorem str_self (s : ByteArray) : str s.data.toList = s := by cases s; simp [str]
theorem ok_tup {f : FuncId} {args rs : List AV} (hr : rs.all (fun r => !r.isFresh && r.leaf) = true) (h : ∀ (S : Stab) (w : World) (vals : List Value), Agree S w → GlobOk glob S w → VL S args vals → Calls Tryz.prog f vals.toArray w fun e w' => ∃ vs : List Value, e = .returned (.tuple vs.toArray) ∧ rs.length = vs.length ∧ (∀ (S' : Stab) (j : Nat) (c : AV) (u : Value), rs[j]? = some c → vs[j]? = some u → V S' c u) ∧ Below w.heap.size w w') (hr2 : (args.all fun c => !c.isRes) = true := by rfl) : Ok Tryz.prog glob f args (.tup rs) := by
  refine Ok.of_plain (fun c hc => by simpa using List.all_eq_true.1 hr2 c hc) fun S w vals hag hG hV => ?_
  have key : ∀ (j : Nat) (c : AV), rs[j]? = some c → c.isFresh = false ∧ c.leaf = true := by
    intro j c hc
    have := List.all_eq_true.1 hr c (List.mem_of_getElem? hc)
    simpa using this
  refine (h S w vals hag hG hV).mono ?_
  rintro e w' ⟨vs, rfl, hl, hv, hb⟩
  refine ⟨_, S, rfl, fun _ _ h => h, agree_below hag hb, fun _ _ h => .inl h, hb, vs, rfl, hl, fun j c u hc hu => ?_, fun i j c d u v g hc hd hf => ?_⟩
  · have h1 := hv S j c u hc hu
    obtain ⟨h2, h3⟩ := key j c hc
    cases c <;> first | (cases h2; done) | (cases h3; done) | exact h1
  · rw [(key i c hc).1] at hf; cases hf
theorem V2 {S : Stab} {a b : AV} {u v : Value} (ha : V S a u) (hb : V S b v) : ∀ (j : Nat) (c : AV) (x : Value), [a, b][j]? = some c → [u, v][j]? = some x → V S c x := by
  intro j c x hc hx
  match j with
  | 0 => cases hc; cases hx; exact ha
  | 1 => cases hc; cases hx; exact hb
  | j + 2 => simp at hc
theorem eptr_inv {S : Stab} {cs : List AV} {off : Nat} {p : Value} (h : V S (.eptr cs off) p) : ∃ (a : Addr) (f : Nat → Value), p = .pointer (some (a.add off)) ∧ (∀ (j : Nat) (c : AV), cs[j]? = some c → S (a.add j) = some (f j)) ∧ (∀ (j : Nat) (c : AV), cs[j]? = some c → V S c (f j)) := by
  cases h with
  | eptr cs off a f g2 g3 g4 => exact ⟨a, f, rfl, g3, g4⟩
theorem glob_cell {S : Stab} {w : World} {g : Nat} {cs : List AV} (hag : Agree S w) (hG : GlobOk glob S w) (hg : glob g = some cs) (j : Nat) (c : AV) (hj : cs[j]? = some c) : ∃ u, w.cell? ⟨g, j, none⟩ = some u ∧ V S c u := by
  obtain ⟨h1, arr, t, f, h2, h3⟩ := hG g _ hg
  obtain ⟨a, fv, he, g3, g4⟩ := eptr_inv h1
  have ha : a.add j = ⟨g, j, none⟩ := by
    have he' : (⟨g, 0, none⟩ : Addr) = a.add 0 := by injection he with e; injection e
    obtain ⟨b, o, s⟩ := a
    cases s with
    | none => rw [add_lit', Nat.add_zero] at he'; cases he'; rw [add_lit', Nat.zero_add]
    | some s => simp [Addr.add] at he'
  have := hag _ _ (g3 j c hj)
  rw [ha] at this
  exact ⟨_, this, g4 j c hj⟩
theorem tab_of {S : Stab} {w : World} {g : Nat} {name : String} {k : IntKind} {zs : List Int} (hag : Agree S w) (hG : GlobOk glob S w) (hg : glob g = some (zs.map fun z => .int k z)) (hn : Tryz.prog.globalNamed name = some g) : Lib.TabIs Tryz.prog w name k zs := by
  obtain ⟨h1, arr, t, f, h2, h3⟩ := hG g _ hg
  unfold Lib.TabIs World.var?
  rw [hn]
  simp only [Option.bind_some, h2, Option.some.injEq]
  rw [List.length_map] at h3
  refine Array.ext' ?_
  refine List.ext_getElem? fun j => ?_
  by_cases hj : j < zs.length
  · obtain ⟨u, hu, hv⟩ := glob_cell hag hG hg j (.int k zs[j]) (by rw [List.getElem?_map, List.getElem?_eq_getElem hj]; rfl)
    rw [V_int hv] at hu
    have e : w.cell? ⟨g, j, none⟩ = arr[j]? := by simp [World.cell?, h2]
    rw [e] at hu
    rw [List.toList_toArray, List.getElem?_map, List.getElem?_eq_getElem hj]
    simpa using hu
  · rw [List.toList_toArray, List.getElem?_eq_none (by simp; omega), List.getElem?_eq_none (by simp; omega)]
theorem iface_of {S : Stab} {w : World} {g : Nat} (hag : Agree S w) (hG : GlobOk glob S w) (hg : glob g = some [.ifc]) : ∃ t v, w.cell? ⟨g, 0, none⟩ = some (.iface t v) := by
  obtain ⟨u, hu, hv⟩ := glob_cell hag hG hg 0 .ifc rfl
  cases hv
  exact ⟨_, _, hu⟩
theorem below_grow (w : World) (n : Nat) (os : Array Obj) : Below w.heap.size w (Sort.grow (w.drewN n) os) :=
  ⟨rfl, rfl, rfl, by simp [Sort.grow, World.drewN], fun k hk => by
    show (w.heap ++ os)[k]? = _
    rw [Array.getElem?_append_left hk]⟩

def pItoa : Piece := { f := strconv_Itoa, ans := fun args => match args with
  | [.int .i64 n] => bif decide (-9223372036854775808 ≤ n) && decide (n ≤ 9223372036854775807) then some (.str (str (Lib.itoa n))) else none
  | _ => none }
def pCutP : Piece := { f := strings_CutPrefix, ans := fun args => match args with
  | [.str s, .str p] => some (.tup [.str (str (Lib.trimPrefix s.data.toList p.data.toList)), .bool (Lib.hasPrefix s.data.toList p.data.toList)])
  | _ => none }
def one (c : ByteArray) : Option UInt8 := match c.data.toList with | [x] => some x | _ => none
theorem one_some {c : ByteArray} {x : UInt8} (h : one c = some x) : c = ⟨#[x]⟩ := by
  unfold one at h
  split at h
  · rename_i y e
    cases h
    obtain ⟨⟨l⟩⟩ := c
    simp at e
    rw [e]
  · cases h
def pIndex : Piece := { f := stringslite_Index, ans := fun args => match args with
  | [.str s, .str c] => (one c).bind fun x => some (.int .i64 (Lib.indexByte s.data.toList x))
  | _ => none }
def pIndexByte : Piece := { f := strings_IndexByte, ans := fun args => match args with
  | [.str s, .int .u8 c] => some (.int .i64 (Lib.indexByte s.data.toList c.toNat.toUInt8))
  | _ => none }
def pRepeat : Piece := { f := strings_Repeat, ans := fun args => match args with
  | [.str s, .int .i64 c] => bif decide (0 ≤ c) && decide (c ≤ 9223372036854775807) && decide (s.size * c.toNat ≤ 140737488355328) then some (.str (str (Lib.repeatL s.data.toList c.toNat))) else none
  | _ => none }
def pPInt : Piece := { f := strconv_ParseInt, ans := fun args => match args with
  | [.str s, .int .i64 b, .int .i64 z] => bif decide (b = 10) && decide (z = 64) && decide (s.size ≤ 281474976710656) then some (endI (Lib.parseIntB 64 s.data.toList) (Lib.intSat 64 s.data.toList)) else none
  | _ => none }
def pPUint : Piece := { f := strconv_ParseUint, ans := fun args => match args with
  | [.str s, .int .i64 b, .int .i64 z] => bif decide (b = 10) && decide (z = 64) && decide (s.size ≤ 281474976710656) then some (endU (Lib.parseUintB 64 s.data.toList)) else none
  | _ => none }
theorem itoa_right : pItoa.Right := by
  refine ⟨⟨Tryz.f54, Tryz.func54, by kernel_rfl, by kernel_rfl⟩, fun args res h => ?_⟩
  unfold pItoa at h
  dsimp only at h
  split at h
  · rename_i n
    obtain ⟨hc, h'⟩ := some_of_bif h
    clear h
    simp only [Bool.and_eq_true, decide_eq_true_eq] at hc
    obtain ⟨h1, h2⟩ := hc
    obtain rfl := Option.some.inj h'
    refine ok_pure ⟨rfl, rfl⟩ fun S w vals hag hG hV => ?_
    obtain ⟨v, rfl, hv⟩ := VL_1 hV
    obtain rfl := V_int hv
    refine (Tryz.strconv_Itoa n h1 h2 w (tab_of hag hG (g := 1) (zs := Lib.pow10Tab) rfl (by kernel_rfl))).mono ?_
    rintro e w' ⟨rfl, k, os, rfl⟩
    exact ⟨_, rfl, fun S' => V.str _, below_grow _ _ _⟩
  · cases h
theorem cutP_right : pCutP.Right := by
  refine ⟨⟨Tryz.f118, Tryz.func118, by kernel_rfl, by kernel_rfl⟩, fun args res h => ?_⟩
  unfold pCutP at h
  dsimp only at h
  split at h
  · rename_i s p
    obtain rfl := Option.some.inj h
    refine ok_tup rfl fun S w vals hag hG hV => ?_
    obtain ⟨v, u, rfl, hv, hu⟩ := VL_2 hV
    obtain rfl := V_str hv
    obtain rfl := V_str hu
    refine (Tryz.strings_CutPrefix s p w).mono ?_
    rintro e w' ⟨rfl, rfl⟩
    exact ⟨[_, _], rfl, rfl, fun S' => V2 (V.str _) (V.bool _), Below.refl _ _⟩
  · cases h
theorem index_right : pIndex.Right := by
  refine ⟨⟨Tryz.f136, Tryz.func136, by kernel_rfl, by kernel_rfl⟩, fun args res h => ?_⟩
  unfold pIndex at h
  dsimp only at h
  split at h
  · rename_i s c
    obtain ⟨x, hx, h⟩ := Option.bind_eq_some_iff.1 h
    obtain rfl := one_some hx
    obtain rfl := Option.some.inj h
    refine ok_pure ⟨rfl, rfl⟩ fun S w vals hag hG hV => ?_
    obtain ⟨v, u, rfl, hv, hu⟩ := VL_2 hV
    obtain rfl := V_str hv
    obtain rfl := V_str hu
    refine (Tryz.stringslite_Index_one s x w).mono ?_
    rintro e w' ⟨rfl, rfl⟩
    exact ⟨_, rfl, fun S' => V.int _ _, Below.refl _ _⟩
  · cases h
theorem indexByte_right : pIndexByte.Right := by
  refine ⟨⟨Tryz.f104, Tryz.func104, by kernel_rfl, by kernel_rfl⟩, fun args res h => ?_⟩
  unfold pIndexByte at h
  dsimp only at h
  split at h
  · rename_i s c
    obtain rfl := Option.some.inj h
    refine ok_pure ⟨rfl, rfl⟩ fun S w vals hag hG hV => ?_
    obtain ⟨v, u, rfl, hv, hu⟩ := VL_2 hV
    obtain rfl := V_str hv
    obtain rfl := V_int hu
    refine (Tryz.strings_IndexByte s c w).mono ?_
    rintro e w' ⟨rfl, rfl⟩
    exact ⟨_, rfl, fun S' => V.int _ _, Below.refl _ _⟩
  · cases h
theorem repeat_right : pRepeat.Right := by
  refine ⟨⟨Tryz.f121, Tryz.func121, by kernel_rfl, by kernel_rfl⟩, fun args res h => ?_⟩
  unfold pRepeat at h
  dsimp only at h
  split at h
  · rename_i s c
    obtain ⟨hc, h'⟩ := some_of_bif h
    clear h
    simp only [Bool.and_eq_true, decide_eq_true_eq] at hc
    obtain ⟨⟨h1, h2⟩, h3⟩ := hc
    obtain rfl := Option.some.inj h'
    refine ok_pure ⟨rfl, rfl⟩ fun S w vals hag hG hV => ?_
    obtain ⟨v, u, rfl, hv, hu⟩ := VL_2 hV
    obtain rfl := V_str hv
    obtain rfl := V_int hu
    obtain ⟨n, rfl⟩ := Int.eq_ofNat_of_zero_le h1
    rw [Int.toNat_natCast] at h3 ⊢
    refine (Tryz.strings_Repeat s n w (by omega) h3).mono ?_
    rintro e w' ⟨rfl, hb⟩
    exact ⟨_, rfl, fun S' => V.str _, hb⟩
  · cases h
theorem pInt_right : pPInt.Right := by
  refine ⟨⟨Tryz.f120, Tryz.func120, by kernel_rfl, by kernel_rfl⟩, fun args res h => ?_⟩
  unfold pPInt at h
  dsimp only at h
  split at h
  · rename_i s b z
    obtain ⟨hc, h'⟩ := some_of_bif h
    clear h
    simp only [Bool.and_eq_true, decide_eq_true_eq] at hc
    obtain ⟨⟨rfl, rfl⟩, h3⟩ := hc
    obtain rfl := Option.some.inj h'
    cases he : Lib.parseIntB 64 s.data.toList with
    | ok v =>
      refine ok_tup rfl fun S w vals hag hG hV => ?_
      obtain ⟨v1, v2, v3, rfl, g1, g2, g3⟩ := VL_3 hV
      obtain rfl := V_str g1
      obtain rfl := V_int g2
      obtain rfl := V_int g3
      refine (Tryz.strconv_ParseInt_10_at64_ok s (by omega) v he w).mono ?_
      rintro e w' ⟨rfl, hw⟩
      refine ⟨[_, _], rfl, rfl, fun S' => V2 (V.int _ _) V.nili, ?_⟩
      rcases hw with rfl | ⟨t, rfl⟩
      · exact Below.refl _ _
      · exact Lib.bytesWorld_below _ _ _
    | range =>
      refine ok_tup rfl fun S w vals hag hG hV => ?_
      obtain ⟨v1, v2, v3, rfl, g1, g2, g3⟩ := VL_3 hV
      obtain rfl := V_str g1
      obtain rfl := V_int g2
      obtain rfl := V_int g3
      obtain ⟨t, v, hi⟩ := iface_of (g := 6) hag hG rfl
      refine (Tryz.strconv_ParseInt_10_at64_range s h3 he _ w hi (.inr ⟨_, _, rfl⟩)).mono ?_
      rintro e w' ⟨N, rfl, _, _, hb⟩
      exact ⟨[_, _], rfl, rfl, fun S' => V2 (V.int _ _) (V.ifc _ _), hb⟩
    | _ =>
      refine ok_tup rfl fun S w vals hag hG hV => ?_
      obtain ⟨v1, v2, v3, rfl, g1, g2, g3⟩ := VL_3 hV
      obtain rfl := V_str g1
      obtain rfl := V_int g2
      obtain rfl := V_int g3
      obtain ⟨t, v, hi⟩ := iface_of (g := 5) hag hG rfl
      refine (Tryz.strconv_ParseInt_10_at64_syntax s h3 he _ w hi (.inr ⟨_, _, rfl⟩)).mono ?_
      rintro e w' ⟨N, rfl, _, _, hb⟩
      exact ⟨[_, _], rfl, rfl, fun S' => V2 (V.int _ _) (V.ifc _ _), hb⟩
  · cases h
theorem pUint_right : pPUint.Right := by
  refine ⟨⟨Tryz.f141, Tryz.func141, by kernel_rfl, by kernel_rfl⟩, fun args res h => ?_⟩
  unfold pPUint at h
  dsimp only at h
  split at h
  · rename_i s b z
    obtain ⟨hc, h'⟩ := some_of_bif h
    clear h
    simp only [Bool.and_eq_true, decide_eq_true_eq] at hc
    obtain ⟨⟨rfl, rfl⟩, h3⟩ := hc
    obtain rfl := Option.some.inj h'
    cases he : Lib.parseUintB 64 s.data.toList with
    | ok v =>
      refine ok_tup rfl fun S w vals hag hG hV => ?_
      obtain ⟨v1, v2, v3, rfl, g1, g2, g3⟩ := VL_3 hV
      obtain rfl := V_str g1
      obtain rfl := V_int g2
      obtain rfl := V_int g3
      refine (Tryz.strconv_ParseUint_10_at64_ok s (by omega) v he w).mono ?_
      rintro e w' ⟨rfl, hw⟩
      refine ⟨[_, _], rfl, rfl, fun S' => V2 (V.int _ _) V.nili, ?_⟩
      rcases hw with rfl | rfl
      · exact Below.refl _ _
      · exact Lib.bytesWorld_below _ _ _
    | range =>
      refine ok_tup rfl fun S w vals hag hG hV => ?_
      obtain ⟨v1, v2, v3, rfl, g1, g2, g3⟩ := VL_3 hV
      obtain rfl := V_str g1
      obtain rfl := V_int g2
      obtain rfl := V_int g3
      obtain ⟨t, v, hi⟩ := iface_of (g := 6) hag hG rfl
      refine (Tryz.strconv_ParseUint_10_at64_range s h3 he _ w hi (.inr ⟨_, _, rfl⟩)).mono ?_
      rintro e w' ⟨N, rfl, _, _, hb⟩
      exact ⟨[_, _], rfl, rfl, fun S' => V2 (V.int _ _) (V.ifc _ _), hb⟩
    | _ =>
      refine ok_tup rfl fun S w vals hag hG hV => ?_
      obtain ⟨v1, v2, v3, rfl, g1, g2, g3⟩ := VL_3 hV
      obtain rfl := V_str g1
      obtain rfl := V_int g2
      obtain rfl := V_int g3
      obtain ⟨t, v, hi⟩ := iface_of (g := 5) hag hG rfl
      refine (Tryz.strconv_ParseUint_10_at64_syntax s h3 he _ w hi (.inr ⟨_, _, rfl⟩)).mono ?_
      rintro e w' ⟨N, rfl, _, _, hb⟩
      exact ⟨[_, _], rfl, rfl, fun S' => V2 (V.int _ _) (V.ifc _ _), hb⟩
  · cases h
def ps04 : List Piece := [pItoa, pCutP, pIndex, pIndexByte, pRepeat, pPInt, pPUint]
def ext04 : Ext := extOf ps04
instance core04 : Core ext04 := core_of (by kernel_rfl)
theorem num_of {ps : List Piece} (h2 : ps.find? (fun q => q.f == pItoa.f) = some pItoa) (h3 : ps.find? (fun q => q.f == pCutP.f) = some pCutP) (h5 : ps.find? (fun q => q.f == pIndex.f) = some pIndex) (h6 : ps.find? (fun q => q.f == pIndexByte.f) = some pIndexByte) (h7 : ps.find? (fun q => q.f == pRepeat.f) = some pRepeat) (h8 : ps.find? (fun q => q.f == pPInt.f) = some pPInt) (h9 : ps.find? (fun q => q.f == pPUint.f) = some pPUint) : HasNum (extOf ps) where
  itoa k n v g0 g1 := (kp_piece (k := k) (n := n) h2).trans (by
    show (bif decide (-9223372036854775808 ≤ v) && decide (v ≤ 9223372036854775807) then _ else none) = _
    rw [decide_eq_true g0, decide_eq_true g1]
    rfl)
  cutP k n s p := (kp_piece (k := k) (n := n) h3).trans rfl
  index k n s x := (kp_piece (k := k) (n := n) h5).trans rfl
  indexB k n s c := (kp_piece (k := k) (n := n) h6).trans rfl
  rep k n s c g0 g1 := (kp_piece (k := k) (n := n) h7).trans (by
    show (bif decide ((0 : Int) ≤ (c : Int)) && decide ((c : Int) ≤ 9223372036854775807) && decide ((str s).size * (Int.toNat (c : Int)) ≤ 140737488355328) then some (AV.str (str (Lib.repeatL s (Int.toNat (c : Int))))) else none) = _
    rw [str_size, Int.toNat_natCast, decide_eq_true (show (0 : Int) ≤ (c : Int) by omega), decide_eq_true (show (c : Int) ≤ 9223372036854775807 by omega), decide_eq_true g1]
    rfl)
  pint k n s g0 := (kp_piece (k := k) (n := n) h8).trans (by
    show (bif decide ((10 : Int) = 10) && decide ((64 : Int) = 64) && decide ((str s).size ≤ 281474976710656) then _ else none) = _
    rw [str_size, decide_eq_true g0]
    rfl)
  puint k n s g0 := (kp_piece (k := k) (n := n) h9).trans (by
    show (bif decide ((10 : Int) = 10) && decide ((64 : Int) = 64) && decide ((str s).size ≤ 281474976710656) then _ else none) = _
    rw [str_size, decide_eq_true g0]
    rfl)
instance num04 : HasNum ext04 := num_of rfl rfl rfl rfl rfl rfl rfl
end Go.Proofs.YtilbahgfjfcikaaGreatDoor.Eng.U


/- ItemFulls answers true. -/
set_option linter.unusedVariables false
set_option linter.unusedSectionVars false
set_option linter.unusedSimpArgs false
namespace Go.Proofs.YtilbahgfjfcikaaGreatDoor.Eng.U
open Go Go.Proofs Go.Proofs.YtilbahgfjfcikaaGreatDoor.Eng Go.Proofs.YtilbahgfjfcikaaGreatDoor.P04
variable {E : Ext} [Core E] [HasNum E] [HasText E] {k n : Nat}

end Go.Proofs.YtilbahgfjfcikaaGreatDoor.Eng.U


/- Overlays in plain words: the order of keys, what is laid. No program. -/
set_option linter.unusedVariables false
set_option linter.unusedSimpArgs false
namespace Go.Proofs.YtilbahgfjfcikaaGreatDoor.Eng.U
open Go Go.Proofs Go.Proofs.YtilbahgfjfcikaaGreatDoor.Eng

theorem u8_lt_irrefl (a : UInt8) : ¬ a < a := fun h => by rw [UInt8.lt_iff_toNat_lt] at h; omega
theorem lt_irr : ∀ a : Tx, Op.bytesLess a a = false
  | [] => rfl
  | a :: x => by
    unfold Op.bytesLess
    rw [lt_irr x, decide_eq_false (u8_lt_irrefl a), Bool.and_false, Bool.or_false]
theorem lt_cons (a b : UInt8) (x y : Tx) : Op.bytesLess (a :: x) (b :: y) = true ↔ a.toNat < b.toNat ∨ a = b ∧ Op.bytesLess x y = true := by
  rw [Op.bytesLess, Bool.or_eq_true, Bool.and_eq_true, decide_eq_true_eq, beq_iff_eq, UInt8.lt_iff_toNat_lt]
theorem lt_tr : ∀ {a b c : Tx}, Op.bytesLess a b = true → Op.bytesLess b c = true → Op.bytesLess a c = true
  | _, _, [], _, h => by cases ‹Tx› <;> simp [Op.bytesLess] at h
  | [], _, _ :: _, _, _ => rfl
  | a :: x, [], c :: z, h, _ => by simp [Op.bytesLess] at h
  | a :: x, b :: y, c :: z, h1, h2 => by
    rw [lt_cons] at *
    rcases h1 with h1 | ⟨rfl, h1⟩
    · rcases h2 with h2 | ⟨rfl, h2⟩
      · left; omega
      · left; exact h1
    · rcases h2 with h2 | ⟨rfl, h2⟩
      · left; exact h2
      · right; exact ⟨rfl, lt_tr h1 h2⟩
theorem lt_tot : ∀ {a b : Tx}, Op.bytesLess a b = false → a ≠ b → Op.bytesLess b a = true
  | [], [], _, h => absurd rfl h
  | [], _ :: _, h, _ => by simp [Op.bytesLess] at h
  | _ :: _, [], _, _ => rfl
  | a :: x, b :: y, h, hn => by
    rw [lt_cons]
    have h' : ¬ (a.toNat < b.toNat ∨ a = b ∧ Op.bytesLess x y = true) := by rw [← lt_cons, h]; simp
    by_cases e : a = b
    · subst e
      right
      refine ⟨rfl, lt_tot ?_ fun e => hn (by rw [e])⟩
      cases hq : Op.bytesLess x y with
      | false => rfl
      | true => exact absurd (.inr ⟨rfl, hq⟩) h'
    · left
      have : a.toNat ≠ b.toNat := fun h => e (UInt8.toNat_inj.1 h)
      omega
theorem lt_asym {a b : Tx} (h : Op.bytesLess a b = true) : Op.bytesLess b a = false := by
  cases hq : Op.bytesLess b a with
  | false => rfl
  | true => have := lt_tr h hq; rw [lt_irr] at this; cases this
theorem not_le (a b : Tx) : (!(Op.bytesLess a b || decide (a = b))) = Op.bytesLess b a := by
  by_cases e : a = b
  · subst e; rw [decide_eq_true rfl, Bool.or_true, lt_irr]; rfl
  · rw [decide_eq_false e, Bool.or_false]
    cases h : Op.bytesLess a b with
    | true => rw [lt_asym h]; rfl
    | false => rw [lt_tot h e]; rfl

end Go.Proofs.YtilbahgfjfcikaaGreatDoor.Eng.U


/- Overlays: what both sides answer, in plain words. -/
set_option linter.unusedVariables false
set_option linter.unusedSectionVars false
set_option linter.unusedSimpArgs false
namespace Go.Proofs.YtilbahgfjfcikaaGreatDoor.Eng.U
open Go Go.Proofs Go.Proofs.YtilbahgfjfcikaaGreatDoor.Eng Go.Proofs.YtilbahgfjfcikaaGreatDoor.P04
variable {E : Ext} [Core E] [HasNum E] {k n : Nat}

theorem snoc_len (pre : List Pair) (p : Pair) : ((pre.length : Nat) : Int) + 1 = (((pre ++ [p]).length : Nat) : Int) := by simp
theorem same_loop (kap : FuncId → List AV → Option AV) (suf : List Pair) : ∀ (pre suf' pre' : List Pair) (k0 : Nat), suf.length < k0 → pre.length = pre'.length → suf.length = suf'.length → (pre ++ suf).length ≤ 1000000 →
    ref07_Same_L0 kap k k0 (prs (pre ++ suf)) (prs (pre' ++ suf')) ((pre.length : Nat) : Int) = some (.bool (decide (suf = suf'))) := by
  induction suf with
  | nil =>
    intro pre suf' pre' k0 h hp hs hb
    obtain ⟨m, rfl⟩ : ∃ m, k0 = m + 1 := ⟨k0 - 1, by simp only [List.length_nil] at h; omega⟩
    obtain rfl : suf' = [] := List.length_eq_zero_iff.1 hs.symm
    rw [ref07_Same_L0_s, prs_len, bif_f (by simp)]
    rfl
  | cons p suf ih =>
    intro pre suf' pre' k0 h hp hs hb
    obtain ⟨m, rfl⟩ : ∃ m, k0 = m + 1 := ⟨k0 - 1, by simp only [List.length_cons] at h; omega⟩
    cases suf' with
    | nil => cases hs
    | cons q suf' =>
      have h' : suf.length < m := by simp only [List.length_cons] at h; omega
      have hb' : pre.length + (suf.length + 1) ≤ 1000000 := by simp only [List.length_append, List.length_cons] at hb; exact hb
      have hs' : suf.length = suf'.length := by simp only [List.length_cons] at hs; omega
      have hi := ih (pre ++ [p]) suf' (pre' ++ [q]) m h' (by simp [hp]) hs' (by simp only [List.length_append, List.length_cons, List.length_nil]; omega)
      rw [← snoc_len, List.append_assoc, List.append_assoc, List.singleton_append, List.singleton_append] at hi
      have key : ∀ {β : Type} (F : AV → Option β), ((prs (pre' ++ q :: suf'))[pre.length]?).bind F = F (elPair q) := by
        intro β F; rw [hp, prs_mid]
      rw [ref07_Same_L0_s, prs_len, prs_len, mid_len, mid_len, bif_t (by omega), bif_a, bif_t (by omega), bif_t (by omega), Int.toNat_natCast, prs_mid, cells_pair, p_0, p_1, bif_a, bif_t (by omega), bif_t (by omega), key, cells_pair, p_0, p_1, str_dec, str_dec, i64w (by omega), hi]
      have e : decide (p :: suf = q :: suf') = ((decide (p.key = q.key) && (decide (p.val = q.val) && true)) && decide (suf = suf')) := by
        have e0 : (p :: suf = q :: suf') ↔ (p.key = q.key ∧ p.val = q.val) ∧ suf = suf' := by
          rw [List.cons.injEq]; cases p; cases q; simp
        have e1 : decide (p :: suf = q :: suf') = decide ((p.key = q.key ∧ p.val = q.val) ∧ suf = suf') := decide_eq_decide.2 e0
        rw [e1]
        by_cases a1 : p.key = q.key <;> by_cases a2 : p.val = q.val <;> by_cases a3 : suf = suf' <;> simp [a1, a2, a3]
      rw [e]
      cases decide (p.key = q.key) && (decide (p.val = q.val) && true) <;> rfl
theorem pSame_k (a b : List Pair) (ha : a.length ≤ 1000000) (hk : a.length < k) : kp E k (n + 1) ref07_Same [.list 2 (prs a), .list 2 (prs b)] = some (.bool (decide (a = b))) := by
  rw [ref07_Same_eq, prs_len, prs_len]
  by_cases h : a.length = b.length
  · rw [decide_eq_true (by omega), Bool.not_true, cond_false]
    have := same_loop (k := k) (kp E k n) a [] b [] k hk rfl h (by simpa using ha)
    exact this
  · rw [decide_eq_false (by omega), Bool.not_false, cond_true, decide_eq_false (fun e => h (by rw [e]))]
end Go.Proofs.YtilbahgfjfcikaaGreatDoor.Eng.U


/- Which field of a head is the first that isn't right: both sides. -/
set_option linter.unusedVariables false
set_option linter.unusedSectionVars false
set_option linter.unusedSimpArgs false
namespace Go.Proofs.YtilbahgfjfcikaaGreatDoor.Eng.U
open Go Go.Proofs Go.Proofs.YtilbahgfjfcikaaGreatDoor.Eng Go.Proofs.YtilbahgfjfcikaaGreatDoor.P04
variable {E : Ext} [Core E] [HasNum E] {k n k0 : Nat}

def nameOk (s : List UInt8) : Bool := decide (s ≠ []) && (decide (s.length ≤ 65536) && clean s)
def links (h : Head) : Bool := decide (h.kind = 2) || decide (h.kind = 3)
def f1 (h : Head) : Bool := decide (h.kind ≥ 1) && decide (h.kind ≤ 7)
def f2 (h : Head) : Bool := nameOk h.name && !(decide (h.kind = 1) && sl h.name)
def f3 (h : Head) : Bool := bif links h then nameOk h.link else decide (h.link = [])
def f4 (h : Head) : Bool := decide (h.mode ≥ 0)
def f5 (h : Head) : Bool := decide (h.uid ≥ 0)
def f6 (h : Head) : Bool := decide (h.gid ≥ 0)
def f7 (h : Head) : Bool := decide (h.size = 0) || (decide (h.size > 0) && decide (h.kind = 1))
def f8 (h : Head) : Bool := rightT h.nano
end Go.Proofs.YtilbahgfjfcikaaGreatDoor.Eng.U


/- Which field of a head is the first that isn't right: the reference's side. -/
set_option linter.unusedVariables false
set_option linter.unusedSectionVars false
set_option linter.unusedSimpArgs false
namespace Go.Proofs.YtilbahgfjfcikaaGreatDoor.Eng.U
open Go Go.Proofs Go.Proofs.YtilbahgfjfcikaaGreatDoor.Eng Go.Proofs.YtilbahgfjfcikaaGreatDoor.P04
variable {E : Ext} [Core E] [HasNum E] {k n k0 : Nat}

end Go.Proofs.YtilbahgfjfcikaaGreatDoor.Eng.U


/- Which field of a head is the first that isn't right: the reference's side. -/
set_option linter.unusedVariables false
set_option linter.unusedSectionVars false
set_option linter.unusedSimpArgs false
namespace Go.Proofs.YtilbahgfjfcikaaGreatDoor.Eng.U
open Go Go.Proofs Go.Proofs.YtilbahgfjfcikaaGreatDoor.Eng Go.Proofs.YtilbahgfjfcikaaGreatDoor.P04
variable {E : Ext} [Core E] [HasNum E] {k n k0 : Nat}

end Go.Proofs.YtilbahgfjfcikaaGreatDoor.Eng.U


/- Which field of a head is the first that isn't right: the reference's side. -/
set_option linter.unusedVariables false
set_option linter.unusedSectionVars false
set_option linter.unusedSimpArgs false
namespace Go.Proofs.YtilbahgfjfcikaaGreatDoor.Eng.U
open Go Go.Proofs Go.Proofs.YtilbahgfjfcikaaGreatDoor.Eng Go.Proofs.YtilbahgfjfcikaaGreatDoor.P04
variable {E : Ext} [Core E] [HasNum E] {k n k0 : Nat}

end Go.Proofs.YtilbahgfjfcikaaGreatDoor.Eng.U


/- ItemWrong in plain words: it answers true. -/
set_option linter.unusedVariables false
set_option linter.unusedSectionVars false
set_option linter.unusedSimpArgs false
namespace Go.Proofs.YtilbahgfjfcikaaGreatDoor.Eng.U
open Go Go.Proofs Go.Proofs.YtilbahgfjfcikaaGreatDoor.Eng Go.Proofs.YtilbahgfjfcikaaGreatDoor.P04
variable {E : Ext} [Core E] [HasNum E] {k n : Nat}

end Go.Proofs.YtilbahgfjfcikaaGreatDoor.Eng.U


/- ItemFulls over the library's pieces: strings.IndexAny at "=\\x00", decoding beside the numbers' own. -/
set_option linter.unusedVariables false
set_option linter.unusedSectionVars false
set_option linter.unusedSimpArgs false
namespace Go.Proofs.YtilbahgfjfcikaaGreatDoor.Eng.U
open Go Go.Proofs Go.Proofs.YtilbahgfjfcikaaGreatDoor.Eng Go.RowKit

/-- The tables of the decoder, off the variables. -/
theorem utf_tabs {S : Stab} {w : World} (hag : Agree S w) (hG : GlobOk glob S w) : Lib.Utf8Tabs 3 4 w := by
  refine ⟨fun c hc => ?_, fun i hi => ?_⟩
  · obtain ⟨u, hu, hv⟩ := glob_cell (g := 3) hag hG rfl c (.int .u8 (Lib.firstT c : Int)) (by rw [List.getElem?_map, List.getElem?_range hc]; rfl)
    rw [V_int hv] at hu
    exact hu
  · obtain ⟨u, hu, hv⟩ := glob_cell (g := 4) hag hG rfl (2 * i) (.int .u8 (Lib.accLo i : Int)) (by
      rw [List.getElem?_map, List.getElem?_range (by omega)]
      show some (AV.int .u8 (((if 2 * i % 2 = 0 then Lib.accLo (2 * i / 2) else Lib.accHi (2 * i / 2) : Nat) : Int))) = _
      rw [if_pos (by omega), show 2 * i / 2 = i from by omega])
    obtain ⟨u', hu', hv'⟩ := glob_cell (g := 4) hag hG rfl (2 * i + 1) (.int .u8 (Lib.accHi i : Int)) (by
      rw [List.getElem?_map, List.getElem?_range (by omega)]
      show some (AV.int .u8 (((if (2 * i + 1) % 2 = 0 then Lib.accLo ((2 * i + 1) / 2) else Lib.accHi ((2 * i + 1) / 2) : Nat) : Int))) = _
      rw [if_neg (by omega), show (2 * i + 1) / 2 = i from by omega])
    rw [V_int hv] at hu
    rw [V_int hv'] at hu'
    exact ⟨hu, hu'⟩
def pDec : Piece := { f := unicode_utf8_DecodeRuneInString, ans := fun args => match args with
  | [.str s] => some (.tup [.int .i32 (Lib.decodeGo s).1, .int .i64 (Lib.decodeGo s).2])
  | _ => none }
theorem dec_right : pDec.Right := by
  refine ⟨⟨Tryz.f137, Tryz.func137, by kernel_rfl, by kernel_rfl⟩, fun args res h => ?_⟩
  unfold pDec at h
  dsimp only at h
  split at h
  · rename_i s
    obtain rfl := Option.some.inj h
    refine ok_tup rfl fun S w vals hag hG hV => ?_
    obtain ⟨v, rfl, hv⟩ := VL_1 hV
    obtain rfl := V_str hv
    refine (Tryz.utf8_DecodeRuneInString s w (utf_tabs hag hG)).mono ?_
    rintro e w' ⟨rfl, hb⟩
    exact ⟨[_, _], rfl, rfl, fun S' => V2 (V.int _ _) (V.int _ _), hb⟩
  · cases h
def ps09a : List Piece := [pItoa, pCutP, pIndex, pIndexByte, pRepeat, pPInt, pPUint, pDec]
def ext09a : Ext := { extOf ps09a with fs := strings_IndexAny :: coreFs }
theorem good09b (k : Nat) : (bs (extOf ps09a) k).Good := good_of (fun p hp => by
  simp only [ps09a, List.mem_cons, List.not_mem_nil, or_false] at hp
  rcases hp with rfl | rfl | rfl | rfl | rfl | rfl | rfl | rfl
  · exact itoa_right
  · exact cutP_right
  · exact index_right
  · exact indexByte_right
  · exact repeat_right
  · exact pInt_right
  · exact pUint_right
  · exact dec_right) names_ok k
theorem good09a (k : Nat) : (bs ext09a k).Good := { mixed := by kernel_rfl, names := by kernel_rfl, base := (good09b k).base }
instance core09a : Core ext09a where
  isB f hf := (core_of (ps := ps09a) (by kernel_rfl)).isB f hf
  has f hf := by
    show (strings_IndexAny :: coreFs).contains f = true
    rw [List.contains_cons, hf, Bool.or_true]
instance ib09a : HasIB ext09a := ⟨fun k n s c => (kp_base (E := ext09a) (by kernel_rfl)).trans rfl⟩
noncomputable def pAny : Piece := { f := strings_IndexAny, ans := fun args => match args with
  | [.str s, .str c] => bif decide (c = str [61, 0]) && decide (s.size ≤ 1000000) then (bif decide (8 < s.size) then some (.int .i64 (Lib.indexAny s.data.toList [61, 0])) else (bs ext09a 100).kap 3 strings_IndexAny [.str s, .str c]) else none
  | _ => none }
theorem any_right : pAny.Right := by
  refine ⟨⟨Tryz.f93, Tryz.func93, by kernel_rfl, by kernel_rfl⟩, fun args res h => ?_⟩
  unfold pAny at h
  dsimp only at h
  split at h
  · rename_i s c
    obtain ⟨hc, h'⟩ := some_of_bif h
    clear h
    simp only [Bool.and_eq_true, decide_eq_true_eq] at hc
    obtain ⟨rfl, h1⟩ := hc
    by_cases h8 : 8 < s.size
    · rw [decide_eq_true h8, cond_true] at h'
      obtain rfl := Option.some.inj h'
      refine ok_pure ⟨rfl, rfl⟩ fun S w vals hag hG hV => ?_
      obtain ⟨v, u, rfl, hv, hu⟩ := VL_2 hV
      obtain rfl := V_str hv
      obtain rfl := V_str hu
      have h2 : ∀ (j : Nat) b, (str [61, 0]).data.toList[j]? = some b → b.toNat < 128 := by
        intro j b hb
        match j, hb with
        | 0, hb => cases hb; decide
        | 1, hb => cases hb; decide
        | j + 2, hb => simp [str] at hb
      refine (Tryz.strings_IndexAny_long (fun w => by kernel_rfl) s (str [61, 0]) w (by decide) h8 (by omega) (by decide) h2).mono ?_
      rintro e w' ⟨rfl, rfl⟩
      exact ⟨_, rfl, fun S' => V.int _ _, ((Below.refl _ _).alloc (Nat.le_refl _) _).alloc (by simp) _⟩
    · rw [decide_eq_false h8, cond_false] at h'
      exact Base.ok (good09a 100) h'
  · cases h
noncomputable def ps09 : List Piece := [pItoa, pCutP, pIndex, pIndexByte, pRepeat, pPInt, pPUint, pDec, pAny]
noncomputable def ext09 : Ext := extOf ps09
instance core09 : Core ext09 := core_of (by kernel_rfl)
instance num09 : HasNum ext09 := num_of rfl rfl rfl rfl rfl rfl rfl
instance text09 : HasText ext09 where
  dec k n s := ⟨_, _, (kp_piece (ps := ps09) (p := pDec) (k := k) (n := n) (args := [.str (str s)]) rfl).trans rfl⟩
  idx k n s hs := by
    have h := kp_piece (ps := ps09) (p := pAny) (k := k) (n := n) (args := [.str (str s), .str (str [61, 0])]) rfl
    have e : pAny.ans [.str (str s), .str (str [61, 0])] = (bif decide (str [61, 0] = str [61, 0]) && decide ((str s).size ≤ 1000000) then (bif decide (8 < (str s).size) then some (.int .i64 (Lib.indexAny (str s).data.toList [61, 0])) else (bs ext09a 100).kap 3 strings_IndexAny [.str (str s), .str (str [61, 0])]) else none) := rfl
    rw [e, str_size, decide_eq_true rfl, decide_eq_true hs, Bool.true_and, cond_true] at h
    by_cases h8 : 8 < s.length
    · rw [decide_eq_true h8, cond_true] at h
      exact ⟨_, h⟩
    · rw [decide_eq_false h8, cond_false] at h
      obtain ⟨r, hr⟩ := any_short (E := ext09a) (k := 100) (n := 0) (by kernel_rfl) (by kernel_rfl) (by omega) s (by omega)
      exact ⟨r, h.trans hr⟩
theorem good09 (k : Nat) : (bs ext09 k).Good := good_of (fun p hp => by
  simp only [ps09, List.mem_cons, List.not_mem_nil, or_false] at hp
  rcases hp with rfl | rfl | rfl | rfl | rfl | rfl | rfl | rfl | rfl
  · exact itoa_right
  · exact cutP_right
  · exact index_right
  · exact indexByte_right
  · exact repeat_right
  · exact pInt_right
  · exact pUint_right
  · exact dec_right
  · exact any_right) names_ok k
instance textV09 : HasTextV ext09 where
  dec k n s := (kp_piece (ps := ps09) (p := pDec) (k := k) (n := n) (args := [.str s]) rfl).trans rfl
  idx k n s hs := by
    have h := kp_piece (ps := ps09) (p := pAny) (k := k) (n := n) (args := [.str (str s), .str (str [61, 0])]) rfl
    have e : pAny.ans [.str (str s), .str (str [61, 0])] = (bif decide (str [61, 0] = str [61, 0]) && decide ((str s).size ≤ 1000000) then (bif decide (8 < (str s).size) then some (.int .i64 (Lib.indexAny (str s).data.toList [61, 0])) else (bs ext09a 100).kap 3 strings_IndexAny [.str (str s), .str (str [61, 0])]) else none) := rfl
    rw [e, str_size, decide_eq_true rfl, decide_eq_true hs, Bool.true_and, cond_true] at h
    by_cases h8 : 8 < s.length
    · rw [decide_eq_true h8, cond_true] at h
      exact ⟨_, h, any_long_v s⟩
    · rw [decide_eq_false h8, cond_false] at h
      obtain ⟨r, hr, hv⟩ := any_short_v (E := ext09a) (k := 100) (n := 0) (by kernel_rfl) (by kernel_rfl) (by omega) s (by omega)
      exact ⟨r, h.trans hr, hv⟩
end Go.Proofs.YtilbahgfjfcikaaGreatDoor.Eng.U


/- pax.Print as a given function: the lines of the pairs, a new row. -/
set_option linter.unusedVariables false
set_option linter.unusedSectionVars false
set_option linter.unusedSimpArgs false
namespace Go.Proofs.YtilbahgfjfcikaaGreatDoor.Eng.U
open Go Go.RowKit Go.Proofs Go.Proofs.YtilbahgfjfcikaaGreatDoor.Eng Go.Proofs.YtilbahgfjfcikaaGreatDoor.Eng.Rdv

def toPrs : List AV → Option (List Pair)
  | [] => some []
  | .agg [.str x, .str y] :: l => (toPrs l).map fun r => ⟨x.data.toList, y.data.toList⟩ :: r
  | _ => none
theorem toPrs_prs : ∀ l : List Pair, toPrs (prs l) = some l
  | [] => rfl
  | p :: l => by
    show (toPrs (prs l)).map (fun r => (⟨(str p.key).data.toList, (str p.val).data.toList⟩ : Pair) :: r) = _
    rw [toPrs_prs l]; rfl
theorem toPrs_some : ∀ {xs : List AV} {l : List Pair}, toPrs xs = some l → xs = prs l
  | [], l, h => by cases h; rfl
  | x :: xs, l, h => by
    unfold toPrs at h
    split at h
    · rename_i e; cases e
    · rename_i a b l' e
      cases e
      obtain ⟨r, hr, he⟩ := Option.map_eq_some_iff.1 h
      cases he
      rw [toPrs_some hr]
      have : ∀ s : ByteArray, str s.data.toList = s := str_self
      show AV.agg [.str a, .str b] :: prs r = AV.agg [.str (str a.data.toList), .str (str b.data.toList)] :: prs r
      rw [this, this]
    · cases h
def okP (l : List Pair) : Bool := decide (l.length ≤ 1000) && l.all fun p => decide (p.key.length ≤ 1000000) && decide (p.val.length ≤ 1000000)
def txtP (p : Pair) : ByteArray := str (Lib.decDigits (lenP p))
def linesL (l : List Pair) : List UInt8 := linesOf txtP l
noncomputable def pPrint : Piece := { f := pax_Print, ans := fun args => match args with
  | [.list 2 xs] => (toPrs xs).bind fun l => bif okP l then some (bif l.all pairOk then .tup [.list 1 (bys (linesL l)), .int .u8 0] else .tup [.list 1 [], .int .u8 15]) else none
  | _ => none }
theorem ok_rowint {f : FuncId} {args : List AV} {e : TypeId} {sz : Nat} {xs : List AV} {kk : IntKind} {z : Int} (h : ∀ (S : Stab) (w : World) (vals : List Value), Agree S w → GlobOk glob S w → VL S args vals → Calls Tryz.prog f vals.toArray w fun en w' => ∃ v us, en = .returned (.tuple #[v, .int kk z]) ∧ w'.ownsRow w.heap.size e sz v xs.length us ∧
      (∀ (i : Nat) (x : AV), xs[i]? = some x → x.cells.length = sz ∧ ∀ (j : Nat) (c : AV), x.cells[j]? = some c → c.leaf = true ∧ ∀ u, us[i * sz + j]? = some u → V S c u) ∧ Below w.heap.size w w') (hr : (args.all fun c => !c.isRes) = true := by rfl) : Ok Tryz.prog glob f args (.tup [.list sz xs, .int kk z]) := by
  refine Ok.of_plain (fun c hc => by simpa using List.all_eq_true.1 hr c hc) fun S w vals hag hG hV => ?_
  refine (h S w vals hag hG hV).mono ?_
  rintro en w' ⟨v, us, rfl, hown, hels, hb⟩
  obtain ⟨S', h1, h2, h3, h4⟩ := row_V (agree_below hag hb) hown hels
  refine ⟨_, S', rfl, h1, h2, h3, hb, [v, .int kk z], rfl, rfl, fun j c u hc hu => ?_, fun i j c d u v g hc hd hf => ?_⟩
  · match j, hc, hu with
    | 0, hc, hu => cases hc; cases hu; exact h4
    | 1, hc, hu => cases hc; cases hu; exact V.int _ _
  · match i, hc with
    | 0, hc => cases hc; cases hf
    | 1, hc => cases hc; cases hf
theorem list_inv {S : Stab} {sz : Nat} {xs : List AV} {v : Value} (h : V S (.list sz xs) v) : ∃ (ao : Option Addr) (cap : Nat), v = .slice ao xs.length cap ∧ ∀ (i : Nat) (x : AV), xs[i]? = some x → ∃ (a : Addr) (f : Nat → Value), ao = some a ∧ ∀ (j : Nat) (c : AV), x.cells[j]? = some c → S (a.add (i * sz + j)) = some (f j) ∧ V S c (f j) := by
  cases h with
  | list0 a b c => exact ⟨some _, _, rfl, fun i x h => by simp at h⟩
  | listn a => exact ⟨none, 0, rfl, fun i x h => by simp at h⟩
  | list a b ad cap f h0 h1 h2 h3 h4 => exact ⟨some ad, cap, rfl, fun i x hx => ⟨ad, f i, rfl, fun j c hc => ⟨h3 i x j c hx hc, h4 i x j c hx hc⟩⟩⟩
theorem lines_le : ∀ l : List Pair, (∀ p ∈ l, p.key.length ≤ 1000000 ∧ p.val.length ≤ 1000000) → (linesOf txtP l).length ≤ l.length * 3000000
  | [], _ => by simp [linesOf]
  | p :: l, h => by
    have hp := h p (.head _)
    have ih := lines_le l fun q hq => h q (.tail _ hq)
    have := lenP_facts p hp.1 hp.2
    have hr : restP p = p.key.length + p.val.length + 3 := rfl
    have hd := dl_le (lenP p) (by omega)
    have e : (Lib.decDigits (lenP p)).length = dl (lenP p) := rfl
    have e2 : linesOf txtP (p :: l) = (lineOf (txtP p) p.key p.val).data.toList ++ linesOf txtP l := rfl
    rw [e2, List.length_append, size_toList, List.length_cons]
    have e3 : (lineOf (txtP p) p.key p.val).size = dl (lenP p) + 1 + p.key.length + 1 + p.val.length + 1 := by
      unfold lineOf txtP
      rw [ByteArray.size_append, ByteArray.size_append, ByteArray.size_append, ByteArray.size_append, ByteArray.size_append, str_size, str_size, str_size, str_size, str_size, str_size]
      rfl
    omega
theorem print_right : pPrint.Right := by
  refine ⟨⟨Tryz.f19, Tryz.func19, by kernel_rfl, by kernel_rfl⟩, fun args res h => ?_⟩
  unfold pPrint at h
  dsimp only at h
  split at h
  · rename_i xs
    obtain ⟨l, hl, h2⟩ := Option.bind_eq_some_iff.1 h
    clear h
    obtain rfl := toPrs_some hl
    obtain ⟨hok, h3⟩ := some_of_bif h2
    clear h2
    obtain rfl := Option.some.inj h3
    clear h3
    unfold okP at hok
    rw [Bool.and_eq_true, decide_eq_true_eq, List.all_eq_true] at hok
    obtain ⟨hl1, hb⟩ := hok
    have hb : ∀ p ∈ l, p.key.length ≤ 1000000 ∧ p.val.length ≤ 1000000 := fun p hp => by have := hb p hp; simpa using this
    have hB : (bs ext09 2000000).Good := good09 2000000
    have key : ∀ (S : Stab) (w : World) (vals : List Value), Agree S w → GlobOk glob S w → VL S [.list 2 (prs l)] vals → Calls Tryz.prog 19 vals.toArray w fun e w' => Below w.heap.size w w' ∧
      ((l.all pairOk = true ∧ ∃ r, e = .returned (.tuple #[r, .int .u8 0]) ∧ w'.ownsRow w.heap.size 5 1 r (linesL l).length (Lib.byteCells (linesL l))) ∨ (l.all pairOk = false ∧ e = .returned (.tuple #[.slice none 0 0, .int .u8 15]))) := by
      intro S w vals hag hG hV
      obtain ⟨v, rfl, hv⟩ := VL_1 hV
      obtain ⟨ao, cap, rfl, hel⟩ := list_inv hv
      rw [prs_len]
      refine print_walk (E := ext09) (k := 2000000) (n := 5) hB txtP (fun p => (lenP p : Nat)) l ao cap w (by omega) (fun g cs hg => by
        obtain ⟨h1, h2⟩ := hG g cs hg
        exact ⟨h1.mono fun x v hx => hag x v hx, h2⟩) (fun p hp => ⟨(hb p hp).1, (hb p hp).2, by
          have := lenP_facts p (hb p hp).1 (hb p hp).2
          have hd := dl_le (lenP p) (by have : restP p = p.key.length + p.val.length + 3 := rfl; have := hb p hp; omega)
          show (str (Lib.decDigits (lenP p))).size ≤ 1000
          rw [str_size]
          have e : (Lib.decDigits (lenP p)).length = dl (lenP p) := rfl
          omega⟩) (fun i => ?_) (fun p hp => paxLen_k p (hb p hp).1 (hb p hp).2 (by omega)) (fun p hp => by
          have := lenP_facts p (hb p hp).1 (hb p hp).2
          have : restP p = p.key.length + p.val.length + 3 := rfl
          have := hb p hp
          rw [HasNum.itoa 2000000 5 _ (by omega) (by omega), itoa_nat]; rfl) (fun p hp => paxRight_k (n := 0) p (hb p hp).1 (hb p hp).2 (by omega)) (fun i p hp => ?_)
      · have := lines_le (l.take i) fun p hp => hb p (List.mem_of_mem_take hp)
        have h3 : (l.take i).length ≤ 1000 := by rw [List.length_take]; omega
        omega
      · obtain ⟨a, f, ha, hc⟩ := hel i (elPair p) (by unfold prs; rw [List.getElem?_map, hp]; rfl)
        obtain ⟨c0, d0⟩ := hc 0 (.str (str p.key)) rfl
        obtain ⟨c1, d1⟩ := hc 1 (.str (str p.val)) rfl
        rw [V_str d0] at c0
        rw [V_str d1] at c1
        exact ⟨a, ha, hag _ _ c0, hag _ _ c1⟩
    cases hall : l.all pairOk with
    | true =>
      rw [cond_true]
      refine ok_rowint (e := 5) fun S w vals hag hG hV => (key S w vals hag hG hV).mono ?_
      rintro e w' ⟨hb', ⟨_, r, rfl, hown⟩ | ⟨hf, _⟩⟩
      · refine ⟨r, _, rfl, by rw [bys_len]; exact hown, fun i x hx => ?_, hb'⟩
        unfold bys at hx
        rw [List.getElem?_map] at hx
        obtain ⟨b, hb2, rfl⟩ := Option.map_eq_some_iff.1 hx
        refine ⟨rfl, fun j c hc => ?_⟩
        match j, hc with
        | 0, hc =>
          cases hc
          refine ⟨rfl, fun u hu => ?_⟩
          rw [show i * 1 + 0 = i by omega] at hu
          unfold Lib.byteCells at hu
          rw [List.getElem?_map, hb2] at hu
          cases hu
          exact V.int _ _
      · rw [hall] at hf; cases hf
    | false =>
      rw [cond_false]
      refine ok_rowint (e := 5) (sz := 1) (xs := []) fun S w vals hag hG hV => (key S w vals hag hG hV).mono ?_
      rintro e w' ⟨hb', ⟨ht, _⟩ | ⟨_, rfl⟩⟩
      · rw [hall] at ht; cases ht
      · exact ⟨_, [], rfl, World.ownsRow_nil _ _ _ _, fun i x hx => by simp at hx, hb'⟩
  · cases h
end Go.Proofs.YtilbahgfjfcikaaGreatDoor.Eng.U


/- The library's functions and pax.Print, given together. -/
set_option linter.unusedVariables false
set_option linter.unusedSectionVars false
set_option linter.unusedSimpArgs false
namespace Go.Proofs.YtilbahgfjfcikaaGreatDoor.Eng.U
open Go Go.RowKit Go.Proofs Go.Proofs.YtilbahgfjfcikaaGreatDoor.Eng

class HasPrint (E : Ext) : Prop where
  print : ∀ (k n : Nat) (l : List Pair), okP l = true → kp E k n pax_Print [.list 2 (prs l)] = some (bif l.all pairOk then .tup [.list 1 (bys (linesL l)), .int .u8 0] else .tup [.list 1 [], .int .u8 15])
noncomputable def ps07 : List Piece := [pItoa, pCutP, pIndex, pIndexByte, pRepeat, pPInt, pPUint, pDec, pAny, pPrint]
noncomputable def ext07 : Ext := extOf ps07
instance core07 : Core ext07 := core_of (by kernel_rfl)
instance num07 : HasNum ext07 := num_of rfl rfl rfl rfl rfl rfl rfl
instance text07 : HasText ext07 where
  dec k n s := ⟨_, _, (kp_piece (ps := ps07) (p := pDec) (k := k) (n := n) (args := [.str (str s)]) rfl).trans rfl⟩
  idx k n s hs := by
    have h := kp_piece (ps := ps07) (p := pAny) (k := k) (n := n) (args := [.str (str s), .str (str [61, 0])]) rfl
    have e : pAny.ans [.str (str s), .str (str [61, 0])] = (bif decide (str [61, 0] = str [61, 0]) && decide ((str s).size ≤ 1000000) then (bif decide (8 < (str s).size) then some (.int .i64 (Lib.indexAny (str s).data.toList [61, 0])) else (bs ext09a 100).kap 3 strings_IndexAny [.str (str s), .str (str [61, 0])]) else none) := rfl
    rw [e, str_size, decide_eq_true rfl, decide_eq_true hs, Bool.true_and, cond_true] at h
    by_cases h8 : 8 < s.length
    · rw [decide_eq_true h8, cond_true] at h
      exact ⟨_, h⟩
    · rw [decide_eq_false h8, cond_false] at h
      obtain ⟨r, hr⟩ := any_short (E := ext09a) (k := 100) (n := 0) (by kernel_rfl) (by kernel_rfl) (by omega) s (by omega)
      exact ⟨r, h.trans hr⟩
instance textV07 : HasTextV ext07 where
  dec k n s := (kp_piece (ps := ps07) (p := pDec) (k := k) (n := n) (args := [.str s]) rfl).trans rfl
  idx k n s hs := by
    have h := kp_piece (ps := ps07) (p := pAny) (k := k) (n := n) (args := [.str (str s), .str (str [61, 0])]) rfl
    have e : pAny.ans [.str (str s), .str (str [61, 0])] = (bif decide (str [61, 0] = str [61, 0]) && decide ((str s).size ≤ 1000000) then (bif decide (8 < (str s).size) then some (.int .i64 (Lib.indexAny (str s).data.toList [61, 0])) else (bs ext09a 100).kap 3 strings_IndexAny [.str (str s), .str (str [61, 0])]) else none) := rfl
    rw [e, str_size, decide_eq_true rfl, decide_eq_true hs, Bool.true_and, cond_true] at h
    by_cases h8 : 8 < s.length
    · rw [decide_eq_true h8, cond_true] at h
      exact ⟨_, h, any_long_v s⟩
    · rw [decide_eq_false h8, cond_false] at h
      obtain ⟨r, hr, hv⟩ := any_short_v (E := ext09a) (k := 100) (n := 0) (by kernel_rfl) (by kernel_rfl) (by omega) s (by omega)
      exact ⟨r, h.trans hr, hv⟩
instance print07 : HasPrint ext07 where
  print k n l hl := by
    have h := kp_piece (ps := ps07) (p := pPrint) (k := k) (n := n) (args := [.list 2 (prs l)]) rfl
    have e : pPrint.ans [.list 2 (prs l)] = (toPrs (prs l)).bind fun l => bif okP l then some (bif l.all pairOk then .tup [.list 1 (bys (linesL l)), .int .u8 0] else .tup [.list 1 [], .int .u8 15]) else none := rfl
    rw [e, toPrs_prs, Option.bind_some, hl, cond_true] at h
    exact h
theorem good07 (k : Nat) : (bs ext07 k).Good := good_of (fun p hp => by
  simp only [ps07, List.mem_cons, List.not_mem_nil, or_false] at hp
  rcases hp with rfl | rfl | rfl | rfl | rfl | rfl | rfl | rfl | rfl | rfl
  · exact itoa_right
  · exact cutP_right
  · exact index_right
  · exact indexByte_right
  · exact repeat_right
  · exact pInt_right
  · exact pUint_right
  · exact dec_right
  · exact any_right
  · exact print_right) names_ok k
end Go.Proofs.YtilbahgfjfcikaaGreatDoor.Eng.U


/- The chapter's example of layer 7. -/
set_option linter.unusedVariables false
set_option linter.unusedSectionVars false
set_option linter.unusedSimpArgs false
namespace Go.Proofs.YtilbahgfjfcikaaGreatDoor.Eng.U
open Go Go.RowKit Go.Proofs Go.Proofs.YtilbahgfjfcikaaGreatDoor.Eng

theorem ok_pa : pairOk ⟨[112, 97, 116, 104], [97]⟩ = true := by kernel_rfl
theorem len_pa : lenP ⟨[112, 97, 116, 104], [97]⟩ = 9 := by
  show lenF 30 8 8 = 9
  have h8 : dl 8 = 1 := dl_small (by omega)
  have h9 : dl 9 = 1 := dl_small (by omega)
  unfold lenF
  rw [h8, if_neg (by omega)]
  unfold lenF
  rw [h9, if_pos (by omega)]
theorem lines_pa : linesL [⟨[112, 97, 116, 104], [97]⟩] = [57, 32, 112, 97, 116, 104, 61, 97, 10] := by
  have h : Lib.decDigits 9 = [57] := by rw [Lib.decDigits, dif_pos (by omega)]; rfl
  unfold linesL linesOf txtP
  rw [List.flatMap_cons, List.flatMap_nil, len_pa, h]
  rfl
end Go.Proofs.YtilbahgfjfcikaaGreatDoor.Eng.U


/- What is printed is read, in plain Lean. -/
set_option linter.unusedVariables false
set_option linter.unusedSimpArgs false
namespace Go.Proofs.YtilbahgfjfcikaaGreatDoor.P04
open Go

theorem valA_acc : ∀ (l : List UInt8) (a : Nat), valA a l = a * 10 ^ l.length + valA 0 l
  | [], a => by show a = a * 1 + 0; omega
  | c :: l, a => by
    rw [valA_cons, valA_cons, valA_acc l (a * 10 + (c.toNat - 48)), valA_acc l (0 * 10 + (c.toNat - 48)), List.length_cons, Nat.pow_succ]
    rw [Nat.zero_mul, Nat.zero_add, Nat.add_mul, Nat.mul_assoc, Nat.mul_comm 10, Nat.add_assoc]
/-! No fewer bytes. -/
theorem nDigits_le : ∀ (k u : Nat), u < 10 ^ (k + 1) → Lib.nDigits u ≤ k + 1
  | 0, u, h => by rw [Lib.nDigits_small (by omega)]; omega
  | k + 1, u, h => by
    by_cases h1 : u < 10
    · rw [Lib.nDigits_small h1]; omega
    · rw [Lib.nDigits_big h1]
      have := nDigits_le k (u / 10) (by rw [Nat.pow_succ] at h; omega)
      omega
theorem dec_short {a : List UInt8} (h : digs a = true) : (Lib.decDigits (valA 0 a)).length ≤ a.length := by
  unfold digs at h
  rw [Bool.and_eq_true, Bool.not_eq_true', List.isEmpty_eq_false_iff] at h
  have hl := List.length_pos_iff.2 h.2
  have := valA_lt a 0 0 h.1 (by omega)
  rw [Lib.decDigits_length]
  obtain ⟨k, hk⟩ : ∃ k, a.length = k + 1 := ⟨a.length - 1, by omega⟩
  rw [Nat.zero_add] at this
  rw [hk] at this ⊢
  exact nDigits_le k _ this
end Go.Proofs.YtilbahgfjfcikaaGreatDoor.P04


/- Which bytes are records: in plain words. -/
set_option linter.unusedVariables false
set_option linter.unusedSectionVars false
set_option linter.unusedSimpArgs false
namespace Go.Proofs.YtilbahgfjfcikaaGreatDoor.Eng.U
open Go Go.Proofs Go.Proofs.YtilbahgfjfcikaaGreatDoor.Eng Go.Proofs.YtilbahgfjfcikaaGreatDoor.P04

def upto (c : UInt8) (l : Tx) : Tx := l.takeWhile fun x => decide (x ≠ c)
theorem upto_nil (c : UInt8) : upto c [] = [] := rfl
theorem upto_hit (c : UInt8) (l : Tx) : upto c (c :: l) = [] := by simp [upto]
theorem upto_cons {c x : UInt8} (h : x ≠ c) (l : Tx) : upto c (x :: l) = x :: upto c l := by simp [upto, h]
theorem upto_le (c : UInt8) : ∀ l : Tx, (upto c l).length ≤ l.length
  | [] => Nat.le_refl _
  | x :: l => by
    have := upto_le c l
    by_cases h : x = c
    · subst h; rw [upto_hit]; simp
    · rw [upto_cons h]; simp only [List.length_cons]; omega
theorem upto_take (c : UInt8) : ∀ l : Tx, l.take (upto c l).length = upto c l
  | [] => rfl
  | x :: l => by
    by_cases h : x = c
    · subst h; rw [upto_hit]; rfl
    · rw [upto_cons h, List.length_cons, List.take_succ_cons, upto_take c l]
/-- A record of n bytes, whose number has d digits. -/
def recT (b : Tx) (n d : Nat) : Option (Pair × Nat) :=
  let m := (b.take (n - 1)).drop (d + 1)
  if (upto 61 m).length < m.length ∧ pairOk ⟨upto 61 m, m.drop ((upto 61 m).length + 1)⟩ = true then some (⟨upto 61 m, m.drop ((upto 61 m).length + 1)⟩, n) else none
def recL (b : Tx) : Option (Pair × Nat) :=
  if natOk (upto 32 b) = true ∧ valA 0 (upto 32 b) ≤ b.length ∧ (upto 32 b).length + 2 ≤ valA 0 (upto 32 b) ∧ b.getD (valA 0 (upto 32 b) - 1) 0 = 10 then recT b (valA 0 (upto 32 b)) (upto 32 b).length else none
def parseL : Nat → Tx → Option (List Pair)
  | 0, b => if b = [] then some [] else none
  | f + 1, b => if b = [] then some [] else match recL b with
    | none => none
    | some (p, n) => (parseL f (b.drop n)).map (p :: ·)
theorem recL_facts {b : Tx} {p : Pair} {n : Nat} (h : recL b = some (p, n)) : 2 ≤ n ∧ n ≤ b.length ∧ pairOk p = true ∧ natOk (upto 32 b) = true ∧ n = valA 0 (upto 32 b) ∧ n = (upto 32 b).length + restP p ∧ (upto 32 b).length + 2 ≤ n := by
  unfold recL at h
  split at h
  · rename_i hc
    obtain ⟨h1, h2, h3, h4⟩ := hc
    unfold recT at h
    dsimp only at h
    split at h
    · rename_i hd
      obtain ⟨h5, h6⟩ := hd
      rw [Option.some.injEq, Prod.mk.injEq] at h
      obtain ⟨rfl, rfl⟩ := h
      refine ⟨by omega, h2, h6, h1, rfl, ?_, h3⟩
      unfold restP
      dsimp only
      rw [List.length_drop] at *
      rw [List.length_drop, List.length_take] at *
      omega
    · cases h
  · cases h
/-- The bytes of a pair's record. -/
def recB (p : Pair) : Tx := Lib.decDigits (lenP p) ++ 32 :: (p.key ++ 61 :: (p.val ++ [10]))
theorem recB_len (p : Pair) (h1 : p.key.length ≤ 1000000) (h2 : p.val.length ≤ 1000000) : (recB p).length = lenP p := by
  have := lenP_facts p h1 h2
  unfold recB restP at *
  simp only [List.length_append, List.length_cons, List.length_nil]
  have e : (Lib.decDigits (lenP p)).length = dl (lenP p) := rfl
  omega
theorem dl_ge : ∀ (j u : Nat), 10 ^ j ≤ u → j + 1 ≤ dl u
  | 0, u, _ => dl_pos u
  | j + 1, u, h => by
    have h10 : 10 ^ (j + 1) = 10 * 10 ^ j := by rw [Nat.pow_succ, Nat.mul_comm]
    have hp : 1 ≤ 10 ^ j := Nat.one_le_pow _ _ (by omega)
    rw [dl_big (by omega)]
    have := dl_ge j (u / 10) (by omega)
    omega
theorem dl_nat {D : Tx} (h : natOk D = true) (h0 : 0 < valA 0 D) : dl (valA 0 D) = D.length := by
  unfold natOk at h
  simp only [Bool.and_eq_true, Bool.not_eq_true'] at h
  obtain ⟨⟨hd, hl⟩, hv⟩ := h
  have h1 := dec_short hd
  have e : (Lib.decDigits (valA 0 D)).length = dl (valA 0 D) := rfl
  have hd2 := hd
  unfold digs at hd2
  simp only [Bool.and_eq_true] at hd2
  cases D with
  | nil => simp at hd2
  | cons c r =>
    have hc : isDig c = true := List.all_eq_true.1 hd2.1 c (.head _)
    have hc2 := dig_iff.1 hc
    have hne : 49 ≤ c.toNat := by
      by_cases e48 : c = 48
      · subst e48
        by_cases hr : 1 < (48 :: r).length
        · have hl2 : lead (48 :: r) = true := by unfold lead; rw [List.headD_cons, decide_eq_true rfl, decide_eq_true hr]; rfl
          rw [hl2] at hl; cases hl
        · have : r = [] := List.eq_nil_of_length_eq_zero (by rw [List.length_cons] at hr; omega)
          subst this
          revert h0; decide
      · have : c.toNat ≠ 48 := fun h => e48 (UInt8.toNat_inj.1 h)
        omega
    have hv : 10 ^ r.length ≤ valA 0 (c :: r) := by
      rw [valA_cons, valA_acc]
      have : 1 * 10 ^ r.length ≤ (0 * 10 + (c.toNat - 48)) * 10 ^ r.length := Nat.mul_le_mul_right _ (by omega)
      omega
    have := dl_ge r.length _ hv
    rw [List.length_cons] at *
    omega
theorem rec_short {b : Tx} {p : Pair} {n : Nat} (h : recL b = some (p, n)) (hb : b.length ≤ 1000000) : lenP p ≤ n ∧ p.key.length ≤ 1000000 ∧ p.val.length ≤ 1000000 := by
  obtain ⟨h1, h2, h3, h4, h5, h6, h7⟩ := recL_facts h
  have hr : restP p = p.key.length + p.val.length + 3 := rfl
  have hd := dl_nat h4 (by omega)
  have hk : p.key.length ≤ 1000000 := by omega
  have hv : p.val.length ≤ 1000000 := by omega
  refine ⟨(lenP_facts p hk hv).2.2 n ?_ (by omega), hk, hv⟩
  rw [← h5] at hd
  omega
theorem parse_short : ∀ (f : Nat) (b : Tx) (l : List Pair), b.length ≤ 1000000 → parseL f b = some l → l.all pairOk = true ∧ (∀ p ∈ l, p.key.length ≤ 1000000 ∧ p.val.length ≤ 1000000) ∧ (l.flatMap recB).length ≤ b.length ∧ l.length ≤ b.length
  | 0, b, l, hb, h => by
    unfold parseL at h
    split at h
    · cases h; exact ⟨rfl, fun p hp => (by cases hp), by simp, by simp⟩
    · cases h
  | f + 1, b, l, hb, h => by
    unfold parseL at h
    split at h
    · cases h; exact ⟨rfl, fun p hp => (by cases hp), by simp, by simp⟩
    · cases hr : recL b with
      | none => rw [hr] at h; cases h
      | some x =>
        obtain ⟨p, n⟩ := x
        rw [hr] at h
        dsimp only at h
        obtain ⟨m, hm, rfl⟩ := Option.map_eq_some_iff.1 h
        obtain ⟨i1, i2, i3, i4⟩ := parse_short f (b.drop n) m (by rw [List.length_drop]; omega) hm
        obtain ⟨q1, q2, q3⟩ := rec_short hr hb
        have hf := recL_facts hr
        refine ⟨by rw [List.all_cons, hf.2.2.1, i1]; rfl, fun q hq => ?_, ?_, ?_⟩
        · rcases List.mem_cons.1 hq with rfl | hq
          · exact ⟨q2, q3⟩
          · exact i2 q hq
        · rw [List.flatMap_cons, List.length_append, recB_len p q2 q3]
          rw [List.length_drop] at i3
          omega
        · rw [List.length_cons]
          rw [List.length_drop] at i4
          omega
/-- The number ahead of a record, as the program reads it. -/
def lenG (T : Nat) : Tx → Nat → Nat → Option (Nat × Nat)
  | [], _, _ => none
  | c :: r, i, n => if c = 32 ∧ 0 < i then some (n, i) else if isDig c = false ∨ (i = 0 ∧ c = 48) then none else if T < n * 10 + (c.toNat - 48) then none else lenG T r (i + 1) (n * 10 + (c.toNat - 48))
theorem lenG_in (T : Nat) : ∀ (s : Tx) (i n : Nat), 0 < i → n ≤ T → lenG T s i n = if (upto 32 s).all isDig = true ∧ (upto 32 s).length < s.length ∧ valA n (upto 32 s) ≤ T then some (valA n (upto 32 s), i + (upto 32 s).length) else none
  | [], i, n, hi, hn => by simp [lenG, upto_nil]
  | c :: r, i, n, hi, hn => by
    unfold lenG
    by_cases hc : c = 32
    · subst hc
      rw [if_pos ⟨rfl, hi⟩, upto_hit, if_pos ⟨rfl, by simp, hn⟩]
      rfl
    · rw [if_neg (fun h => hc h.1), upto_cons hc, List.all_cons]
      cases hd : isDig c with
      | false => rw [if_pos (.inl rfl), if_neg (by simp)]
      | true =>
        rw [if_neg (by simp; omega)]
        rw [valA_cons]
        by_cases ht : T < n * 10 + (c.toNat - 48)
        · rw [if_pos ht, if_neg]
          rintro ⟨_, _, h⟩
          have := valA_ge (upto 32 r) (n * 10 + (c.toNat - 48))
          omega
        · rw [if_neg ht, lenG_in T r (i + 1) _ (by omega) (by omega)]
          simp only [List.length_cons, Bool.true_and, Nat.add_lt_add_iff_right]
          split
          · rw [show i + 1 + (upto 32 r).length = i + ((upto 32 r).length + 1) by omega]
          · rfl
theorem lenG_rec (b : Tx) (hb : b.length ≤ 9223372036854775807) : recL b = match lenG b.length b 0 0 with
    | none => none
    | some (n, d) => if n < d + 2 ∨ b.getD (n - 1) 0 ≠ 10 then none else recT b n d := by
  cases b with
  | nil => rfl
  | cons c r =>
    unfold lenG
    rw [if_neg (by omega)]
    by_cases hz : isDig c = false ∨ c = 48
    · rw [if_pos (by rcases hz with h | h; exact .inl h; exact .inr ⟨rfl, h⟩)]
      unfold recL
      rw [if_neg]
      rintro ⟨h1, h2, h3, h4⟩
      rcases hz with hz | rfl
      · by_cases h32 : c = 32
        · subst h32; rw [upto_hit] at h1; revert h1; decide
        · rw [upto_cons h32] at h1
          simp [natOk, digs, hz] at h1
      · rw [upto_cons (by decide)] at h1 h3
        by_cases hr : upto 32 r = []
        · rw [hr] at h3; revert h3; decide
        · have : 0 < (upto 32 r).length := List.length_pos_iff.2 hr
          have hl : lead (48 :: upto 32 r) = true := by unfold lead; rw [List.headD_cons, List.length_cons, decide_eq_true rfl, decide_eq_true (by omega)]; rfl
          unfold natOk at h1
          rw [hl] at h1
          simp at h1
    · have hd : isDig c = true := by cases h : isDig c; exact absurd (.inl h) hz; rfl
      have h48 : c ≠ 48 := fun h => hz (.inr h)
      have hc2 := dig_iff.1 hd
      rw [if_neg (by rintro (h | h); exact hz (.inl h); exact h48 h.2)]
      have h32 : c ≠ 32 := by rintro rfl; revert hc2; decide
      have hlead : lead (upto 32 (c :: r)) = false := by
        rw [upto_cons h32]; unfold lead; rw [List.headD_cons, decide_eq_false h48]; rfl
      have hdig : digs (upto 32 (c :: r)) = (upto 32 r).all isDig := by
        rw [upto_cons h32]; unfold digs; rw [List.all_cons, hd]; simp
      have hval : valA 0 (upto 32 (c :: r)) = valA (0 * 10 + (c.toNat - 48)) (upto 32 r) := by rw [upto_cons h32, valA_cons]
      have hlen : (upto 32 (c :: r)).length = (upto 32 r).length + 1 := by rw [upto_cons h32]; rfl
      have hge := valA_ge (upto 32 r) (0 * 10 + (c.toNat - 48))
      unfold recL natOk
      rw [hlead, hdig, hval, hlen]
      by_cases ht : (c :: r).length < 0 * 10 + (c.toNat - 48)
      · rw [if_pos ht]
        rw [if_neg]
        rintro ⟨_, h, _⟩
        omega
      · rw [if_neg ht, lenG_in _ _ _ _ (by omega) (by omega)]
        have hul := upto_le 32 r
        by_cases hq : (upto 32 r).all isDig = true ∧ (upto 32 r).length < r.length ∧ valA (0 * 10 + (c.toNat - 48)) (upto 32 r) ≤ (c :: r).length
        · rw [if_pos hq]
          dsimp only
          rw [show 0 + 1 + (upto 32 r).length = (upto 32 r).length + 1 by omega, hq.1]
          by_cases hw : valA (0 * 10 + (c.toNat - 48)) (upto 32 r) < (upto 32 r).length + 1 + 2 ∨ (c :: r).getD (valA (0 * 10 + (c.toNat - 48)) (upto 32 r) - 1) 0 ≠ 10
          · rw [if_pos hw, if_neg]
            rintro ⟨_, h2, h3, h4⟩
            rcases hw with hw | hw
            · omega
            · exact hw h4
          · rw [if_neg hw, if_pos]
            refine ⟨by rw [Bool.not_false, Bool.and_true, Bool.true_and, decide_eq_true_eq]; omega, hq.2.2, by omega, ?_⟩
            by_cases h10 : (c :: r).getD (valA (0 * 10 + (c.toNat - 48)) (upto 32 r) - 1) 0 = 10
            · exact h10
            · exact absurd (.inr h10) hw
        · rw [if_neg hq, if_neg]
          rintro ⟨h1, h2, h3, h4⟩
          simp only [Bool.and_eq_true] at h1
          refine hq ⟨h1.1.1, ?_, h2⟩
          rw [List.length_cons] at h2
          omega
end Go.Proofs.YtilbahgfjfcikaaGreatDoor.Eng.U


/- Records, both sides: printed and parsed. -/
set_option linter.unusedVariables false
set_option linter.unusedSectionVars false
set_option linter.unusedSimpArgs false
namespace Go.Proofs.YtilbahgfjfcikaaGreatDoor.Eng.U
open Go Go.Proofs Go.Proofs.YtilbahgfjfcikaaGreatDoor.Eng Go.Proofs.YtilbahgfjfcikaaGreatDoor.P04
variable {E : Ext} [Core E] [HasNum E] {k n : Nat}

theorem digw {acc : Nat} {c : UInt8} (ha : acc ≤ 1000000000) (hc : isDig c = true) : IntKind.wrap .i64 (IntKind.wrap .i64 ((acc : Int) * 10) + IntKind.wrap .i64 (IntKind.wrap .u8 (((c.toNat : Nat) : Int) - 48))) = ((acc * 10 + (c.toNat - 48) : Nat) : Int) := by
  have := dig_iff.1 hc
  rw [IntWalk.u8_in _ (by omega), i64w (x := (acc : Int) * 10) (by omega), i64w (x := ((c.toNat : Nat) : Int) - 48) (by omega), i64w (by omega)]
  omega
def lenAV : Option (Nat × Nat) → AV
  | none => .tup [.int .i64 0, .int .i64 0, .bool false]
  | some x => .tup [.int .i64 (x.1 : Int), .int .i64 (x.2 : Int), .bool true]
theorem length_loop (kap : FuncId → List AV → Option AV) (b : Tx) (hb : b.length ≤ 100000000) : ∀ (suf pre : Tx) (acc k0 : Nat), suf.length < k0 → pre ++ suf = b → acc ≤ b.length →
    pax_length_L0 kap k k0 (bys b) ((acc : Nat) : Int) (bys b) ((b.length : Nat) : Int) ((pre.length : Nat) : Int) = some (lenAV (lenG b.length suf pre.length acc))
  | [], pre, acc, k0 + 1, h, he, ha => by
    rw [pax_length_L0_s, bif_f (by rw [← he]; simp)]; rfl
  | c :: suf, pre, acc, k0 + 1, h, he, ha => by
    have hp : pre.length < b.length := by rw [← he]; simp
    have hm : ∀ F : AV → Option AV, ((bys b)[pre.length]?).bind F = F (byteAV c) := fun F => by rw [← he]; exact bys_mid pre suf c F
    have ih := fun a ha => length_loop kap b hb suf (pre ++ [c]) a k0 (by simpa using h) (by rw [← he]; simp) ha
    have hn : (((pre ++ [c]).length : Nat) : Int) = IntKind.wrap .i64 (((pre.length : Nat) : Int) + 1) := by rw [i64w (by omega)]; simp
    have hn2 : (pre ++ [c]).length = pre.length + 1 := by simp
    rw [pax_length_L0_s, bys_len, bif_t (by omega), bif_a, bif_t (by omega), bif_t (by omega), Int.toNat_natCast, hm, byte_c]
    unfold lenG
    by_cases h32 : c = 32
    · subst h32
      rw [bif_t (by rfl)]
      by_cases h0 : 0 < pre.length
      · rw [bif_t (by omega), if_pos ⟨rfl, h0⟩]; rfl
      · rw [bif_f (by omega), bif_t (by decide), if_neg (fun h => h0 h.2), if_pos (.inl rfl)]; rfl
    · have h32' : ¬ ((c.toNat : Nat) : Int) = 32 := fun h => h32 (UInt8.toNat_inj.1 (by show c.toNat = 32; omega))
      rw [bif_f h32', if_neg (fun h => h32 h.1)]
      cases hd : isDig c with
      | false =>
        rw [if_pos (.inl rfl)]
        by_cases h1 : c.toNat < 48
        · rw [bif_t (by omega)]; rfl
        · rw [bif_f (by omega), bif_t (by simp [isDig] at hd; omega)]; rfl
      | true =>
        have hd2 := dig_iff.1 hd
        rw [bif_f (by omega), bif_f (by omega), digw (by omega) hd]
        by_cases h0 : pre.length = 0
        · rw [bif_t (by omega)]
          by_cases h48 : c = 48
          · rw [if_pos (.inr ⟨h0, h48⟩), h48, bif_t (by rfl)]; rfl
          · have h48' : ¬ ((c.toNat : Nat) : Int) = 48 := fun h => h48 (UInt8.toNat_inj.1 (by show c.toNat = 48; omega))
            rw [bif_f h48', if_neg (by rintro (h | h); cases h; exact h48 h.2)]
            by_cases hT : b.length < acc * 10 + (c.toNat - 48)
            · rw [bif_t (by omega), if_pos hT]; rfl
            · rw [bif_f (by omega), if_neg hT, ← hn, ih _ (by omega), hn2]
        · rw [bif_f (by omega), if_neg (by rintro (h | h); cases h; exact h0 h.1)]
          by_cases hT : b.length < acc * 10 + (c.toNat - 48)
          · rw [bif_t (by omega), if_pos hT]; rfl
          · rw [bif_f (by omega), if_neg hT, ← hn, ih _ (by omega), hn2]
theorem length_k (b : Tx) (hb : b.length ≤ 100000000) (hk : b.length < k) : kp E k (n + 1) pax_length [.list 1 (bys b)] = some (lenAV (lenG b.length b 0 0)) := by
  have := length_loop (k := k) (kp E k n) b hb b [] 0 k hk rfl (by omega)
  rw [pax_length_eq, bys_len]
  exact this
theorem lenG_facts (T : Nat) : ∀ (s : Tx) (i a m d : Nat), lenG T s i a = some (m, d) → a ≤ T → m ≤ T ∧ d ≤ i + s.length ∧ i ≤ d
  | [], i, a, m, d, h, ha => by cases h
  | c :: r, i, a, m, d, h, ha => by
    unfold lenG at h
    split at h
    · cases h; exact ⟨ha, by omega, by omega⟩
    · split at h
      · cases h
      · split at h
        · cases h
        · have := lenG_facts T r _ _ m d h (by omega)
          rw [List.length_cons]
          omega
theorem index_upto (x : UInt8) : ∀ l : Tx, Lib.indexByte l x = if (upto x l).length < l.length then ((upto x l).length : Int) else -1
  | [] => rfl
  | c :: l => by
    have ih := index_upto x l
    unfold Lib.indexByte
    by_cases hc : c = x
    · subst hc
      rw [upto_hit, if_pos (by simp)]
      simp
    · have h1 : (c == x) = false := by simpa using hc
      have hl := upto_le x l
      rw [upto_cons hc, List.length_cons, List.length_cons, h1]
      simp only [Bool.false_eq_true, if_false]
      rw [ih]
      by_cases h : (upto x l).length < l.length
      · rw [if_pos h, if_pos (show (upto x l).length + 1 < l.length + 1 by omega)]
        rw [if_neg (by simp)]
        omega
      · rw [if_neg h, if_neg (show ¬ (upto x l).length + 1 < l.length + 1 by omega)]
        rfl
theorem cutB_k (x : UInt8) (t : Tx) (ht : t.length < 1000000000000) : kp E k (n + 2) strings_Cut [.str (str t), .str (str [x])] = some (.tup [.str (str (upto x t)), .str (str (t.drop ((upto x t).length + 1))), .bool (decide ((upto x t).length < t.length))]) := by
  have hd := upto_le x t
  rw [strings_Cut_eq, stringslite_Cut_eq, HasNum.index k n t x, callI_ok, index_upto]
  by_cases h : (upto x t).length < t.length
  · rw [if_pos h, decide_eq_true h, bif_t (by omega), str_size, str_size, List.length_singleton, wrapP (by omega) (by omega), bif_a, bif_t (by omega), bif_t (by omega), bif_a, bif_t (by omega), bif_t (by omega), Int.toNat_natCast, Int.toNat_natCast, str_ext, str_ext, List.take_length, List.drop_zero, upto_take]
    rfl
  · have e : upto x t = t := by have := upto_take x t; rw [List.take_of_length_le (by omega)] at this; exact this.symm
    rw [if_neg h, decide_eq_false h, bif_f (by omega), e, List.drop_of_length_le (by omega)]
    rfl
def recAV : Option (Pair × Nat) → AV
  | none => .tup [.agg [.str (str []), .str (str [])], .int .i64 0]
  | some x => .tup [elPair x.1, .int .i64 (x.2 : Int)]
theorem toBytes_bys (l : Tx) (a b : Nat) : toBytes (((bys l).take a).drop b) = some ((l.take a).drop b) := by
  unfold bys
  rw [← List.map_take, ← List.map_drop, toBytes_map]
theorem getD_of (b : Tx) (i : Nat) (h : i < b.length) : b.getD i 0 = b[i] := by rw [List.getD_eq_getElem?_getD, List.getElem?_eq_getElem h]; rfl
theorem record_k [HasTextV E] (b : Tx) (hb : b.length ≤ 1000000) (hk : 1000000 < k) : kp E k (n + 6) pax_record [.list 1 (bys b)] = some (recAV (recL b)) := by
  rw [pax_record_eq, length_k b (by omega) (by omega), lenG_rec b (by omega)]
  cases hg : lenG b.length b 0 0 with
  | none => rfl
  | some x =>
    obtain ⟨m, d⟩ := x
    have hf := lenG_facts _ _ _ _ _ _ hg (by omega)
    have e : ∀ K : List AV → Option AV, callT (some (lenAV (some (m, d)))) K = K [.int .i64 (m : Int), .int .i64 (d : Int), .bool true] := fun K => rfl
    rw [e, tupI_ok, tupI_ok, tupB_ok, atNil_ok, Bool.not_true, cond_false, i64w (x := (d : Int) + 2) (by omega)]
    dsimp only
    by_cases h1 : m < d + 2
    · rw [bif_t (by omega), if_pos (.inl h1)]; rfl
    · rw [bif_f (by omega), i64w (x := (m : Int) - 1) (by omega), i64w (x := (d : Int) + 1) (by omega), bys_len, bif_a, bif_t (by omega), bif_t (by omega)]
      have e1 : ((m : Int) - 1).toNat = m - 1 := by omega
      have e2 : ((d : Int) + 1).toNat = d + 1 := by omega
      rw [e1, e2, bys_at b (m - 1) (by omega), byte_c, show decide (((b[m - 1].toNat : Nat) : Int) = 10) = decide (b[m - 1] = 10) from byte_is _ 10 (by omega), ← getD_of b (m - 1) (by omega)]
      by_cases h2 : b.getD (m - 1) 0 = 10
      · rw [decide_eq_true h2, Bool.not_true, cond_false, bif_a, bif_t (by omega), bif_t (by omega), bif_a, bif_t (by omega), bif_t (by omega), toBytes_bys, Option.bind_some, if_neg (by rintro (h | h); exact h1 h; exact h h2)]
        have hml : ((b.take (m - 1)).drop (d + 1)).length ≤ 1000000 := by rw [List.length_drop, List.length_take]; omega
        rw [cutB_k (n := n + 3) 61 _ (by omega), callT_ok, tupS_ok, tupS_ok, tupB_ok, atNil_ok]
        unfold recT
        dsimp only
        generalize hM : (b.take (m - 1)).drop (d + 1) = M at hml
        have hu := upto_le 61 M
        by_cases h3 : (upto 61 M).length < M.length
        · rw [decide_eq_true h3, Bool.not_true, cond_false, paxRight_k ⟨upto 61 M, M.drop ((upto 61 M).length + 1)⟩ (by dsimp only; omega) (by dsimp only; rw [List.length_drop]; omega) hk, callB_ok]
          cases hp : pairOk ⟨upto 61 M, M.drop ((upto 61 M).length + 1)⟩ with
          | false => rw [Bool.not_false, cond_true, if_neg (by simp)]; rfl
          | true => rw [Bool.not_true, cond_false, if_pos ⟨h3, rfl⟩]; rfl
        · rw [decide_eq_false h3, Bool.not_false, cond_true, if_neg (fun h => h3 h.1)]; rfl
      · rw [decide_eq_false h2, Bool.not_false, cond_true, if_pos (.inr h2)]; rfl
def parAV (a b : AV) : Option (List Pair) → AV
  | none => .tup [.list 2 [], b]
  | some l => .tup [.list 2 (prs l), a]
theorem prs_snoc (a : List Pair) (p : Pair) : prs a ++ [.agg [.str (str p.key), .str (str p.val)]] = prs (a ++ [p]) := by simp [prs, elPair, encPair]
theorem parse_loop (kap : FuncId → List AV → Option AV) (hR : ∀ b : Tx, b.length ≤ 1000000 → kap pax_record [.list 1 (bys b)] = some (recAV (recL b))) : ∀ (f : Nat) (b : Tx) (acc : List Pair) (k0 : Nat), b.length ≤ f → f < k0 → b.length ≤ 1000000 → acc.length + b.length ≤ 1000000 →
    pax_Parse_L0 kap k k0 (bys b) (prs acc) = some (parAV (.int .u8 0) (.int .u8 6) ((parseL f b).map (acc ++ ·)))
  | 0, b, acc, k0 + 1, hf, hk, hb, ha => by
    have : b = [] := List.eq_nil_of_length_eq_zero (by omega)
    subst this
    rw [pax_Parse_L0_s, bys_len, bif_f (by simp)]
    simp [parseL, parAV]
  | f + 1, b, acc, k0 + 1, hf, hk, hb, ha => by
    rw [pax_Parse_L0_s, bys_len]
    unfold parseL
    by_cases hn : b = []
    · subst hn
      rw [bif_f (by simp), if_pos rfl]
      simp [parAV]
    · have hpos : 0 < b.length := List.length_pos_iff.2 hn
      rw [bif_t (by omega), if_neg hn, hR b hb]
      cases hr : recL b with
      | none => rfl
      | some x =>
        obtain ⟨p, m⟩ := x
        have hx := recL_facts hr
        have e : ∀ K : List AV → Option AV, callT (some (recAV (some (p, m)))) K = K [elPair p, .int .i64 (m : Int)] := fun K => rfl
        rw [e, tupG_pair, p_0, p_1, tupI_ok, atNil_ok, bif_f (by omega), prs_len]
        rw [show (decide ((acc.length + 1) * 32 ≤ 140737488355328) && decide (acc.length + 1 ≤ 9223372036854775807)) = true by simp; omega, cond_true, bif_a, bif_t (by omega), bif_t (by omega), Int.toNat_natCast]
        have e2 : ((bys b).take b.length).drop m = bys (b.drop m) := by
          rw [← bys_len b, List.take_length]; unfold bys; rw [List.map_drop]
        have ih := parse_loop kap hR f (b.drop m) (acc ++ [p]) k0 (by rw [List.length_drop]; omega) (by omega) (by rw [List.length_drop]; omega) (by simp only [List.length_append, List.length_drop, List.length_singleton]; omega)
        rw [e2, prs_snoc, ih]
        dsimp only
        cases parseL f (b.drop m) with
        | none => rfl
        | some l => simp
theorem parse_k [HasTextV E] (b : Tx) (hb : b.length ≤ 1000000) (hk : 1000001 < k) : kp E k (n + 7) pax_Parse [.list 1 (bys b)] = some (parAV (.int .u8 0) (.int .u8 6) (parseL b.length b)) := by
  have := parse_loop (k := k) (kp E k (n + 6)) (fun b hb => record_k b hb (by omega)) b.length b [] k (Nat.le_refl _) (by omega) hb (by simpa using hb)
  rw [pax_Parse_eq]
  refine this.trans ?_
  cases parseL b.length b <;> rfl
end Go.Proofs.YtilbahgfjfcikaaGreatDoor.Eng.U


/- Records, the reference's side: printed and parsed. -/
set_option linter.unusedVariables false
set_option linter.unusedSectionVars false
set_option linter.unusedSimpArgs false
namespace Go.Proofs.YtilbahgfjfcikaaGreatDoor.Eng.U
open Go Go.Proofs Go.Proofs.YtilbahgfjfcikaaGreatDoor.Eng Go.Proofs.YtilbahgfjfcikaaGreatDoor.P04
variable {E : Ext} [Core E] [HasNum E] {k n : Nat}

theorem drop_at {l : Tx} {i : Nat} {c : UInt8} {r : Tx} (h : l.drop i = c :: r) : i < l.length ∧ l[i]? = some c ∧ l.drop (i + 1) = r := by
  have hi : i < l.length := by
    have := congrArg List.length h
    rw [List.length_drop, List.length_cons] at this
    omega
  refine ⟨hi, ?_, ?_⟩
  · have := congrArg (fun x => x[0]?) h
    simpa using this
  · have := congrArg List.tail h
    rw [List.tail_drop, List.tail_cons] at this
    exact this
theorem bys_some {l : Tx} {i : Nat} {c : UInt8} (h : l[i]? = some c) (F : AV → Option AV) : ((bys l)[i]?).bind F = F (byteAV c) := by
  unfold bys
  rw [List.getElem?_map, h]; rfl
def failP : Option AV := some (.tup [.list 2 [], .bool false])
theorem ref_eq (kap : FuncId → List AV → Option AV) (B : Tx) (hB : B.length ≤ 1000000) (hR : ∀ p : Pair, p.key.length ≤ 1000000 → p.val.length ≤ 1000000 → kap ref07_Right [.agg [.str (str p.key), .str (str p.val)]] = some (.bool (pairOk p)))
    (k0 s6 s9 : Nat) (h9 : s9 ≤ B.length) (h1 : 1 ≤ s9) (x : List Pair) (hx : x.length ≤ 1000000) : ∀ (r : Tx) (s10 k2 : Nat), (B.take (s9 - 1)).drop s10 = r → r.length < k2 → s6 + 1 ≤ s10 → s10 ≤ s9 - 1 →
    ref07_Parse_L2 kap k k0 k2 (bys B) ((s6 : Nat) : Int) ((s9 : Nat) : Int) ((s10 : Nat) : Int) (prs x) =
      if s10 + (upto 61 r).length < s9 - 1 ∧ pairOk ⟨(B.take (s10 + (upto 61 r).length)).drop (s6 + 1), (B.take (s9 - 1)).drop (s10 + (upto 61 r).length + 1)⟩ = true then ref07_Parse_L0 kap k k0 (bys B) ((s9 : Nat) : Int) (prs (x ++ [⟨(B.take (s10 + (upto 61 r).length)).drop (s6 + 1), (B.take (s9 - 1)).drop (s10 + (upto 61 r).length + 1)⟩])) else failP
  | [], s10, k2 + 1, hr, hk, h6, h10 => by
    have hl := congrArg List.length hr
    rw [List.length_drop, List.length_take, List.length_nil] at hl
    rw [ref07_Parse_L2_s, i64w (x := ((s9 : Nat) : Int) - 1) (by omega), bif_f (by omega), bif_t (by omega), if_neg (by rw [upto_nil, List.length_nil]; omega)]
    rfl
  | c :: r, s10, k2 + 1, hr, hk, h6, h10 => by
    obtain ⟨a1, a2, a3⟩ := drop_at hr
    rw [List.length_take] at a1
    rw [List.getElem?_take_of_lt (by omega)] at a2
    rw [ref07_Parse_L2_s, i64w (x := ((s9 : Nat) : Int) - 1) (by omega), i64w (x := ((s10 : Nat) : Int) + 1) (by omega), i64w (x := ((s6 : Nat) : Int) + 1) (by omega), bys_len, bif_t (by omega), bif_a, bif_t (by omega), bif_t (by omega), Int.toNat_natCast, bys_some a2, byte_c, show decide (((c.toNat : Nat) : Int) = 61) = decide (c = 61) from byte_is c 61 (by omega)]
    by_cases hc : c = 61
    · have e1 : (((s9 : Nat) : Int) - 1).toNat = s9 - 1 := by omega
      have e2 : (((s6 : Nat) : Int) + 1).toNat = s6 + 1 := by omega
      have e3 : (((s10 : Nat) : Int) + 1).toNat = s10 + 1 := by omega
      rw [decide_eq_true hc, Bool.not_true, cond_false, bif_f (by omega), e1, e2, e3, bif_a, bif_t (by omega), bif_t (by omega), bif_a, bif_t (by omega), bif_t (by omega), toBytes_bys, Option.bind_some, bif_a, bif_t (by omega), bif_t (by omega), bif_a, bif_t (by omega), bif_t (by omega), toBytes_bys, Option.bind_some]
      have hq := hR ⟨(B.take s10).drop (s6 + 1), (B.take (s9 - 1)).drop (s10 + 1)⟩ (by dsimp only; rw [List.length_drop, List.length_take]; omega) (by dsimp only; rw [List.length_drop, List.length_take]; omega)
      rw [hq, callB_ok, prs_len]
      subst hc
      rw [upto_hit, List.length_nil, Nat.add_zero]
      cases hp : pairOk ⟨(B.take s10).drop (s6 + 1), (B.take (s9 - 1)).drop (s10 + 1)⟩ with
      | false => rw [Bool.not_false, cond_true, if_neg (by simp)]; rfl
      | true =>
        rw [Bool.not_true, cond_false, show (decide ((x.length + 1) * 32 ≤ 140737488355328) && decide (x.length + 1 ≤ 9223372036854775807)) = true by simp; omega, cond_true, if_pos ⟨by omega, rfl⟩]
        rw [prs_snoc x ⟨(B.take s10).drop (s6 + 1), (B.take (s9 - 1)).drop (s10 + 1)⟩]
        rfl
    · rw [decide_eq_false hc, Bool.not_false, cond_true, show ((s10 : Nat) : Int) + 1 = ((s10 + 1 : Nat) : Int) by omega]
      rw [ref_eq kap B hB hR k0 s6 s9 h9 h1 x hx r (s10 + 1) k2 a3 (by simpa using hk) (by omega) (by omega)]
      rw [upto_cons hc, List.length_cons, show s10 + 1 + (upto 61 r).length = s10 + ((upto 61 r).length + 1) by omega]
theorem ref_blank (kap : FuncId → List AV → Option AV) (B : Tx) (hB : B.length ≤ 1000000) (hN : ∀ l : Tx, l.length ≤ 1000000 → kap ref04_Number [.str (str l)] = some (bif natOk l && decide (valA 0 l ≤ 9223372036854775807) then .tup [.int .i64 (valA 0 l : Int), .bool true] else .tup [.int .i64 0, .bool false]))
    (k0 s5 : Nat) (x : List Pair) : ∀ (r : Tx) (s6 k1 : Nat), B.drop s6 = r → r.length < k1 → s5 ≤ s6 → s6 ≤ B.length →
    ref07_Parse_L1 kap k k0 k1 (bys B) ((s5 : Nat) : Int) ((s6 : Nat) : Int) (prs x) =
      if ((B.take (s6 + (upto 32 r).length)).drop s5).length ≤ 8 ∧ natOk ((B.take (s6 + (upto 32 r).length)).drop s5) = true ∧ s5 + valA 0 ((B.take (s6 + (upto 32 r).length)).drop s5) ≤ B.length ∧ s6 + (upto 32 r).length + 2 ≤ s5 + valA 0 ((B.take (s6 + (upto 32 r).length)).drop s5) ∧ B.getD (s5 + valA 0 ((B.take (s6 + (upto 32 r).length)).drop s5) - 1) 0 = 10
      then ref07_Parse_L2 kap k k0 k (bys B) ((s6 + (upto 32 r).length : Nat) : Int) ((s5 + valA 0 ((B.take (s6 + (upto 32 r).length)).drop s5) : Nat) : Int) ((s6 + (upto 32 r).length + 1 : Nat) : Int) (prs x) else failP := by
  have tail : ∀ q : Nat, s5 ≤ q → q ≤ B.length → ∀ F : Option AV,
      (F = bif (decide ((IntKind.wrap .i64 (((q : Nat) : Int) - ((s5 : Nat) : Int))) > (8 : Int))) then (some (.tup [(.list 2 []), (.bool false)])) else (bif ((decide ((0 : Int) ≤ ((q : Nat) : Int))) && (decide (((q : Nat) : Int) ≤ (((List.length (bys B)) : Nat) : Int)))) then (bif ((decide ((0 : Int) ≤ ((s5 : Nat) : Int))) && (decide (((s5 : Nat) : Int) ≤ (((Int.toNat ((q : Nat) : Int)) : Nat) : Int)))) then ((toBytes (List.drop (Int.toNat ((s5 : Nat) : Int)) (List.take (Int.toNat ((q : Nat) : Int)) (bys B)))).bind fun vl3 => (callT (kap ref04_Number [(.str (str vl3))]) fun vt5 => (tupI .i64 vt5 fun vn6 vt7 => (tupB vt7 fun vq8 vt9 => (atNil vt9 (bif (!vq8) then (some (.tup [(.list 2 []), (.bool false)])) else (bif (decide ((IntKind.wrap .i64 (((s5 : Nat) : Int) + vn6)) > (((List.length (bys B)) : Nat) : Int))) then (some (.tup [(.list 2 []), (.bool false)])) else (bif (decide ((IntKind.wrap .i64 (((s5 : Nat) : Int) + vn6)) < (IntKind.wrap .i64 (((q : Nat) : Int) + (2 : Int))))) then (some (.tup [(.list 2 []), (.bool false)])) else (bif ((decide ((0 : Int) ≤ (IntKind.wrap .i64 ((IntKind.wrap .i64 (((s5 : Nat) : Int) + vn6)) - (1 : Int))))) && (decide ((IntKind.wrap .i64 ((IntKind.wrap .i64 (((s5 : Nat) : Int) + vn6)) - (1 : Int))) < (((List.length (bys B)) : Nat) : Int)))) then (((bys B)[(Int.toNat (IntKind.wrap .i64 ((IntKind.wrap .i64 (((s5 : Nat) : Int) + vn6)) - (1 : Int))))]?).bind fun vy10 => (cellI .u8 (AV.cells vy10) 0 fun vn11 => (bif (!(decide (vn11 = (10 : Int)))) then (some (.tup [(.list 2 []), (.bool false)])) else (ref07_Parse_L2 kap k k0 k (bys B) ((q : Nat) : Int) (IntKind.wrap .i64 (((s5 : Nat) : Int) + vn6)) (IntKind.wrap .i64 (((q : Nat) : Int) + (1 : Int))) (prs x))))) else none))))))))) else none) else none)) →
      F = if ((B.take q).drop s5).length ≤ 8 ∧ natOk ((B.take q).drop s5) = true ∧ s5 + valA 0 ((B.take q).drop s5) ≤ B.length ∧ q + 2 ≤ s5 + valA 0 ((B.take q).drop s5) ∧ B.getD (s5 + valA 0 ((B.take q).drop s5) - 1) 0 = 10
        then ref07_Parse_L2 kap k k0 k (bys B) ((q : Nat) : Int) ((s5 + valA 0 ((B.take q).drop s5) : Nat) : Int) ((q + 1 : Nat) : Int) (prs x) else failP := by
    intro q h5 hq F hF
    have hDl : ((B.take q).drop s5).length = q - s5 := by rw [List.length_drop, List.length_take]; omega
    rw [hF, i64w (x := ((q : Nat) : Int) - ((s5 : Nat) : Int)) (by omega), i64w (x := ((q : Nat) : Int) + 2) (by omega), i64w (x := ((q : Nat) : Int) + 1) (by omega), bys_len, Int.toNat_natCast, Int.toNat_natCast]
    by_cases h8 : q - s5 ≤ 8
    · rw [bif_f (by omega), bif_a, bif_t (by omega), bif_t (by omega), bif_a, bif_t (by omega), bif_t (by omega), toBytes_bys, Option.bind_some, hN _ (by omega)]
      generalize (B.take q).drop s5 = D at hDl
      by_cases hn : natOk D = true ∧ valA 0 D ≤ 9223372036854775807
      · rw [hn.1, decide_eq_true hn.2, Bool.true_and, cond_true, callT_ok, tupI_ok, tupB_ok, atNil_ok, Bool.not_true, cond_false]
        by_cases hw : s5 + valA 0 D ≤ B.length
        · rw [i64w (x := ((s5 : Nat) : Int) + ((valA 0 D : Nat) : Int)) (by omega), bif_f (by omega)]
          by_cases hq2 : q + 2 ≤ s5 + valA 0 D
          · rw [bif_f (by omega), i64w (x := ((s5 : Nat) : Int) + ((valA 0 D : Nat) : Int) - 1) (by omega), bif_a, bif_t (by omega), bif_t (by omega)]
            have e1 : (((s5 : Nat) : Int) + ((valA 0 D : Nat) : Int) - 1).toNat = s5 + valA 0 D - 1 := by omega
            rw [e1, bys_at B _ (by omega), byte_c, show ∀ c : UInt8, decide (((c.toNat : Nat) : Int) = 10) = decide (c = 10) from fun c => byte_is c 10 (by omega), ← getD_of B _ (by omega)]
            by_cases h10 : B.getD (s5 + valA 0 D - 1) 0 = 10
            · rw [decide_eq_true h10, Bool.not_true, cond_false, if_pos ⟨by omega, rfl, hw, hq2, h10⟩]
              rfl
            · rw [decide_eq_false h10, Bool.not_false, cond_true, if_neg (fun h => h10 h.2.2.2.2)]; rfl
          · rw [bif_t (by omega), if_neg (fun h => hq2 h.2.2.2.1)]; rfl
        · rw [if_neg (fun h => hw h.2.2.1)]
          by_cases hv : ((s5 : Nat) : Int) + ((valA 0 D : Nat) : Int) ≤ 9223372036854775807
          · rw [i64w (x := ((s5 : Nat) : Int) + ((valA 0 D : Nat) : Int)) (by omega), bif_t (by omega)]; rfl
          · have hwr : IntKind.wrap .i64 (((s5 : Nat) : Int) + ((valA 0 D : Nat) : Int)) = ((s5 : Nat) : Int) + ((valA 0 D : Nat) : Int) - 18446744073709551616 := by rw [IntKind.wrap_i64]; omega
            rw [hwr, bif_f (by omega), bif_t (by omega)]; rfl
      · have e : (natOk D && decide (valA 0 D ≤ 9223372036854775807)) = false := by
          cases h : natOk D with
          | false => rfl
          | true => rw [Bool.true_and, decide_eq_false (fun h2 => hn ⟨h, h2⟩)]
        rw [e, cond_false, callT_ok, tupI_ok, tupB_ok, atNil_ok, Bool.not_false, cond_true, if_neg (fun h => hn ⟨h.2.1, by omega⟩)]; rfl
    · rw [bif_t (by omega), if_neg (fun h => by omega)]; rfl
  intro r
  induction r with
  | nil =>
    intro s6 k1 hr hk h5 h6
    obtain ⟨k1, rfl⟩ : ∃ m, k1 = m + 1 := ⟨k1 - 1, by omega⟩
    have hl := congrArg List.length hr
    rw [List.length_drop, List.length_nil] at hl
    rw [upto_nil, List.length_nil, Nat.add_zero]
    refine tail s6 h5 h6 _ ?_
    rw [ref07_Parse_L1_s, bif_f (by rw [bys_len]; omega)]
  | cons c r ih =>
    intro s6 k1 hr hk h5 h6
    obtain ⟨k1, rfl⟩ : ∃ m, k1 = m + 1 := ⟨k1 - 1, by omega⟩
    obtain ⟨a1, a2, a3⟩ := drop_at hr
    by_cases hc : c = 32
    · subst hc
      rw [upto_hit, List.length_nil, Nat.add_zero]
      refine tail s6 h5 h6 _ ?_
      rw [ref07_Parse_L1_s, bif_t (by rw [bys_len]; omega), bif_a, bif_t (by omega), bif_t (by rw [bys_len]; omega), Int.toNat_natCast, bys_some a2, byte_c, show decide (((UInt8.toNat 32 : Nat) : Int) = 32) = true from rfl, Bool.not_true, cond_false]
    · rw [ref07_Parse_L1_s, bif_t (by rw [bys_len]; omega), bif_a, bif_t (by omega), bif_t (by rw [bys_len]; omega), Int.toNat_natCast, bys_some a2, byte_c, show decide (((c.toNat : Nat) : Int) = 32) = decide (c = 32) from byte_is c 32 (by omega), decide_eq_false hc, Bool.not_false, cond_true, wrap1 (by omega)]
      rw [ih (s6 + 1) k1 a3 (by simpa using hk) (by omega) (by omega), upto_cons hc, List.length_cons, show s6 + 1 + (upto 32 r).length = s6 + ((upto 32 r).length + 1) by omega]
theorem dl_up : ∀ (j u : Nat), u < 10 ^ (j + 1) → dl u ≤ j + 1
  | 0, u, h => by rw [dl_small (by omega)]; omega
  | j + 1, u, h => by
    by_cases h10 : u < 10
    · rw [dl_small h10]; omega
    · rw [dl_big h10]
      have : 10 ^ (j + 1 + 1) = 10 * 10 ^ (j + 1) := by rw [Nat.pow_succ 10 (j + 1), Nat.mul_comm]
      have := dl_up j (u / 10) (by omega)
      omega
theorem cut_in (B : Tx) (a i j : Nat) : (B.take (a + j)).drop (a + i) = ((B.drop a).take j).drop i := by
  rw [← List.drop_drop, List.drop_take, show a + j - a = j by omega]
theorem ref_parse (kap : FuncId → List AV → Option AV) (B : Tx) (hB : B.length ≤ 1000000) (hR : ∀ p : Pair, p.key.length ≤ 1000000 → p.val.length ≤ 1000000 → kap ref07_Right [.agg [.str (str p.key), .str (str p.val)]] = some (.bool (pairOk p)))
    (hN : ∀ l : Tx, l.length ≤ 1000000 → kap ref04_Number [.str (str l)] = some (bif natOk l && decide (valA 0 l ≤ 9223372036854775807) then .tup [.int .i64 (valA 0 l : Int), .bool true] else .tup [.int .i64 0, .bool false])) (hk : 1000001 < k) :
    ∀ (f a : Nat) (x : List Pair) (k0 : Nat), (B.drop a).length ≤ f → f < k0 → a ≤ B.length → x.length + (B.length - a) ≤ 1000000 →
    ref07_Parse_L0 kap k k0 (bys B) ((a : Nat) : Int) (prs x) = some (parAV (.bool true) (.bool false) ((parseL f (B.drop a)).map (x ++ ·)))
  | 0, a, x, k0 + 1, hf, h0, ha, hx => by
    have hd : B.drop a = [] := List.eq_nil_of_length_eq_zero (by omega)
    rw [List.length_drop] at hf
    rw [ref07_Parse_L0_s, bys_len, bif_f (by omega), hd]
    simp [parseL, parAV]
  | f + 1, a, x, k0 + 1, hf, h0, ha, hx => by
    have hlen : (B.drop a).length = B.length - a := List.length_drop
    rw [ref07_Parse_L0_s, bys_len]
    unfold parseL
    by_cases hn : B.drop a = []
    · rw [hn, List.length_nil] at hlen
      rw [bif_f (by omega), if_pos hn]
      simp [parAV]
    · have hpos : 0 < (B.drop a).length := List.length_pos_iff.2 hn
      rw [bif_t (by omega), if_neg hn, ref_blank kap B hB hN k0 a x _ a k rfl (by omega) (Nat.le_refl _) ha]
      have hul := upto_le 32 (B.drop a)
      have e1 : (B.take (a + (upto 32 (B.drop a)).length)).drop a = upto 32 (B.drop a) := by
        have := cut_in B a 0 (upto 32 (B.drop a)).length
        rw [Nat.add_zero, List.drop_zero, upto_take] at this
        exact this
      rw [e1]
      unfold recL
      by_cases hc : natOk (upto 32 (B.drop a)) = true ∧ valA 0 (upto 32 (B.drop a)) ≤ (B.drop a).length ∧ (upto 32 (B.drop a)).length + 2 ≤ valA 0 (upto 32 (B.drop a)) ∧ (B.drop a).getD (valA 0 (upto 32 (B.drop a)) - 1) 0 = 10
      · obtain ⟨c1, c2, c3, c4⟩ := hc
        have h8 : (upto 32 (B.drop a)).length ≤ 8 := by
          rw [← dl_nat c1 (by omega)]
          exact dl_up 7 _ (by omega)
        have e2 : B.getD (a + valA 0 (upto 32 (B.drop a)) - 1) 0 = 10 := by
          rw [← c4, List.getD_eq_getElem?_getD, List.getD_eq_getElem?_getD, List.getElem?_drop, show a + valA 0 (upto 32 (B.drop a)) - 1 = a + (valA 0 (upto 32 (B.drop a)) - 1) by omega]
        rw [if_pos ⟨h8, c1, by omega, by omega, e2⟩, if_pos ⟨c1, c2, c3, c4⟩]
        have e3 : (B.take (a + valA 0 (upto 32 (B.drop a)) - 1)).drop (a + (upto 32 (B.drop a)).length + 1) = ((B.drop a).take (valA 0 (upto 32 (B.drop a)) - 1)).drop ((upto 32 (B.drop a)).length + 1) := by
          rw [show a + valA 0 (upto 32 (B.drop a)) - 1 = a + (valA 0 (upto 32 (B.drop a)) - 1) by omega, Nat.add_assoc]
          exact cut_in B a _ _
        rw [ref_eq kap B hB hR k0 _ _ (by omega) (by omega) x (by omega) _ _ k e3 (by rw [List.length_drop, List.length_take]; omega) (by omega) (by omega)]
        unfold recT
        dsimp only
        generalize hD : (upto 32 (B.drop a)).length = d at *
        generalize hV : valA 0 (upto 32 (B.drop a)) = m at *
        have hMl : (((B.drop a).take (m - 1)).drop (d + 1)).length = m - 1 - (d + 1) := by rw [List.length_drop, List.length_take]; omega
        have e4 : (B.take (a + d + 1 + (upto 61 (((B.drop a).take (m - 1)).drop (d + 1))).length)).drop (a + d + 1) = upto 61 (((B.drop a).take (m - 1)).drop (d + 1)) := by
          have hu := upto_le 61 (((B.drop a).take (m - 1)).drop (d + 1))
          have := cut_in B a (d + 1) (d + 1 + (upto 61 (((B.drop a).take (m - 1)).drop (d + 1))).length)
          rw [← Nat.add_assoc, ← Nat.add_assoc, ← Nat.add_assoc] at this
          rw [this, List.drop_take, show d + 1 + (upto 61 (((B.drop a).take (m - 1)).drop (d + 1))).length - (d + 1) = (upto 61 (((B.drop a).take (m - 1)).drop (d + 1))).length by omega]
          have h2 := upto_take 61 (((B.drop a).take (m - 1)).drop (d + 1))
          rw [List.drop_take, List.take_take] at h2
          rw [List.drop_take] at hu hMl
          rw [← List.drop_take] at h2
          have hmin : min (upto 61 (((B.drop a).take (m - 1)).drop (d + 1))).length (m - 1 - (d + 1)) = (upto 61 (((B.drop a).take (m - 1)).drop (d + 1))).length := by rw [List.drop_take]; omega
          rw [hmin] at h2
          exact h2
        have e5 : (B.take (a + m - 1)).drop (a + d + 1 + (upto 61 (((B.drop a).take (m - 1)).drop (d + 1))).length + 1) = (((B.drop a).take (m - 1)).drop (d + 1)).drop ((upto 61 (((B.drop a).take (m - 1)).drop (d + 1))).length + 1) := by
          rw [List.drop_drop, show a + m - 1 = a + (m - 1) by omega, show a + d + 1 + (upto 61 (((B.drop a).take (m - 1)).drop (d + 1))).length + 1 = a + (d + 1 + ((upto 61 (((B.drop a).take (m - 1)).drop (d + 1))).length + 1)) by omega]
          exact cut_in B a _ _
        rw [e4, e5]
        generalize ((B.drop a).take (m - 1)).drop (d + 1) = M at *
        by_cases hp : (upto 61 M).length < M.length ∧ pairOk ⟨upto 61 M, M.drop ((upto 61 M).length + 1)⟩ = true
        · rw [if_pos ⟨by omega, hp.2⟩, if_pos hp]
          dsimp only
          have e6 : B.drop (a + m) = (B.drop a).drop m := by rw [List.drop_drop]
          rw [ref_parse kap B hB hR hN hk f (a + m) _ k0 (by rw [List.length_drop]; omega) (by omega) (by omega) (by rw [List.length_append, List.length_singleton]; omega), e6]
          cases parseL f ((B.drop a).drop m) with
          | none => rfl
          | some l => simp
        · rw [if_neg (fun h => hp ⟨by omega, h.2⟩), if_neg hp]; rfl
      · rw [if_neg hc, if_neg]
        · rfl
        · rintro ⟨b1, b2, b3, b4, b5⟩
          refine hc ⟨b2, by omega, by omega, ?_⟩
          rw [← b5, List.getD_eq_getElem?_getD, List.getD_eq_getElem?_getD, List.getElem?_drop, show a + valA 0 (upto 32 (B.drop a)) - 1 = a + (valA 0 (upto 32 (B.drop a)) - 1) by omega]
theorem refParse_k (b : Tx) (hb : b.length ≤ 1000000) (hk : 2000000 < k) : kp E k (n + 5) ref07_Parse [.list 1 (bys b)] = some (parAV (.bool true) (.bool false) (parseL b.length b)) := by
  have := ref_parse (k := k) (kp E k (n + 4)) b hb (fun p h1 h2 => refPair_k (n := n) p h1 h2 hk) (fun l hl => refNumber_k (n := n + 1) l (by omega) (by omega)) (by omega) b.length 0 [] k (by simp) (by omega) (by omega) (by simpa using hb)
  rw [ref07_Parse_eq]
  refine this.trans ?_
  rw [List.drop_zero]
  cases parseL b.length b <;> rfl
end Go.Proofs.YtilbahgfjfcikaaGreatDoor.Eng.U


/- Records printed, parsed, and back: the laws in plain words. -/
set_option linter.unusedVariables false
set_option linter.unusedSectionVars false
set_option linter.unusedSimpArgs false
namespace Go.Proofs.YtilbahgfjfcikaaGreatDoor.Eng.U
open Go Go.RowKit Go.Proofs Go.Proofs.YtilbahgfjfcikaaGreatDoor.Eng Go.Proofs.YtilbahgfjfcikaaGreatDoor.P04

section
variable {E : Ext} [Core E] {k n : Nat}
end
theorem parse07K : kp ext07 10000000000000 24 pax_Parse [.list 1 (bys [49, 48, 32, 112, 97, 116, 104, 61, 97, 10])] = some (.tup [.list 2 (prs [⟨[112, 97, 116, 104], [97]⟩]), .int .u8 0]) := by kernel_rfl
theorem alive07K : kp ext07 10000000000000 25 law07_alive [] = some (.bool true) := by
  have h1 := HasPrint.print (E := ext07) 10000000000000 24 [⟨[112, 97, 116, 104], [97]⟩] (by decide)
  have e1 : List.all [(⟨[112, 97, 116, 104], [97]⟩ : Pair)] pairOk = true := by rw [List.all_cons, ok_pa]; rfl
  rw [e1, cond_true, lines_pa] at h1
  have h2 : kp ext07 10000000000000 24 pax_Print [.list 2 [.agg [.str (str [112, 97, 116, 104]), .str (str [97])]]] = _ := h1
  have h3 : kp ext07 10000000000000 24 pax_Parse [.list 1 [.int .u8 49, .int .u8 48, .int .u8 32, .int .u8 112, .int .u8 97, .int .u8 116, .int .u8 104, .int .u8 61, .int .u8 97, .int .u8 10]] = _ := parse07K
  rw [law07_alive_eq, h2, h3]
  rfl
theorem parses07 (b : Tx) (g : b.length ≤ 140737488351232) : (bs ext07 10000000000000).kap 26 law07_PaxParses [.list 1 (bys b)] = some (.bool true) := by
  change kp ext07 10000000000000 26 law07_PaxParses [.list 1 (bys b)] = _
  rw [law07_PaxParses_eq, alive07K, callB_ok, Bool.not_true, cond_false, bys_len]
  by_cases h3 : 3000 < b.length
  · rw [bif_t (by omega)]
  · rw [bif_f (by omega), parse_k (n := 18) b (by omega) (by omega), refParse_k (n := 20) b (by omega) (by omega)]
    cases hp : parseL b.length b with
    | none => rfl
    | some m =>
      have hs := parse_short b.length b m (by omega) hp
      have e1 : ∀ K : List AV → Option AV, callT (some (parAV (.int .u8 0) (.int .u8 6) (some m))) K = K [.list 2 (prs m), .int .u8 0] := fun K => rfl
      have e2 : ∀ K : List AV → Option AV, callT (some (parAV (.bool true) (.bool false) (some m))) K = K [.list 2 (prs m), .bool true] := fun K => rfl
      rw [e1, tupL_ok, tupI_ok, atNil_ok, e2, tupL_ok, tupB_ok, atNil_ok, Bool.not_true, cond_false, i64w (x := 0) (by omega), bif_t rfl, pSame_k (n := 24) m m (by omega) (by omega), callB_ok, decide_eq_true rfl]
end Go.Proofs.YtilbahgfjfcikaaGreatDoor.Eng.U

