/- Several texts of this proof in one file: U09f, U04d, U07, Q08, U08, U09d, U09g, U09h, U09i, U09j, V00, Q04b, V04b, U20, U20b, U20c, U20d, U07b, U07c, U07d, Q20, U21, U20e, U20f, U20g, Q08b, U08c, U08d, T14, V20, V09, B09, B20, B21, X20, U20h, Rd20. -/
import Derived.Test.YtogfcfgfkggmlaaGreatDoorMTaleHeads1
import Derived.Lib.IndexAny
import Derived.Lib.ItoaMem
import Derived.Test.YtogfcfgfkggmlaaGreatDoorMTaleHeads0
import Derived.Lib.Bytealg
import Derived.Test.YtogfcfgfkggmlaaGreatDoorMETaleHeads2
/- Which texts hold = or a nought, told exactly. -/
set_option linter.unusedVariables false
set_option linter.unusedSectionVars false
set_option linter.unusedSimpArgs false
namespace Go.Proofs.YtogfcfgfkggmlaaGreatDoor.Eng.U
open Go Go.Proofs Go.Proofs.YtogfcfgfkggmlaaGreatDoor.Eng
variable {E : Ext} [Core E] {k n : Nat}

def noEq (s : List UInt8) : Bool := s.all fun c => decide (c ≠ 61) && decide (c ≠ 0)
theorem idx_rune (r : Nat) (h : r < 128) : (0 : Int) ≤ Lib.indexByte [61, 0] (IntKind.wrap .u8 (r : Int)).toNat.toUInt8 ↔ r = 61 ∨ r = 0 := by
  have : ∀ r : _root_.Fin 128, ((0 : Int) ≤ Lib.indexByte [61, 0] (IntKind.wrap .u8 ((r.1 : Nat) : Int)).toNat.toUInt8 ↔ r.1 = 61 ∨ r.1 = 0) := by decide +kernel
  exact this ⟨r, h⟩
theorem rune_V [HasIB E] (r : Nat) (hk : 10 < k) : ∃ i : Int, kp E k (n + 2) strings_IndexRune [.str (str [61, 0]), .int .i32 (r : Int)] = some (.int .i64 i) ∧ (0 ≤ i ↔ r = 61 ∨ r = 0) := by
  obtain ⟨k, rfl⟩ : ∃ j, k = j + 3 := ⟨k - 3, by omega⟩
  rw [strings_IndexRune_eq, bif_t (by omega)]
  by_cases h1 : r < 128
  · rw [bif_t (by omega), HasIB.indexB, callI_ok]; exact ⟨_, rfl, idx_rune r h1⟩
  · rw [bif_f (by omega)]
    by_cases h2 : (r : Int) = 65533
    · rw [bif_t h2]
      have d0 : Utf8.decode (str [61, 0]) 0 = (61, 1) := by decide +kernel
      have d1 : Utf8.decode (str [61, 0]) 1 = (0, 1) := by decide +kernel
      have sz : (str [61, 0]).size = 2 := rfl
      have z1 : 0 + ((61, 1) : Nat × Nat).2 = 1 := rfl
      have z2 : 1 + ((0, 1) : Nat × Nat).2 = 2 := rfl
      rw [strings_IndexRune_L0_s, sz, d0, z1, bif_t (by omega), bif_f (by decide), strings_IndexRune_L0_s, sz, d1, z2, bif_t (by omega), bif_f (by decide), strings_IndexRune_L0_s, sz, bif_f (by omega)]
      exact ⟨_, rfl, by omega⟩
    · rw [bif_f h2]
      obtain ⟨b, hb⟩ := valid_B (E := E) (k := k + 3) (n := n) (r : Int)
      rw [hb, callB_ok]
      cases b with
      | false => exact ⟨_, rfl, by omega⟩
      | true =>
        rw [Bool.not_true, cond_false]
        have sz : (str [61, 0]).size = 2 := rfl
        rcases enc_facts r (by omega) with ⟨e1, e2⟩ | e1 | e1
        · rw [e1, i64w (by omega), strings_IndexRune_L1_s, sz, e1]
          have hb1 : byteAt (str [61, 0]) 1 = 0 := rfl
          have e3 : Int.toNat (((2 : Nat) : Int) - 1) = 1 := rfl
          rw [bif_t (by omega), bif_a, bif_t (by omega), bif_t (by omega), bif_a, bif_t (by omega), bif_t (by omega), e3, hb1, decide_eq_false (by omega), Bool.not_false, cond_true, i64w (by omega), bif_a, bif_t (by omega), bif_t (by omega), bif_a, bif_t (by omega), bif_t (by omega)]
          have e4 : Int.toNat (((2 : Nat) : Int) - 1 + 1) = 2 := rfl
          have e5 : ByteArray.extract (str [61, 0]) 2 2 = str [] := by decide +kernel
          rw [e4, e5, HasIB.indexB, callI_ok]
          have e6 : Lib.indexByte [] (byteAt (Utf8.encode (r : Int)) 1).toNat.toUInt8 = -1 := rfl
          rw [e6, bif_t (by omega)]
          exact ⟨_, rfl, by omega⟩
        · rw [e1, i64w (by omega), strings_IndexRune_L1_s, sz, bif_f (by omega)]; exact ⟨_, rfl, by omega⟩
        · rw [e1, i64w (by omega), strings_IndexRune_L1_s, sz, bif_f (by omega)]; exact ⟨_, rfl, by omega⟩
theorem dec_low (s : ByteArray) (i : Nat) (h : by_ s i < 128) : Utf8.decode s i = (by_ s i, 1) := by
  rw [Lib.decode_at, get_by, get_by, get_by, get_by]
  unfold Lib.decodeN
  rw [if_pos h]
theorem dec_wide (s : ByteArray) (i : Nat) (h : 128 ≤ by_ s i) : 128 ≤ (Utf8.decode s i).1 ∧ ∀ j, j < (Utf8.decode s i).2 → 128 ≤ by_ s (i + j) := by
  rw [Lib.decode_at, get_by, get_by, get_by, get_by]
  unfold Lib.decodeN
  rw [if_neg (by omega)]
  have key : ∀ (c w : Nat), 128 ≤ c → (w ≤ 4) → (1 < w → 128 ≤ by_ s (i + 1)) → (2 < w → 128 ≤ by_ s (i + 2)) → (3 < w → 128 ≤ by_ s (i + 3)) → 128 ≤ ((c, w) : Nat × Nat).1 ∧ ∀ j, j < ((c, w) : Nat × Nat).2 → 128 ≤ by_ s (i + j) := by
    intro c w hc hw h1 h2 h3
    refine ⟨hc, fun j hj => ?_⟩
    have hj : j < w := hj
    have : j = 0 ∨ j = 1 ∨ j = 2 ∨ j = 3 := by omega
    rcases this with rfl | rfl | rfl | rfl
    · exact h
    · exact h1 (by omega)
    · exact h2 (by omega)
    · exact h3 (by omega)
  repeat' split
  all_goals exact key _ _ (by omega) (by omega) (by omega) (by omega) (by omega)
theorem any_lv [HasIB E] (hk : 10 < k) (s : List UInt8) : ∀ (m k0 i : Nat), s.length - i < m → m ≤ k0 → ∃ r : Int, strings_IndexAny_L0 (kp E k (n + 2)) k k0 (str [61, 0]) (str s) i = some (.int .i64 r) ∧ (0 ≤ r ↔ ∃ j, i ≤ j ∧ j < s.length ∧ (by_ (str s) j = 61 ∨ by_ (str s) j = 0))
  | 0, k0, i, h, _ => by omega
  | m + 1, k0 + 1, i, h, hkk => by
    rw [strings_IndexAny_L0_s, str_size]
    by_cases hi : i < s.length
    · rw [decide_eq_true hi, cond_true]
      obtain ⟨x, hx, hxi⟩ := rune_V (E := E) (k := k) (n := n) (Utf8.decode (str s) i).1 hk
      rw [hx, callI_ok]
      have hw := width_pos (str s) i
      by_cases h0 : x ≥ 0
      · rw [bif_t h0]
        refine ⟨_, rfl, by
          constructor
          · intro _
            refine ⟨i, by omega, hi, ?_⟩
            by_cases hb : by_ (str s) i < 128
            · have := dec_low (str s) i hb
              have h1 := hxi.1 h0
              rw [this] at h1
              exact h1
            · have := (dec_wide (str s) i (by omega)).1
              have h1 := hxi.1 h0
              omega
          · intro _; omega⟩
      · rw [bif_f h0]
        obtain ⟨r, hr, hri⟩ := any_lv hk s m k0 (i + (Utf8.decode (str s) i).2) (by omega) (by omega)
        refine ⟨r, hr, hri.trans ⟨fun ⟨j, a, b, c⟩ => ⟨j, by omega, b, c⟩, fun ⟨j, a, b, c⟩ => ⟨j, ?_, b, c⟩⟩⟩
        have hn : ¬ ((Utf8.decode (str s) i).1 = 61 ∨ (Utf8.decode (str s) i).1 = 0) := fun h => h0 (hxi.2 h)
        by_cases hb : by_ (str s) i < 128
        · rw [dec_low (str s) i hb] at hn ⊢
          have hn : ¬ (by_ (str s) i = 61 ∨ by_ (str s) i = 0) := hn
          show i + 1 ≤ j
          by_cases e : i = j
          · subst e; exact absurd c hn
          · omega
        · have hall := (dec_wide (str s) i (by omega)).2
          by_cases e : i + (Utf8.decode (str s) i).2 ≤ j
          · exact e
          · have := hall (j - i) (by omega)
            rw [show i + (j - i) = j by omega] at this
            omega
    · rw [decide_eq_false hi, cond_false]
      exact ⟨_, rfl, ⟨fun h => by omega, fun ⟨j, a, b, _⟩ => by omega⟩⟩
theorem noEq_iff (s : List UInt8) : noEq s = false ↔ ∃ j, 0 ≤ j ∧ j < s.length ∧ (by_ (str s) j = 61 ∨ by_ (str s) j = 0) := by
  rw [noEq, List.all_eq_false]
  constructor
  · rintro ⟨c, hc, h⟩
    obtain ⟨j, hj, rfl⟩ := List.mem_iff_getElem.1 hc
    refine ⟨j, by omega, hj, ?_⟩
    have e : by_ (str s) j = (s[j]).toNat := by
      show ((str s).data.toList.getD j 0).toNat = _
      rw [show (str s).data.toList = s from rfl, List.getD_eq_getElem?_getD, List.getElem?_eq_getElem hj]; rfl
    rw [e]
    simp only [ne_eq, Bool.and_eq_true, decide_eq_true_eq] at h
    by_cases h6 : s[j] = 61
    · left; rw [h6]; rfl
    · by_cases h7 : s[j] = 0
      · right; rw [h7]; rfl
      · exact absurd ⟨h6, h7⟩ h
  · rintro ⟨j, _, hj, h⟩
    refine ⟨s[j], List.getElem_mem hj, ?_⟩
    have e : by_ (str s) j = (s[j]).toNat := by
      show ((str s).data.toList.getD j 0).toNat = _
      rw [show (str s).data.toList = s from rfl, List.getD_eq_getElem?_getD, List.getElem?_eq_getElem hj]; rfl
    rw [e] at h
    simp only [ne_eq, Bool.and_eq_true, decide_eq_true_eq]
    rintro ⟨h6, h7⟩
    rcases h with h | h
    · exact h6 (UInt8.toNat_inj.1 h)
    · exact h7 (UInt8.toNat_inj.1 h)
theorem any_short_v [HasIB E] (hB : E.isBase strings_IndexAny = false) (hF : E.fs.contains strings_IndexAny = true) (hk : 10 < k) (s : List UInt8) (hs : s.length ≤ 8) : ∃ r : Int, kp E k (n + 3) strings_IndexAny [.str (str s), .str (str [61, 0])] = some (.int .i64 r) ∧ decide (r ≥ 0) = !noEq s := by
  have sz : (str [61, 0]).size = 2 := rfl
  rw [strings_IndexAny_eq hB hF, sz, str_size, bif_f (by decide), bif_f (by omega), strings_shouldUseASCIISet_eq, callB_ok, bif_f (by omega)]
  obtain ⟨r, hr, h⟩ := any_lv (E := E) (n := n) hk s k k 0 (by omega) (Nat.le_refl _)
  refine ⟨r, hr, ?_⟩
  rw [← noEq_iff] at h
  cases hq : noEq s with
  | true => rw [hq] at h; simp only [Bool.true_eq_false, iff_false] at h; rw [decide_eq_false h]; rfl
  | false => rw [hq] at h; simp only [iff_true] at h; rw [decide_eq_true h]; rfl
theorem any_long_v (s : List UInt8) : decide (Lib.indexAny s [61, 0] ≥ 0) = !noEq s := by
  induction s with
  | nil => rfl
  | cons b l ih =>
    have hg := Lib.indexAny_ge [61, 0] l
    unfold Lib.indexAny noEq
    rw [List.all_cons]
    by_cases hb : b = 61 ∨ b = 0
    · have e : List.contains [61, 0] b = true := by rcases hb with rfl | rfl <;> rfl
      rw [if_pos e]
      rcases hb with rfl | rfl <;> rfl
    · have e : List.contains [61, 0] b = false := by
        simp only [not_or] at hb
        simp [List.contains_cons, hb.1, hb.2]
      rw [e]
      simp only [not_or] at hb
      rw [decide_eq_true hb.1, decide_eq_true hb.2, Bool.and_self, Bool.true_and]
      rw [show (l.all fun c => decide (c ≠ 61) && decide (c ≠ 0)) = noEq l from rfl, ← ih]
      by_cases h1 : Lib.indexAny l [61, 0] = -1
      · rw [h1]; rfl
      · have h2 : (Lib.indexAny l [61, 0] == -1) = false := by simpa using h1
        rw [h2]
        simp only [Bool.false_eq_true, if_false]
        rw [decide_eq_decide]
        omega
class HasTextV (E : Ext) : Prop where
  dec : ∀ (k n : Nat) (s : ByteArray), kp E k n unicode_utf8_DecodeRuneInString [.str s] = some (.tup [.int .i32 ((goDec s).1 : Int), .int .i64 ((goDec s).2 : Int)])
  idx : ∀ (k n : Nat) (s : List UInt8), s.length ≤ 1000000 → ∃ i : Int, kp E k n strings_IndexAny [.str (str s), .str (str [61, 0])] = some (.int .i64 i) ∧ decide (i ≥ 0) = !noEq s
end Go.Proofs.YtogfcfgfkggmlaaGreatDoor.Eng.U


/- The functions of the Dec laws in plain words, part 4: the document's own reading of a time. -/
set_option linter.unusedVariables false
set_option linter.unusedSectionVars false
set_option linter.unusedSimpArgs false
namespace Go.Proofs.YtogfcfgfkggmlaaGreatDoor.Eng.U
open Go Go.Proofs Go.Proofs.YtogfcfgfkggmlaaGreatDoor.Eng Go.Proofs.YtogfcfgfkggmlaaGreatDoor.P04
variable {E : Ext} [Core E] {k n : Nat}

theorem byte46 (c : UInt8) : decide (((c.toNat : Nat) : Int) = (46 : Int)) = decide (c = 46) := byte_is c 46 (by omega)
theorem byte45 (c : UInt8) : decide (((c.toNat : Nat) : Int) = (45 : Int)) = decide (c = 45) := byte_is c 45 (by omega)
/-- The first point from a place on. -/
def dotAt (t : List UInt8) (i : Nat) : Nat := i + dot (t.drop i)
theorem dotAt_step (t : List UInt8) (i : Nat) (h : i < t.length) : dotAt t i = if t.getD i 0 = 46 then i else dotAt t (i + 1) := by
  unfold dotAt
  rw [List.drop_eq_getElem_cons h]
  have e : t.getD i 0 = t[i] := by simp [List.getD_eq_getElem?_getD, List.getElem?_eq_getElem h]
  rw [e]
  unfold dot
  rw [List.findIdx_cons]
  by_cases hc : t[i] = 46
  · rw [if_pos hc, hc]; rfl
  · rw [if_neg hc, beq_eq_false_iff_ne.2 hc, cond_false]; omega
theorem back_loop (kap : FuncId → List AV → Option AV) (t : List UInt8) (q : Bool) (ht : t.length < 100000000000) : ∀ (i k0 : Nat), i < k0 → i ≤ t.length → ref04_Time_L0 kap k k0 (str t) q (dotAt t i : Int) ((i : Int) - 1) 0 0 = ref04_Time_L0 kap k 1 (str t) q (dot t : Int) (-1) 0 0
  | 0, k0 + 1, _, _ => by
    have e : ((0 : Nat) : Int) - 1 = -1 := rfl
    have e' : dotAt t 0 = dot t := by simp [dotAt]
    rw [e, e', ref04_Time_L0_s, ref04_Time_L0_s kap k 0, bif_f (by omega), bif_f (by omega)]
  | i + 1, k0 + 1, h, hi => by
    have ih := back_loop kap t q ht i k0 (by omega) (by omega)
    rw [dotAt_step t i (by omega)] at ih
    have e : ((i + 1 : Nat) : Int) - 1 = (i : Int) := by omega
    rw [e, ref04_Time_L0_s, bif_t (by omega), str_size, bif_a, bif_t (by omega), bif_t (by omega), Int.toNat_natCast, str_byte, byte46, i64w (x := (i : Int) - 1) (by omega)]
    by_cases hc : t.getD i 0 = 46
    · rw [if_pos hc] at ih
      rw [decide_eq_true hc, cond_true, ih]
    · rw [if_neg hc] at ih
      rw [decide_eq_false hc, cond_false, ih]
theorem nano_step (b : List UInt8) (hb : b.length ≤ 9) (j : Nat) (hj : j < 9) : valA 0 ((b ++ List.replicate (9 - b.length) 48).take (j + 1)) = valA 0 ((b ++ List.replicate (9 - b.length) 48).take j) * 10 + (if j < b.length then (b.getD j 0).toNat - 48 else 0) := by
  have hl : (b ++ List.replicate (9 - b.length) (48 : UInt8)).length = 9 := by rw [List.length_append, List.length_replicate]; omega
  rw [List.take_succ_eq_append_getElem (by omega), valA_app]
  have e : ∀ (a : Nat) (c : UInt8), valA a [c] = a * 10 + (c.toNat - 48) := fun a c => rfl
  rw [e]
  congr 1
  by_cases h : j < b.length
  · rw [if_pos h, List.getElem_append_left h]
    simp [List.getD_eq_getElem?_getD, h]
  · rw [if_neg h, List.getElem_append_right (by omega), List.getElem_replicate]
    rfl
theorem nano_loop (kap : FuncId → List AV → Option AV) (q ok : Bool) (sec : Int) (b : List UInt8) (hb : b.length ≤ 9) (hd : digs b = true) : ∀ (r j k0 : Nat), r + j = 9 → r < k0 →
    ref04_Time_L1 kap k k0 q sec ok (valA 0 ((b ++ List.replicate (9 - b.length) 48).take j) : Int) (str b) (j : Int) 0 0 = ref04_Time_L1 kap k 1 q sec ok (valA 0 (b ++ List.replicate (9 - b.length) 48) : Int) (str b) 9 0 0
  | 0, j, k0 + 1, h, _ => by
    obtain rfl : j = 9 := by omega
    have hl : (b ++ List.replicate (9 - b.length) (48 : UInt8)).length = 9 := by rw [List.length_append, List.length_replicate]; omega
    rw [List.take_of_length_le (by omega)]
    have e : ((9 : Nat) : Int) = 9 := rfl
    rw [e, ref04_Time_L1_s, ref04_Time_L1_s kap k 0, bif_f (show ¬ (9 : Int) < 9 by omega), bif_f (show ¬ (9 : Int) < 9 by omega)]
  | r + 1, j, k0 + 1, h, hk => by
    have ih := nano_loop kap q ok sec b hb hd r (j + 1) k0 (by omega) (by omega)
    obtain ⟨q1, q2⟩ := nano_digs hd hb
    have hall := digs_all q1
    have hv : valA 0 ((b ++ List.replicate (9 - b.length) 48).take j) < 1000000000 := by
      have hlt := valA_lt ((b ++ List.replicate (9 - b.length) (48 : UInt8)).take j) 0 0 (List.all_eq_true.2 fun x hx => List.all_eq_true.1 hall x (List.mem_of_mem_take hx)) (by omega)
      have : 10 ^ (0 + ((b ++ List.replicate (9 - b.length) (48 : UInt8)).take j).length) ≤ 10 ^ 9 := Nat.pow_le_pow_right (by omega) (by rw [List.length_take]; omega)
      omega
    rw [nano_step b hb j (by omega)] at ih
    generalize valA 0 ((b ++ List.replicate (9 - b.length) 48).take j) = a at hv ih
    rw [ref04_Time_L1_s, bif_t (by omega), str_size, i64w (x := (10 : Int) * (a : Int)) (by omega), wrap1 (by omega)]
    by_cases hj : j < b.length
    · have hc : isDig (b.getD j 0) = true := by
        rw [List.getD_eq_getElem?_getD, List.getElem?_eq_getElem hj]
        exact List.all_eq_true.1 (digs_all hd) _ (List.getElem_mem hj)
      have hc := dig_iff.1 hc
      rw [if_pos hj] at ih
      rw [bif_t (by omega), bif_a, bif_t (by omega), bif_t (by omega), Int.toNat_natCast, str_byte, i64w (x := (((b.getD j 0).toNat : Nat) : Int)) (by omega), i64w (x := (10 : Int) * (a : Int) + (((b.getD j 0).toNat : Nat) : Int)) (by omega), i64w (x := (10 : Int) * (a : Int) + (((b.getD j 0).toNat : Nat) : Int) - 48) (by omega)]
      rw [← ih]
      congr 1
      omega
    · rw [if_neg hj] at ih
      rw [bif_f (by omega), ← ih]
      congr 1
      omega
def timeRV : Option (Int × Int) → AV
  | some (a, b) => .tup [.agg [.int .i64 a, .int .i64 b], .bool true]
  | none => .tup [.agg [.int .i64 0, .int .i64 0], .bool false]
def endT (q ok : Bool) (v w : Nat) : Option (Int × Int) :=
  if ok = false then none
  else if q = false then (if 9223372036854775807 < v then none else some ((v : Int), (w : Int)))
  else if w = 0 then some (-(v : Int), 0)
  else if 9223372036854775807 < v then none
  else some (-(v : Int) - 1, 1000000000 - (w : Int))
theorem nano_end (kap : FuncId → List AV → Option AV) (q ok : Bool) (v w : Nat) (s : ByteArray) (hv : v ≤ 9223372036854775808) (hw : w < 1000000000) : ref04_Time_L1 kap k 1 q (if ok then -(v : Int) else 0) ok (w : Int) s 9 0 0 = some (timeRV (endT q ok v w)) := by
  rw [ref04_Time_L1_s kap k 0, bif_f (show ¬ (9 : Int) < 9 by omega)]
  cases ok with
  | false => rfl
  | true =>
    simp only [if_true, Bool.not_true, Bool.not_false, cond_true, cond_false, endT, if_neg (show ¬ true = false by decide)]
    cases q with
    | false =>
      simp only [if_true, Bool.not_true, Bool.not_false, cond_true, cond_false]
      by_cases h : 9223372036854775807 < v
      · rw [bif_t (by omega), if_pos h]; rfl
      · rw [bif_f (by omega), if_neg h, i64w (by omega), show (0 : Int) - -(v : Int) = (v : Int) from by omega]; rfl
    | true =>
      simp only [if_true, Bool.not_true, Bool.not_false, cond_true, cond_false, if_neg (show ¬ true = false by decide)]
      by_cases h0 : w = 0
      · subst h0
        rw [if_pos rfl]
        by_cases h : 9223372036854775807 < v
        · rw [bif_t (by omega), bif_f (by omega), bif_t (by omega)]; rfl
        · rw [bif_f (by omega), bif_t (by omega)]; rfl
      · rw [if_neg h0]
        by_cases h : 9223372036854775807 < v
        · rw [bif_t (by omega), bif_t (by omega), if_pos h]; rfl
        · rw [bif_f (by omega), bif_f (by omega), if_neg h, i64w (x := -(v : Int) - 1) (by omega), i64w (by omega)]; rfl
theorem refBody (t : List UInt8) (q : Bool) (ht : t.length < 100000000000) (hk : t.length < k) (h9 : 10 < k) : ref04_Time_L0 (kp E k (n + 2)) k k (str t) q ((t.length : Nat) : Int) (((t.length : Nat) : Int) - 1) 0 0 = some (timeRV (timeB q t)) := by
  have e : dotAt t t.length = t.length := by simp [dotAt, dot]
  have hb := back_loop (k := k) (kp E k (n + 2)) t q ht t.length k hk (Nat.le_refl _)
  rw [e] at hb
  rw [hb, ref04_Time_L0_s]
  have hdl : dot t ≤ t.length := List.findIdx_le_length
  rw [bif_f (by omega), str_size, bif_a, bif_t (by omega), bif_t (by omega), Int.toNat_natCast, str_ext, List.drop_zero, below_k (n := n) (t.take (dot t)) (by rw [List.length_take]; omega) (by rw [List.length_take]; omega)]
  simp (disch := first | omega | (simp only [List.length_append, List.length_cons, List.length_nil, List.length_take, List.length_drop]; done) | (simp only [List.length_append, List.length_cons, List.length_nil, List.length_take, List.length_drop]; omega) | fail) only [bif_t, bif_f, bif_n, bif_a, callB_ok, callI_ok, callS_ok, callL_ok, callF_ok, callT_ok, tupB_ok, tupI_ok, tupS_ok, tupL_ok, tupF_ok, atNil_ok, wrap1, wrapM, wrapP, Int.toNat_natCast, svs_len, ivs_len, bvs_len, str_size, svs_mid, ivs_mid, str_dec, str_ext, str_byte, mid_byte, mid_cut, List.length_nil, List.length_singleton, svs_snoc, ivs_snoc, svs_take, svs_drop, str_app, List.take_length, List.drop_zero, List.nil_append, cond_true, cond_false, Option.bind_some, Bool.not_true, Bool.not_false, Bool.true_and, Bool.and_true]
  unfold timeB
  dsimp only
  have hv : natOk (t.take (dot t)) = true → valA 0 (t.take (dot t)) ≤ 9223372036854775808 := natOk_le
  generalize natOk (t.take (dot t)) = ok at hv
  generalize valA 0 (t.take (dot t)) = v at hv
  by_cases hp : dot t < t.length
  · rw [bif_t (by omega), bif_t (by omega)]
    have hbl : (t.drop (dot t + 1)).length ≤ t.length := by rw [List.length_drop]; omega
    generalize t.drop (dot t + 1) = b at hbl
    rw [only_k (n := n + 1) b (by omega) (by omega), callB_ok]
    cases hd : digs b with
    | false =>
      rw [cond_false]
      cases ok with
      | false => rfl
      | true => rw [if_neg (by simp), if_pos ⟨hp, by simp⟩]; rfl
    | true =>
      rw [cond_true]
      by_cases hl : b.length ≤ 9
      · obtain ⟨q1, q2⟩ := nano_digs hd hl
        obtain ⟨q3, q4⟩ := parseI_eq q1 (by omega)
        rw [bif_f (by omega)]
        have hn := nano_loop (k := k) (kp E k (n + 2)) q ok (if ok = true then -(v : Int) else 0) b hl hd 9 0 k rfl (by omega)
        rw [List.take_zero] at hn
        have e0 : ((valA 0 [] : Nat) : Int) = 0 := rfl
        have e1 : ((0 : Nat) : Int) = 0 := rfl
        rw [e0, e1] at hn
        rw [hn]
        generalize valA 0 (b ++ List.replicate (9 - b.length) 48) = w at q4
        cases ok with
        | false =>
          exact nano_end _ q false 0 w _ (by omega) q4
        | true =>
          rw [nano_end _ q true v w _ (hv rfl) q4]
          unfold endT
          have t1 : ¬ (true = false) := by decide
          have t2 : ¬ (dot t < t.length ∧ ¬ (true = true ∧ b.length ≤ 9)) := fun h => h.2 ⟨rfl, hl⟩
          rw [if_neg t1, if_neg t1, if_neg t2, if_pos hp]
      · rw [bif_t (by omega)]
        cases ok with
        | false => rfl
        | true => rw [if_neg (by simp), if_pos ⟨hp, fun h => hl h.2⟩]; rfl
  · rw [bif_f (by omega)]
    cases ok with
    | false => rfl
    | true =>
      have hv := hv rfl
      have t1 : ¬ (true = false) := by decide
      have t2 : ¬ (dot t < t.length ∧ ¬ (digs (t.drop (dot t + 1)) = true ∧ (t.drop (dot t + 1)).length ≤ 9)) := fun h => hp h.1
      have t3 : (if true = true then -(v : Int) else 0) = -(v : Int) := if_pos rfl
      rw [if_neg t1, if_neg t2, if_neg hp, t3]
      simp only [if_true, Bool.not_true, Bool.not_false, cond_true, cond_false]
      cases q with
      | false =>
        simp only [if_true, Bool.not_true, Bool.not_false, cond_true, cond_false]
        by_cases h : 9223372036854775807 < v
        · rw [bif_t (by omega), if_pos h]; rfl
        · rw [bif_f (by omega), if_neg h, i64w (by omega), show (0 : Int) - -(v : Int) = (v : Int) from by omega]; rfl
      | true =>
        simp only [if_true, Bool.not_true, Bool.not_false, cond_true, cond_false, if_neg (show ¬ true = false by decide)]
        by_cases h : 9223372036854775807 < v
        · rw [bif_t (by omega)]; rfl
        · rw [bif_f (by omega)]; rfl
theorem refTime_k (s : List UInt8) (hs : s.length < 100000000000) (hk : s.length < k) (h9 : 10 < k) : kp E k (n + 3) ref04_Time [.str (str s)] = some (timeRV (timeL s)) := by
  rw [ref04_Time_eq, str_size]
  unfold timeL
  cases s with
  | nil =>
    rw [bif_f (by simp), i64w (by simp)]
    exact refBody (n := n) [] false hs hk h9
  | cons c s =>
    have hl : (c :: s).length = s.length + 1 := rfl
    rw [bif_t (by omega), bif_t (by omega), str_byte, byte45]
    have hg : (c :: s).getD 0 0 = c := rfl
    rw [hg]
    by_cases hc : c = 45
    · subst hc
      have e : ByteArray.extract (str (45 :: s)) 1 (45 :: s).length = str s := ext_one 45 s
      rw [bif_t rfl, bif_t (by omega), e, str_size, i64w (by omega)]
      have := refBody (E := E) (k := k) (n := n) s true (by omega) (by omega) h9
      exact this
    · rw [bif_f hc, i64w (by omega), decide_eq_false hc]
      have := refBody (E := E) (k := k) (n := n) (c :: s) false hs hk h9
      rw [this]
      have hh : ¬ (c :: s).head? = some 45 := by simpa using hc
      rw [decide_eq_false hh, if_neg hh]
end Go.Proofs.YtogfcfgfkggmlaaGreatDoor.Eng.U


/- What a pair of a record is: both sides in plain words. -/
set_option linter.unusedVariables false
set_option linter.unusedSectionVars false
set_option linter.unusedSimpArgs false
namespace Go.Proofs.YtogfcfgfkggmlaaGreatDoor.Eng.U
open Go Go.Proofs Go.Proofs.YtogfcfgfkggmlaaGreatDoor.Eng Go.Proofs.YtogfcfgfkggmlaaGreatDoor.P04
variable {E : Ext} [Core E] [HasNum E] {k n : Nat}

def utfOk (l : List UInt8) : Bool := decide (first (str l) < 0)
theorem refFirst_k (l : List UInt8) (hl : l.length ≤ 1000000) (hk : l.length + 5 < k) : kp E k (n + 3) ref05_First [.str (str l)] = some (.int .i64 (first (str l))) := by
  obtain ⟨K, rfl⟩ : ∃ K, k = K + 5 := ⟨k - 5, by omega⟩
  have hs : (str l).size ≤ 1000000 := by rw [str_size]; exact hl
  have h1 : ∀ i, i < (str l).size → kp E (K + 5) (n + 1) ref05_size [.str (str l), .int .i64 (i : Int)] = some (.int .i64 (sizeS (str l) i : Int)) := fun i hi => size_spec hs hi
  have h2 := ref05_Ends_spec (E := E) (K := K + 5) (n := n + 1) hs (by rw [str_size]; omega) h1
  rw [ref05_First_spec hs (by rw [str_size]; omega) h2, ends, first_ends, first]
section
variable [HasTextV E]
theorem utf_k (l : List UInt8) (hk : l.length < k) : kp E k (n + 3) utf_Right [.str (str l)] = some (.bool (utfOk l)) := by
  have h1 : ∀ i, i < (str l).size → kp E k (n + 1) utf_wrong [.str (str l), .int .i64 (i : Int), .int .i32 ((Utf8.decode (str l) i).1 : Int)] = some (.bool (decide (bad (str l) i))) := fun i hi => utf_wrong_spec hi (HasTextV.dec k n)
  exact utf_Right_spec (utf_First_spec (by rw [str_size]; omega) h1)
theorem contains_k (s : List UInt8) (hs : s.length ≤ 1000000) : kp E k (n + 1) strings_ContainsAny [.str (str s), .str (str [61, 0])] = some (.bool (!noEq s)) := by
  obtain ⟨i, hi, h⟩ := HasTextV.idx (E := E) k n s hs
  rw [strings_ContainsAny_eq, hi, callI_ok, h]
end
def clean (s : List UInt8) : Bool := s.all fun c => decide (c ≠ 0)
theorem index0 (s : List UInt8) : decide (Lib.indexByte s 0 < 0) = clean s := by
  induction s with
  | nil => rfl
  | cons b l ih =>
    have hg := Lib.indexByte_ge l 0
    unfold Lib.indexByte clean
    rw [List.all_cons]
    by_cases hb : b = 0
    · subst hb; rfl
    · have h1 : (b == 0) = false := by simpa using hb
      rw [h1, decide_eq_true hb, Bool.true_and, show (l.all fun c => decide (c ≠ 0)) = clean l from rfl, ← ih]
      simp only [Bool.false_eq_true, if_false, beq_iff_eq]
      split
      · rename_i h; rw [h]
      · rename_i h
        rw [decide_eq_decide]
        omega
theorem index0_k (s : List UInt8) : kp E k n strings_IndexByte [.str (str s), .int .u8 0] = some (.int .i64 (Lib.indexByte s 0)) := HasNum.indexB k n s 0
theorem textClean_k (s : List UInt8) : kp E k (n + 1) text_Clean [.str (str s)] = some (.bool (clean s)) := by
  rw [text_Clean_eq, index0_k, callI_ok, index0]
theorem paxClean_k (s : List UInt8) : kp E k (n + 1) pax_clean [.str (str s)] = some (.bool (clean s)) := by
  rw [pax_clean_eq, index0_k, callI_ok, index0]
theorem get_loop (kap : FuncId → List AV → Option AV) : ∀ (suf pre acc : List UInt8) (k0 : Nat), suf.length < k0 → (pre ++ suf).length < 1000000000 → acc.length ≤ pre.length →
    ref02_Get_L0 kap k k0 (bys (pre ++ suf)) ((pre.length : Nat) : Int) (bys acc) = some (.str (str (acc ++ suf.takeWhile fun c => decide (c ≠ 0))))
  | [], pre, acc, k0 + 1, h, hb, ha => by
    have e : toBytes (bys acc) = some acc := toBytes_map acc
    rw [ref02_Get_L0_s, bys_len, bif_f (by simp), e]
    simp
  | c :: suf, pre, acc, k0 + 1, h, hb, ha => by
    have h' : suf.length < k0 := by simp only [List.length_cons] at h; omega
    have hb' : pre.length + (suf.length + 1) < 1000000000 := by simp only [List.length_append, List.length_cons] at hb; exact hb
    have e : toBytes (bys acc) = some acc := toBytes_map acc
    rw [ref02_Get_L0_s, bys_len, mid_len, bif_t (by omega), bif_a, bif_t (by omega), bif_t (by omega), Int.toNat_natCast, bys_mid, byte_c, bys_len]
    by_cases hc : c = 0
    · subst hc
      rw [show (!decide (((UInt8.toNat 0 : Nat) : Int) = 0)) = false from rfl, cond_false, e]
      simp
    · have h0 : ¬ ((c.toNat : Nat) : Int) = 0 := fun h => hc (UInt8.toNat_inj.1 (by show c.toNat = 0; omega))
      rw [decide_eq_false h0, Bool.not_false, cond_true, bif_a, bif_t (by omega), bif_t (by omega), bys_mid, byte_c, bif_a, bif_t (by omega), bif_t (by omega), i64w (by omega)]
      have e1 : bys acc ++ [AV.int .u8 ((c.toNat : Nat) : Int)] = bys (acc ++ [c]) := by unfold bys; rw [List.map_append]; rfl
      have e2 : ((pre.length : Nat) : Int) + 1 = (((pre ++ [c]).length : Nat) : Int) := by simp
      have e3 : pre ++ c :: suf = (pre ++ [c]) ++ suf := by simp
      rw [e1, e2, e3, get_loop kap suf (pre ++ [c]) (acc ++ [c]) k0 h' (by simp only [List.length_append, List.length_cons, List.length_nil]; omega) (by simp only [List.length_append, List.length_cons, List.length_nil]; omega)]
      rw [List.takeWhile_cons, decide_eq_true hc]
      simp
theorem takeWhile_all (p : UInt8 → Bool) : ∀ s : List UInt8, decide (s.takeWhile p = s) = s.all p
  | [] => rfl
  | c :: l => by
    rw [List.takeWhile_cons, List.all_cons]
    cases h : p c with
    | true => simp only [Bool.true_and, if_true, List.cons.injEq, true_and]; exact takeWhile_all p l
    | false => simp
theorem refClean_k (s : List UInt8) (hs : s.length < 1000000000) (hk : s.length < k) : kp E k (n + 2) ref02_Clean [.str (str s)] = some (.bool (clean s)) := by
  have h := get_loop (k := k) (kp E k n) s [] [] k hk (by simpa using hs) (by simp)
  rw [ref02_Clean_eq, str_bytes, ref02_Get_eq]
  have h' : ref02_Get_L0 (kp E k n) k k (s.map byteAV) (0 : Int) [] = some (.str (str (s.takeWhile fun c => decide (c ≠ 0)))) := by simpa [bys] using h
  rw [h', callS_ok, str_dec, takeWhile_all, clean]

def whichL (key : List UInt8) : Int :=
  if key = [112, 97, 116, 104] then 0 else if key = [108, 105, 110, 107, 112, 97, 116, 104] then 1 else if key = [117, 110, 97, 109, 101] then 2 else if key = [103, 110, 97, 109, 101] then 3 else if key = [117, 105, 100] then 4 else if key = [103, 105, 100] then 5 else if key = [115, 105, 122, 101] then 6 else if key = [109, 116, 105, 109, 101] then 7 else -1
theorem is_path (key : List UInt8) : decide (str key = str [112, 97, 116, 104]) = decide (whichL key = 0) := by
  rw [str_dec, decide_eq_decide]
  constructor
  · rintro rfl; rfl
  · intro h
    unfold whichL at h
    repeat' split at h
    all_goals first | assumption | (exfalso; revert h; decide)
theorem is_linkpath (key : List UInt8) : decide (str key = str [108, 105, 110, 107, 112, 97, 116, 104]) = decide (whichL key = 1) := by
  rw [str_dec, decide_eq_decide]
  constructor
  · rintro rfl; rfl
  · intro h
    unfold whichL at h
    repeat' split at h
    all_goals first | assumption | (exfalso; revert h; decide)
theorem is_uname (key : List UInt8) : decide (str key = str [117, 110, 97, 109, 101]) = decide (whichL key = 2) := by
  rw [str_dec, decide_eq_decide]
  constructor
  · rintro rfl; rfl
  · intro h
    unfold whichL at h
    repeat' split at h
    all_goals first | assumption | (exfalso; revert h; decide)
theorem is_gname (key : List UInt8) : decide (str key = str [103, 110, 97, 109, 101]) = decide (whichL key = 3) := by
  rw [str_dec, decide_eq_decide]
  constructor
  · rintro rfl; rfl
  · intro h
    unfold whichL at h
    repeat' split at h
    all_goals first | assumption | (exfalso; revert h; decide)
theorem is_uid (key : List UInt8) : decide (str key = str [117, 105, 100]) = decide (whichL key = 4) := by
  rw [str_dec, decide_eq_decide]
  constructor
  · rintro rfl; rfl
  · intro h
    unfold whichL at h
    repeat' split at h
    all_goals first | assumption | (exfalso; revert h; decide)
theorem is_gid (key : List UInt8) : decide (str key = str [103, 105, 100]) = decide (whichL key = 5) := by
  rw [str_dec, decide_eq_decide]
  constructor
  · rintro rfl; rfl
  · intro h
    unfold whichL at h
    repeat' split at h
    all_goals first | assumption | (exfalso; revert h; decide)
theorem is_size (key : List UInt8) : decide (str key = str [115, 105, 122, 101]) = decide (whichL key = 6) := by
  rw [str_dec, decide_eq_decide]
  constructor
  · rintro rfl; rfl
  · intro h
    unfold whichL at h
    repeat' split at h
    all_goals first | assumption | (exfalso; revert h; decide)
theorem is_mtime (key : List UInt8) : decide (str key = str [109, 116, 105, 109, 101]) = decide (whichL key = 7) := by
  rw [str_dec, decide_eq_decide]
  constructor
  · rintro rfl; rfl
  · intro h
    unfold whichL at h
    repeat' split at h
    all_goals first | assumption | (exfalso; revert h; decide)
theorem which_lt (key : List UInt8) : -1 ≤ whichL key ∧ whichL key ≤ 7 := by
  unfold whichL
  repeat' split
  all_goals decide
theorem known_k (key : List UInt8) : kp E k (n + 1) pax_Known [.str (str key)] = some (.bool (decide (0 ≤ whichL key))) := by
  have hw := which_lt key
  rw [pax_Known_eq, is_path, is_linkpath, is_uname, is_gname, is_uid, is_gid, is_size, is_mtime]
  generalize whichL key = w at hw
  have : w = -1 ∨ w = 0 ∨ w = 1 ∨ w = 2 ∨ w = 3 ∨ w = 4 ∨ w = 5 ∨ w = 6 ∨ w = 7 := by omega
  rcases this with rfl | rfl | rfl | rfl | rfl | rfl | rfl | rfl | rfl <;> rfl
theorem which_k (key : List UInt8) (hk : 10 < k) : kp E k (n + 2) ref07_Which [.str (str key)] = some (.int .i64 (whichL key)) := by
  obtain ⟨K, rfl⟩ : ∃ K, k = K + 9 := ⟨k - 9, by omega⟩
  rw [ref07_Which_eq, ref07_Keys_eq, callL_ok]
  have hw := which_lt key
  have st : ∀ (j : Nat) (s : List UInt8) (m : Nat), j < 8 → ([(.str (str [112, 97, 116, 104])), (.str (str [108, 105, 110, 107, 112, 97, 116, 104])), (.str (str [117, 110, 97, 109, 101])), (.str (str [103, 110, 97, 109, 101])), (.str (str [117, 105, 100])), (.str (str [103, 105, 100])), (.str (str [115, 105, 122, 101])), (.str (str [109, 116, 105, 109, 101]))] : List AV)[j]? = some (.str (str s)) →
      ref07_Which_L0 (kp E (K + 9) (n + 1)) (K + 9) (m + 1) (str key) [(.str (str [112, 97, 116, 104])), (.str (str [108, 105, 110, 107, 112, 97, 116, 104])), (.str (str [117, 110, 97, 109, 101])), (.str (str [103, 110, 97, 109, 101])), (.str (str [117, 105, 100])), (.str (str [103, 105, 100])), (.str (str [115, 105, 122, 101])), (.str (str [109, 116, 105, 109, 101]))] ((j : Nat) : Int) = bif decide (str key = str s) then some (.int .i64 ((j : Nat) : Int)) else ref07_Which_L0 (kp E (K + 9) (n + 1)) (K + 9) m (str key) [(.str (str [112, 97, 116, 104])), (.str (str [108, 105, 110, 107, 112, 97, 116, 104])), (.str (str [117, 110, 97, 109, 101])), (.str (str [103, 110, 97, 109, 101])), (.str (str [117, 105, 100])), (.str (str [103, 105, 100])), (.str (str [115, 105, 122, 101])), (.str (str [109, 116, 105, 109, 101]))] (((j + 1 : Nat) : Nat) : Int) := by
    intro j s m hj hs
    rw [ref07_Which_L0_s, Int.toNat_natCast, hs, Option.bind_some, i64w (by omega), show ((j : Nat) : Int) + 1 = ((j + 1 : Nat) : Int) by omega]
    rw [bif_t (by simp only [List.length_cons, List.length_nil]; omega), bif_a, bif_t (by omega), bif_t (by simp only [List.length_cons, List.length_nil]; omega)]
    show (bif decide (str s = str key) then _ else _) = _
    rw [show decide (str s = str key) = decide (str key = str s) from decide_eq_decide.2 eq_comm]
  refine (st 0 [112, 97, 116, 104] (K + 8) (by omega) rfl).trans ?_
  rw [is_path]
  rw [st 1 [108, 105, 110, 107, 112, 97, 116, 104] (K + 7) (by omega) rfl, is_linkpath]
  rw [st 2 [117, 110, 97, 109, 101] (K + 6) (by omega) rfl, is_uname]
  rw [st 3 [103, 110, 97, 109, 101] (K + 5) (by omega) rfl, is_gname]
  rw [st 4 [117, 105, 100] (K + 4) (by omega) rfl, is_uid]
  rw [st 5 [103, 105, 100] (K + 3) (by omega) rfl, is_gid]
  rw [st 6 [115, 105, 122, 101] (K + 2) (by omega) rfl, is_size]
  rw [st 7 [109, 116, 105, 109, 101] (K + 1) (by omega) rfl, is_mtime]
  have en : ∀ m (l : List AV), l.length = 8 → ref07_Which_L0 (kp E (K + 9) (n + 1)) (K + 9) (m + 1) (str key) l (((7 + 1 : Nat) : Nat) : Int) = some (.int .i64 (-1)) := by
    intro m l hl
    rw [ref07_Which_L0_s, hl, bif_f (by omega)]
  rw [en _ _ rfl]
  generalize whichL key = w at hw
  have : w = -1 ∨ w = 0 ∨ w = 1 ∨ w = 2 ∨ w = 3 ∨ w = 4 ∨ w = 5 ∨ w = 6 ∨ w = 7 := by omega
  rcases this with rfl | rfl | rfl | rfl | rfl | rfl | rfl | rfl | rfl <;> rfl
def numOk (s : List UInt8) : Bool := natOk s && decide (valA 0 s ≤ 9223372036854775807)
def valR (key s : List UInt8) : Bool :=
  if s = [] then true else if whichL key < 0 then true else if whichL key < 4 then clean s else if whichL key < 7 then numOk s else (timeL s).isSome
theorem value_k [HasTextV E] (key s : List UInt8) (hs : s.length ≤ 1000000) (hk : s.length < k) : kp E k (n + 4) pax_value [.str (str key), .str (str s)] = some (.bool (utfOk s && valR key s)) := by
  have hN : (callT (kp E k (n + 3) dec_Number [(.str (str s))]) fun vt6 => (tupI .i64 vt6 fun vn7 vt8 => (tupI .u8 vt8 fun vn9 vt10 => (atNil vt10 (some (.bool (decide (vn9 = (0 : Int)))))))) : Option AV) = some (.bool (numOk s)) := by
    rw [number_k s (by omega) hk]
    unfold numOk
    cases natOk s && decide (valA 0 s ≤ 9223372036854775807) <;> rfl
  have hT : (callT (kp E k (n + 3) dec_Time [(.str (str s))]) fun vt12 => (tupG 2 vt12 fun vg13 vt14 => (cellI .i64 vg13 0 fun vn15 => (cellI .i64 vg13 1 fun vn16 => (tupI .u8 vt14 fun vn17 vt18 => (atNil vt18 (some (.bool (decide (vn17 = (0 : Int)))))))))) : Option AV) = some (.bool (timeL s).isSome) := by
    rw [time_k s (by omega) hk]
    cases timeL s <;> rfl
  have hC : (callB (kp E k (n + 3) pax_clean [(.str (str s))]) fun vq4 => (some (.bool vq4)) : Option AV) = some (.bool (clean s)) := by rw [paxClean_k, callB_ok]
  rw [pax_value_eq, utf_k s hk, callB_ok, is_path, is_linkpath, is_uname, is_gname, is_uid, is_gid, is_size, is_mtime]
  simp only [hN, hT, hC]
  unfold valR
  have hw := which_lt key
  generalize whichL key = w at hw
  cases utfOk s with
  | false => rfl
  | true =>
    rw [Bool.not_true, cond_false, Bool.true_and, show (str [] : ByteArray) = str [] from rfl, str_dec]
    by_cases h0 : s = []
    · rw [decide_eq_true h0, if_pos h0]; rfl
    · rw [decide_eq_false h0, if_neg h0, cond_false]
      have : w = -1 ∨ w = 0 ∨ w = 1 ∨ w = 2 ∨ w = 3 ∨ w = 4 ∨ w = 5 ∨ w = 6 ∨ w = 7 := by omega
      rcases this with rfl | rfl | rfl | rfl | rfl | rfl | rfl | rfl | rfl <;> rfl
def pairOk (p : Pair) : Bool := decide (p.key ≠ []) && (utfOk p.key && (noEq p.key && (utfOk p.val && valR p.key p.val)))
theorem paxRight_k [HasTextV E] (p : Pair) (h1 : p.key.length ≤ 1000000) (h2 : p.val.length ≤ 1000000) (hk : 1000000 < k) : kp E k (n + 5) pax_Right [.agg [.str (str p.key), .str (str p.val)]] = some (.bool (pairOk p)) := by
  rw [pax_Right_eq, utf_k p.key (by omega), contains_k p.key h1, value_k p.key p.val h2 (by omega), str_dec]
  simp only [callB_ok]
  unfold pairOk
  by_cases h : p.key = []
  · rw [decide_eq_true h]
    simp [h]
  · rw [decide_eq_false h, decide_eq_true h]
    cases utfOk p.key <;> cases noEq p.key <;> cases utfOk p.val <;> rfl
theorem eq_loop (kap : FuncId → List AV → Option AV) (val : ByteArray) (R : Option AV) (suf : List UInt8) : ∀ (pre : List UInt8) (k0 : Nat), suf.length < k0 → (pre ++ suf).length < 1000000000 →
    (∀ m, ref07_Right_L0 kap k (m + 1) (((pre ++ suf).length : Nat) : Int) (str (pre ++ suf)) val = R) →
    ref07_Right_L0 kap k k0 ((pre.length : Nat) : Int) (str (pre ++ suf)) val = bif suf.all (fun c => decide (c ≠ 61)) then R else some (.bool false) := by
  induction suf with
  | nil =>
    intro pre k0 h hb hR
    obtain ⟨m, rfl⟩ : ∃ m, k0 = m + 1 := ⟨k0 - 1, by simp only [List.length_nil] at h; omega⟩
    have := hR m
    rw [List.append_nil] at this ⊢
    rw [this]; rfl
  | cons c suf ih =>
    intro pre k0 h hb hR
    obtain ⟨m, rfl⟩ : ∃ m, k0 = m + 1 := ⟨k0 - 1, by simp only [List.length_cons] at h; omega⟩
    have h' : suf.length < m := by simp only [List.length_cons] at h; omega
    have hb' : pre.length + (suf.length + 1) < 1000000000 := by simp only [List.length_append, List.length_cons] at hb; exact hb
    rw [ref07_Right_L0_s, str_size, mid_len, bif_t (by omega), bif_a, bif_t (by omega), bif_t (by omega), Int.toNat_natCast, str_byte, mid_byte]
    rw [show decide (((c.toNat : Nat) : Int) = 61) = decide (c = 61) from byte_is c 61 (by omega), List.all_cons]
    by_cases hc : c = 61
    · rw [decide_eq_true hc, hc]; rfl
    · rw [decide_eq_false hc, cond_false, decide_eq_true hc, Bool.true_and, i64w (by omega)]
      have e2 : ((pre.length : Nat) : Int) + 1 = (((pre ++ [c]).length : Nat) : Int) := by simp
      have e3 : pre ++ c :: suf = (pre ++ [c]) ++ suf := by simp
      rw [e2, e3]
      rw [e3] at hR
      exact ih (pre ++ [c]) m h' (by simp only [List.length_append, List.length_cons, List.length_nil]; omega) hR
theorem noEq_split (s : List UInt8) : noEq s = (clean s && s.all fun c => decide (c ≠ 61)) := by
  unfold noEq clean
  induction s with
  | nil => rfl
  | cons c l ih =>
    simp only [List.all_cons, ih]
    cases decide (c ≠ 61) <;> cases decide (c ≠ 0) <;> simp
theorem refPair_k (p : Pair) (h1 : p.key.length ≤ 1000000) (h2 : p.val.length ≤ 1000000) (hk : 2000000 < k) : kp E k (n + 4) ref07_Right [.agg [.str (str p.key), .str (str p.val)]] = some (.bool (pairOk p)) := by
  have hend : ∀ m, ref07_Right_L0 (kp E k (n + 3)) k (m + 1) (((([] : List UInt8) ++ p.key).length : Nat) : Int) (str ([] ++ p.key)) (str p.val) = some (.bool (valR p.key p.val)) := by
    intro m
    rw [List.nil_append, ref07_Right_L0_s, str_size, bif_f (by omega), which_k p.key (by omega), callI_ok, refClean_k p.val (by omega) (by omega), callB_ok, refNumber_k p.val (by omega) (by omega), refTime_k p.val (by omega) (by omega) (by omega), str_dec]
    unfold valR numOk
    have hw := which_lt p.key
    generalize whichL p.key = w at hw
    by_cases h0 : p.val = []
    · rw [decide_eq_true h0, if_pos h0]; rfl
    · rw [decide_eq_false h0, if_neg h0, cond_false]
      by_cases a1 : w < 0
      · rw [decide_eq_true a1, if_pos a1]; rfl
      rw [decide_eq_false a1, if_neg a1, cond_false]
      by_cases a2 : w < 4
      · rw [decide_eq_true a2, if_pos a2]; rfl
      rw [decide_eq_false a2, if_neg a2, cond_false]
      by_cases a3 : w < 7
      · rw [decide_eq_true a3, if_pos a3, cond_true]
        cases natOk p.val && decide (valA 0 p.val ≤ 9223372036854775807) <;> rfl
      rw [decide_eq_false a3, if_neg a3, cond_false]
      cases timeL p.val <;> rfl
  have hl := eq_loop (k := k) (kp E k (n + 3)) (str p.val) _ p.key [] k (by omega) (by simp; omega) hend
  simp only [List.nil_append, List.length_nil] at hl
  rw [ref07_Right_eq, refFirst_k p.key (by omega) (by omega), callI_ok, refFirst_k p.val (by omega) (by omega), callI_ok, refClean_k p.key (by omega) (by omega), callB_ok, str_dec]
  rw [show ((0 : Nat) : Int) = 0 from rfl] at hl
  rw [hl]
  unfold pairOk
  rw [noEq_split]
  have g1 : decide (first (str p.key) ≥ 0) = !utfOk p.key := by unfold utfOk; rw [← decide_not, decide_eq_decide]; omega
  have g2 : decide (first (str p.val) ≥ 0) = !utfOk p.val := by unfold utfOk; rw [← decide_not, decide_eq_decide]; omega
  rw [g1, g2]
  by_cases h : p.key = []
  · rw [decide_eq_true h]
    simp [h]
  · rw [decide_eq_false h, decide_eq_true h]
    cases utfOk p.key <;> cases utfOk p.val <;> cases clean p.key <;> cases (p.key.all fun c => decide (c ≠ 61)) <;> rfl
end Go.Proofs.YtogfcfgfkggmlaaGreatDoor.Eng.U


/- Overlays in plain words: the order of keys, what is laid. No program. -/
set_option linter.unusedVariables false
set_option linter.unusedSimpArgs false
namespace Go.Proofs.YtogfcfgfkggmlaaGreatDoor.Eng.U
open Go Go.Proofs Go.Proofs.YtogfcfgfkggmlaaGreatDoor.Eng

theorem u8_lt_irrefl (a : UInt8) : ¬ a < a := fun h => by rw [UInt8.lt_iff_toNat_lt] at h; omega
theorem lt_irr : ∀ a : Tx, Op.bytesLess a a = false
  | [] => rfl
  | a :: x => by
    unfold Op.bytesLess
    rw [lt_irr x, decide_eq_false (u8_lt_irrefl a), Bool.and_false, Bool.or_false]
theorem lt_cons (a b : UInt8) (x y : Tx) : Op.bytesLess (a :: x) (b :: y) = true ↔ a.toNat < b.toNat ∨ a = b ∧ Op.bytesLess x y = true := by
  rw [Op.bytesLess, Bool.or_eq_true, Bool.and_eq_true, decide_eq_true_eq, beq_iff_eq, UInt8.lt_iff_toNat_lt]
theorem lt_tr : ∀ {a b c : Tx}, Op.bytesLess a b = true → Op.bytesLess b c = true → Op.bytesLess a c = true
  | _, _, [], _, h => by cases ‹Tx› <;> simp [Op.bytesLess] at h
  | [], _, _ :: _, _, _ => rfl
  | a :: x, [], c :: z, h, _ => by simp [Op.bytesLess] at h
  | a :: x, b :: y, c :: z, h1, h2 => by
    rw [lt_cons] at *
    rcases h1 with h1 | ⟨rfl, h1⟩
    · rcases h2 with h2 | ⟨rfl, h2⟩
      · left; omega
      · left; exact h1
    · rcases h2 with h2 | ⟨rfl, h2⟩
      · left; exact h2
      · right; exact ⟨rfl, lt_tr h1 h2⟩
theorem lt_tot : ∀ {a b : Tx}, Op.bytesLess a b = false → a ≠ b → Op.bytesLess b a = true
  | [], [], _, h => absurd rfl h
  | [], _ :: _, h, _ => by simp [Op.bytesLess] at h
  | _ :: _, [], _, _ => rfl
  | a :: x, b :: y, h, hn => by
    rw [lt_cons]
    have h' : ¬ (a.toNat < b.toNat ∨ a = b ∧ Op.bytesLess x y = true) := by rw [← lt_cons, h]; simp
    by_cases e : a = b
    · subst e
      right
      refine ⟨rfl, lt_tot ?_ fun e => hn (by rw [e])⟩
      cases hq : Op.bytesLess x y with
      | false => rfl
      | true => exact absurd (.inr ⟨rfl, hq⟩) h'
    · left
      have : a.toNat ≠ b.toNat := fun h => e (UInt8.toNat_inj.1 h)
      omega
theorem lt_asym {a b : Tx} (h : Op.bytesLess a b = true) : Op.bytesLess b a = false := by
  cases hq : Op.bytesLess b a with
  | false => rfl
  | true => have := lt_tr h hq; rw [lt_irr] at this; cases this
theorem not_le (a b : Tx) : (!(Op.bytesLess a b || decide (a = b))) = Op.bytesLess b a := by
  by_cases e : a = b
  · subst e; rw [decide_eq_true rfl, Bool.or_true, lt_irr]; rfl
  · rw [decide_eq_false e, Bool.or_false]
    cases h : Op.bytesLess a b with
    | true => rw [lt_asym h]; rfl
    | false => rw [lt_tot h e]; rfl

/-- Above what was ahead. -/
def gtO (a : Option Tx) (x : Tx) : Bool := match a with | none => true | some y => Op.bytesLess y x
def ltO (x : Tx) (m : Option Tx) : Bool := match m with | none => true | some y => Op.bytesLess x y
def leastL (a : Option Tx) : List Pair → Option Tx → Option Tx
  | [], m => m
  | p :: l, m => leastL a l (if (gtO a p.key && ltO p.key m) = true then some p.key else m)
def lastL (l : List Pair) (key : Tx) : Tx := l.foldl (fun v p => if p.key = key then p.val else v) []
def layF (l : List Pair) : Nat → Option Tx → List Pair
  | 0, _ => []
  | m + 1, a => match leastL a l none with
    | none => []
    | some k => if lastL l k = [] then layF l m (some k) else ⟨k, lastL l k⟩ :: layF l m (some k)
def okSt : Option Tx → List Pair → Bool
  | _, [] => true
  | a, p :: l => gtO a p.key && decide (p.val ≠ []) && okSt (some p.key) l
def cnt (a : Option Tx) (l : List Pair) : Nat := (l.filter fun p => gtO a p.key).length

theorem least_none (a : Option Tx) : ∀ (l : List Pair) (m : Option Tx), leastL a l m = none → m = none ∧ ∀ q ∈ l, gtO a q.key = false
  | [], m, h => ⟨h, fun q hq => by cases hq⟩
  | p :: l, m, h => by
    obtain ⟨h1, h2⟩ := least_none a l _ h
    by_cases hc : (gtO a p.key && ltO p.key m) = true
    · rw [if_pos hc] at h1; cases h1
    · rw [if_neg hc] at h1
      subst h1
      refine ⟨rfl, fun q hq => ?_⟩
      rcases List.mem_cons.1 hq with rfl | hq
      · cases hg : gtO a q.key with
        | false => rfl
        | true => exact absurd (by rw [hg]; rfl) hc
      · exact h2 q hq
theorem least_some (a : Option Tx) : ∀ (l : List Pair) (m : Option Tx) (k : Tx), leastL a l m = some k →
    (m = some k ∨ ∃ p ∈ l, p.key = k ∧ gtO a k = true) ∧ (∀ q ∈ l, gtO a q.key = true → Op.bytesLess q.key k = false) ∧ (∀ y, m = some y → Op.bytesLess y k = false)
  | [], m, k, h => ⟨.inl h, fun q hq => (by cases hq), fun y hy => by rw [show leastL a [] m = m from rfl] at h; rw [h] at hy; cases hy; exact lt_irr _⟩
  | p :: l, m, k, h => by
    obtain ⟨h1, h2, h3⟩ := least_some a l _ k h
    by_cases hc : (gtO a p.key && ltO p.key m) = true
    · rw [if_pos hc] at h1 h3
      rw [Bool.and_eq_true] at hc
      have hpk := h3 _ rfl
      refine ⟨?_, fun q hq hg => ?_, fun y hy => ?_⟩
      · rcases h1 with h1 | ⟨q, hq, e, g⟩
        · cases h1; exact .inr ⟨p, .head _, rfl, hc.1⟩
        · exact .inr ⟨q, .tail _ hq, e, g⟩
      · rcases List.mem_cons.1 hq with rfl | hq
        · exact hpk
        · exact h2 q hq hg
      · subst hy
        have hlt : Op.bytesLess p.key y = true := hc.2
        cases hq : Op.bytesLess y k with
        | false => rfl
        | true => rw [lt_tr hlt hq] at hpk; cases hpk
    · rw [if_neg hc] at h1 h3
      refine ⟨?_, fun q hq hg => ?_, h3⟩
      · rcases h1 with h1 | ⟨q, hq, e, g⟩
        · exact .inl h1
        · exact .inr ⟨q, .tail _ hq, e, g⟩
      · rcases List.mem_cons.1 hq with rfl | hq
        · have hn : ltO q.key m = false := by
            cases hx : ltO q.key m with
            | false => rfl
            | true => exact absurd (by rw [hg, hx]; rfl) hc
          cases m with
          | none => cases hn
          | some y =>
            have hn : Op.bytesLess q.key y = false := hn
            have h4 := h3 y rfl
            cases hx : Op.bytesLess q.key k with
            | false => rfl
            | true =>
              by_cases e : q.key = y
              · rw [e] at hx; rw [hx] at h4; cases h4
              · have := lt_tr (lt_tot hn e) hx
                rw [this] at h4; cases h4
        · exact h2 q hq hg
theorem gtO_tr {a : Option Tx} {k x : Tx} (h1 : gtO a k = true) (h2 : Op.bytesLess k x = true) : gtO a x = true := by
  cases a with
  | none => rfl
  | some y => exact lt_tr h1 h2
theorem cnt_lt {a : Option Tx} {l : List Pair} {k : Tx} (h : leastL a l none = some k) : cnt (some k) l < cnt a l := by
  have h1 := (least_some a l none k h).1
  rcases h1 with h1 | ⟨p, hp, rfl, hg⟩
  · cases h1
  have sub : ∀ q : Pair, gtO (some p.key) q.key = true → gtO a q.key = true := fun q hq => gtO_tr hg hq
  have irr : gtO (some p.key) p.key = false := lt_irr _
  unfold cnt
  clear h
  induction l with
  | nil => cases hp
  | cons q l ih =>
    have hle : ∀ l : List Pair, (l.filter fun r => gtO (some p.key) r.key).length ≤ (l.filter fun r => gtO a r.key).length := by
      intro l
      induction l with
      | nil => exact Nat.le_refl _
      | cons r l ih =>
        rw [List.filter_cons, List.filter_cons]
        by_cases hr : gtO (some p.key) r.key = true
        · rw [if_pos hr, if_pos (sub r hr), List.length_cons, List.length_cons]; omega
        · rw [if_neg hr]; split <;> (try rw [List.length_cons]) <;> omega
    rw [List.filter_cons, List.filter_cons]
    rcases List.mem_cons.1 hp with rfl | hp
    · rw [if_neg (by rw [irr]; simp), if_pos hg, List.length_cons]
      have := hle l
      omega
    · have hi := ih hp
      by_cases hr : gtO (some p.key) q.key = true
      · rw [if_pos hr, if_pos (sub q hr), List.length_cons, List.length_cons]; exact Nat.succ_lt_succ hi
      · rw [if_neg hr]
        split
        · rw [List.length_cons]; exact Nat.lt_succ_of_lt hi
        · exact hi
theorem okSt_mono {a : Option Tx} {k : Tx} (h : gtO a k = true) : ∀ {l : List Pair}, okSt (some k) l = true → okSt a l = true
  | [], _ => rfl
  | p :: l, h2 => by
    simp only [okSt, Bool.and_eq_true] at h2 ⊢
    exact ⟨⟨gtO_tr h h2.1.1, h2.1.2⟩, h2.2⟩
theorem lay_ok (l : List Pair) : ∀ (m : Nat) (a : Option Tx), okSt a (layF l m a) = true
  | 0, a => rfl
  | m + 1, a => by
    unfold layF
    cases h : leastL a l none with
    | none => rfl
    | some k =>
      have hg : gtO a k = true := by
        obtain ⟨h1, _, _⟩ := least_some a l none k h
        rcases h1 with h1 | ⟨p, hp, e, g⟩
        · cases h1
        · exact g
      have ih := lay_ok l m (some k)
      dsimp only
      split
      · exact okSt_mono hg ih
      · rename_i hv
        simp only [okSt, hg, ih, decide_eq_true hv, Bool.and_self]
theorem okSt_facts : ∀ (l : List Pair) (a : Option Tx), okSt a l = true → (∀ p ∈ l, gtO a p.key = true ∧ p.val ≠ []) ∧ l.Pairwise fun p q => Op.bytesLess p.key q.key = true
  | [], a, h => ⟨fun p hp => (by cases hp), .nil⟩
  | p :: l, a, h => by
    simp only [okSt, Bool.and_eq_true, decide_eq_true_eq] at h
    obtain ⟨i1, i2⟩ := okSt_facts l _ h.2
    refine ⟨fun q hq => ?_, .cons (fun q hq => (i1 q hq).1) i2⟩
    rcases List.mem_cons.1 hq with rfl | hq
    · exact h.1
    · exact ⟨gtO_tr h.1.1 (i1 q hq).1, (i1 q hq).2⟩
theorem last_app (l : List Pair) (p : Pair) (key : Tx) : lastL (l ++ [p]) key = if p.key = key then p.val else lastL l key := by
  unfold lastL; rw [List.foldl_append]; rfl
theorem last_skip (key : Tx) : ∀ (l : List Pair) (v : Tx), (∀ q ∈ l, q.key ≠ key) → l.foldl (fun v p => if p.key = key then p.val else v) v = v
  | [], v, h => rfl
  | q :: l, v, h => by rw [List.foldl_cons, if_neg (h q (.head _))]; exact last_skip key l v fun r hr => h r (.tail _ hr)
theorem last_mid (pre suf : List Pair) (p : Pair) (h : ∀ q ∈ suf, q.key ≠ p.key) : lastL (pre ++ p :: suf) p.key = p.val := by
  unfold lastL
  rw [List.foldl_append, List.foldl_cons, if_pos rfl, last_skip _ _ _ h]
theorem lay_same : ∀ (suf pre : List Pair) (a : Option Tx) (m : Nat), suf.length ≤ m → okSt a suf = true → (∀ q ∈ pre, gtO a q.key = false) → layF (pre ++ suf) m a = suf
  | [], pre, a, m, hm, ho, hp => by
    cases m with
    | zero => rfl
    | succ m =>
      unfold layF
      cases h : leastL a (pre ++ []) none with
      | none => rfl
      | some k =>
        obtain ⟨h1, _, _⟩ := least_some a _ none k h
        rcases h1 with h1 | ⟨q, hq, e, g⟩
        · cases h1
        · rw [List.append_nil] at hq
          have := hp q hq
          rw [e, g] at this; cases this
  | p :: suf, pre, a, m, hm, ho, hp => by
    obtain ⟨m, rfl⟩ : ∃ j, m = j + 1 := ⟨m - 1, by rw [List.length_cons] at hm; omega⟩
    have hf := okSt_facts _ _ ho
    have ho' := ho
    simp only [okSt, Bool.and_eq_true, decide_eq_true_eq] at ho'
    have hpw := hf.2
    rw [List.pairwise_cons] at hpw
    have hk : leastL a (pre ++ p :: suf) none = some p.key := by
      cases h : leastL a (pre ++ p :: suf) none with
      | none =>
        have := (least_none a _ none h).2 p (by simp)
        rw [ho'.1.1] at this; cases this
      | some k =>
        obtain ⟨h1, h2, _⟩ := least_some a _ none k h
        have hpk := h2 p (by simp) ho'.1.1
        rcases h1 with h1 | ⟨q, hq, rfl, g⟩
        · cases h1
        rcases List.mem_append.1 hq with hq | hq
        · have := hp q hq
          rw [g] at this; cases this
        · rcases List.mem_cons.1 hq with rfl | hq
          · rfl
          · rw [hpw.1 q hq] at hpk; cases hpk
    have hl : lastL (pre ++ p :: suf) p.key = p.val := last_mid pre suf p fun q hq e => by
      have := hpw.1 q hq
      rw [e, lt_irr] at this; cases this
    unfold layF
    rw [hk]
    dsimp only
    rw [hl, if_neg ho'.1.2]
    have hnext := lay_same suf (pre ++ [p]) (some p.key) m (by rw [List.length_cons] at hm; omega) ho'.2 fun q hq => by
      rcases List.mem_append.1 hq with hq | hq
      · have h1 := hp q hq
        cases hx : gtO (some p.key) q.key with
        | false => rfl
        | true => rw [gtO_tr ho'.1.1 hx] at h1; cases h1
      · rw [List.mem_singleton.1 hq]; exact lt_irr _
    rw [List.append_assoc, List.singleton_append] at hnext
    rw [hnext]
theorem lay_iff (l : List Pair) (m : Nat) (hm : l.length ≤ m) : decide (layF l m none = l) = okSt none l := by
  cases h : okSt none l with
  | true => exact decide_eq_true (lay_same l [] none m hm h fun q hq => by cases hq)
  | false =>
    refine decide_eq_false fun e => ?_
    have := lay_ok l m none
    rw [e, h] at this; cases this
theorem cnt_le (a : Option Tx) (l : List Pair) : cnt a l ≤ l.length := List.length_filter_le _ _
end Go.Proofs.YtogfcfgfkggmlaaGreatDoor.Eng.U


/- Overlays: what both sides answer, in plain words. -/
set_option linter.unusedVariables false
set_option linter.unusedSectionVars false
set_option linter.unusedSimpArgs false
namespace Go.Proofs.YtogfcfgfkggmlaaGreatDoor.Eng.U
open Go Go.Proofs Go.Proofs.YtogfcfgfkggmlaaGreatDoor.Eng Go.Proofs.YtogfcfgfkggmlaaGreatDoor.P04
variable {E : Ext} [Core E] [HasNum E] {k n : Nat}

theorem snoc_len (pre : List Pair) (p : Pair) : ((pre.length : Nat) : Int) + 1 = (((pre ++ [p]).length : Nat) : Int) := by simp
theorem str_tl (l : Tx) : ByteArray.toList (str l) = l := str_list l
theorem overRight_loop (kap : FuncId → List AV → Option AV) (hR : ∀ p : Pair, p.key.length ≤ 1000000 → p.val.length ≤ 1000000 → kap pax_Right [.agg [.str (str p.key), .str (str p.val)]] = some (.bool (pairOk p))) (suf : List Pair) :
    ∀ (pre : List Pair) (k0 : Nat), suf.length < k0 → (pre ++ suf).length < 1000000000 → (∀ p ∈ suf, p.key.length ≤ 1000000 ∧ p.val.length ≤ 1000000) →
    over_Right_L0 kap k k0 (prs (pre ++ suf)) (prs (pre ++ suf)) (((pre ++ suf).length : Nat) : Int) ((pre.length : Nat) : Int) = some (.bool (okSt (pre.getLast?.map (·.key)) suf && suf.all pairOk)) := by
  induction suf with
  | nil =>
    intro pre k0 h hb hs
    obtain ⟨m, rfl⟩ : ∃ m, k0 = m + 1 := ⟨k0 - 1, by simp only [List.length_nil] at h; omega⟩
    rw [over_Right_L0_s, bif_f (by simp)]
    rfl
  | cons p suf ih =>
    intro pre k0 h hb hs
    obtain ⟨m, rfl⟩ : ∃ m, k0 = m + 1 := ⟨k0 - 1, by simp only [List.length_cons] at h; omega⟩
    have h' : suf.length < m := by simp only [List.length_cons] at h; omega
    have hb' : pre.length + (suf.length + 1) < 1000000000 := by simp only [List.length_append, List.length_cons] at hb; exact hb
    obtain ⟨g1, g2⟩ := hs p (.head _)
    have ih' := ih (pre ++ [p]) m h' (by simp only [List.length_append, List.length_cons, List.length_nil]; omega) fun q hq => hs q (.tail _ hq)
    rw [List.append_assoc, List.singleton_append, ← snoc_len] at ih'
    rw [over_Right_L0_s, prs_len, mid_len, bif_t (by omega), bif_a, bif_t (by omega), bif_t (by omega), Int.toNat_natCast, prs_mid, cells_pair, p_0, p_1, hR p g1 g2, callB_ok, str_dec]
    rw [mid_len] at ih'
    simp only [okSt, List.all_cons]
    by_cases hv : p.val = []
    · rw [decide_eq_true hv, cond_true, decide_eq_false (by simp [hv])]
      simp
    rw [decide_eq_false hv, cond_false, decide_eq_true hv]
    cases hq : pairOk p with
    | false => simp
    | true =>
      rw [Bool.not_true, cond_false, i64w (by omega), i64w (by omega), ih', List.getLast?_append, List.getLast?_singleton]
      rcases snoc_pairs pre with rfl | ⟨l, q, rfl⟩
      · rw [bif_f (by simp)]
        simp [gtO]
      · have hl1 : (l ++ [q]).length = l.length + 1 := by simp
        rw [bif_t (by omega), bif_a, bif_t (by omega), bif_t (by omega)]
        have e : Int.toNat ((((l ++ [q]).length : Nat) : Int) - 1) = l.length := by simp
        rw [e, show l ++ [q] ++ p :: suf = l ++ q :: (p :: suf) by simp, prs_mid, cells_pair, p_0, str_tl, str_tl, List.getLast?_append, List.getLast?_singleton]
        show (bif !Op.bytesLess q.key p.key then _ else _) = some (AV.bool ((Op.bytesLess q.key p.key && true && okSt (some p.key) suf) && (true && suf.all pairOk)))
        cases Op.bytesLess q.key p.key <;> simp
def overOk (l : List Pair) : Bool := okSt none l && l.all pairOk
theorem overRight_k [HasTextV E] (l : List Pair) (hl : l.length ≤ 1000000) (hp : ∀ p ∈ l, p.key.length ≤ 1000000 ∧ p.val.length ≤ 1000000) (hk : 1000000 < k) : kp E k (n + 6) over_Right [.list 2 (prs l)] = some (.bool (overOk l)) := by
  have h := overRight_loop (k := k) (kp E k (n + 5)) (fun p h1 h2 => paxRight_k p h1 h2 hk) l [] k (by omega) (by simp; omega) hp
  rw [List.nil_append] at h
  rw [over_Right_eq, prs_len]
  exact h
theorem last_loop (kap : FuncId → List AV → Option AV) (l : List Pair) (key : Tx) (hl : l.length ≤ 1000000) : ∀ (i k0 : Nat), i < k0 → i ≤ l.length →
    ref08_Last_L0 kap k k0 (prs l) (str key) ((i : Int) - 1) = some (.tup [.str (str (lastL (l.take i) key)), .bool (decide (lastL (l.take i) key ≠ []))])
  | 0, k0 + 1, h, hi => by
    rw [ref08_Last_L0_s, bif_f (by omega)]
    rfl
  | i + 1, k0 + 1, h, hi => by
    have hlt : i < l.length := by omega
    have e : Int.toNat (((i + 1 : Nat) : Int) - 1) = i := by omega
    have et : l.take (i + 1) = l.take i ++ [l[i]] := by rw [List.take_succ_eq_append_getElem hlt]
    rw [ref08_Last_L0_s, prs_len, e, bif_t (by omega), bif_a, bif_t (by omega), bif_t (by omega), prs_at l i hlt, cells_pair, p_0, str_dec, et, last_app]
    by_cases hk : (l[i]).key = key
    · rw [decide_eq_true hk, cond_true, bif_a, bif_t (by omega), bif_t (by omega), prs_at l i hlt, cells_pair, p_1, bif_a, bif_t (by omega), bif_t (by omega), prs_at l i hlt, cells_pair, p_1, str_dec, if_pos hk, decide_not]
    · rw [decide_eq_false hk, cond_false, if_neg hk, i64w (by omega), show ((i + 1 : Nat) : Int) - 1 - 1 = (i : Int) - 1 by omega]
      exact last_loop kap l key hl i k0 (by omega) (by omega)
theorem last_k (l : List Pair) (key : Tx) (hl : l.length ≤ 1000000) (hk : l.length < k) : kp E k (n + 1) ref08_Last [.list 2 (prs l), .str (str key)] = some (.tup [.str (str (lastL l key)), .bool (decide (lastL l key ≠ []))]) := by
  rw [ref08_Last_eq, prs_len, i64w (by omega), last_loop (kp E k n) l key hl l.length k hk (Nat.le_refl _), List.take_length]
def kO (m : Option Tx) : Tx := m.getD []
theorem lay_in (kap : FuncId → List AV → Option AV) (all : List Pair) (a : Option Tx) (x6 : List AV) (R : Option AV) (r : Option Tx) (k0 : Nat)
    (hend : ∀ j, ref08_Lay_L1 kap k k0 (j + 1) (str (kO a)) a.isNone (str (kO r)) r.isSome ((all.length : Nat) : Int) (prs all) x6 = R) (suf : List Pair) :
    ∀ (pre : List Pair) (m : Option Tx) (k1 : Nat), all = pre ++ suf → suf.length < k1 → all.length ≤ 1000000 → leastL a suf m = r →
    ref08_Lay_L1 kap k k0 k1 (str (kO a)) a.isNone (str (kO m)) m.isSome ((pre.length : Nat) : Int) (prs all) x6 = R := by
  induction suf with
  | nil =>
    intro pre m k1 he h hb hr
    obtain ⟨j, rfl⟩ : ∃ m, k1 = m + 1 := ⟨k1 - 1, by simp only [List.length_nil] at h; omega⟩
    rw [List.append_nil] at he
    subst he
    have hr : m = r := hr
    subst hr
    exact hend j
  | cons p suf ih =>
    intro pre m k1 he h hb hr
    obtain ⟨j, rfl⟩ : ∃ m, k1 = m + 1 := ⟨k1 - 1, by simp only [List.length_cons] at h; omega⟩
    have h' : suf.length < j := by simp only [List.length_cons] at h; omega
    have hb' : pre.length + (suf.length + 1) ≤ 1000000 := by rw [he] at hb; simp only [List.length_append, List.length_cons] at hb; exact hb
    have he' : all = (pre ++ [p]) ++ suf := by rw [he]; simp
    rw [show leastL a (p :: suf) m = leastL a suf (if (gtO a p.key && ltO p.key m) = true then some p.key else m) from rfl] at hr
    have hi := ih (pre ++ [p]) _ j he' h' hb hr
    rw [← snoc_len] at hi
    rw [ref08_Lay_L1_s, prs_len, he, mid_len, bif_t (by omega), bif_a, bif_t (by omega), bif_t (by omega), Int.toNat_natCast, prs_mid, cells_pair, p_0, ← he, str_tl, str_tl, str_tl, i64w (by omega), str_dec, not_le]
    cases a with
    | none =>
      rw [show (none : Option Tx).isNone = true from rfl, cond_true]
      cases m with
      | none => exact hi
      | some y =>
        rw [show (some y : Option Tx).isSome = true from rfl, Bool.not_true, cond_false, show kO (some y) = y from rfl]
        have hs : (gtO none p.key && ltO p.key (some y)) = Op.bytesLess p.key y := rfl
        rw [hs] at hi
        cases hx : Op.bytesLess p.key y with
        | true => rw [hx] at hi; exact hi
        | false => rw [hx] at hi; exact hi
    | some x =>
      rw [show (some x : Option Tx).isNone = false from rfl, cond_false, show kO (some x) = x from rfl]
      have hg : gtO (some x) p.key = Op.bytesLess x p.key := rfl
      rw [hg] at hi
      cases hgx : Op.bytesLess x p.key with
      | false => rw [hgx] at hi; exact hi
      | true =>
        rw [hgx] at hi
        rw [cond_true]
        cases m with
        | none => exact hi
        | some y =>
          rw [show (some y : Option Tx).isSome = true from rfl, Bool.not_true, cond_false, show kO (some y) = y from rfl]
          have hs : (true && ltO p.key (some y)) = Op.bytesLess p.key y := rfl
          rw [hs] at hi
          cases hx : Op.bytesLess p.key y with
          | true => rw [hx] at hi; exact hi
          | false => rw [hx] at hi; exact hi
theorem lay_out (kap : FuncId → List AV → Option AV) (all : List Pair) (hb : all.length ≤ 1000000) (hk : all.length < k) (hL : ∀ key, kap ref08_Last [.list 2 (prs all), .str (str key)] = some (.tup [.str (str (lastL all key)), .bool (decide (lastL all key ≠ []))])) :
    ∀ (m : Nat) (a : Option Tx) (acc : List Pair) (k0 : Nat), cnt a all ≤ m → m < k0 → acc.length + m ≤ 2000000 →
    ref08_Lay_L0 kap k k0 (str (kO a)) a.isNone (prs all) (prs acc) = some (.list 2 (prs (acc ++ layF all m a)))
  | m, a, acc, k0, hc, hk0, ha => by
    obtain ⟨k0, rfl⟩ : ∃ j, k0 = j + 1 := ⟨k0 - 1, by omega⟩
    rw [ref08_Lay_L0_s]
    refine lay_in kap all a (prs acc) _ (leastL a all none) k0 (fun j => ?_) all [] none k (by simp) hk hb rfl
    rw [ref08_Lay_L1_s, prs_len, bif_f (by omega)]
    cases h : leastL a all none with
    | none =>
      rw [show (none : Option Tx).isSome = false from rfl, Bool.not_false, cond_true]
      have e : layF all m a = [] := by cases m with
        | zero => rfl
        | succ m => unfold layF; rw [h]
      rw [e, List.append_nil]
    | some key =>
      have hlt := cnt_lt h
      obtain ⟨m, rfl⟩ : ∃ j, m = j + 1 := ⟨m - 1, by omega⟩
      rw [show (some key : Option Tx).isSome = true from rfl, Bool.not_true, cond_false, show kO (some key) = key from rfl, hL key, callT_ok]
      unfold layF
      rw [h]
      dsimp only
      have hx : ∀ (s : ByteArray) (b : Bool) (K : ByteArray → Bool → Option AV), (tupS [.str s, .bool b] fun vs5 vt6 => tupB vt6 fun vq7 vt8 => atNil vt8 (K vs5 vq7)) = K s b := fun s b K => rfl
      rw [hx]
      by_cases hv : lastL all key = []
      · rw [if_pos hv, decide_eq_false (by simp [hv]), cond_false]
        exact lay_out kap all hb hk hL m (some key) acc k0 (by omega) (by omega) (by omega)
      · rw [if_neg hv, decide_eq_true hv, cond_true, prs_len, bif_a, bif_t (by omega), bif_t (by omega)]
        have e1 : prs acc ++ [AV.agg [.str (str key), .str (str (lastL all key))]] = prs (acc ++ [⟨key, lastL all key⟩]) := by unfold prs; rw [List.map_append]; rfl
        rw [e1]
        have := lay_out kap all hb hk hL m (some key) (acc ++ [⟨key, lastL all key⟩]) k0 (by omega) (by omega) (by simp only [List.length_append, List.length_cons, List.length_nil]; omega)
        rw [List.append_assoc, List.singleton_append] at this
        exact this
theorem refLay_k (l more : List Pair) (hb : (l ++ more).length ≤ 1000000) (hk : (l ++ more).length < k) : kp E k (n + 2) ref08_Lay [.list 2 (prs l), .list 2 (prs more)] = some (.list 2 (prs (layF (l ++ more) (l ++ more).length none))) := by
  have h := lay_out (k := k) (kp E k (n + 1)) (l ++ more) hb hk (fun key => last_k _ key hb hk) (l ++ more).length none [] k (cnt_le _ _) hk (by simp only [List.length_nil]; omega)
  rw [List.length_append] at hb
  rw [ref08_Lay_eq, prs_len, bif_a, bif_t (by omega), bif_t (by omega), List.nil_append, prs_len, prs_len, bif_a, bif_t (by omega), bif_t (by omega)]
  have e : prs l ++ prs more = prs (l ++ more) := by unfold prs; rw [List.map_append]
  rw [e]
  exact h
theorem same_loop (kap : FuncId → List AV → Option AV) (suf : List Pair) : ∀ (pre suf' pre' : List Pair) (k0 : Nat), suf.length < k0 → pre.length = pre'.length → suf.length = suf'.length → (pre ++ suf).length ≤ 1000000 →
    ref07_Same_L0 kap k k0 (prs (pre ++ suf)) (prs (pre' ++ suf')) ((pre.length : Nat) : Int) = some (.bool (decide (suf = suf'))) := by
  induction suf with
  | nil =>
    intro pre suf' pre' k0 h hp hs hb
    obtain ⟨m, rfl⟩ : ∃ m, k0 = m + 1 := ⟨k0 - 1, by simp only [List.length_nil] at h; omega⟩
    obtain rfl : suf' = [] := List.length_eq_zero_iff.1 hs.symm
    rw [ref07_Same_L0_s, prs_len, bif_f (by simp)]
    rfl
  | cons p suf ih =>
    intro pre suf' pre' k0 h hp hs hb
    obtain ⟨m, rfl⟩ : ∃ m, k0 = m + 1 := ⟨k0 - 1, by simp only [List.length_cons] at h; omega⟩
    cases suf' with
    | nil => cases hs
    | cons q suf' =>
      have h' : suf.length < m := by simp only [List.length_cons] at h; omega
      have hb' : pre.length + (suf.length + 1) ≤ 1000000 := by simp only [List.length_append, List.length_cons] at hb; exact hb
      have hs' : suf.length = suf'.length := by simp only [List.length_cons] at hs; omega
      have hi := ih (pre ++ [p]) suf' (pre' ++ [q]) m h' (by simp [hp]) hs' (by simp only [List.length_append, List.length_cons, List.length_nil]; omega)
      rw [← snoc_len, List.append_assoc, List.append_assoc, List.singleton_append, List.singleton_append] at hi
      have key : ∀ {β : Type} (F : AV → Option β), ((prs (pre' ++ q :: suf'))[pre.length]?).bind F = F (elPair q) := by
        intro β F; rw [hp, prs_mid]
      rw [ref07_Same_L0_s, prs_len, prs_len, mid_len, mid_len, bif_t (by omega), bif_a, bif_t (by omega), bif_t (by omega), Int.toNat_natCast, prs_mid, cells_pair, p_0, p_1, bif_a, bif_t (by omega), bif_t (by omega), key, cells_pair, p_0, p_1, str_dec, str_dec, i64w (by omega), hi]
      have e : decide (p :: suf = q :: suf') = ((decide (p.key = q.key) && (decide (p.val = q.val) && true)) && decide (suf = suf')) := by
        have e0 : (p :: suf = q :: suf') ↔ (p.key = q.key ∧ p.val = q.val) ∧ suf = suf' := by
          rw [List.cons.injEq]; cases p; cases q; simp
        have e1 : decide (p :: suf = q :: suf') = decide ((p.key = q.key ∧ p.val = q.val) ∧ suf = suf') := decide_eq_decide.2 e0
        rw [e1]
        by_cases a1 : p.key = q.key <;> by_cases a2 : p.val = q.val <;> by_cases a3 : suf = suf' <;> simp [a1, a2, a3]
      rw [e]
      cases decide (p.key = q.key) && (decide (p.val = q.val) && true) <;> rfl
theorem pSame_k (a b : List Pair) (ha : a.length ≤ 1000000) (hk : a.length < k) : kp E k (n + 1) ref07_Same [.list 2 (prs a), .list 2 (prs b)] = some (.bool (decide (a = b))) := by
  rw [ref07_Same_eq, prs_len, prs_len]
  by_cases h : a.length = b.length
  · rw [decide_eq_true (by omega), Bool.not_true, cond_false]
    have := same_loop (k := k) (kp E k n) a [] b [] k hk rfl h (by simpa using ha)
    exact this
  · rw [decide_eq_false (by omega), Bool.not_false, cond_true, decide_eq_false (fun e => h (by rw [e]))]
theorem refOver_loop (kap : FuncId → List AV → Option AV) (all : List Pair) (R : Bool) (hR : ∀ p : Pair, p.key.length ≤ 1000000 → p.val.length ≤ 1000000 → kap ref07_Right [.agg [.str (str p.key), .str (str p.val)]] = some (.bool (pairOk p)))
    (hend : ∀ j, ref08_Right_L0 kap k (j + 1) (prs all) ((all.length : Nat) : Int) = some (.bool R)) (suf : List Pair) :
    ∀ (pre : List Pair) (k0 : Nat), all = pre ++ suf → suf.length < k0 → all.length ≤ 1000000 → (∀ p ∈ suf, p.key.length ≤ 1000000 ∧ p.val.length ≤ 1000000) →
    ref08_Right_L0 kap k k0 (prs all) ((pre.length : Nat) : Int) = some (.bool (suf.all pairOk && R)) := by
  induction suf with
  | nil =>
    intro pre k0 he h hb hs
    obtain ⟨m, rfl⟩ : ∃ m, k0 = m + 1 := ⟨k0 - 1, by simp only [List.length_nil] at h; omega⟩
    rw [List.append_nil] at he
    subst he
    exact hend m
  | cons p suf ih =>
    intro pre k0 he h hb hs
    obtain ⟨m, rfl⟩ : ∃ m, k0 = m + 1 := ⟨k0 - 1, by simp only [List.length_cons] at h; omega⟩
    have h' : suf.length < m := by simp only [List.length_cons] at h; omega
    have hb' : pre.length + (suf.length + 1) ≤ 1000000 := by rw [he] at hb; simp only [List.length_append, List.length_cons] at hb; exact hb
    obtain ⟨g1, g2⟩ := hs p (.head _)
    have hi := ih (pre ++ [p]) m (by rw [he]; simp) h' hb fun q hq => hs q (.tail _ hq)
    rw [← snoc_len] at hi
    rw [ref08_Right_L0_s, prs_len, he, mid_len, bif_t (by omega), bif_a, bif_t (by omega), bif_t (by omega), Int.toNat_natCast, prs_mid, cells_pair, p_0, p_1, ← he, hR p g1 g2, callB_ok, i64w (by omega), hi, List.all_cons]
    cases pairOk p <;> rfl
theorem refOver_k (l : List Pair) (hl : l.length ≤ 100000) (hp : ∀ p ∈ l, p.key.length ≤ 1000000 ∧ p.val.length ≤ 1000000) (hk : 2000000 < k) : kp E k (n + 5) ref08_Right [.list 2 (prs l)] = some (.bool (overOk l)) := by
  have hend : ∀ j, ref08_Right_L0 (kp E k (n + 4)) k (j + 1) (prs l) ((l.length : Nat) : Int) = some (.bool (okSt none l)) := by
    intro j
    have hlay := refLay_k (E := E) (k := k) (n := n + 2) l [] (by simp; omega) (by simp; omega)
    rw [show prs [] = [] from rfl, List.append_nil] at hlay
    have hlen : (layF l l.length none).length ≤ 1000000 := by
      have : ∀ (m : Nat) (a : Option Tx), (layF l m a).length ≤ m := by
        intro m
        induction m with
        | zero => intro a; exact Nat.le_refl _
        | succ m ih =>
          intro a
          unfold layF
          split
          · simp
          · split
            · have := ih (some ‹Tx›); omega
            · rw [List.length_cons]; have := ih (some ‹Tx›); omega
      have := this l.length none
      omega
    rw [ref08_Right_L0_s, prs_len, bif_f (by omega), hlay, callL_ok, pSame_k _ l hlen (by
      have : ∀ (m : Nat) (a : Option Tx), (layF l m a).length ≤ m := by
        intro m
        induction m with
        | zero => intro a; exact Nat.le_refl _
        | succ m ih =>
          intro a
          unfold layF
          split
          · simp
          · split
            · have := ih (some ‹Tx›); omega
            · rw [List.length_cons]; have := ih (some ‹Tx›); omega
      have := this l.length none
      omega), callB_ok, lay_iff l _ (Nat.le_refl _)]
  have h := refOver_loop (k := k) (kp E k (n + 4)) l _ (fun p h1 h2 => refPair_k p h1 h2 hk) hend l [] k (by simp) (by omega) (by omega) hp
  rw [ref08_Right_eq]
  unfold overOk
  rw [Bool.and_comm]
  exact h
end Go.Proofs.YtogfcfgfkggmlaaGreatDoor.Eng.U


/- ItemFulls answers true. -/
set_option linter.unusedVariables false
set_option linter.unusedSectionVars false
set_option linter.unusedSimpArgs false
namespace Go.Proofs.YtogfcfgfkggmlaaGreatDoor.Eng.U
open Go Go.Proofs Go.Proofs.YtogfcfgfkggmlaaGreatDoor.Eng Go.Proofs.YtogfcfgfkggmlaaGreatDoor.P04
variable {E : Ext} [Core E] [HasNum E] [HasText E] {k n : Nat}

end Go.Proofs.YtogfcfgfkggmlaaGreatDoor.Eng.U


/- Which field of a head is the first that isn't right: both sides. -/
set_option linter.unusedVariables false
set_option linter.unusedSectionVars false
set_option linter.unusedSimpArgs false
namespace Go.Proofs.YtogfcfgfkggmlaaGreatDoor.Eng.U
open Go Go.Proofs Go.Proofs.YtogfcfgfkggmlaaGreatDoor.Eng Go.Proofs.YtogfcfgfkggmlaaGreatDoor.P04
variable {E : Ext} [Core E] [HasNum E] {k n k0 : Nat}

def nameOk (s : List UInt8) : Bool := decide (s ≠ []) && (decide (s.length ≤ 65536) && clean s)
def plainOk (s : List UInt8) : Bool := decide (s.length ≤ 65536) && clean s
def links (h : Head) : Bool := decide (h.kind = 2) || decide (h.kind = 3)
def devs (h : Head) : Bool := decide (h.kind = 4) || decide (h.kind = 5)
def f1 (h : Head) : Bool := decide (h.kind ≥ 1) && decide (h.kind ≤ 7)
def f2 (h : Head) : Bool := nameOk h.name && !(decide (h.kind = 1) && sl h.name)
def f3 (h : Head) : Bool := bif links h then nameOk h.link else decide (h.link = [])
def f4 (h : Head) : Bool := decide (h.mode ≥ 0)
def f5 (h : Head) : Bool := decide (h.uid ≥ 0)
def f6 (h : Head) : Bool := decide (h.gid ≥ 0)
def f7 (h : Head) : Bool := decide (h.size = 0) || (decide (h.size > 0) && decide (h.kind = 1))
def f8 (h : Head) : Bool := rightT h.nano
def f9 (h : Head) : Bool := plainOk h.user
def f10 (h : Head) : Bool := plainOk h.group
def devOk (h : Head) (v : Int) : Bool := decide (v = 0) || (decide (v > 0) && devs h)
def f11 (h : Head) : Bool := devOk h h.major
def f12 (h : Head) : Bool := devOk h h.minor
def f13 (h : Head) : Bool := overOk h.extra && h.extra.all fun p => decide (whichL p.key < 0)
def wrongH (h : Head) : Int :=
  bif !f1 h then 1 else bif !f2 h then 2 else bif !f3 h then 3 else bif !f4 h then 4 else bif !f5 h then 5 else bif !f6 h then 6 else bif !f7 h then 7 else bif !f8 h then 8 else
  bif !f9 h then 9 else bif !f10 h then 10 else bif !f11 h then 11 else bif !f12 h then 12 else bif !f13 h then 13 else 0
theorem len_le (s : List UInt8) : decide (((s.length : Nat) : Int) ≤ 65536) = decide (s.length ≤ 65536) := by rw [decide_eq_decide]; omega
theorem named_k (s : List UInt8) : kp E k (n + 2) item_named [.str (str s)] = some (.bool (nameOk s)) := by
  rw [item_named_eq, textClean_k, callB_ok, str_dec, str_size, len_le]
  unfold nameOk
  rw [decide_not]
  cases decide (s = []) <;> cases decide (s.length ≤ 65536) <;> rfl
theorem plain_k (s : List UInt8) : kp E k (n + 2) item_plain [.str (str s)] = some (.bool (plainOk s)) := by
  rw [item_plain_eq, textClean_k, callB_ok, str_size, len_le]
  unfold plainOk
  cases decide (s.length ≤ 65536) <;> rfl
theorem refName_k (s : List UInt8) (hs : s.length < 1000000000) (hk : s.length < k) : kp E k (n + 3) ref09_name [.str (str s)] = some (.bool (nameOk s)) := by
  rw [ref09_name_eq, refClean_k s hs hk, callB_ok, str_dec, str_size, len_le]
  unfold nameOk
  rw [decide_not]
  cases decide (s = []) <;> cases decide (s.length ≤ 65536) <;> rfl
theorem plain_name (s : List UInt8) : (bif decide (s = []) then true else nameOk s) = plainOk s := by
  unfold nameOk plainOk
  by_cases h : s = []
  · subst h; rfl
  · rw [decide_eq_false h, decide_eq_true h]; rfl
theorem refSlash_k (s : List UInt8) (hs : s.length < 1000000000) : kp E k (n + 1) ref09_Slash [.str (str s)] = some (.bool (sl s)) := by
  rw [ref09_Slash_eq, str_dec, str_size]
  rcases snoc_cases s with rfl | ⟨l, c, rfl⟩
  · rfl
  · rw [decide_eq_false (by simp), Bool.not_false, cond_true]
    rw [List.length_append, List.length_singleton] at hs ⊢
    rw [i64w (by omega), bif_a, bif_t (by omega), bif_t (by omega), show Int.toNat (((l.length + 1 : Nat) : Int) - 1) = l.length by omega, str_byte]
    have e := mid_byte l [] c
    rw [show l ++ [c] = l ++ c :: [] from rfl, e, show decide (((c.toNat : Nat) : Int) = 47) = decide (c = 47) from byte_is c 47 (by omega)]
    unfold sl
    simp
theorem link_k (h : Head) : kp E k (n + 3) item_link [.agg (encHead h)] = some (.bool (f3 h)) := by
  unfold encHead f3 links
  rw [item_link_eq, named_k, callB_ok, str_dec]
  cases decide (h.kind = 2) <;> cases decide (h.kind = 3) <;> rfl
theorem device_k (h : Head) (v : Int) : kp E k (n + 1) item_device [.agg (encHead h), .int .i64 v] = some (.bool (devOk h v)) := by
  unfold encHead devOk devs
  rw [item_device_eq]
  cases decide (v = 0) <;> cases decide (v > 0) <;> cases decide (h.kind = 4) <;> rfl
theorem extra1_k (p : Pair) : kp E k (n + 2) item_extra_1 [.agg [.str (str p.key), .str (str p.val)]] = some (.bool (decide (0 ≤ whichL p.key))) := by
  rw [item_extra_1_eq, known_k, callB_ok]
theorem index_loop (kap : FuncId → List AV → Option AV) (hK : ∀ p : Pair, kap item_extra_1 [.agg [.str (str p.key), .str (str p.val)]] = some (.bool (decide (0 ≤ whichL p.key)))) (suf : List Pair) : ∀ (pre : List Pair) (k0 : Nat), suf.length < k0 → (pre ++ suf).length < 1000000 →
    ∃ i : Int, slices_IndexFunc_api_Pair_L0 kap k k0 (prs (pre ++ suf)) (((pre ++ suf).length : Nat) : Int) ((pre.length : Nat) : Int) = some (.int .i64 i) ∧ decide (i ≥ 0) = !(suf.all fun p => decide (whichL p.key < 0)) := by
  induction suf with
  | nil =>
    intro pre k0 h hb
    obtain ⟨m, rfl⟩ : ∃ m, k0 = m + 1 := ⟨k0 - 1, by simp only [List.length_nil] at h; omega⟩
    rw [slices_IndexFunc_api_Pair_L0_s, bif_f (by simp)]
    exact ⟨_, rfl, rfl⟩
  | cons p suf ih =>
    intro pre k0 h hb
    obtain ⟨m, rfl⟩ : ∃ m, k0 = m + 1 := ⟨k0 - 1, by simp only [List.length_cons] at h; omega⟩
    have h' : suf.length < m := by simp only [List.length_cons] at h; omega
    have hb' : pre.length + (suf.length + 1) < 1000000 := by simp only [List.length_append, List.length_cons] at hb; exact hb
    obtain ⟨i, hi, he⟩ := ih (pre ++ [p]) m h' (by simp only [List.length_append, List.length_cons, List.length_nil]; omega)
    rw [List.append_assoc, List.singleton_append, ← snoc_len, mid_len] at hi
    rw [slices_IndexFunc_api_Pair_L0_s, prs_len, mid_len, bif_t (by omega), bif_a, bif_t (by omega), bif_t (by omega), Int.toNat_natCast, prs_mid, cells_pair, p_0, p_1, hK, callB_ok, i64w (by omega), List.all_cons]
    by_cases hw : 0 ≤ whichL p.key
    · rw [decide_eq_true hw, cond_true, decide_eq_false (show ¬ whichL p.key < 0 by omega)]
      exact ⟨_, rfl, by rw [decide_eq_true (by omega)]; rfl⟩
    · rw [decide_eq_false hw, cond_false, decide_eq_true (show whichL p.key < 0 by omega), Bool.true_and]
      exact ⟨i, hi, he⟩
theorem extra_k [HasTextV E] (h : Head) (hl : h.extra.length ≤ 100000) (hp : ∀ p ∈ h.extra, p.key.length ≤ 1000000 ∧ p.val.length ≤ 1000000) (hk : 1000000 < k) : kp E k (n + 7) item_extra [.list 2 (prs h.extra)] = some (.bool (f13 h)) := by
  obtain ⟨i, hi, he⟩ := index_loop (k := k) (kp E k (n + 4)) (fun p => extra1_k p) h.extra [] k (by omega) (by simpa using (show h.extra.length < 1000000 by omega))
  simp only [List.nil_append, List.length_nil] at hi
  rw [item_extra_eq, overRight_k h.extra (by omega) hp hk, callB_ok, slices_ContainsFunc_api_Pair_eq, slices_IndexFunc_api_Pair_eq, prs_len]
  rw [show ((0 : Nat) : Int) = 0 from rfl] at hi
  rw [hi, callI_ok, he, callB_ok, Bool.not_not]
  unfold f13
  cases overOk h.extra <;> rfl
def BdF (h : Head) : Prop := h.name.length ≤ 400000 ∧ h.link.length ≤ 400000 ∧ h.user.length ≤ 400000 ∧ h.group.length ≤ 400000 ∧ h.extra.length ≤ 100000 ∧ ∀ p ∈ h.extra, p.key.length ≤ 1000000 ∧ p.val.length ≤ 1000000
theorem flag_k (v : Int) : ∃ f : Int, kp E k (n + 1) item_Flag [.int .i64 v] = some (.int .u8 f) ∧ decide (f = 0) = !(decide (v ≥ 1) && decide (v ≤ 7)) := by
  rw [item_Flag_eq]
  by_cases h1 : v < 1
  · rw [bif_t h1]; exact ⟨_, rfl, by rw [decide_eq_false (show ¬ v ≥ 1 by omega)]; rfl⟩
  · rw [bif_f h1]
    by_cases h2 : v > 7
    · rw [bif_t h2]; exact ⟨_, rfl, by rw [decide_eq_true (show v ≥ 1 by omega), decide_eq_false (show ¬ v ≤ 7 by omega)]; rfl⟩
    · rw [bif_f h2]
      have : v = 1 ∨ v = 2 ∨ v = 3 ∨ v = 4 ∨ v = 5 ∨ v = 6 ∨ v = 7 := by omega
      rcases this with rfl | rfl | rfl | rfl | rfl | rfl | rfl <;> exact ⟨_, rfl, by decide⟩
theorem wrong_kv [HasTextV E] (h : Head) (hb : BdF h) (hk : 1000000 < k) : kp E k (n + 8) item_Wrong [.agg (encHead h)] = some (.int .i64 (wrongH h)) := by
  have hlink := link_k (E := E) (k := k) (n := n + 4) h
  have hdev : ∀ v : Int, kp E k (n + 7) item_device [.agg (encHead h), .int .i64 v] = _ := fun v => device_k (n := n + 6) h v
  have hext := extra_k (E := E) (k := k) (n := n) h hb.2.2.2.2.1 hb.2.2.2.2.2 hk
  have hright : ∀ s t : Int, kp E k (n + 7) dec_Right [.agg [.int .i64 s, .int .i64 t]] = _ := fun s t => right_k (n := n + 6) s t
  have hplain : ∀ s : List UInt8, kp E k (n + 7) item_plain [.str (str s)] = _ := fun s => plain_k (n := n + 5) s
  have hname : kp E k (n + 7) item_named [.str (str h.name)] = _ := named_k (n := n + 5) h.name
  obtain ⟨f, hfl, hf1⟩ := flag_k (E := E) (k := k) (n := n + 6) h.kind
  have hsuf := suffix_k (E := E) (k := k) (n := n + 5) h.name (by have := hb.1; omega)
  have e1 : decide (f = 0) = !f1 h := hf1
  unfold encHead at hlink hdev ⊢
  rw [item_Wrong_eq]
  simp only [hfl, callI_ok, e1, hname, hsuf, hlink, hdev, hright, hplain, hext, callB_ok]
  unfold wrongH
  have e2 : f2 h = (nameOk h.name && !(decide (h.kind = 1) && sl h.name)) := rfl
  have e4 : decide (h.mode < 0) = !f4 h := by unfold f4; rw [← decide_not, decide_eq_decide]; omega
  have e5 : decide (h.uid < 0) = !f5 h := by unfold f5; rw [← decide_not, decide_eq_decide]; omega
  have e6 : decide (h.gid < 0) = !f6 h := by unfold f6; rw [← decide_not, decide_eq_decide]; omega
  have e7 : f7 h = (decide (h.size = 0) || (decide (h.size > 0) && decide (h.kind = 1))) := rfl
  have e8 : rightT h.nano = f8 h := rfl
  have e9 : plainOk h.user = f9 h := rfl
  have e10 : plainOk h.group = f10 h := rfl
  have e11 : devOk h h.major = f11 h := rfl
  have e12 : devOk h h.minor = f12 h := rfl
  rw [e2, e4, e5, e6, e7, e8, e9, e10, e11, e12]
  have s3 : (h.size < 0 ∧ ¬ h.size = 0 ∧ ¬ h.size > 0) ∨ (¬ h.size < 0 ∧ h.size = 0 ∧ ¬ h.size > 0) ∨ (¬ h.size < 0 ∧ ¬ h.size = 0 ∧ h.size > 0) := by omega
  generalize nameOk h.name = b2
  generalize sl h.name = bs
  generalize f1 h = b1
  generalize f3 h = b3
  generalize f4 h = b4
  generalize f5 h = b5
  generalize f6 h = b6
  generalize f8 h = b8
  generalize f9 h = b9
  generalize f10 h = b10
  generalize f11 h = b11
  generalize f12 h = b12
  generalize f13 h = b13
  generalize decide (h.kind = 1) = bk
  cases b1
  · rfl
  cases b2
  · rfl
  have tail : ∀ a8 a9 a10 a11 a12 a13 : Bool, (bif !a8 then some (AV.int .i64 8) else bif !a9 then some (AV.int .i64 9) else bif !a10 then some (AV.int .i64 10) else bif !a11 then some (AV.int .i64 11) else bif !a12 then some (AV.int .i64 12) else bif !a13 then some (AV.int .i64 13) else some (AV.int .i64 0)) =
      some (AV.int .i64 (bif !a8 then 8 else bif !a9 then 9 else bif !a10 then 10 else bif !a11 then 11 else bif !a12 then 12 else bif !a13 then 13 else 0)) := by
    intro a8 a9 a10 a11 a12 a13
    cases a8 <;> cases a9 <;> cases a10 <;> cases a11 <;> cases a12 <;> cases a13 <;> rfl
  rcases s3 with ⟨x1, x2, x3⟩ | ⟨x1, x2, x3⟩ | ⟨x1, x2, x3⟩
  · rw [decide_eq_true x1, decide_eq_false x2, decide_eq_false x3]
    cases bk <;> cases bs <;> cases b3 <;> cases b4 <;> cases b5 <;> cases b6 <;> rfl
  · rw [decide_eq_false x1, decide_eq_true x2, decide_eq_false x3]
    cases bk <;> cases bs <;> cases b3 <;> cases b4 <;> cases b5 <;> cases b6 <;> first | rfl | exact tail _ _ _ _ _ _
  · rw [decide_eq_false x1, decide_eq_false x2, decide_eq_true x3]
    cases bk <;> cases bs <;> cases b3 <;> cases b4 <;> cases b5 <;> cases b6 <;> first | rfl | exact tail _ _ _ _ _ _
theorem known_loop (kap : FuncId → List AV → Option AV) (hW : ∀ key : List UInt8, kap ref07_Which [.str (str key)] = some (.int .i64 (whichL key))) (h : Head) (g1 g2 g3 g4 g5 g6 g7 g8 g9 g10 g11 g12 : Bool) (suf : List Pair) : ∀ (pre : List Pair) (k0 : Nat) (v : Bool), h.extra = pre ++ suf → suf.length < k0 → h.extra.length < 1000000 →
    ref09_fields_L10 kap k k0 ((pre.length : Nat) : Int) h.kind (str h.name) (str h.link) h.mode h.uid h.gid h.size h.sec h.nano (str h.user) (str h.group) h.major h.minor (prs h.extra) false false false false false false false false false false false false false false false g1 g2 g3 g4 g5 g6 g7 g8 g9 g10 g11 g12 v = some (.agg [.bool false, .bool g1, .bool g2, .bool g3, .bool g4, .bool g5, .bool g6, .bool g7, .bool g8, .bool g9, .bool g10, .bool g11, .bool g12, .bool (v && suf.all fun p => decide (whichL p.key < 0))]) := by
  induction suf with
  | nil =>
    intro pre k0 v he h' hb
    obtain ⟨m, rfl⟩ : ∃ m, k0 = m + 1 := ⟨k0 - 1, by simp only [List.length_nil] at h'; omega⟩
    rw [ref09_fields_L10_s, prs_len, he, bif_f (by simp)]
    simp
  | cons p suf ih =>
    intro pre k0 v he h' hb
    obtain ⟨m, rfl⟩ : ∃ m, k0 = m + 1 := ⟨k0 - 1, by simp only [List.length_cons] at h'; omega⟩
    have h2 : suf.length < m := by simp only [List.length_cons] at h'; omega
    have hb' : pre.length + (suf.length + 1) < 1000000 := by rw [he] at hb; simp only [List.length_append, List.length_cons] at hb; exact hb
    have hl : h.extra.length = pre.length + (suf.length + 1) := by rw [he]; simp
    have hi := fun v => ih (pre ++ [p]) m v (by rw [he]; simp) h2 hb
    rw [← snoc_len] at hi
    have hat : ∀ (F : AV → Option AV), ((prs h.extra)[pre.length]?).bind F = F (elPair p) := fun F => by rw [he, prs_mid]
    rw [ref09_fields_L10_s, prs_len, hl, bif_t (by omega), i64w (by omega), hi, bif_a, bif_t (by omega), bif_t (by omega), Int.toNat_natCast, hat, cells_pair, p_0, hW, callI_ok, hi, List.all_cons]
    cases v <;> simp
end Go.Proofs.YtogfcfgfkggmlaaGreatDoor.Eng.U


/- Which field of a head is the first that isn't right: the reference's side. -/
set_option linter.unusedVariables false
set_option linter.unusedSectionVars false
set_option linter.unusedSimpArgs false
namespace Go.Proofs.YtogfcfgfkggmlaaGreatDoor.Eng.U
open Go Go.Proofs Go.Proofs.YtogfcfgfkggmlaaGreatDoor.Eng Go.Proofs.YtogfcfgfkggmlaaGreatDoor.P04
variable {E : Ext} [Core E] [HasNum E] {k n k0 : Nat}

theorem fld0 (kap : FuncId → List AV → Option AV) (h : Head) (hb : BdF h) (K : Nat) : ref09_fields_J0 kap (K + 1) (K + 1) (links h) h.kind (str h.name) (str h.link) h.mode h.uid h.gid h.size h.sec h.nano (str h.user) (str h.group) h.major h.minor (prs h.extra) false false false false false false false false false false false false false false = ref09_fields_J1 kap (K + 1) (K + 1) (links h) (devs h) h.kind (str h.name) (str h.link) h.mode h.uid h.gid h.size h.sec h.nano (str h.user) (str h.group) h.major h.minor (prs h.extra) false false false false false false false false false false false false false false := by
  rw [ref09_fields_J0_s]
  cases hx : decide (h.kind = 4)
  · have e : devs h = decide (h.kind = 5) := by unfold devs; rw [hx, Bool.false_or]
    rw [e, cond_false]
  · have e : devs h = true := by unfold devs; rw [hx, Bool.true_or]
    rw [e, cond_true]
theorem fld1 (kap : FuncId → List AV → Option AV) (h : Head) (hb : BdF h) (K : Nat) : ref09_fields_J1 kap (K + 1) (K + 1) (links h) (devs h) h.kind (str h.name) (str h.link) h.mode h.uid h.gid h.size h.sec h.nano (str h.user) (str h.group) h.major h.minor (prs h.extra) false false false false false false false false false false false false false false = ref09_fields_J2 kap (K + 1) (K + 1) (links h) (devs h) h.kind (str h.name) (str h.link) h.mode h.uid h.gid h.size h.sec h.nano (str h.user) (str h.group) h.major h.minor (prs h.extra) false false false false false false false false false false false false false false false (f1 h) false false false false false false false false false false false false := by
  rw [ref09_fields_J1_s]
  cases hx : decide (h.kind ≥ 1)
  · have e : f1 h = false := by unfold f1; rw [hx, Bool.false_and]
    rw [e, cond_false]
  · have e : f1 h = decide (h.kind ≤ 7) := by unfold f1; rw [hx, Bool.true_and]
    rw [e, cond_true]
theorem fld2 (kap : FuncId → List AV → Option AV) (h : Head) (hb : BdF h) (hname : ∀ s : List UInt8, s.length ≤ 400000 → kap ref09_name [.str (str s)] = some (.bool (nameOk s))) (hslash : kap ref09_Slash [.str (str h.name)] = some (.bool (sl h.name))) (K : Nat) : ref09_fields_J2 kap (K + 1) (K + 1) (links h) (devs h) h.kind (str h.name) (str h.link) h.mode h.uid h.gid h.size h.sec h.nano (str h.user) (str h.group) h.major h.minor (prs h.extra) false false false false false false false false false false false false false false false (f1 h) false false false false false false false false false false false false = ref09_fields_J3 kap (K + 1) (K + 1) (links h) (devs h) h.kind (str h.name) (str h.link) h.mode h.uid h.gid h.size h.sec h.nano (str h.user) (str h.group) h.major h.minor (prs h.extra) false false false false false false false false false false false false false false false (f1 h) (f2 h) false false false false false false false false false false false := by
  rw [ref09_fields_J2_s]
  rw [hname h.name hb.1, callB_ok]
  cases hn : nameOk h.name
  · have e : f2 h = false := by unfold f2; rw [hn, Bool.false_and]
    rw [e, cond_false]
  · rw [cond_true]
    cases hk : decide (h.kind = 1)
    · have e : f2 h = true := by unfold f2; rw [hn, hk]; rfl
      rw [e, cond_false]
    · have e : f2 h = !sl h.name := by unfold f2; rw [hn, hk, Bool.true_and, Bool.true_and]
      rw [cond_true, hslash, callB_ok, e]
theorem fld3 (kap : FuncId → List AV → Option AV) (h : Head) (hb : BdF h) (hname : ∀ s : List UInt8, s.length ≤ 400000 → kap ref09_name [.str (str s)] = some (.bool (nameOk s))) (K : Nat) : ref09_fields_J3 kap (K + 1) (K + 1) (links h) (devs h) h.kind (str h.name) (str h.link) h.mode h.uid h.gid h.size h.sec h.nano (str h.user) (str h.group) h.major h.minor (prs h.extra) false false false false false false false false false false false false false false false (f1 h) (f2 h) false false false false false false false false false false false = ref09_fields_J4 kap (K + 1) (K + 1) (devs h) h.kind (str h.name) (str h.link) h.mode h.uid h.gid h.size h.sec h.nano (str h.user) (str h.group) h.major h.minor (prs h.extra) false false false false false false false false false false false false false false false (f1 h) (f2 h) (f3 h) false false false false false false false false false false := by
  rw [ref09_fields_J3_s]
  cases hl : links h
  · have e : f3 h = decide (h.link = []) := by unfold f3; rw [hl, cond_false]
    rw [cond_false, Bool.not_false, cond_true, str_dec, e]
  · rw [cond_true, hname h.link hb.2.1, callB_ok]
    cases hn : nameOk h.link
    · have e : f3 h = false := by unfold f3; rw [hl, cond_true, hn]
      rw [cond_false, Bool.not_true, cond_false, e]
    · have e : f3 h = true := by unfold f3; rw [hl, cond_true, hn]
      rw [cond_true, e]
theorem fld4 (kap : FuncId → List AV → Option AV) (h : Head) (hb : BdF h) (K : Nat) : ref09_fields_J4 kap (K + 1) (K + 1) (devs h) h.kind (str h.name) (str h.link) h.mode h.uid h.gid h.size h.sec h.nano (str h.user) (str h.group) h.major h.minor (prs h.extra) false false false false false false false false false false false false false false false (f1 h) (f2 h) (f3 h) false false false false false false false false false false = ref09_fields_J5 kap (K + 1) (K + 1) (devs h) h.kind (str h.name) (str h.link) h.mode h.uid h.gid h.size h.sec h.nano (str h.user) (str h.group) h.major h.minor (prs h.extra) false false false false false false false false false false false false false false false (f1 h) (f2 h) (f3 h) (f4 h) (f5 h) (f6 h) (f7 h) false false false false false false := by
  rw [ref09_fields_J4_s]
  rw [show decide (h.mode ≥ 0) = f4 h from rfl, show decide (h.uid ≥ 0) = f5 h from rfl, show decide (h.gid ≥ 0) = f6 h from rfl]
  cases hz : decide (h.size = 0)
  · rw [cond_false]
    cases hp : decide (h.size > 0)
    · have e : f7 h = false := by unfold f7; rw [hz, hp]; rfl
      rw [cond_false, e]
    · have e : f7 h = decide (h.kind = 1) := by unfold f7; rw [hz, hp, Bool.false_or, Bool.true_and]
      rw [cond_true, e]
  · have e : f7 h = true := by unfold f7; rw [hz, Bool.true_or]
    rw [cond_true, e]
theorem fld5 (kap : FuncId → List AV → Option AV) (h : Head) (hb : BdF h) (hname : ∀ s : List UInt8, s.length ≤ 400000 → kap ref09_name [.str (str s)] = some (.bool (nameOk s))) (hright : ∀ s t : Int, kap ref04_Right [.agg [.int .i64 s, .int .i64 t]] = some (.bool (rightT t))) (K : Nat) : ref09_fields_J5 kap (K + 1) (K + 1) (devs h) h.kind (str h.name) (str h.link) h.mode h.uid h.gid h.size h.sec h.nano (str h.user) (str h.group) h.major h.minor (prs h.extra) false false false false false false false false false false false false false false false (f1 h) (f2 h) (f3 h) (f4 h) (f5 h) (f6 h) (f7 h) false false false false false false = ref09_fields_J6 kap (K + 1) (K + 1) (devs h) h.kind (str h.name) (str h.link) h.mode h.uid h.gid h.size h.sec h.nano (str h.user) (str h.group) h.major h.minor (prs h.extra) false false false false false false false false false false false false false false false (f1 h) (f2 h) (f3 h) (f4 h) (f5 h) (f6 h) (f7 h) (f8 h) (f9 h) false false false false := by
  rw [ref09_fields_J5_s]
  rw [hright, callB_ok, show rightT h.nano = f8 h from rfl, str_dec]
  cases hu : decide (h.user = [])
  · have e : f9 h = nameOk h.user := by unfold f9; rw [← plain_name, hu, cond_false]
    rw [cond_false, hname h.user hb.2.2.1, callB_ok, e]
  · have e : f9 h = true := by unfold f9; rw [← plain_name, hu, cond_true]
    rw [cond_true, e]
theorem fld6 (kap : FuncId → List AV → Option AV) (h : Head) (hb : BdF h) (hname : ∀ s : List UInt8, s.length ≤ 400000 → kap ref09_name [.str (str s)] = some (.bool (nameOk s))) (K : Nat) : ref09_fields_J6 kap (K + 1) (K + 1) (devs h) h.kind (str h.name) (str h.link) h.mode h.uid h.gid h.size h.sec h.nano (str h.user) (str h.group) h.major h.minor (prs h.extra) false false false false false false false false false false false false false false false (f1 h) (f2 h) (f3 h) (f4 h) (f5 h) (f6 h) (f7 h) (f8 h) (f9 h) false false false false = ref09_fields_J7 kap (K + 1) (K + 1) (devs h) h.kind (str h.name) (str h.link) h.mode h.uid h.gid h.size h.sec h.nano (str h.user) (str h.group) h.major h.minor (prs h.extra) false false false false false false false false false false false false false false false (f1 h) (f2 h) (f3 h) (f4 h) (f5 h) (f6 h) (f7 h) (f8 h) (f9 h) (f10 h) false false false := by
  rw [ref09_fields_J6_s]
  rw [str_dec]
  cases hu : decide (h.group = [])
  · have e : f10 h = nameOk h.group := by unfold f10; rw [← plain_name, hu, cond_false]
    rw [cond_false, hname h.group hb.2.2.2.1, callB_ok, e]
  · have e : f10 h = true := by unfold f10; rw [← plain_name, hu, cond_true]
    rw [cond_true, e]
theorem fld7 (kap : FuncId → List AV → Option AV) (h : Head) (hb : BdF h) (K : Nat) : ref09_fields_J7 kap (K + 1) (K + 1) (devs h) h.kind (str h.name) (str h.link) h.mode h.uid h.gid h.size h.sec h.nano (str h.user) (str h.group) h.major h.minor (prs h.extra) false false false false false false false false false false false false false false false (f1 h) (f2 h) (f3 h) (f4 h) (f5 h) (f6 h) (f7 h) (f8 h) (f9 h) (f10 h) false false false = ref09_fields_J8 kap (K + 1) (K + 1) (devs h) h.kind (str h.name) (str h.link) h.mode h.uid h.gid h.size h.sec h.nano (str h.user) (str h.group) h.major h.minor (prs h.extra) false false false false false false false false false false false false false false false (f1 h) (f2 h) (f3 h) (f4 h) (f5 h) (f6 h) (f7 h) (f8 h) (f9 h) (f10 h) (f11 h) false false := by
  rw [ref09_fields_J7_s]
  cases hz : decide (h.major = 0)
  · rw [cond_false]
    cases hp : decide (h.major > 0)
    · have e : f11 h = false := by unfold f11 devOk; rw [hz, hp]; rfl
      rw [cond_false, e]
    · have e : f11 h = devs h := by unfold f11 devOk; rw [hz, hp, Bool.false_or, Bool.true_and]
      rw [cond_true, e]
  · have e : f11 h = true := by unfold f11 devOk; rw [hz, Bool.true_or]
    rw [cond_true, e]
theorem fld8 (kap : FuncId → List AV → Option AV) (h : Head) (hb : BdF h) (K : Nat) : ref09_fields_J8 kap (K + 1) (K + 1) (devs h) h.kind (str h.name) (str h.link) h.mode h.uid h.gid h.size h.sec h.nano (str h.user) (str h.group) h.major h.minor (prs h.extra) false false false false false false false false false false false false false false false (f1 h) (f2 h) (f3 h) (f4 h) (f5 h) (f6 h) (f7 h) (f8 h) (f9 h) (f10 h) (f11 h) false false = ref09_fields_J9 kap (K + 1) (K + 1)  h.kind (str h.name) (str h.link) h.mode h.uid h.gid h.size h.sec h.nano (str h.user) (str h.group) h.major h.minor (prs h.extra) false false false false false false false false false false false false false false false (f1 h) (f2 h) (f3 h) (f4 h) (f5 h) (f6 h) (f7 h) (f8 h) (f9 h) (f10 h) (f11 h) (f12 h) false := by
  rw [ref09_fields_J8_s]
  cases hz : decide (h.minor = 0)
  · rw [cond_false]
    cases hp : decide (h.minor > 0)
    · have e : f12 h = false := by unfold f12 devOk; rw [hz, hp]; rfl
      rw [cond_false, e]
    · have e : f12 h = devs h := by unfold f12 devOk; rw [hz, hp, Bool.false_or, Bool.true_and]
      rw [cond_true, e]
  · have e : f12 h = true := by unfold f12 devOk; rw [hz, Bool.true_or]
    rw [cond_true, e]
end Go.Proofs.YtogfcfgfkggmlaaGreatDoor.Eng.U


/- Which field of a head is the first that isn't right: the reference's side. -/
set_option linter.unusedVariables false
set_option linter.unusedSectionVars false
set_option linter.unusedSimpArgs false
namespace Go.Proofs.YtogfcfgfkggmlaaGreatDoor.Eng.U
open Go Go.Proofs Go.Proofs.YtogfcfgfkggmlaaGreatDoor.Eng Go.Proofs.YtogfcfgfkggmlaaGreatDoor.P04
variable {E : Ext} [Core E] [HasNum E] {k n k0 : Nat}

set_option maxRecDepth 100000 in
theorem wrong_loop (kap : FuncId → List AV → Option AV) (b0 b1 b2 b3 b4 b5 b6 b7 b8 b9 b10 b11 b12 b13 : Bool) : ref09_Wrong_L0 kap k (k0 + 14) (1 : Int) b0 b1 b2 b3 b4 b5 b6 b7 b8 b9 b10 b11 b12 b13 = some (.int .i64 (bif !b1 then 1 else bif !b2 then 2 else bif !b3 then 3 else bif !b4 then 4 else bif !b5 then 5 else bif !b6 then 6 else bif !b7 then 7 else bif !b8 then 8 else bif !b9 then 9 else bif !b10 then 10 else bif !b11 then 11 else bif !b12 then 12 else bif !b13 then 13 else 0)) := by
  have t1 : ∀ m, ref09_Wrong_L0 kap k (m + 1) (1 : Int) b0 b1 b2 b3 b4 b5 b6 b7 b8 b9 b10 b11 b12 b13 = bif !b1 then some (.int .i64 1) else ref09_Wrong_L0 kap k m (2 : Int) b0 b1 b2 b3 b4 b5 b6 b7 b8 b9 b10 b11 b12 b13 := fun m => (ref09_Wrong_L0_s ..).trans rfl
  have t2 : ∀ m, ref09_Wrong_L0 kap k (m + 1) (2 : Int) b0 b1 b2 b3 b4 b5 b6 b7 b8 b9 b10 b11 b12 b13 = bif !b2 then some (.int .i64 2) else ref09_Wrong_L0 kap k m (3 : Int) b0 b1 b2 b3 b4 b5 b6 b7 b8 b9 b10 b11 b12 b13 := fun m => (ref09_Wrong_L0_s ..).trans rfl
  have t3 : ∀ m, ref09_Wrong_L0 kap k (m + 1) (3 : Int) b0 b1 b2 b3 b4 b5 b6 b7 b8 b9 b10 b11 b12 b13 = bif !b3 then some (.int .i64 3) else ref09_Wrong_L0 kap k m (4 : Int) b0 b1 b2 b3 b4 b5 b6 b7 b8 b9 b10 b11 b12 b13 := fun m => (ref09_Wrong_L0_s ..).trans rfl
  have t4 : ∀ m, ref09_Wrong_L0 kap k (m + 1) (4 : Int) b0 b1 b2 b3 b4 b5 b6 b7 b8 b9 b10 b11 b12 b13 = bif !b4 then some (.int .i64 4) else ref09_Wrong_L0 kap k m (5 : Int) b0 b1 b2 b3 b4 b5 b6 b7 b8 b9 b10 b11 b12 b13 := fun m => (ref09_Wrong_L0_s ..).trans rfl
  have t5 : ∀ m, ref09_Wrong_L0 kap k (m + 1) (5 : Int) b0 b1 b2 b3 b4 b5 b6 b7 b8 b9 b10 b11 b12 b13 = bif !b5 then some (.int .i64 5) else ref09_Wrong_L0 kap k m (6 : Int) b0 b1 b2 b3 b4 b5 b6 b7 b8 b9 b10 b11 b12 b13 := fun m => (ref09_Wrong_L0_s ..).trans rfl
  have t6 : ∀ m, ref09_Wrong_L0 kap k (m + 1) (6 : Int) b0 b1 b2 b3 b4 b5 b6 b7 b8 b9 b10 b11 b12 b13 = bif !b6 then some (.int .i64 6) else ref09_Wrong_L0 kap k m (7 : Int) b0 b1 b2 b3 b4 b5 b6 b7 b8 b9 b10 b11 b12 b13 := fun m => (ref09_Wrong_L0_s ..).trans rfl
  have t7 : ∀ m, ref09_Wrong_L0 kap k (m + 1) (7 : Int) b0 b1 b2 b3 b4 b5 b6 b7 b8 b9 b10 b11 b12 b13 = bif !b7 then some (.int .i64 7) else ref09_Wrong_L0 kap k m (8 : Int) b0 b1 b2 b3 b4 b5 b6 b7 b8 b9 b10 b11 b12 b13 := fun m => (ref09_Wrong_L0_s ..).trans rfl
  have t8 : ∀ m, ref09_Wrong_L0 kap k (m + 1) (8 : Int) b0 b1 b2 b3 b4 b5 b6 b7 b8 b9 b10 b11 b12 b13 = bif !b8 then some (.int .i64 8) else ref09_Wrong_L0 kap k m (9 : Int) b0 b1 b2 b3 b4 b5 b6 b7 b8 b9 b10 b11 b12 b13 := fun m => (ref09_Wrong_L0_s ..).trans rfl
  have t9 : ∀ m, ref09_Wrong_L0 kap k (m + 1) (9 : Int) b0 b1 b2 b3 b4 b5 b6 b7 b8 b9 b10 b11 b12 b13 = bif !b9 then some (.int .i64 9) else ref09_Wrong_L0 kap k m (10 : Int) b0 b1 b2 b3 b4 b5 b6 b7 b8 b9 b10 b11 b12 b13 := fun m => (ref09_Wrong_L0_s ..).trans rfl
  have t10 : ∀ m, ref09_Wrong_L0 kap k (m + 1) (10 : Int) b0 b1 b2 b3 b4 b5 b6 b7 b8 b9 b10 b11 b12 b13 = bif !b10 then some (.int .i64 10) else ref09_Wrong_L0 kap k m (11 : Int) b0 b1 b2 b3 b4 b5 b6 b7 b8 b9 b10 b11 b12 b13 := fun m => (ref09_Wrong_L0_s ..).trans rfl
  have t11 : ∀ m, ref09_Wrong_L0 kap k (m + 1) (11 : Int) b0 b1 b2 b3 b4 b5 b6 b7 b8 b9 b10 b11 b12 b13 = bif !b11 then some (.int .i64 11) else ref09_Wrong_L0 kap k m (12 : Int) b0 b1 b2 b3 b4 b5 b6 b7 b8 b9 b10 b11 b12 b13 := fun m => (ref09_Wrong_L0_s ..).trans rfl
  have t12 : ∀ m, ref09_Wrong_L0 kap k (m + 1) (12 : Int) b0 b1 b2 b3 b4 b5 b6 b7 b8 b9 b10 b11 b12 b13 = bif !b12 then some (.int .i64 12) else ref09_Wrong_L0 kap k m (13 : Int) b0 b1 b2 b3 b4 b5 b6 b7 b8 b9 b10 b11 b12 b13 := fun m => (ref09_Wrong_L0_s ..).trans rfl
  have t13 : ∀ m, ref09_Wrong_L0 kap k (m + 1) (13 : Int) b0 b1 b2 b3 b4 b5 b6 b7 b8 b9 b10 b11 b12 b13 = bif !b13 then some (.int .i64 13) else ref09_Wrong_L0 kap k m (14 : Int) b0 b1 b2 b3 b4 b5 b6 b7 b8 b9 b10 b11 b12 b13 := fun m => (ref09_Wrong_L0_s ..).trans rfl
  have t14 : ∀ m, ref09_Wrong_L0 kap k (m + 1) (14 : Int) b0 b1 b2 b3 b4 b5 b6 b7 b8 b9 b10 b11 b12 b13 = some (.int .i64 0) := fun m => (ref09_Wrong_L0_s ..).trans rfl
  rw [t1]
  cases b1
  · rfl
  rw [Bool.not_true, cond_false, cond_false]
  rw [t2]
  cases b2
  · rfl
  rw [Bool.not_true, cond_false, cond_false]
  rw [t3]
  cases b3
  · rfl
  rw [Bool.not_true, cond_false, cond_false]
  rw [t4]
  cases b4
  · rfl
  rw [Bool.not_true, cond_false, cond_false]
  rw [t5]
  cases b5
  · rfl
  rw [Bool.not_true, cond_false, cond_false]
  rw [t6]
  cases b6
  · rfl
  rw [Bool.not_true, cond_false, cond_false]
  rw [t7]
  cases b7
  · rfl
  rw [Bool.not_true, cond_false, cond_false]
  rw [t8]
  cases b8
  · rfl
  rw [Bool.not_true, cond_false, cond_false]
  rw [t9]
  cases b9
  · rfl
  rw [Bool.not_true, cond_false, cond_false]
  rw [t10]
  cases b10
  · rfl
  rw [Bool.not_true, cond_false, cond_false]
  rw [t11]
  cases b11
  · rfl
  rw [Bool.not_true, cond_false, cond_false]
  rw [t12]
  cases b12
  · rfl
  rw [Bool.not_true, cond_false, cond_false]
  rw [t13]
  cases b13
  · rfl
  rw [Bool.not_true, cond_false, cond_false]
  rw [t14]
end Go.Proofs.YtogfcfgfkggmlaaGreatDoor.Eng.U


/- Which field of a head is the first that isn't right: the reference's side. -/
set_option linter.unusedVariables false
set_option linter.unusedSectionVars false
set_option linter.unusedSimpArgs false
namespace Go.Proofs.YtogfcfgfkggmlaaGreatDoor.Eng.U
open Go Go.Proofs Go.Proofs.YtogfcfgfkggmlaaGreatDoor.Eng Go.Proofs.YtogfcfgfkggmlaaGreatDoor.P04
variable {E : Ext} [Core E] [HasNum E] {k n k0 : Nat}

theorem fields_k [HasTextV E] (h : Head) (hb : BdF h) (hk : 2000000 < k) : kp E k (n + 7) ref09_fields [.agg (encHead h)] = some (.agg [.bool false, .bool (f1 h), .bool (f2 h), .bool (f3 h), .bool (f4 h), .bool (f5 h), .bool (f6 h), .bool (f7 h), .bool (f8 h), .bool (f9 h), .bool (f10 h), .bool (f11 h), .bool (f12 h), .bool (f13 h)]) := by
  obtain ⟨K, rfl⟩ : ∃ K, k = K + 1 := ⟨k - 1, by omega⟩
  have hname : ∀ s : List UInt8, s.length ≤ 400000 → kp E (K + 1) (n + 6) ref09_name [.str (str s)] = some (.bool (nameOk s)) := fun s hs => refName_k (n := n + 3) s (by omega) (by omega)
  have hslash : kp E (K + 1) (n + 6) ref09_Slash [.str (str h.name)] = some (.bool (sl h.name)) := refSlash_k (n := n + 5) h.name (by have := hb.1; omega)
  have hright : ∀ s t : Int, kp E (K + 1) (n + 6) ref04_Right [.agg [.int .i64 s, .int .i64 t]] = some (.bool (rightT t)) := fun s t => refRight_k (n := n + 5) s t
  have hover : kp E (K + 1) (n + 6) ref08_Right [.list 2 (prs h.extra)] = some (.bool (overOk h.extra)) := refOver_k (n := n + 1) h.extra hb.2.2.2.2.1 hb.2.2.2.2.2 (by omega)
  have hl := known_loop (k := K + 1) (kp E (K + 1) (n + 6)) (fun key => which_k (n := n + 4) key (by omega)) h (f1 h) (f2 h) (f3 h) (f4 h) (f5 h) (f6 h) (f7 h) (f8 h) (f9 h) (f10 h) (f11 h) (f12 h) h.extra [] (K + 1) (overOk h.extra) rfl (by have := hb.2.2.2.2.1; omega) (by have := hb.2.2.2.2.1; omega)
  unfold encHead
  rw [ref09_fields_eq]
  have s : (bif decide (h.kind = 2) then ref09_fields_J0 (kp E (K + 1) (n + 6)) (K + 1) (K + 1) true h.kind (str h.name) (str h.link) h.mode h.uid h.gid h.size h.sec h.nano (str h.user) (str h.group) h.major h.minor (prs h.extra) false false false false false false false false false false false false false false else ref09_fields_J0 (kp E (K + 1) (n + 6)) (K + 1) (K + 1) (decide (h.kind = 3)) h.kind (str h.name) (str h.link) h.mode h.uid h.gid h.size h.sec h.nano (str h.user) (str h.group) h.major h.minor (prs h.extra) false false false false false false false false false false false false false false) = ref09_fields_J0 (kp E (K + 1) (n + 6)) (K + 1) (K + 1) (links h) h.kind (str h.name) (str h.link) h.mode h.uid h.gid h.size h.sec h.nano (str h.user) (str h.group) h.major h.minor (prs h.extra) false false false false false false false false false false false false false false := by
    cases hx : decide (h.kind = 2)
    · have e : links h = decide (h.kind = 3) := by unfold links; rw [hx, Bool.false_or]
      rw [e, cond_false]
    · have e : links h = true := by unfold links; rw [hx, Bool.true_or]
      rw [e, cond_true]
  refine s.trans ?_
  refine (fld0 _ h hb K).trans ?_
  refine (fld1 _ h hb K).trans ?_
  refine (fld2 _ h hb hname hslash K).trans ?_
  refine (fld3 _ h hb hname K).trans ?_
  refine (fld4 _ h hb K).trans ?_
  refine (fld5 _ h hb hname hright K).trans ?_
  refine (fld6 _ h hb hname K).trans ?_
  refine (fld7 _ h hb K).trans ?_
  refine (fld8 _ h hb K).trans ?_
  rw [ref09_fields_J9_s, hover, callB_ok]
  exact hl
theorem callG14 {β : Type} (b0 b1 b2 b3 b4 b5 b6 b7 b8 b9 b10 b11 b12 b13 : Bool) (F : Bool → Bool → Bool → Bool → Bool → Bool → Bool → Bool → Bool → Bool → Bool → Bool → Bool → Bool → Option β) : (callG 14 (some (.agg [.bool b0, .bool b1, .bool b2, .bool b3, .bool b4, .bool b5, .bool b6, .bool b7, .bool b8, .bool b9, .bool b10, .bool b11, .bool b12, .bool b13])) fun vg2 => (cellB vg2 0 fun q0 => (cellB vg2 1 fun q1 => (cellB vg2 2 fun q2 => (cellB vg2 3 fun q3 => (cellB vg2 4 fun q4 => (cellB vg2 5 fun q5 => (cellB vg2 6 fun q6 => (cellB vg2 7 fun q7 => (cellB vg2 8 fun q8 => (cellB vg2 9 fun q9 => (cellB vg2 10 fun q10 => (cellB vg2 11 fun q11 => (cellB vg2 12 fun q12 => (cellB vg2 13 fun q13 => (F q0 q1 q2 q3 q4 q5 q6 q7 q8 q9 q10 q11 q12 q13)))))))))))))))) = F b0 b1 b2 b3 b4 b5 b6 b7 b8 b9 b10 b11 b12 b13 := rfl
theorem refWrong_k [HasTextV E] (h : Head) (hb : BdF h) (hk : 2000000 < k) : kp E k (n + 8) ref09_Wrong [.agg (encHead h)] = some (.int .i64 (wrongH h)) := by
  have hf := fields_k (E := E) (k := k) (n := n) h hb hk
  obtain ⟨K, rfl⟩ : ∃ K, k = K + 14 := ⟨k - 14, by omega⟩
  have hw := wrong_loop (k := K + 14) (k0 := K) (kp E (K + 14) (n + 7)) false (f1 h) (f2 h) (f3 h) (f4 h) (f5 h) (f6 h) (f7 h) (f8 h) (f9 h) (f10 h) (f11 h) (f12 h) (f13 h)
  unfold encHead at hf ⊢
  unfold wrongH
  rw [ref09_Wrong_eq, hf]
  exact (callG14 _ _ _ _ _ _ _ _ _ _ _ _ _ _ fun q0 q1 q2 q3 q4 q5 q6 q7 q8 q9 q10 q11 q12 q13 => ref09_Wrong_L0 (kp E (K + 14) (n + 7)) (K + 14) (K + 14) (1 : Int) q0 q1 q2 q3 q4 q5 q6 q7 q8 q9 q10 q11 q12 q13).trans hw
end Go.Proofs.YtogfcfgfkggmlaaGreatDoor.Eng.U


/- How many bytes pairs have together; a pair that is right. -/
set_option linter.unusedVariables false
set_option linter.unusedSimpArgs false
namespace Go.Proofs.YtogfcfgfkggmlaaGreatDoor.Eng.U
open Go Go.Proofs Go.Proofs.YtogfcfgfkggmlaaGreatDoor.Eng

def sumP : List Pair → Nat
  | [] => 0
  | p :: l => p.key.length + p.val.length + sumP l
theorem sum_mem : ∀ (l : List Pair) (p : Pair), p ∈ l → p.key.length + p.val.length ≤ sumP l
  | q :: l, p, h => by
    simp only [sumP]
    rcases List.mem_cons.1 h with rfl | h
    · omega
    · have := sum_mem l p h; omega
end Go.Proofs.YtogfcfgfkggmlaaGreatDoor.Eng.U


/- What is printed is read, in plain Lean. -/
set_option linter.unusedVariables false
set_option linter.unusedSimpArgs false
namespace Go.Proofs.YtogfcfgfkggmlaaGreatDoor.P04
open Go

theorem ofNat_dig {d : Nat} (h : d < 10) : (UInt8.ofNat (48 + d)).toNat = 48 + d := by rw [UInt8.toNat_ofNat']; omega
theorem isDig_of {d : Nat} (h : d < 10) : isDig (UInt8.ofNat (48 + d)) = true := by rw [dig_iff, ofNat_dig h]; omega
theorem dec_facts (u : Nat) : (Lib.decDigits u).all isDig = true ∧ valA 0 (Lib.decDigits u) = u ∧ Lib.decDigits u ≠ [] ∧ ((Lib.decDigits u).headD 0 = 48 → u = 0) := by
  induction u using Nat.strongRecOn with
  | ind u ih =>
    by_cases h : u < 10
    · rw [Lib.decDigits_one h]
      refine ⟨by rw [List.all_cons, isDig_of h]; rfl, ?_, by simp, fun e => ?_⟩
      · show 0 * 10 + ((UInt8.ofNat (48 + u)).toNat - 48) = u
        rw [ofNat_dig h]; omega
      · have : (UInt8.ofNat (48 + u)).toNat = 48 := congrArg UInt8.toNat e
        rw [ofNat_dig h] at this; omega
    · obtain ⟨h1, h2, h3, h4⟩ := ih (u / 10) (by omega)
      rw [decDigits_rec h]
      refine ⟨by rw [List.all_append, h1, List.all_cons, isDig_of (by omega)]; rfl, ?_, by simp, fun e => ?_⟩
      · rw [valA_app, h2]
        show u / 10 * 10 + ((UInt8.ofNat (48 + u % 10)).toNat - 48) = u
        rw [ofNat_dig (by omega)]; omega
      · cases hl : Lib.decDigits (u / 10) with
        | nil => exact absurd hl h3
        | cons c l =>
          rw [hl] at e h4
          have := h4 e
          omega
theorem dec_digs (u : Nat) : digs (Lib.decDigits u) = true := by
  obtain ⟨h1, _, h3, _⟩ := dec_facts u
  unfold digs
  rw [h1, Bool.true_and, Bool.not_eq_true', List.isEmpty_eq_false_iff]
  exact h3
theorem dec_natOk (u : Nat) (h : u ≤ 9223372036854775808) : natOk (Lib.decDigits u) = true := by
  obtain ⟨h1, h2, h3, h4⟩ := dec_facts u
  unfold natOk
  rw [dec_digs, h2, decide_eq_true h, Bool.and_true, Bool.true_and, Bool.not_eq_true']
  unfold lead
  by_cases e : (Lib.decDigits u).headD 0 = 48
  · have := h4 e
    subst this
    rw [Lib.decDigits_one (by omega)]
    rfl
  · rw [decide_eq_false e]; rfl
theorem valA_acc : ∀ (l : List UInt8) (a : Nat), valA a l = a * 10 ^ l.length + valA 0 l
  | [], a => by show a = a * 1 + 0; omega
  | c :: l, a => by
    rw [valA_cons, valA_cons, valA_acc l (a * 10 + (c.toNat - 48)), valA_acc l (0 * 10 + (c.toNat - 48)), List.length_cons, Nat.pow_succ]
    rw [Nat.zero_mul, Nat.zero_add, Nat.add_mul, Nat.mul_assoc, Nat.mul_comm 10, Nat.add_assoc]
theorem frac_length : ∀ k n, (frac k n).length = k
  | 0, _ => rfl
  | k + 1, n => by unfold frac; rw [List.length_cons, frac_length k]
theorem frac_val (m : Nat) (h : m < 1000000000) : valA 0 (frac 9 m) = m ∧ (frac 9 m).all isDig = true := by
  have hd := digits_frac m h
  obtain ⟨h1, h2, _, _⟩ := dec_facts (1000000000 + m)
  rw [hd] at h1 h2
  rw [List.all_cons, Bool.and_eq_true] at h1
  refine ⟨?_, h1.2⟩
  rw [valA_cons, valA_acc, frac_length] at h2
  have e : 0 * 10 + (UInt8.toNat 49 - 48) = 1 := rfl
  rw [e] at h2
  omega
theorem dropW_rep (c : UInt8) : ∀ l : List UInt8, l = List.replicate (l.length - (l.dropWhile (· == c)).length) c ++ l.dropWhile (· == c)
  | [] => rfl
  | x :: l => by
    rw [List.dropWhile_cons]
    by_cases h : x = c
    · subst h
      have ih := dropW_rep x l
      have hle : (l.dropWhile (· == x)).length ≤ l.length := (List.dropWhile_sublist _).length_le
      rw [if_pos (beq_self_eq_true x), List.length_cons, show l.length + 1 - (l.dropWhile (· == x)).length = (l.length - (l.dropWhile (· == x)).length) + 1 from by omega, List.replicate_succ, List.cons_append, ← ih]
    · rw [if_neg (by simpa using h), Nat.sub_self]
      rfl
theorem trim_rep (l : List UInt8) (c : UInt8) : l = Lib.trimRightB l c ++ List.replicate (l.length - (Lib.trimRightB l c).length) c := by
  have h := dropW_rep c l.reverse
  have h2 := congrArg List.reverse h
  rw [List.reverse_reverse, List.reverse_append, List.reverse_replicate, List.length_reverse] at h2
  unfold Lib.trimRightB
  rw [List.length_reverse]
  exact h2
theorem loopP_length : ∀ k n, (loopP k n).length ≤ k
  | 0, _ => Nat.le_refl _
  | k + 1, n => by
    unfold loopP
    split
    · simp
    · rw [List.length_cons]
      have := loopP_length k (n % 100000000 * 10)
      omega
theorem loop_facts (m : Nat) (h0 : 0 < m) (h : m < 1000000000) : digs (loopP 9 m) = true ∧ (loopP 9 m).length ≤ 9 ∧ valA 0 (loopP 9 m ++ List.replicate (9 - (loopP 9 m).length) 48) = m := by
  obtain ⟨h1, h2⟩ := frac_val m h
  have ht := trim_frac 9 m h (by simp [Nat.mod_one]) (by omega)
  have hr := trim_rep (frac 9 m) 48
  rw [ht, frac_length] at hr
  refine ⟨?_, loopP_length 9 m, by rw [← hr, h1]⟩
  unfold digs
  rw [hr, List.all_append, Bool.and_eq_true] at h2
  rw [h2.1, Bool.true_and, Bool.not_eq_true', List.isEmpty_eq_false_iff]
  unfold loopP
  rw [if_neg (by omega)]
  simp
/-- No point among digits. -/
theorem dot_digs : ∀ (a : List UInt8), a.all isDig = true → dot a = a.length
  | [], _ => rfl
  | c :: a, h => by
    rw [List.all_cons, Bool.and_eq_true] at h
    have hc := dig_iff.1 h.1
    have ih := dot_digs a h.2
    unfold dot at ih ⊢
    rw [List.findIdx_cons, beq_eq_false_iff_ne.2 (by rintro rfl; exact absurd hc.1 (by decide)), cond_false, ih, List.length_cons]
theorem dot_point : ∀ (a b : List UInt8), a.all isDig = true → dot (a ++ 46 :: b) = a.length
  | [], b, _ => rfl
  | c :: a, b, h => by
    rw [List.all_cons, Bool.and_eq_true] at h
    have hc := dig_iff.1 h.1
    have ih := dot_point a b h.2
    unfold dot at ih ⊢
    rw [List.cons_append, List.findIdx_cons, beq_eq_false_iff_ne.2 (by rintro rfl; exact absurd hc.1 (by decide)), cond_false, ih, List.length_cons]
theorem timeB_whole (q : Bool) (u : Nat) (hu : u ≤ 9223372036854775808) : timeB q (Lib.decDigits u) = if q = false then (if 9223372036854775807 < u then none else some ((u : Int), 0)) else some (-(u : Int), 0) := by
  obtain ⟨h1, h2, h3, h4⟩ := dec_facts u
  unfold timeB
  dsimp only
  rw [dot_digs _ h1, List.take_length, dec_natOk u hu, h2, if_neg (by simp), if_neg (fun h => by omega), if_neg (Nat.lt_irrefl _)]
  rfl
theorem timeB_parts (q : Bool) (u m : Nat) (hu : u ≤ 9223372036854775807) (hm0 : 0 < m) (hm : m < 1000000000) : timeB q (Lib.decDigits u ++ [46] ++ loopP 9 m) = if q = false then some ((u : Int), (m : Int)) else some (-(u : Int) - 1, 1000000000 - (m : Int)) := by
  obtain ⟨h1, h2, h3, h4⟩ := dec_facts u
  obtain ⟨g1, g2, g3⟩ := loop_facts m hm0 hm
  have hd := dot_point (Lib.decDigits u) (loopP 9 m) h1
  unfold timeB
  dsimp only
  rw [List.append_assoc, List.singleton_append, hd]
  have e1 : (Lib.decDigits u ++ 46 :: loopP 9 m).take (Lib.decDigits u).length = Lib.decDigits u := by simp
  have e2 : (Lib.decDigits u ++ 46 :: loopP 9 m).drop ((Lib.decDigits u).length + 1) = loopP 9 m := by
    rw [List.drop_append]
    simp
  rw [e1, e2, dec_natOk u (by omega), h2, if_neg (by simp), if_neg (fun h => h.2 ⟨g1, g2⟩), if_pos (show (Lib.decDigits u).length < (Lib.decDigits u ++ 46 :: loopP 9 m).length by simp), g3, if_neg (show ¬ m = 0 by omega), if_neg (show ¬ 9223372036854775807 < u by omega), if_neg (show ¬ 9223372036854775807 < u by omega)]
theorem dec_head (u : Nat) (l : List UInt8) : (Lib.decDigits u ++ l).head? ≠ some 45 := by
  obtain ⟨h1, _, h3, _⟩ := dec_facts u
  cases hl : Lib.decDigits u with
  | nil => exact absurd hl h3
  | cons c r =>
    rw [hl, List.all_cons, Bool.and_eq_true] at h1
    have hc := dig_iff.1 h1.1
    intro e
    rw [List.cons_append, List.head?_cons, Option.some.injEq] at e
    subst e
    exact absurd hc.1 (by decide)
theorem time_print (s t : Int) (hs : -9223372036854775808 ≤ s ∧ s ≤ 9223372036854775807) (ht : 0 ≤ t ∧ t < 1000000000) : timeL (printL s t) = some (s, t) := by
  unfold printL timeL
  by_cases h0 : t = 0
  · subst h0
    rw [if_pos rfl]
    unfold Lib.itoa
    by_cases h : s < 0
    · have hh : (45 :: Lib.decDigits s.natAbs).head? = some 45 := rfl
      rw [if_pos h, if_pos hh, decide_eq_true hh, List.drop_one, List.tail_cons, timeB_whole true _ (by omega), if_neg (by simp), show -((s.natAbs : Nat) : Int) = s from by omega]
    · have hh := dec_head s.toNat []
      rw [List.append_nil] at hh
      rw [if_neg h, if_neg hh, decide_eq_false hh, timeB_whole false _ (by omega), if_pos rfl, if_neg (by omega), show ((s.toNat : Nat) : Int) = s from by omega]
  · rw [if_neg h0]
    by_cases h : s < 0
    · have hh : (45 :: (Lib.decDigits (-(s + 1)).toNat ++ [46] ++ loopP 9 (1000000000 - t).toNat)).head? = some 45 := rfl
      rw [if_pos h, List.cons_append, List.cons_append, if_pos hh, decide_eq_true hh, List.drop_one, List.tail_cons, timeB_parts true _ _ (by omega) (by omega) (by omega), if_neg (by simp)]
      rw [show -(((-(s + 1)).toNat : Nat) : Int) - 1 = s from by omega, show (1000000000 : Int) - (((1000000000 - t).toNat : Nat) : Int) = t from by omega]
    · have hh := dec_head s.toNat ([46] ++ loopP 9 t.toNat)
      rw [← List.append_assoc] at hh
      rw [if_neg h, if_neg hh, decide_eq_false hh, timeB_parts false _ _ (by omega) (by omega) (by omega), if_pos rfl, show ((s.toNat : Nat) : Int) = s from by omega, show ((t.toNat : Nat) : Int) = t from by omega]
/-! No fewer bytes. -/
theorem nDigits_le : ∀ (k u : Nat), u < 10 ^ (k + 1) → Lib.nDigits u ≤ k + 1
  | 0, u, h => by rw [Lib.nDigits_small (by omega)]; omega
  | k + 1, u, h => by
    by_cases h1 : u < 10
    · rw [Lib.nDigits_small h1]; omega
    · rw [Lib.nDigits_big h1]
      have := nDigits_le k (u / 10) (by rw [Nat.pow_succ] at h; omega)
      omega
theorem dec_short {a : List UInt8} (h : digs a = true) : (Lib.decDigits (valA 0 a)).length ≤ a.length := by
  unfold digs at h
  rw [Bool.and_eq_true, Bool.not_eq_true', List.isEmpty_eq_false_iff] at h
  have hl := List.length_pos_iff.2 h.2
  have := valA_lt a 0 0 h.1 (by omega)
  rw [Lib.decDigits_length]
  obtain ⟨k, hk⟩ : ∃ k, a.length = k + 1 := ⟨a.length - 1, by omega⟩
  rw [Nat.zero_add] at this
  rw [hk] at this ⊢
  exact nDigits_le k _ this
theorem loop_short : ∀ (j k n : Nat), n < 1000000000 → n % 10 ^ (9 - k) = 0 → k ≤ 9 → (loopP j n).length ≤ k
  | 0, k, n, _, _, _ => Nat.zero_le _
  | j + 1, k, n, hn, hm, hk => by
    unfold loopP
    by_cases h : n = 0
    · rw [if_pos h]; simp
    · rw [if_neg h, List.length_cons]
      cases k with
      | zero =>
        simp at hm
        omega
      | succ k =>
        have hm' : (n % 100000000 * 10) % 10 ^ (9 - k) = 0 := by
          have e : 10 ^ (9 - k) = 10 ^ (9 - (k + 1)) * 10 := by rw [← Nat.pow_succ]; congr 1; omega
          rw [e, Nat.mul_mod_mul_right]
          have hd : (10 : Nat) ^ (9 - (k + 1)) ∣ 100000000 := by
            have : (100000000 : Nat) = 10 ^ 8 := rfl
            rw [this]
            exact Nat.pow_dvd_pow 10 (by omega)
          rw [Nat.mod_mod_of_dvd _ hd, hm]
        have := loop_short j k (n % 100000000 * 10) (by omega) hm' (by omega)
        omega
theorem zeros_val : ∀ c, valA 0 (List.replicate c (48 : UInt8)) = 0
  | 0 => rfl
  | c + 1 => by rw [List.replicate_succ, valA_cons]; exact zeros_val c
theorem frac_short {b : List UInt8} (hb : digs b = true) (h9 : b.length ≤ 9) : (loopP 9 (valA 0 (b ++ List.replicate (9 - b.length) 48))).length ≤ b.length := by
  unfold digs at hb
  rw [Bool.and_eq_true] at hb
  have e : valA 0 (b ++ List.replicate (9 - b.length) 48) = valA 0 b * 10 ^ (9 - b.length) := by
    rw [valA_app, valA_acc, List.length_replicate, zeros_val, Nat.add_zero]
  have hlt := valA_lt b 0 0 hb.1 (by omega)
  rw [Nat.zero_add] at hlt
  refine loop_short 9 b.length _ ?_ (by rw [e]; exact Nat.mul_mod_left _ _) h9
  rw [e]
  have : 10 ^ b.length * 10 ^ (9 - b.length) = 1000000000 := by rw [← Nat.pow_add, show b.length + (9 - b.length) = 9 from by omega]
  rw [← this]
  exact Nat.mul_lt_mul_of_pos_right hlt (Nat.pow_pos (by omega))
theorem printL_parts (s t : Int) : (printL s t).length = (if t = 0 then (Lib.itoa s).length else if s < 0 then 1 + (Lib.decDigits (-(s + 1)).toNat).length + 1 + (loopP 9 (1000000000 - t).toNat).length else (Lib.decDigits s.toNat).length + 1 + (loopP 9 t.toNat).length) := by
  unfold printL
  split
  · rfl
  · split
    · simp; omega
    · simp; omega
theorem timeB_facts {q : Bool} {t : List UInt8} {p r : Int} (h : timeB q t = some (p, r)) : ∃ v w : Nat, v ≤ 9223372036854775808 ∧ (Lib.decDigits v).length + (if w = 0 then 0 else 1 + (loopP 9 w).length) ≤ t.length ∧ w < 1000000000 ∧ (q = false → p = (v : Int) ∧ r = (w : Int) ∧ v ≤ 9223372036854775807) ∧ (q = true → (w = 0 → p = -(v : Int) ∧ r = 0) ∧ (w ≠ 0 → p = -(v : Int) - 1 ∧ r = 1000000000 - (w : Int) ∧ v ≤ 9223372036854775807)) := by
  unfold timeB at h
  dsimp only at h
  have hdl : dot t ≤ t.length := List.findIdx_le_length
  split at h
  · cases h
  · rename_i ho
    have ho : natOk (t.take (dot t)) = true := by simpa using ho
    unfold natOk at ho
    rw [Bool.and_eq_true, Bool.and_eq_true, decide_eq_true_eq] at ho
    have ha := dec_short ho.1.1
    rw [List.length_take] at ha
    have hv := ho.2
    split at h
    · cases h
    · rename_i hpd
      refine ⟨valA 0 (t.take (dot t)), if dot t < t.length then valA 0 (t.drop (dot t + 1) ++ List.replicate (9 - (t.drop (dot t + 1)).length) 48) else 0, hv, ?_, ?_, ?_⟩
      · by_cases hp : dot t < t.length
        · have hb : digs (t.drop (dot t + 1)) = true ∧ (t.drop (dot t + 1)).length ≤ 9 := Classical.byContradiction fun hn => hpd ⟨hp, hn⟩
          have := frac_short hb.1 hb.2
          rw [if_pos hp]
          have hl : (t.drop (dot t + 1)).length = t.length - (dot t + 1) := List.length_drop
          rw [hl] at this ⊢
          split <;> omega
        · rw [if_neg hp, if_pos rfl]
          omega
      · by_cases hp : dot t < t.length
        · have hb : digs (t.drop (dot t + 1)) = true ∧ (t.drop (dot t + 1)).length ≤ 9 := Classical.byContradiction fun hn => hpd ⟨hp, hn⟩
          rw [if_pos hp]
          have hball : (t.drop (dot t + 1)).all isDig = true := by
            have := hb.1
            unfold digs at this
            rw [Bool.and_eq_true] at this
            exact this.1
          have hz : (List.replicate (9 - (t.drop (dot t + 1)).length) (48 : UInt8)).all isDig = true := by
            rw [List.all_eq_true]
            intro x hx
            rw [List.eq_of_mem_replicate hx]
            rfl
          have := valA_lt (t.drop (dot t + 1) ++ List.replicate (9 - (t.drop (dot t + 1)).length) 48) 0 0 (by rw [List.all_append, hball, hz]; rfl) (by omega)
          rw [List.length_append, List.length_replicate, Nat.zero_add, show (t.drop (dot t + 1)).length + (9 - (t.drop (dot t + 1)).length) = 9 from by omega] at this
          exact this
        · rw [if_neg hp]; omega
      · generalize (if dot t < t.length then valA 0 (t.drop (dot t + 1) ++ List.replicate (9 - (t.drop (dot t + 1)).length) 48) else 0) = w at h
        generalize valA 0 (t.take (dot t)) = v at h
        cases q with
        | false =>
          rw [if_pos rfl] at h
          refine ⟨fun _ => ?_, fun e => by cases e⟩
          split at h
          · cases h
          · cases h; exact ⟨rfl, rfl, by omega⟩
        | true =>
          rw [if_neg (by simp)] at h
          refine ⟨fun e => (by cases e), fun _ => ⟨fun hw => ?_, fun hw => ?_⟩⟩
          · rw [if_pos hw] at h
            have h := Option.some.inj h
            exact ⟨(congrArg Prod.fst h).symm, (congrArg Prod.snd h).symm⟩
          · rw [if_neg hw] at h
            split at h
            · cases h
            · have h := Option.some.inj h
              exact ⟨(congrArg Prod.fst h).symm, (congrArg Prod.snd h).symm, by omega⟩
theorem print_time {s : List UInt8} {p r : Int} (h : timeL s = some (p, r)) : (-9223372036854775808 ≤ p ∧ p ≤ 9223372036854775807) ∧ (0 ≤ r ∧ r < 1000000000) ∧ (printL p r).length ≤ s.length := by
  unfold timeL at h
  obtain ⟨v, w, hv, hl, hw, hf, ht⟩ := timeB_facts h
  rw [printL_parts]
  by_cases hs : s.head? = some 45
  · rw [decide_eq_true hs] at ht
    rw [if_pos hs] at hl
    obtain ⟨h1, h2⟩ := ht rfl
    have hlen : (s.drop 1).length + 1 ≤ s.length := by
      cases s with
      | nil => cases hs
      | cons c s => simp
    by_cases hw0 : w = 0
    · obtain ⟨rfl, rfl⟩ := h1 hw0
      rw [if_pos hw0] at hl
      refine ⟨by omega, by omega, ?_⟩
      rw [if_pos rfl]
      unfold Lib.itoa
      split
      · rw [List.length_cons, show (-(v : Int)).natAbs = v from by omega]; omega
      · rw [show (-(v : Int)).toNat = 0 from by omega, Lib.decDigits_one (by omega)]
        simp
        omega
    · obtain ⟨rfl, rfl, hv'⟩ := h2 hw0
      rw [if_neg hw0] at hl
      refine ⟨by omega, by omega, ?_⟩
      rw [if_neg (by omega), if_pos (by omega), show (-(-(v : Int) - 1 + 1)).toNat = v from by omega, show (1000000000 - (1000000000 - (w : Int))).toNat = w from by omega]
      omega
  · rw [decide_eq_false hs] at hf
    rw [if_neg hs] at hl
    obtain ⟨rfl, rfl, hv'⟩ := hf rfl
    refine ⟨by omega, by omega, ?_⟩
    by_cases hw0 : w = 0
    · subst hw0
      rw [if_pos rfl] at hl
      rw [if_pos (by omega)]
      unfold Lib.itoa
      rw [if_neg (by omega), Int.toNat_natCast]
      omega
    · rw [if_neg hw0] at hl
      rw [if_neg (by omega), if_neg (by omega), Int.toNat_natCast, Int.toNat_natCast]
      omega
end Go.Proofs.YtogfcfgfkggmlaaGreatDoor.P04


/- The Dec laws answer true, part 2: reading, and back again. -/
set_option linter.unusedVariables false
set_option linter.unusedSectionVars false
set_option linter.unusedSimpArgs false
namespace Go.Proofs.YtogfcfgfkggmlaaGreatDoor.Eng.U
open Go Go.Proofs Go.Proofs.YtogfcfgfkggmlaaGreatDoor.Eng Go.Proofs.YtogfcfgfkggmlaaGreatDoor.P04
variable {E : Ext} [Core E] [HasNum E] {k n : Nat}

theorem w0 : IntKind.wrap .i64 0 = 0 := i64w (by omega)
theorem printL_len (s t : Int) (hs : -9223372036854775808 ≤ s ∧ s ≤ 9223372036854775807) (ht : 0 ≤ t ∧ t < 1000000000) : (printL s t).length ≤ 100 := by
  rw [printL_parts]
  have h1 := Lib.itoa_length_le s hs.1 hs.2
  have h2 := loopP_len 9 (1000000000 - t).toNat
  have h3 := loopP_len 9 t.toNat
  split
  · omega
  · split
    · have := dig_len (-(s + 1)).toNat (by omega)
      omega
    · have := dig_len s.toNat (by omega)
      omega
end Go.Proofs.YtogfcfgfkggmlaaGreatDoor.Eng.U


/- A head's line: by the program and by the definition, in plain words. -/
set_option linter.unusedVariables false
set_option linter.unusedSectionVars false
set_option linter.unusedSimpArgs false
namespace Go.Proofs.YtogfcfgfkggmlaaGreatDoor.Eng.U
open Go Go.Proofs Go.Proofs.YtogfcfgfkggmlaaGreatDoor.Eng Go.Proofs.YtogfcfgfkggmlaaGreatDoor.P04
variable {E : Ext} [Core E] [HasNum E] {k n k0 : Nat}

class HasJn (E : Ext) : Prop where
  join : ∀ (k n : Nat) (l : List (List UInt8)) (sep : List UInt8), l.length ≤ 1000000 → (sep.intercalate l).length ≤ 1000000000 → kp E k n strings_Join [.list 1 (svs l), .str (str sep)] = some (.str (str (sep.intercalate l)))
def kindsL : List Tx := [[102, 105, 108, 101], [108, 105, 110, 107], [115, 121, 109], [99, 104, 97, 114], [98, 108, 111, 99, 107], [100, 105, 114], [102, 105, 102, 111]]
def kindT (v : Int) : Tx := kindsL.getD (v - 1).toNat []
def wordT (s : Tx) : Tx := 61 :: quoteL s
def pairW (l : List Pair) : List Tx := l.flatMap fun p => [wordT p.key, wordT p.val]
def headW (h : Head) : List Tx := [kindT h.kind, Lib.itoa h.mode, Lib.itoa h.uid, Lib.itoa h.gid, Lib.itoa h.size, printL h.sec h.nano, wordT h.user, wordT h.group, Lib.itoa h.major, Lib.itoa h.minor, wordT h.name, wordT h.link]
def wordsH (h : Head) : List Tx := headW h ++ pairW h.extra
def lineL (h : Head) : Tx := ([32] : Tx).intercalate (wordsH h)
theorem pairW_cons (p : Pair) (l : List Pair) : pairW (p :: l) = [wordT p.key, wordT p.val] ++ pairW l := rfl
theorem pairW_snoc (l : List Pair) (p : Pair) : pairW (l ++ [p]) = pairW l ++ [wordT p.key, wordT p.val] := by unfold pairW; rw [List.flatMap_append]; simp
theorem pairW_len (l : List Pair) : (pairW l).length = 2 * l.length := by
  induction l with
  | nil => rfl
  | cons p l ih => rw [pairW_cons, List.length_append, ih]; simp only [List.length_cons, List.length_nil]; omega
theorem inter_cons (w : Tx) (l : List Tx) : ([32] : Tx).intercalate (w :: l) = w ++ l.flatMap fun x => 32 :: x := by
  induction l generalizing w with
  | nil => simp [List.intercalate]
  | cons y l ih =>
    have h : ([32] : Tx).intercalate (w :: y :: l) = w ++ ([32] ++ ([32] : Tx).intercalate (y :: l)) := by simp [List.intercalate, List.intersperse]
    rw [h, ih y]; simp
theorem word_len (s : Tx) : (wordT s).length ≤ 4 * s.length + 1 := by have := quote_len s; unfold wordT; rw [List.length_cons]; omega
theorem pairF_len : ∀ l : List Pair, ((pairW l).flatMap fun x => 32 :: x).length ≤ 4 * sumP l + 4 * l.length
  | [] => Nat.zero_le _
  | p :: l => by
    have ih := pairF_len l
    have h1 := word_len p.key
    have h2 := word_len p.val
    rw [pairW_cons, List.flatMap_append, List.length_append]
    simp only [List.flatMap_cons, List.flatMap_nil, List.length_append, List.length_cons, List.length_nil, sumP] at ih ⊢
    omega
theorem itoa_le (v : Int) (h0 : -9223372036854775808 ≤ v) (h1 : v ≤ 9223372036854775807) : (Lib.itoa v).length ≤ 22 := by
  by_cases hv : 0 ≤ v
  · obtain ⟨u, rfl⟩ := Int.eq_ofNat_of_zero_le hv
    rw [Lib.itoa_nonneg]
    have := dig_len u (by omega)
    omega
  · obtain ⟨u, rfl⟩ : ∃ u : Nat, v = -(u : Int) := ⟨v.natAbs, by omega⟩
    have := dig_len u (by omega)
    rw [Lib.itoa_neg u (by omega), List.length_cons]
    omega
structure Bd20 (h : Head) : Prop where
  f : BdF h
  mode : -9223372036854775808 ≤ h.mode ∧ h.mode ≤ 9223372036854775807
  uid : -9223372036854775808 ≤ h.uid ∧ h.uid ≤ 9223372036854775807
  gid : -9223372036854775808 ≤ h.gid ∧ h.gid ≤ 9223372036854775807
  size : -9223372036854775808 ≤ h.size ∧ h.size ≤ 9223372036854775807
  sec : -9223372036854775808 ≤ h.sec ∧ h.sec ≤ 9223372036854775807
  major : -9223372036854775808 ≤ h.major ∧ h.major ≤ 9223372036854775807
  minor : -9223372036854775808 ≤ h.minor ∧ h.minor ≤ 9223372036854775807
  few : h.extra.length ≤ 2000
  sum : sumP h.extra ≤ 400000
theorem kind_some {h : Head} (hw : wrongH h = 0) : 1 ≤ h.kind ∧ h.kind ≤ 7 ∧ rightT h.nano = true := by
  unfold wrongH at hw
  have a1 : f1 h = true := by
    cases hf : f1 h with
    | true => rfl
    | false => rw [hf] at hw; simp at hw
  have a8 : f8 h = true := by
    cases hf : f8 h with
    | true => rfl
    | false =>
      rw [hf] at hw
      revert hw
      cases f1 h <;> cases f2 h <;> cases f3 h <;> cases f4 h <;> cases f5 h <;> cases f6 h <;> cases f7 h <;> simp
  unfold f1 at a1
  rw [Bool.and_eq_true, decide_eq_true_eq, decide_eq_true_eq] at a1
  exact ⟨a1.1, a1.2, a8⟩
theorem kindT_len (v : Int) : (kindT v).length ≤ 5 := by
  unfold kindT kindsL
  generalize (v - 1).toNat = i
  rcases i with _ | _ | _ | _ | _ | _ | _ | i <;> simp
theorem line_len {h : Head} (hb : Bd20 h) (hw : wrongH h = 0) : (lineL h).length ≤ 10000000 := by
  obtain ⟨k1, k2, k3⟩ := kind_some hw
  unfold rightT at k3
  rw [Bool.and_eq_true, decide_eq_true_eq, decide_eq_true_eq] at k3
  have l0 := kindT_len h.kind
  have l1 := itoa_le h.mode hb.mode.1 hb.mode.2
  have l2 := itoa_le h.uid hb.uid.1 hb.uid.2
  have l3 := itoa_le h.gid hb.gid.1 hb.gid.2
  have l4 := itoa_le h.size hb.size.1 hb.size.2
  have l5 := printL_len h.sec h.nano hb.sec k3
  have l6 := word_len h.user
  have l7 := word_len h.group
  have l8 := itoa_le h.major hb.major.1 hb.major.2
  have l9 := itoa_le h.minor hb.minor.1 hb.minor.2
  have l10 := word_len h.name
  have l11 := word_len h.link
  have l12 := pairF_len h.extra
  obtain ⟨b1, b2, b3, b4, _⟩ := hb.f
  have b5 := hb.few
  have b6 := hb.sum
  unfold lineL wordsH headW
  rw [List.cons_append, inter_cons]
  simp only [List.cons_append, List.nil_append, List.flatMap_cons, List.length_append, List.length_cons] at l12 ⊢
  omega
theorem line_loop [HasQuote E] [HasJn E] (all : List Pair) (hall : ∀ p ∈ all, p.key.length ≤ 1000000 ∧ p.val.length ≤ 1000000) (hW : List Tx) (hlen : hW.length = 12) (hfew : all.length ≤ 2000) (hj : (([32] : Tx).intercalate (hW ++ pairW all)).length ≤ 1000000000) :
    ∀ (suf pre : List Pair) (k0 : Nat), suf.length < k0 → pre ++ suf = all →
    tale_Line_L0 (kp E k (n + 1)) k k0 (prs all) ((all.length : Nat) : Int) ((pre.length : Nat) : Int) (svs (hW ++ pairW pre)) = some (.tup [.str (str (([32] : Tx).intercalate (hW ++ pairW all))), .int .u8 0])
  | [], pre, k0 + 1, h, he => by
    rw [List.append_nil] at he
    subst he
    rw [tale_Line_L0_s, bif_f (by omega), HasJn.join _ _ _ _ (by rw [List.length_append, pairW_len]; omega) hj, callS_ok]
  | p :: suf, pre, k0 + 1, h, he => by
    have hm := hall p (by rw [← he]; simp)
    have hl : all.length = pre.length + suf.length + 1 := by rw [← he, mid_len]
    have ih := line_loop all hall hW hlen hfew hj suf (pre ++ [p]) k0 (by simpa using h) (by simpa using he)
    rw [pairW_snoc, ← List.append_assoc, List.length_append, List.length_singleton] at ih
    rw [tale_Line_L0_s, bif_t (by omega), prs_len, inb (by omega), cond_true, Int.toNat_natCast]
    conv => lhs; rw [← he]
    rw [prs_mid, cells_pair, p_0, p_1, word_k _ (by omega), callS_ok, word_k _ (by omega), callS_ok, svs_len, List.length_append, pairW_len, room16 (by omega), cond_true, wrap1 (by omega), he]
    rw [← ih]
    congr 1
    unfold svs
    simp [sv, wordT]
theorem bif_t_kind {v : Int} (h1 : 1 ≤ v) (h2 : v ≤ 7) {β : Type} (K : ByteArray → Option β) :
    (bif (decide ((0 : Int) ≤ v)) && (decide (v < (((List.length ([(.str (str [])), (.str (str [102, 105, 108, 101])), (.str (str [108, 105, 110, 107])), (.str (str [115, 121, 109])), (.str (str [99, 104, 97, 114])), (.str (str [98, 108, 111, 99, 107])), (.str (str [100, 105, 114])), (.str (str [102, 105, 102, 111]))] : List AV)) : Nat) : Int))) then ((([(.str (str [])), (.str (str [102, 105, 108, 101])), (.str (str [108, 105, 110, 107])), (.str (str [115, 121, 109])), (.str (str [99, 104, 97, 114])), (.str (str [98, 108, 111, 99, 107])), (.str (str [100, 105, 114])), (.str (str [102, 105, 102, 111]))] : List AV)[(Int.toNat v)]?).bind fun vy11 => cellS (AV.cells vy11) 0 K) else none) = K (str (kindT v)) := by
  have : v = 1 ∨ v = 2 ∨ v = 3 ∨ v = 4 ∨ v = 5 ∨ v = 6 ∨ v = 7 := by omega
  rcases this with rfl | rfl | rfl | rfl | rfl | rfl | rfl <;> rfl
theorem line_k [HasTextV E] [HasQuote E] [HasJn E] (h : Head) (hb : Bd20 h) (hk : 1000000 < k) : kp E k (n + 9) tale_Line [.agg (encHead h)] = some (if wrongH h = 0 then .tup [.str (str (lineL h)), .int .u8 0] else .tup [.str (str []), .int .u8 15]) := by
  have hw := wrong_kv (E := E) (k := k) (n := n) h hb.f hk
  obtain ⟨b1, b2, b3, b4, b5, b6⟩ := hb.f
  unfold encHead at hw ⊢
  rw [tale_Line_eq, hw, callI_ok]
  by_cases h0 : wrongH h = 0
  case neg => rw [if_neg h0, decide_eq_false h0]; rfl
  obtain ⟨k1, k2, k3⟩ := kind_some h0
  rw [if_pos h0, decide_eq_true h0, Bool.not_true, cond_false, print_k _ _ hb.sec.1 hb.sec.2, k3, cond_true, callT_ok, tupS_ok, tupI_ok, atNil_ok, tale_kinds_eq, callL_ok]
  rw [bif_t_kind k1 k2]
  rw [text_k _ hb.mode.1 hb.mode.2, callS_ok, text_k _ hb.uid.1 hb.uid.2, callS_ok, text_k _ hb.gid.1 hb.gid.2, callS_ok, text_k _ hb.size.1 hb.size.2, callS_ok, word_k _ (by omega), callS_ok, word_k _ (by omega), callS_ok, text_k _ hb.major.1 hb.major.2, callS_ok, text_k _ hb.minor.1 hb.minor.2, callS_ok, word_k _ (by omega), callS_ok, word_k _ (by omega), callS_ok, prs_len]
  have hl := line_len hb h0
  have := line_loop (E := E) (k := k) (n := n + 7) h.extra b6 (headW h) rfl hb.few (by unfold lineL wordsH at hl; omega) h.extra [] k (by have := hb.few; omega) rfl
  exact this
end Go.Proofs.YtogfcfgfkggmlaaGreatDoor.Eng.U


/- A head's line by the definition, in plain words. -/
set_option linter.unusedVariables false
set_option linter.unusedSectionVars false
set_option linter.unusedSimpArgs false
namespace Go.Proofs.YtogfcfgfkggmlaaGreatDoor.Eng.U
open Go Go.Proofs Go.Proofs.YtogfcfgfkggmlaaGreatDoor.Eng Go.Proofs.YtogfcfgfkggmlaaGreatDoor.P04
variable {E : Ext} [Core E] [HasNum E] {k n k0 : Nat}

theorem refNum_k (v : Int) (h0 : -9223372036854775808 ≤ v) (h1 : v ≤ 9223372036854775807) : kp E k (n + 21) ref20_num [.int .i64 v] = some (.str (str (Lib.itoa v))) := by
  rw [ref20_num_eq, refText_k v h0 h1, callS_ok]
theorem refLine_loop (kap : FuncId → List AV → Option AV) (all : List Pair) (hq : ∀ l : Tx, l.length ≤ 400000 → kap ref02_Quote [.str (str l)] = some (.str (str (quoteL l)))) (hs : all.length ≤ 2000) (b0 : Int) (b1 b2 : ByteArray) (b3 b4 b5 b6 b7 b8 : Int) (b9 b10 : ByteArray) (b11 b12 : Int) :
    ∀ (suf pre : List Pair) (acc : Tx) (k0 : Nat), suf.length < k0 → pre ++ suf = all → sumP suf ≤ 400000 → acc.length + 4 * sumP suf + 4 * suf.length ≤ 100000000 →
    ref20_Line_L0 kap k k0 (str acc) ((pre.length : Nat) : Int) b0 b1 b2 b3 b4 b5 b6 b7 b8 b9 b10 b11 b12 (prs all) = some (.str (str (acc ++ (pairW suf).flatMap fun x => 32 :: x)))
  | [], pre, acc, k0 + 1, h, he, hb, hc => by
    rw [List.append_nil] at he
    subst he
    rw [ref20_Line_L0_s, prs_len, bif_f (by omega)]
    simp [pairW]
  | p :: suf, pre, acc, k0 + 1, h, he, hb, hc => by
    have hl : all.length = pre.length + suf.length + 1 := by rw [← he, mid_len]
    simp only [sumP, List.length_cons] at hb hc
    have q1 := quote_len p.key
    have q2 := quote_len p.val
    have ih := refLine_loop kap all hq hs b0 b1 b2 b3 b4 b5 b6 b7 b8 b9 b10 b11 b12 suf (pre ++ [p]) ((((acc ++ [32, 61]) ++ quoteL p.key) ++ [32, 61]) ++ quoteL p.val) k0 (by simpa using h) (by simpa using he) (by omega) (by simp only [List.length_append, List.length_cons, List.length_nil]; omega)
    rw [List.length_append, List.length_singleton] at ih
    rw [ref20_Line_L0_s, prs_len, bif_t (by omega), str_size, bif_t (by omega), inb (by omega), cond_true, Int.toNat_natCast]
    have at1 : ∀ F : AV → Option AV, ((prs all)[pre.length]?).bind F = F (elPair p) := fun F => by rw [← he]; exact prs_mid pre suf p F
    rw [at1, cells_pair, p_0, hq _ (by omega), callS_ok, str_app, str_size, str_size, bif_t (by simp only [List.length_append, List.length_cons, List.length_nil]; omega), str_app, str_size, bif_t (by simp only [List.length_append, List.length_cons, List.length_nil]; omega), cond_true, at1, cells_pair, p_1, hq _ (by omega), callS_ok, str_app, str_size, str_size, bif_t (by simp only [List.length_append, List.length_cons, List.length_nil]; omega), str_app, wrap1 (by omega), ih]
    rw [pairW_cons]
    simp [wordT]
theorem refLine_k [HasTextV E] (h : Head) (hb : Bd20 h) (h0 : wrongH h = 0) (hk : 1000000 < k) : kp E k (n + 22) ref20_Line [.agg (encHead h)] = some (.str (str (lineL h))) := by
  obtain ⟨k1, k2, k3⟩ := kind_some h0
  have hl := line_len hb h0
  have k3' := k3
  unfold rightT at k3'
  rw [Bool.and_eq_true, decide_eq_true_eq, decide_eq_true_eq] at k3'
  obtain ⟨b1, b2, b3, b4, b5, b6⟩ := hb.f
  have l0 := kindT_len h.kind
  have l1 := itoa_le h.mode hb.mode.1 hb.mode.2
  have l2 := itoa_le h.uid hb.uid.1 hb.uid.2
  have l3 := itoa_le h.gid hb.gid.1 hb.gid.2
  have l4 := itoa_le h.size hb.size.1 hb.size.2
  have l5 := printL_len h.sec h.nano hb.sec k3'
  have l6 := quote_len h.user
  have l7 := quote_len h.group
  have l8 := itoa_le h.major hb.major.1 hb.major.2
  have l9 := itoa_le h.minor hb.minor.1 hb.minor.2
  have l10 := quote_len h.name
  have l11 := quote_len h.link
  have b7 := hb.few
  have b8 := hb.sum
  have n1 := refNum_k (E := E) (k := k) (n := n) h.mode hb.mode.1 hb.mode.2
  have n2 := refNum_k (E := E) (k := k) (n := n) h.uid hb.uid.1 hb.uid.2
  have n3 := refNum_k (E := E) (k := k) (n := n) h.gid hb.gid.1 hb.gid.2
  have n4 := refNum_k (E := E) (k := k) (n := n) h.size hb.size.1 hb.size.2
  have n5 := refPrint_k (E := E) (k := k) (n := n) h.sec h.nano hb.sec.1 hb.sec.2 k3 (by omega)
  have n6 := refQuote_k (E := E) (k := k) (n := n + 19) h.user (by omega) (by omega)
  have n7 := refQuote_k (E := E) (k := k) (n := n + 19) h.group (by omega) (by omega)
  have n8 := refNum_k (E := E) (k := k) (n := n) h.major hb.major.1 hb.major.2
  have n9 := refNum_k (E := E) (k := k) (n := n) h.minor hb.minor.1 hb.minor.2
  have n10 := refQuote_k (E := E) (k := k) (n := n + 19) h.name (by omega) (by omega)
  have n11 := refQuote_k (E := E) (k := k) (n := n + 19) h.link (by omega) (by omega)
  unfold encHead
  rw [ref20_Line_eq, ref20_Kinds_eq, callL_ok]
  have kd : ∀ K : ByteArray → Option AV, (bif (decide ((0 : Int) ≤ (IntKind.wrap .i64 (h.kind - (1 : Int))))) && (decide ((IntKind.wrap .i64 (h.kind - (1 : Int))) < (((List.length ([(.str (str [102, 105, 108, 101])), (.str (str [108, 105, 110, 107])), (.str (str [115, 121, 109])), (.str (str [99, 104, 97, 114])), (.str (str [98, 108, 111, 99, 107])), (.str (str [100, 105, 114])), (.str (str [102, 105, 102, 111]))] : List AV)) : Nat) : Int))) then ((([(.str (str [102, 105, 108, 101])), (.str (str [108, 105, 110, 107])), (.str (str [115, 121, 109])), (.str (str [99, 104, 97, 114])), (.str (str [98, 108, 111, 99, 107])), (.str (str [100, 105, 114])), (.str (str [102, 105, 102, 111]))] : List AV)[(Int.toNat (IntKind.wrap .i64 (h.kind - (1 : Int))))]?).bind fun vy11 => cellS (AV.cells vy11) 0 K) else none) = K (str (kindT h.kind)) := by
    intro K
    have : h.kind = 1 ∨ h.kind = 2 ∨ h.kind = 3 ∨ h.kind = 4 ∨ h.kind = 5 ∨ h.kind = 6 ∨ h.kind = 7 := by omega
    rcases this with e | e | e | e | e | e | e <;> rw [e] <;> rfl
  rw [kd]
  simp (disch := first | omega | (simp only [List.length_append, List.length_cons, List.length_nil, List.length_take, List.length_drop]; done) | (simp only [List.length_append, List.length_cons, List.length_nil, List.length_take, List.length_drop]; omega) | fail) only [bif_t, bif_f, bif_n, bif_a, callB_ok, callI_ok, callS_ok, callL_ok, callF_ok, callT_ok, tupB_ok, tupI_ok, tupS_ok, tupL_ok, tupF_ok, atNil_ok, wrap1, wrapM, wrapP, Int.toNat_natCast, svs_len, ivs_len, bvs_len, str_size, svs_mid, ivs_mid, str_dec, str_ext, str_byte, mid_byte, mid_cut, List.length_nil, List.length_singleton, svs_snoc, ivs_snoc, svs_take, svs_drop, str_app, List.take_length, List.drop_zero, List.nil_append, cond_true, cond_false, Option.bind_some, Bool.not_true, Bool.not_false, Bool.true_and, Bool.and_true, n1, n2, n3, n4, n5, n6, n7, n8, n9, n10, n11]
  refine (refLine_loop (kp E k (n + 21)) h.extra (fun l hl => refQuote_k (n := n + 19) l (by omega) (by omega)) b7 h.kind (str h.name) (str h.link) h.mode h.uid h.gid h.size h.sec h.nano (str h.user) (str h.group) h.major h.minor h.extra [] _ k (by omega) rfl b8 (by simp only [List.length_append, List.length_cons, List.length_nil]; omega)).trans ?_
  unfold lineL wordsH headW
  rw [List.cons_append, inter_cons]
  simp [wordT]
end Go.Proofs.YtogfcfgfkggmlaaGreatDoor.Eng.U


/- The lines of items; whether there are many: in plain words. -/
set_option linter.unusedVariables false
set_option linter.unusedSectionVars false
set_option linter.unusedSimpArgs false
namespace Go.Proofs.YtogfcfgfkggmlaaGreatDoor.Eng.U
open Go Go.Proofs Go.Proofs.YtogfcfgfkggmlaaGreatDoor.Eng Go.Proofs.YtogfcfgfkggmlaaGreatDoor.P04
variable {E : Ext} [Core E] [HasNum E] {k n k0 : Nat}

end Go.Proofs.YtogfcfgfkggmlaaGreatDoor.Eng.U


/- Whether there are many items: in plain words. -/
set_option linter.unusedVariables false
set_option linter.unusedSectionVars false
set_option linter.unusedSimpArgs false
namespace Go.Proofs.YtogfcfgfkggmlaaGreatDoor.Eng.U
open Go Go.Proofs Go.Proofs.YtogfcfgfkggmlaaGreatDoor.Eng Go.Proofs.YtogfcfgfkggmlaaGreatDoor.P04
variable {E : Ext} [Core E] {k n k0 : Nat}

end Go.Proofs.YtogfcfgfkggmlaaGreatDoor.Eng.U


/- How many bytes a record has: both sides. -/
set_option linter.unusedVariables false
set_option linter.unusedSectionVars false
set_option linter.unusedSimpArgs false
namespace Go.Proofs.YtogfcfgfkggmlaaGreatDoor.Eng.U
open Go Go.Proofs Go.Proofs.YtogfcfgfkggmlaaGreatDoor.Eng Go.Proofs.YtogfcfgfkggmlaaGreatDoor.P04
variable {E : Ext} [Core E] [HasNum E] {k n : Nat}

end Go.Proofs.YtogfcfgfkggmlaaGreatDoor.Eng.U


/- Which bytes are records: in plain words. -/
set_option linter.unusedVariables false
set_option linter.unusedSectionVars false
set_option linter.unusedSimpArgs false
namespace Go.Proofs.YtogfcfgfkggmlaaGreatDoor.Eng.U
open Go Go.Proofs Go.Proofs.YtogfcfgfkggmlaaGreatDoor.Eng Go.Proofs.YtogfcfgfkggmlaaGreatDoor.P04

def upto (c : UInt8) (l : Tx) : Tx := l.takeWhile fun x => decide (x ≠ c)
theorem upto_hit (c : UInt8) (l : Tx) : upto c (c :: l) = [] := by simp [upto]
theorem upto_cons {c x : UInt8} (h : x ≠ c) (l : Tx) : upto c (x :: l) = x :: upto c l := by simp [upto, h]
theorem upto_le (c : UInt8) : ∀ l : Tx, (upto c l).length ≤ l.length
  | [] => Nat.le_refl _
  | x :: l => by
    have := upto_le c l
    by_cases h : x = c
    · subst h; rw [upto_hit]; simp
    · rw [upto_cons h]; simp only [List.length_cons]; omega
theorem upto_take (c : UInt8) : ∀ l : Tx, l.take (upto c l).length = upto c l
  | [] => rfl
  | x :: l => by
    by_cases h : x = c
    · subst h; rw [upto_hit]; rfl
    · rw [upto_cons h, List.length_cons, List.take_succ_cons, upto_take c l]
end Go.Proofs.YtogfcfgfkggmlaaGreatDoor.Eng.U


/- Records, both sides: printed and parsed. -/
set_option linter.unusedVariables false
set_option linter.unusedSectionVars false
set_option linter.unusedSimpArgs false
namespace Go.Proofs.YtogfcfgfkggmlaaGreatDoor.Eng.U
open Go Go.Proofs Go.Proofs.YtogfcfgfkggmlaaGreatDoor.Eng Go.Proofs.YtogfcfgfkggmlaaGreatDoor.P04
variable {E : Ext} [Core E] [HasNum E] {k n : Nat}

def lenAV : Option (Nat × Nat) → AV
  | none => .tup [.int .i64 0, .int .i64 0, .bool false]
  | some x => .tup [.int .i64 (x.1 : Int), .int .i64 (x.2 : Int), .bool true]
theorem index_upto (x : UInt8) : ∀ l : Tx, Lib.indexByte l x = if (upto x l).length < l.length then ((upto x l).length : Int) else -1
  | [] => rfl
  | c :: l => by
    have ih := index_upto x l
    unfold Lib.indexByte
    by_cases hc : c = x
    · subst hc
      rw [upto_hit, if_pos (by simp)]
      simp
    · have h1 : (c == x) = false := by simpa using hc
      have hl := upto_le x l
      rw [upto_cons hc, List.length_cons, List.length_cons, h1]
      simp only [Bool.false_eq_true, if_false]
      rw [ih]
      by_cases h : (upto x l).length < l.length
      · rw [if_pos h, if_pos (show (upto x l).length + 1 < l.length + 1 by omega)]
        rw [if_neg (by simp)]
        omega
      · rw [if_neg h, if_neg (show ¬ (upto x l).length + 1 < l.length + 1 by omega)]
        rfl
end Go.Proofs.YtogfcfgfkggmlaaGreatDoor.Eng.U


/- Words between a byte: plain. -/
set_option linter.unusedVariables false
namespace Go.Proofs.YtogfcfgfkggmlaaGreatDoor.Eng.U
open Go Go.Proofs Go.Proofs.YtogfcfgfkggmlaaGreatDoor.Eng

/-- The parts of a text between a byte. -/
def splitL (c : UInt8) : Tx → List Tx
  | [] => [[]]
  | b :: l => if b = c then [] :: splitL c l else (b :: (splitL c l).headD []) :: (splitL c l).tail
def countL (c : UInt8) : Tx → Nat
  | [] => 0
  | b :: l => if b = c then countL c l + 1 else countL c l
theorem split_cons (c b : UInt8) (l : Tx) : splitL c (b :: l) = if b = c then [] :: splitL c l else (b :: (splitL c l).headD []) :: (splitL c l).tail := rfl
theorem count_cons (c b : UInt8) (l : Tx) : countL c (b :: l) = if b = c then countL c l + 1 else countL c l := rfl
theorem split_len (c : UInt8) : ∀ l : Tx, (splitL c l).length = countL c l + 1
  | [] => rfl
  | b :: l => by
    have ih := split_len c l
    rw [split_cons, count_cons]
    by_cases h : b = c
    · rw [if_pos h, if_pos h, List.length_cons, ih]
    · rw [if_neg h, if_neg h, List.length_cons, List.length_tail, ih]
      omega
theorem count_le (c : UInt8) : ∀ l : Tx, countL c l ≤ l.length
  | [] => Nat.le_refl _
  | b :: l => by
    have ih := count_le c l
    rw [count_cons, List.length_cons]
    split <;> omega
/-- The first part, and those behind it. -/
theorem split_upto (c : UInt8) : ∀ l : Tx, splitL c l = if (upto c l).length < l.length then upto c l :: splitL c (l.drop ((upto c l).length + 1)) else [l]
  | [] => rfl
  | b :: l => by
    have ih := split_upto c l
    rw [split_cons]
    by_cases h : b = c
    · subst h
      rw [if_pos rfl, upto_hit, if_pos (by simp)]
      simp
    · rw [if_neg h, upto_cons h, List.length_cons, List.length_cons, ih]
      by_cases hu : (upto c l).length < l.length
      · rw [if_pos hu, if_pos (by omega)]
        simp
      · rw [if_neg hu, if_neg (by omega)]
        simp
theorem count_upto (c : UInt8) (l : Tx) : countL c l = if (upto c l).length < l.length then countL c (l.drop ((upto c l).length + 1)) + 1 else 0 := by
  have h1 := split_len c l
  have h2 := split_upto c l
  by_cases hu : (upto c l).length < l.length
  · rw [if_pos hu] at h2 ⊢
    have h3 := split_len c (l.drop ((upto c l).length + 1))
    rw [h2, List.length_cons] at h1
    omega
  · rw [if_neg hu] at h2 ⊢
    rw [h2] at h1
    simpa using h1.symm
/-- Parts without the byte, put together, are those parts. -/
theorem join_split (c : UInt8) : ∀ (ws : List Tx), ws ≠ [] → (∀ w ∈ ws, c ∉ w) → splitL c ([c].intercalate ws) = ws
  | [], h, _ => absurd rfl h
  | [w], _, hf => by
    have e : [c].intercalate [w] = w := by simp [List.intercalate]
    rw [e]
    have : ∀ v : Tx, c ∉ v → splitL c v = [v] := by
      intro v
      induction v with
      | nil => intro _; rfl
      | cons b v ih =>
        intro hv
        simp only [List.mem_cons, not_or] at hv
        rw [split_cons, if_neg (fun e => hv.1 e.symm), ih hv.2]
        rfl
    exact this w (hf w (by simp))
  | w :: v :: ws, _, hf => by
    have ih := join_split c (v :: ws) (by simp) (fun x hx => hf x (by simp at hx ⊢; exact Or.inr hx))
    have e : [c].intercalate (w :: v :: ws) = w ++ c :: [c].intercalate (v :: ws) := by simp [List.intercalate, List.intersperse]
    rw [e]
    have : ∀ u t : Tx, c ∉ u → splitL c (u ++ c :: t) = u :: splitL c t := by
      intro u t
      induction u with
      | nil => intro _; rw [List.nil_append, split_cons, if_pos rfl]
      | cons b u ihu =>
        intro hu
        simp only [List.mem_cons, not_or] at hu
        rw [List.cons_append, split_cons, if_neg (fun e => hu.1 e.symm), ihu hu.2]
        rfl
    rw [this w _ (hf w (by simp)), ih]
/-- Text that is quoted has no blank. -/
theorem qByte_free (c : UInt8) : (32 : UInt8) ∉ qByte c := by
  unfold qByte
  split
  · rename_i h
    unfold openB at h
    simp only [Bool.and_eq_true, decide_eq_true_eq] at h
    intro hm
    rw [List.mem_singleton] at hm
    subst hm
    exact absurd h.1.1 (by decide)
  · have e : ∀ d : Nat, d < 8 → UInt8.ofNat (48 + d) ≠ 32 := fun d hd e => by
      have := congrArg UInt8.toNat e
      rw [ofNat_oct d hd] at this
      simp at this
      omega
    have hc : c.toNat < 256 := c.toNat_lt
    intro hm
    simp only [List.mem_cons, List.not_mem_nil, or_false] at hm
    rcases hm with h | h | h | h
    · cases h
    · exact e _ (by omega) h.symm
    · exact e _ (by omega) h.symm
    · exact e _ (by omega) h.symm
theorem quote_free (l : Tx) : (32 : UInt8) ∉ quoteL l := by
  unfold quoteL
  rw [List.mem_flatMap]
  rintro ⟨c, _, h⟩
  exact qByte_free c h
end Go.Proofs.YtogfcfgfkggmlaaGreatDoor.Eng.U


/- strings.Split at a text of one byte, in plain words. -/
set_option linter.unusedVariables false
set_option linter.unusedSectionVars false
set_option linter.unusedSimpArgs false
namespace Go.Proofs.YtogfcfgfkggmlaaGreatDoor.Eng.U
open Go Go.Proofs Go.Proofs.YtogfcfgfkggmlaaGreatDoor.Eng
variable {E : Ext} [Core E] {k n k0 : Nat}

class HasCount (E : Ext) : Prop where
  count : ∀ (k n : Nat) (s : List UInt8) (x : UInt8), kp E k n strings_Count [.str (str s), .str (str [x])] = some (.int .i64 ((Lib.countByte s x : Nat) : Int))
theorem countL_byte (x : UInt8) : ∀ l : Tx, Lib.countByte l x = countL x l
  | [] => rfl
  | b :: l => by
    have ih := countL_byte x l
    unfold Lib.countByte at ih ⊢
    rw [count_cons, List.count_cons, ih]
    by_cases h : b = x
    · subst h; simp
    · rw [if_neg h, if_neg (by simpa using h), Nat.add_zero]
theorem pad_len (done : List Tx) (r : Nat) : (svs done ++ List.replicate r (AV.str (str []))).length = done.length + r := by rw [List.length_append, svs_len, List.length_replicate]
theorem pad_get {β : Type} (done : List Tx) (r : Nat) (K : AV → Option β) : ((svs done ++ List.replicate (r + 1) (AV.str (str [])))[done.length]?).bind K = K (AV.str (str [])) := by
  rw [List.getElem?_append_right (by rw [svs_len]; exact Nat.le_refl _), svs_len, Nat.sub_self]
  rfl
theorem pad_set (done : List Tx) (r : Nat) (w : Tx) : (svs done ++ List.replicate (r + 1) (AV.str (str []))).set done.length (AV.str (str w)) = svs (done ++ [w]) ++ List.replicate r (AV.str (str [])) := by
  rw [List.set_append_right _ _ (by rw [svs_len]; exact Nat.le_refl _), svs_len, Nat.sub_self]
  have e : svs (done ++ [w]) = svs done ++ [AV.str (str w)] := by unfold svs; rw [List.map_append]; rfl
  rw [e, List.append_assoc]
  rfl
theorem genSplit_loop (x : UInt8) (kap : FuncId → List AV → Option AV) (hidx : ∀ t : Tx, kap strings_Index [.str (str t), .str (str [x])] = some (.int .i64 (Lib.indexByte t x))) (N : Nat) (hN : N < 1000000000) :
    ∀ (m : Nat) (suf : Tx) (done : List Tx) (k0 : Nat), countL x suf = m → m < k0 → done.length + m = N → suf.length < 1000000000000 →
    strings_genSplit_L0 kap k k0 (str suf) (str [x]) 0 ((N : Nat) : Int) ((done.length : Nat) : Int) (svs done ++ List.replicate (m + 1) (AV.str (str []))) = some (.list 1 (svs (done ++ splitL x suf)))
  | 0, suf, done, k0 + 1, hc, h, hd, hs => by
    have hu := count_upto x suf
    have hsp := split_upto x suf
    have hlt : ¬ (upto x suf).length < suf.length := fun hh => by rw [if_pos hh] at hu; omega
    rw [if_neg hlt] at hsp
    have hl : (svs done ++ List.replicate (0 + 1) (AV.str (str []))).length = done.length + 1 := pad_len done 1
    rw [strings_genSplit_L0_s, bif_f (by omega), hl, inb (by omega), cond_true, Int.toNat_natCast, pad_get]
    have e : mkElem 1 (splice (AV.cells (AV.str (str []))) 0 [.str (str suf)]) (AV.str (str [])) = .str (str suf) := rfl
    rw [e, pad_set]
    have e2 : (decide (0 + 1 ≤ (AV.cells (AV.str (str []))).length) && true) = true := rfl
    rw [e2, cond_true, wrap1 (by omega)]
    have hl2 : (svs (done ++ [suf]) ++ List.replicate 0 (AV.str (str []))).length = done.length + 1 := by rw [pad_len]; simp
    rw [hl2, bif_a, bif_t (by omega), bif_t (by omega), Int.toNat_natCast, hsp]
    have e3 : List.take (done.length + 1) (svs (done ++ [suf]) ++ List.replicate 0 (AV.str (str []))) = svs (done ++ [suf]) := by
      rw [List.replicate_zero, List.append_nil, List.take_of_length_le (by rw [svs_len]; simp)]
    rw [e3]
  | m + 1, suf, done, k0 + 1, hc, h, hd, hs => by
    have hu := count_upto x suf
    have hsp := split_upto x suf
    have hlt : (upto x suf).length < suf.length := by
      apply Classical.byContradiction
      intro hh
      rw [if_neg hh] at hu
      omega
    rw [if_pos hlt] at hu hsp
    have hi : Lib.indexByte suf x = ((upto x suf).length : Int) := by rw [index_upto, if_pos hlt]
    have hl : (svs done ++ List.replicate (m + 1 + 1) (AV.str (str []))).length = done.length + (m + 2) := pad_len done (m + 2)
    have ih := genSplit_loop x kap hidx N hN m (suf.drop ((upto x suf).length + 1)) (done ++ [upto x suf]) k0 (by omega) (by omega) (by rw [List.length_append, List.length_singleton]; omega) (by rw [List.length_drop]; omega)
    rw [strings_genSplit_L0_s, bif_t (by omega), hidx, callI_ok, hi, bif_f (by omega), Int.add_zero, i64w (x := ((upto x suf).length : Int)) (by omega), str_size, bif_a, bif_t (by omega), bif_t (by omega), hl, inb (by omega), cond_true, Int.toNat_natCast, pad_get]
    have e2 : (decide (0 + 1 ≤ (AV.cells (AV.str (str []))).length) && true) = true := rfl
    rw [e2, cond_true, str_size, List.length_singleton, wrapP (by omega) (by omega), bif_a, bif_t (by omega), bif_t (by omega), Int.toNat_natCast, Int.toNat_natCast, str_ext, str_ext, List.take_length, List.drop_zero, upto_take]
    have e : mkElem 1 (splice (AV.cells (AV.str (str []))) 0 [.str (str (upto x suf))]) (AV.str (str [])) = .str (str (upto x suf)) := rfl
    rw [e, pad_set, wrap1 (by omega)]
    rw [List.length_append, List.length_singleton] at ih
    rw [hsp]
    refine ih.trans ?_
    rw [List.append_assoc]
    rfl
theorem index_k [HasNum E] (t : Tx) (x : UInt8) : kp E k (n + 1) strings_Index [.str (str t), .str (str [x])] = some (.int .i64 (Lib.indexByte t x)) := by
  rw [strings_Index_eq, HasNum.index k n t x, callI_ok]
theorem split_k [HasNum E] [HasCount E] (s : Tx) (x : UInt8) (hs : s.length < 100000000) (hk : s.length < k) : kp E k (n + 3) strings_Split [.str (str s), .str (str [x])] = some (.list 1 (svs (splitL x s))) := by
  have hc := count_le x s
  have h := genSplit_loop (k := k) x (kp E k (n + 1)) (fun t => index_k t x) (countL x s) (by omega) (countL x s) s [] k rfl (by omega) (by simp) (by omega)
  have hne : ¬ str [x] = str [] := fun e => by rw [str_inj] at e; simp at e
  have e1 : (if (((s.length : Nat) : Int) + 1) < (((countL x s : Nat) : Int) + 1) then (((s.length : Nat) : Int) + 1) else (((countL x s : Nat) : Int) + 1)) = ((countL x s + 1 : Nat) : Int) := by rw [if_neg (by omega)]; omega
  rw [strings_Split_eq, strings_genSplit_eq, decide_eq_false (by omega), cond_false, decide_eq_false hne, cond_false, decide_eq_true (by omega), cond_true, HasCount.count, callI_ok, countL_byte, str_size, i64w (x := ((s.length : Nat) : Int) + 1) (by omega), i64w (x := ((countL x s : Nat) : Int) + 1) (by omega), e1]
  have e2 : ((((decide ((0 : Int) ≤ ((countL x s + 1 : Nat) : Int)) && decide (((countL x s + 1 : Nat) : Int) ≤ ((countL x s + 1 : Nat) : Int)) && decide (((countL x s + 1 : Nat) : Int) * 16 ≤ 140737488355328)) && decide (((countL x s + 1 : Nat) : Int) ≤ (9223372036854775807 : Int)))) && true && true) = true := by
    simp only [Bool.and_true, Bool.and_eq_true, decide_eq_true_eq]
    omega
  have e3 : IntKind.wrap .i64 (((countL x s + 1 : Nat) : Int) - 1) = ((countL x s : Nat) : Int) := by rw [i64w (by omega)]; omega
  rw [e3, Int.toNat_natCast]
  have h' : strings_genSplit_L0 (kp E k (n + 1)) k k (str s) (str [x]) 0 ((countL x s : Nat) : Int) 0 (List.replicate (countL x s + 1) (AV.str (str []))) = some (.list 1 (svs (splitL x s))) := h
  rw [h']
  simp only [e2, cond_true]
  rw [callL_ok]
end Go.Proofs.YtogfcfgfkggmlaaGreatDoor.Eng.U


/- A head out of words, by the program: in plain words. -/
set_option linter.unusedVariables false
set_option linter.unusedSectionVars false
set_option linter.unusedSimpArgs false
namespace Go.Proofs.YtogfcfgfkggmlaaGreatDoor.Eng.U
open Go Go.Proofs Go.Proofs.YtogfcfgfkggmlaaGreatDoor.Eng Go.Proofs.YtogfcfgfkggmlaaGreatDoor.P04
variable {E : Ext} [Core E] [HasNum E] {k n k0 : Nat}

theorem room32 {m : Nat} (h : m ≤ 1000000000) : (decide (m * 32 ≤ 140737488355328) && decide (m ≤ 9223372036854775807)) = true := by simp; omega
def numO (w : Tx) : Option Int := if (natOk w && decide (valA 0 w ≤ 9223372036854775807)) = true then some (valA 0 w : Int) else none
def cutT (w : Tx) : Tx := Lib.trimPrefix w [61]
def textO (w : Tx) : Option Tx := if Lib.hasPrefix w [61] = true then unqL (cutT w).length (cutT w) else none
def textV (w : Tx) : Tx := (unqL (cutT w).length (cutT w)).getD []
def badW (l : List Tx) (b : Bool) : Bool := b || l.isEmpty
def badN (l : List Tx) (b : Bool) : Bool := badW l b || (numO (l.headD [])).isNone
def badT (l : List Tx) (b : Bool) : Bool := badW l b || (textO (l.headD [])).isNone
theorem head_mem (l : List Tx) (M : Nat) (hl : ∀ w ∈ l, w.length ≤ M) : (l.headD []).length ≤ M := by
  cases l with
  | nil => exact Nat.zero_le _
  | cons w l => exact hl w (by simp)
theorem tail_mem (l : List Tx) (M : Nat) (hl : ∀ w ∈ l, w.length ≤ M) : ∀ w ∈ l.tail, w.length ≤ M := fun w hw => hl w (List.mem_of_mem_tail hw)
theorem next_k (l : List Tx) (b : Bool) (hl : l.length ≤ 1000000) : kp E k (n + 1) tale_reader_next [.lent [.list 1 (svs l), .bool b]] = some (.lback (.str (str (l.headD []))) [.lent [.list 1 (svs l.tail), .bool (badW l b)]]) := by
  rw [tale_reader_next_eq, svs_len]
  cases l with
  | nil => rw [decide_eq_true (by simp), cond_true]; cases b <;> rfl
  | cons w l =>
    rw [decide_eq_false (by simp only [List.length_cons]; omega), cond_false, bif_t (by simp only [List.length_cons]; omega)]
    have e : ∀ K : ByteArray → Option AV, (((svs (w :: l))[0]?).bind fun vy => cellS (AV.cells vy) 0 K) = K (str w) := fun K => rfl
    rw [e, bif_t (by simp only [List.length_cons]; omega)]
    have e2 : List.drop 1 (List.take (w :: l).length (svs (w :: l))) = svs l := by rw [← svs_len (w :: l), List.take_length]; rfl
    rw [e2]
    unfold badW
    cases b <;> rfl
theorem num_ans (w : Tx) (hw : w.length ≤ 10000000) (hk : 100000000 < k) : kp E k (n + 3) dec_Number [.str (str w)] = some (.tup [.int .i64 ((numO w).getD 0), .int .u8 (if (numO w).isNone = true then 15 else 0)]) := by
  rw [number_k w (by omega) (by omega)]
  unfold numO
  cases natOk w && decide (valA 0 w ≤ 9223372036854775807) <;> rfl
theorem stepW (l : List Tx) (b : Bool) (hl : l.length ≤ 1000000) (F : ByteArray → List AV → Bool → Option AV) :
    (callX (kp E k (n + 1) tale_reader_next [(.lent [(.list 1 (svs l)), (.bool b)])]) fun vb vz => nxX vz fun vx vz' => nxL 1 vx fun vl vx' => nxB vx' fun vq vx'' => atNil vx'' (atNil vz' (callS (some vb) fun vn => F vn vl vq))) = F (str (l.headD [])) (svs l.tail) (badW l b) := by
  rw [next_k l b hl, callX_ok, nxX_ok, nxL_ok, nxB_ok, atNil_ok, atNil_ok, callS_ok]
theorem stepN (l : List Tx) (b : Bool) (hl : l.length ≤ 1000000) (hw : ∀ w ∈ l, w.length ≤ 10000000) (hk : 100000000 < k) (F : Int → List AV → Bool → Option AV) :
    (callX (kp E k (n + 4) tale_reader_number [(.lent [(.list 1 (svs l)), (.bool b)])]) fun vb vz => nxX vz fun vx vz' => nxL 1 vx fun vl vx' => nxB vx' fun vq vx'' => atNil vx'' (atNil vz' (callI .i64 (some vb) fun vn => F vn vl vq))) = F ((numO (l.headD [])).getD 0) (svs l.tail) (badN l b) := by
  have h : kp E k (n + 4) tale_reader_number [(.lent [(.list 1 (svs l)), (.bool b)])] = some (.lback (.int .i64 ((numO (l.headD [])).getD 0)) [.lent [.list 1 (svs l.tail), .bool (badN l b)]]) := by
    rw [tale_reader_number_eq, stepW (n := n + 2) l b hl (F := fun vs9 vl6 vq8 => callT (kp E k (n + 3) dec_Number [(.str vs9)]) fun vt11 => (tupI .i64 vt11 fun vn12 vt13 => (tupI .u8 vt13 fun vn14 vt15 => (atNil vt15 (bif vq8 then (some (.lback (.int .i64 vn12) [(.lent [(.list 1 vl6), (.bool true)])])) else (some (.lback (.int .i64 vn12) [(.lent [(.list 1 vl6), (.bool (!(decide (vn14 = (0 : Int)))))])])))))))]
    rw [num_ans _ (head_mem l _ hw) hk, callT_ok, tupI_ok, tupI_ok, atNil_ok]
    unfold badN
    cases badW l b <;> cases (numO (l.headD [])).isNone <;> rfl
  rw [h, callX_ok, nxX_ok, nxL_ok, nxB_ok, atNil_ok, atNil_ok, callI_ok]
theorem cutT_len (w : Tx) : (cutT w).length ≤ w.length := by
  unfold cutT Lib.trimPrefix
  split
  · rw [List.length_drop]; omega
  · exact Nat.le_refl _
theorem unq_ans (t : Tx) : ansU [] (unqL t.length t) = .tup [.str (str ((unqL t.length t).getD [])), .int .u8 (if (unqL t.length t).isNone = true then 15 else 0)] := by
  cases unqL t.length t <;> rfl
theorem stepT (l : List Tx) (b : Bool) (hl : l.length ≤ 1000000) (hw : ∀ w ∈ l, w.length ≤ 10000000) (hk : 100000000 < k) (F : ByteArray → List AV → Bool → Option AV) :
    (callX (kp E k (n + 4) tale_reader_text [(.lent [(.list 1 (svs l)), (.bool b)])]) fun vb vz => nxX vz fun vx vz' => nxL 1 vx fun vl vx' => nxB vx' fun vq vx'' => atNil vx'' (atNil vz' (callS (some vb) fun vn => F vn vl vq))) = F (str (textV (l.headD []))) (svs l.tail) (badT l b) := by
  have hh := head_mem l _ hw
  have h : kp E k (n + 4) tale_reader_text [(.lent [(.list 1 (svs l)), (.bool b)])] = some (.lback (.str (str (textV (l.headD [])))) [.lent [.list 1 (svs l.tail), .bool (badT l b)]]) := by
    have hc := cutT_len (l.headD [])
    rw [tale_reader_text_eq, next_k (n := n + 2) l b hl, callX_ok, nxX_ok, nxL_ok, nxB_ok, atNil_ok, atNil_ok, callS_ok, HasNum.cutP, callT_ok, tupS_ok, tupB_ok, atNil_ok]
    show (callT (kp E k (n + 3) text_Unquote [.str (str (cutT (l.headD [])))]) _) = _
    rw [unq_k (n := n + 1) _ (by omega) (by omega), unq_ans, callT_ok, tupS_ok, tupI_ok, atNil_ok]
    unfold badT textO textV
    cases badW l b <;> cases Lib.hasPrefix (l.headD []) [61] <;> cases (unqL (cutT (l.headD [])).length (cutT (l.headD []))) <;> rfl
  rw [h, callX_ok, nxX_ok, nxL_ok, nxB_ok, atNil_ok, atNil_ok, callS_ok]
/-- The pairs out of what is left of the words, and whether they are wrong. -/
def pairsP : List Tx → List Pair
  | [] => []
  | [w] => [⟨textV w, textV []⟩]
  | w :: v :: l => ⟨textV w, textV v⟩ :: pairsP l
def pairsB : List Tx → Bool → Bool
  | [], b => b
  | [w], b => badT [] (badT [w] b)
  | w :: v :: l, b => pairsB l (badT (v :: l) (badT (w :: v :: l) b))
def noHead : Head := ⟨0, [], [], 0, 0, 0, 0, 0, 0, [], [], 0, 0, []⟩
def endH (line : Tx) (h : Head) (b : Bool) : AV := if b = false ∧ wrongH h = 0 ∧ lineL h = line then .tup [.agg (encHead h), .int .u8 0] else .tup [.agg (encHead noHead), .int .u8 15]
theorem endH_no {line : Tx} {h : Head} {b : Bool} (hn : ¬ (b = false ∧ wrongH h = 0 ∧ lineL h = line)) : endH line h b = .tup [.agg (encHead noHead), .int .u8 15] := if_neg hn
theorem endH_yes {line : Tx} {h : Head} (h0 : wrongH h = 0) (hl : lineL h = line) : endH line h false = .tup [.agg (encHead h), .int .u8 0] := if_pos ⟨rfl, h0, hl⟩
theorem head_loop [HasTextV E] [HasQuote E] [HasJn E] (line : Tx) (kk : Nat) (hkk : 100000000 < kk) (b2_0 : Int) (b2_1 b2_2 : ByteArray) (b2_3 b2_4 b2_5 b2_6 b2_7 b2_8 : Int) (b2_9 b2_10 : ByteArray) (b2_11 b2_12 : Int) (x178 : List AV) (h : Head) (N : Nat) (hN : N ≤ 1000) :
    ∀ (m : Nat) (l : List Tx) (acc : List Pair) (b : Bool) (k0 : Nat), l.length ≤ m → m < k0 → acc.length + m ≤ 1000000 → (∀ w ∈ l, w.length ≤ 10000000) → Bd20 { h with extra := acc ++ pairsP l } →
    tale_Head_L0 (kp E (kk + 6) (n + 9)) (kk + 6) k0 (str line) b2_0 b2_1 b2_2 b2_3 b2_4 b2_5 b2_6 b2_7 b2_8 b2_9 b2_10 b2_11 b2_12 (svs l) b h.kind (str h.name) (str h.link) h.mode h.uid h.gid h.size h.sec h.nano (str h.user) (str h.group) h.major h.minor x178 (prs acc) = some (endH line { h with extra := acc ++ pairsP l } (pairsB l b))
  | m, [], acc, b, k0 + 1, hm, hk, ha, hw, hb => by
    have hl := line_k (E := E) (k := kk + 6) (n := n) { h with extra := acc ++ pairsP [] } hb (by omega)
    have e : acc ++ pairsP [] = acc := by simp [pairsP]
    rw [e] at hl ⊢
    unfold encHead at hl
    rw [tale_Head_L0_s, svs_len, bif_f (by simp), hl]
    show _ = some (endH line { h with extra := acc } b)
    by_cases h0 : wrongH { h with extra := acc } = 0
    · rw [if_pos h0, callT_ok, tupS_ok, tupI_ok, atNil_ok]
      cases b with
      | true => rw [endH_no (fun hh => by cases hh.1)]; rfl
      | false =>
        by_cases hln : lineL { h with extra := acc } = line
        · rw [endH_yes h0 hln, hln, str_dec, decide_eq_true rfl, decide_eq_true rfl]; rfl
        · rw [endH_no (fun hh => hln hh.2.2), str_dec, decide_eq_false hln, decide_eq_true rfl]; rfl
    · rw [if_neg h0, callT_ok, tupS_ok, tupI_ok, atNil_ok, endH_no (fun hh => h0 hh.2.1), decide_eq_false (by omega)]
      cases b <;> rfl
  | m, [w], acc, b, k0 + 1, hm, hk, ha, hw, hb => by
    have hm1 : 1 ≤ m := hm
    have ih := head_loop line kk hkk b2_0 b2_1 b2_2 b2_3 b2_4 b2_5 b2_6 b2_7 b2_8 b2_9 b2_10 b2_11 b2_12 x178 h N hN (m - 1) [] (acc ++ [⟨textV w, textV []⟩]) (badT [] (badT [w] b)) k0 (by simp) (by omega) (by rw [List.length_append, List.length_singleton]; omega) (by simp) (by simpa [pairsP] using hb)
    rw [tale_Head_L0_s, svs_len, bif_t (by simp), stepT (n := n + 5) [w] b (by simp) hw (by omega), stepT (n := n + 5) [w].tail _ (by simp) (by simp) (by omega), prs_len, room32 (by omega), cond_true]
    have e : prs acc ++ [AV.agg [.str (str (textV ([w].headD []))), .str (str (textV ([w].tail.headD [])))]] = prs (acc ++ [⟨textV w, textV []⟩]) := by simp [prs, elPair, encPair]
    rw [e]
    refine ih.trans ?_
    simp [pairsP, pairsB]
  | m, w :: v :: l, acc, b, k0 + 1, hm, hk, ha, hw, hb => by
    have hm1 : l.length + 2 ≤ m := hm
    have ih := head_loop line kk hkk b2_0 b2_1 b2_2 b2_3 b2_4 b2_5 b2_6 b2_7 b2_8 b2_9 b2_10 b2_11 b2_12 x178 h N hN (m - 1) l (acc ++ [⟨textV w, textV v⟩]) (badT (v :: l) (badT (w :: v :: l) b)) k0 (by omega) (by omega) (by rw [List.length_append, List.length_singleton]; omega) (fun x hx => hw x (by simp [hx])) (by simpa [pairsP] using hb)
    rw [tale_Head_L0_s, svs_len, bif_t (by simp; omega), stepT (n := n + 5) (w :: v :: l) b (by simp; omega) hw (by omega), stepT (n := n + 5) (w :: v :: l).tail _ (by simp; omega) (tail_mem _ _ hw) (by omega), prs_len, room32 (by omega), cond_true]
    have e : prs acc ++ [AV.agg [.str (str (textV ((w :: v :: l).headD []))), .str (str (textV ((w :: v :: l).tail.headD [])))]] = prs (acc ++ [⟨textV w, textV v⟩]) := by simp [prs, elPair, encPair]
    rw [e]
    refine ih.trans ?_
    simp [pairsP, pairsB]
end Go.Proofs.YtogfcfgfkggmlaaGreatDoor.Eng.U


/- A line's head, by the program: in plain words. -/
set_option linter.unusedVariables false
set_option linter.unusedSectionVars false
set_option linter.unusedSimpArgs false
namespace Go.Proofs.YtogfcfgfkggmlaaGreatDoor.Eng.U
open Go Go.Proofs Go.Proofs.YtogfcfgfkggmlaaGreatDoor.Eng Go.Proofs.YtogfcfgfkggmlaaGreatDoor.P04
variable {E : Ext} [Core E] [HasNum E] {k n k0 : Nat}

def tl : Nat → List Tx → List Tx
  | 0, l => l
  | i + 1, l => (tl i l).tail
def W (i : Nat) (l : List Tx) : Tx := (tl i l).headD []
def idxL : List Tx → Tx → Nat → Int
  | [], _, _ => -1
  | v :: l, w, i => if w = v then (i : Int) else idxL l w (i + 1)
def kindO (w : Tx) : Int := if idxL ([] :: kindsL) w 0 > 0 then idxL ([] :: kindsL) w 0 else 0
def numW (w : Tx) : Int := (numO w).getD 0
def timeV (w : Tx) : Int × Int := (timeL w).getD (0, 0)
def headP (ws : List Tx) : Head := ⟨kindO (W 0 ws), textV (W 10 ws), textV (W 11 ws), numW (W 1 ws), numW (W 2 ws), numW (W 3 ws), numW (W 4 ws), (timeV (W 5 ws)).1, (timeV (W 5 ws)).2, textV (W 6 ws), textV (W 7 ws), numW (W 8 ws), numW (W 9 ws), pairsP (tl 12 ws)⟩
def badM (w : Tx) (b : Bool) : Bool := b || (timeL w).isNone
def bad5 (ws : List Tx) : Bool := badW (tl 5 ws) (badN (tl 4 ws) (badN (tl 3 ws) (badN (tl 2 ws) (badN (tl 1 ws) (badW ws false)))))
def badP (ws : List Tx) : Bool := pairsB (tl 12 ws) (badT (tl 11 ws) (badT (tl 10 ws) (badN (tl 9 ws) (badN (tl 8 ws) (badT (tl 7 ws) (badT (tl 6 ws) (badM (W 5 ws) (bad5 ws))))))))
theorem tl_mem {M : Nat} {l : List Tx} (hl : ∀ w ∈ l, w.length ≤ M) : ∀ i, ∀ w ∈ tl i l, w.length ≤ M
  | 0 => hl
  | i + 1 => tail_mem _ _ (tl_mem hl i)
theorem tl_len {M : Nat} {l : List Tx} (hl : l.length ≤ M) : ∀ i, (tl i l).length ≤ M
  | 0 => hl
  | i + 1 => by have := tl_len hl i; show (tl i l).tail.length ≤ M; rw [List.length_tail]; omega
theorem tl_drop (l : List Tx) : ∀ i, tl i l = l.drop i
  | 0 => rfl
  | i + 1 => by show (tl i l).tail = _; rw [tl_drop l i, List.tail_drop]
theorem idx_loop (kap : FuncId → List AV → Option AV) (all : List Tx) (w : Tx) (ha : all.length ≤ 1000000) : ∀ (suf pre : List Tx) (k0 : Nat), suf.length < k0 → pre ++ suf = all →
    slices_Index_string_L0 kap k k0 (svs all) (str w) ((all.length : Nat) : Int) ((pre.length : Nat) : Int) = some (.int .i64 (idxL suf w pre.length))
  | [], pre, k0 + 1, h, he => by
    rw [List.append_nil] at he
    subst he
    rw [slices_Index_string_L0_s, bif_f (by omega)]
    rfl
  | v :: suf, pre, k0 + 1, h, he => by
    have hl : all.length = pre.length + suf.length + 1 := by rw [← he, mid_len]
    have ih := idx_loop kap all w ha suf (pre ++ [v]) k0 (by simpa using h) (by simpa using he)
    rw [List.length_append, List.length_singleton] at ih
    rw [slices_Index_string_L0_s, bif_t (by omega), svs_len, inb (by omega), cond_true, Int.toNat_natCast]
    conv => lhs; rw [← he]
    rw [svs_mid, str_dec]
    unfold idxL
    by_cases hw : w = v
    · rw [if_pos hw, decide_eq_true hw, cond_true]
    · rw [if_neg hw, decide_eq_false hw, cond_false, he, wrap1 (by omega)]
      exact ih
theorem index_words (l : List Tx) (w : Tx) (hl : l.length ≤ 1000000) (hk : l.length < k) : kp E k (n + 1) slices_Index_string [.list 1 (svs l), .str (str w)] = some (.int .i64 (idxL l w 0)) := by
  rw [slices_Index_string_eq, svs_len]
  exact idx_loop _ l w hl l [] k hk rfl
theorem sW0 (ws : List Tx) (b : Bool) (hl : ws.length ≤ 1000000) (F : ByteArray → List AV → Bool → Option AV) :
    (callX (kp E k (n + 1) tale_reader_next [(.lent [(.list 1 (svs ws)), (.bool b)])]) fun vb vz => nxX vz fun vx vz' => nxL 1 vx fun vl vx' => nxB vx' fun vq vx'' => atNil vx'' (atNil vz' (callS (some vb) fun vn => F vn vl vq))) = F (str (W 0 ws)) (svs (tl 1 ws)) (badW ws b) := stepW ws b hl F
theorem sW (i : Nat) (ws : List Tx) (b : Bool) (hl : (tl i ws).length ≤ 1000000) (F : ByteArray → List AV → Bool → Option AV) :
    (callX (kp E k (n + 1) tale_reader_next [(.lent [(.list 1 (svs (tl i ws))), (.bool b)])]) fun vb vz => nxX vz fun vx vz' => nxL 1 vx fun vl vx' => nxB vx' fun vq vx'' => atNil vx'' (atNil vz' (callS (some vb) fun vn => F vn vl vq))) = F (str (W i ws)) (svs (tl (i + 1) ws)) (badW (tl i ws) b) := stepW (tl i ws) b hl F
theorem sN (i : Nat) (ws : List Tx) (b : Bool) (hl : (tl i ws).length ≤ 1000000) (hw : ∀ w ∈ tl i ws, w.length ≤ 10000000) (hk : 100000000 < k) (F : Int → List AV → Bool → Option AV) :
    (callX (kp E k (n + 4) tale_reader_number [(.lent [(.list 1 (svs (tl i ws))), (.bool b)])]) fun vb vz => nxX vz fun vx vz' => nxL 1 vx fun vl vx' => nxB vx' fun vq vx'' => atNil vx'' (atNil vz' (callI .i64 (some vb) fun vn => F vn vl vq))) = F (numW (W i ws)) (svs (tl (i + 1) ws)) (badN (tl i ws) b) := stepN (tl i ws) b hl hw hk F
theorem sT (i : Nat) (ws : List Tx) (b : Bool) (hl : (tl i ws).length ≤ 1000000) (hw : ∀ w ∈ tl i ws, w.length ≤ 10000000) (hk : 100000000 < k) (F : ByteArray → List AV → Bool → Option AV) :
    (callX (kp E k (n + 4) tale_reader_text [(.lent [(.list 1 (svs (tl i ws))), (.bool b)])]) fun vb vz => nxX vz fun vx vz' => nxL 1 vx fun vl vx' => nxB vx' fun vq vx'' => atNil vx'' (atNil vz' (callS (some vb) fun vn => F vn vl vq))) = F (str (textV (W i ws))) (svs (tl (i + 1) ws)) (badT (tl i ws) b) := stepT (tl i ws) b hl hw hk F
theorem time_ans (w : Tx) (hw : w.length ≤ 10000000) (hk : 100000000 < k) : kp E k (n + 3) dec_Time [.str (str w)] = some (.tup [.agg [.int .i64 (timeV w).1, .int .i64 (timeV w).2], .int .u8 (if (timeL w).isNone = true then 15 else 0)]) := by
  rw [time_k w (by omega) (by omega)]
  unfold timeV
  cases timeL w <;> rfl
theorem head_k [HasTextV E] [HasQuote E] [HasJn E] [HasCount E] (line : Tx) (kk : Nat) (hkk : 200000000 < kk) (hline : line.length < 100000000) (hl : (splitL 32 line).length ≤ 900000) (hw : ∀ w ∈ splitL 32 line, w.length ≤ 10000000) (hb : Bd20 (headP (splitL 32 line))) :
    kp E (kk + 6) (n + 10) tale_Head [.str (str line)] = some (endH line (headP (splitL 32 line)) (badP (splitL 32 line))) := by
  generalize hws : splitL 32 line = ws at hl hw hb ⊢
  have m := fun i => tl_mem hw i
  have q := fun i => tl_len (M := 1000000) (l := ws) (by omega) i
  have fin := fun b => head_loop (E := E) (n := n) line kk (by omega) (0 : Int) (str []) (str []) (0 : Int) (0 : Int) (0 : Int) (0 : Int) (0 : Int) (0 : Int) (str []) (str []) (0 : Int) (0 : Int) [] { headP ws with extra := [] } 0 (by omega) ws.length (tl 12 ws) [] b (kk + 6) (by rw [tl_drop, List.length_drop]; omega) (by omega) (by simp; omega) (m 12) hb
  rw [tale_Head_eq, split_k (n := n + 6) line 32 (by omega) (by omega), callL_ok, hws]
  have hkinds : kp E (kk + 6) (n + 9) tale_kinds [] = some (.list 1 (svs ([] :: kindsL))) := tale_kinds_eq _ _
  rw [hkinds, callL_ok, sW0 (n := n + 8) ws false (by omega), index_words (n := n + 8) _ _ (by decide) (by show 8 < _; omega), callI_ok]
  rw [sN (n := n + 5) 1 ws _ (q 1) (m 1) (by omega), sN (n := n + 5) 2 ws _ (q 2) (m 2) (by omega), sN (n := n + 5) 3 ws _ (q 3) (m 3) (by omega), sN (n := n + 5) 4 ws _ (q 4) (m 4) (by omega)]
  rw [sW (n := n + 8) 5 ws _ (q 5), time_ans (n := n + 6) (W 5 ws) (head_mem _ _ (m 5)) (by omega), callT_ok]
  have e5 : badW (tl 5 ws) (badN (tl 4 ws) (badN (tl 3 ws) (badN (tl 2 ws) (badN (tl 1 ws) (badW ws false))))) = bad5 ws := rfl
  have tupT : ∀ (p : Int × Int) (t : List AV) (K : Int → Int → List AV → Option AV), (tupG 2 (.agg [.int .i64 p.1, .int .i64 p.2] :: t) fun vg vt => cellI .i64 vg 0 fun a => cellI .i64 vg 1 fun b => K a b vt) = K p.1 p.2 t := fun p t K => rfl
  rw [tupT, tupI_ok, atNil_ok]
  have rest : ∀ b : Bool, (callX (kp E (kk + 6) (n + 9) tale_reader_text [(.lent [(.list 1 (svs (tl 6 ws))), (.bool b)])]) fun vb69 vz70 => (nxX vz70 fun vx72 vz71 => (nxL 1 vx72 fun vl74 vx73 => (nxB vx73 fun vq76 vx75 => (atNil vx75 (atNil vz71 (callS (some vb69) fun vs77 => (callX (kp E (kk + 6) (n + 9) tale_reader_text [(.lent [(.list 1 vl74), (.bool vq76)])]) fun vb78 vz79 => (nxX vz79 fun vx81 vz80 => (nxL 1 vx81 fun vl83 vx82 => (nxB vx82 fun vq85 vx84 => (atNil vx84 (atNil vz80 (callS (some vb78) fun vs86 => (callX (kp E (kk + 6) (n + 9) tale_reader_number [(.lent [(.list 1 vl83), (.bool vq85)])]) fun vb87 vz88 => (nxX vz88 fun vx90 vz89 => (nxL 1 vx90 fun vl92 vx91 => (nxB vx91 fun vq94 vx93 => (atNil vx93 (atNil vz89 (callI .i64 (some vb87) fun vn95 => (callX (kp E (kk + 6) (n + 9) tale_reader_number [(.lent [(.list 1 vl92), (.bool vq94)])]) fun vb96 vz97 => (nxX vz97 fun vx99 vz98 => (nxL 1 vx99 fun vl101 vx100 => (nxB vx100 fun vq103 vx102 => (atNil vx102 (atNil vz98 (callI .i64 (some vb96) fun vn104 => (callX (kp E (kk + 6) (n + 9) tale_reader_text [(.lent [(.list 1 vl101), (.bool vq103)])]) fun vb105 vz106 => (nxX vz106 fun vx108 vz107 => (nxL 1 vx108 fun vl110 vx109 => (nxB vx109 fun vq112 vx111 => (atNil vx111 (atNil vz107 (callS (some vb105) fun vs113 => (callX (kp E (kk + 6) (n + 9) tale_reader_text [(.lent [(.list 1 vl110), (.bool vq112)])]) fun vb114 vz115 => (nxX vz115 fun vx117 vz116 => (nxL 1 vx117 fun vl119 vx118 => (nxB vx118 fun vq121 vx120 => (atNil vx120 (atNil vz116 (callS (some vb114) fun vs122 => (tale_Head_L0 (kp E (kk + 6) (n + 9)) (kk + 6) (kk + 6) (str line) (0 : Int) (str []) (str []) (0 : Int) (0 : Int) (0 : Int) (0 : Int) (0 : Int) (0 : Int) (str []) (str []) (0 : Int) (0 : Int) vl119 vq121 (kindO (W 0 ws)) vs113 vs122 (numW (W 1 ws)) (numW (W 2 ws)) (numW (W 3 ws)) (numW (W 4 ws)) (timeV (W 5 ws)).1 (timeV (W 5 ws)).2 vs77 vs86 vn95 vn104 [] []))))))))))))))))))))))))))))))))))))))))))) = some (endH line (headP ws) (pairsB (tl 12 ws) (badT (tl 11 ws) (badT (tl 10 ws) (badN (tl 9 ws) (badN (tl 8 ws) (badT (tl 7 ws) (badT (tl 6 ws) b)))))))) := by
    intro b
    rw [sT (n := n + 5) 6 ws _ (q 6) (m 6) (by omega), sT (n := n + 5) 7 ws _ (q 7) (m 7) (by omega), sN (n := n + 5) 8 ws _ (q 8) (m 8) (by omega), sN (n := n + 5) 9 ws _ (q 9) (m 9) (by omega), sT (n := n + 5) 10 ws _ (q 10) (m 10) (by omega), sT (n := n + 5) 11 ws _ (q 11) (m 11) (by omega)]
    exact fin _
  have hM : ∀ b : Bool, badM (W 5 ws) b = (b || (timeL (W 5 ws)).isNone) := fun _ => rfl
  unfold badP
  have e5' : badW (tl 5 ws) (badN (tl 4 ws) (badN (tl 3 ws) (badN (tl 2 ws) (badN (tl 1 ws) (badW ws false))))) = bad5 ws := rfl
  rw [hM]
  rw [e5']
  cases hb5 : bad5 ws with
  | true =>
    rw [cond_true, Bool.true_or]
    exact rest true
  | false =>
    rw [cond_false, Bool.false_or]
    have r := rest (timeL (W 5 ws)).isNone
    cases ht : (timeL (W 5 ws)).isNone with
    | true =>
      rw [ht] at r
      exact r
    | false =>
      rw [ht] at r
      exact r
end Go.Proofs.YtogfcfgfkggmlaaGreatDoor.Eng.U


/- What a line's words are, and that they tell the head again. -/
set_option linter.unusedVariables false
set_option linter.unusedSectionVars false
set_option linter.unusedSimpArgs false
namespace Go.Proofs.YtogfcfgfkggmlaaGreatDoor.Eng.U
open Go Go.Proofs Go.Proofs.YtogfcfgfkggmlaaGreatDoor.Eng Go.Proofs.YtogfcfgfkggmlaaGreatDoor.P04

theorem wrong_all {h : Head} (hw : wrongH h = 0) : f1 h = true ∧ f2 h = true ∧ f3 h = true ∧ f4 h = true ∧ f5 h = true ∧ f6 h = true ∧ f7 h = true ∧ f8 h = true ∧ f9 h = true ∧ f10 h = true ∧ f11 h = true ∧ f12 h = true ∧ f13 h = true := by
  have st : ∀ (b : Bool) (i : Int) (x : Int), i ≠ 0 → (bif !b then i else x) = 0 → b = true ∧ x = 0 := by
    intro b i x hi hx
    cases b with
    | true => exact ⟨rfl, hx⟩
    | false => exact absurd hx hi
  unfold wrongH at hw
  obtain ⟨h1, hw⟩ := st _ _ _ (by decide) hw
  obtain ⟨h2, hw⟩ := st _ _ _ (by decide) hw
  obtain ⟨h3, hw⟩ := st _ _ _ (by decide) hw
  obtain ⟨h4, hw⟩ := st _ _ _ (by decide) hw
  obtain ⟨h5, hw⟩ := st _ _ _ (by decide) hw
  obtain ⟨h6, hw⟩ := st _ _ _ (by decide) hw
  obtain ⟨h7, hw⟩ := st _ _ _ (by decide) hw
  obtain ⟨h8, hw⟩ := st _ _ _ (by decide) hw
  obtain ⟨h9, hw⟩ := st _ _ _ (by decide) hw
  obtain ⟨h10, hw⟩ := st _ _ _ (by decide) hw
  obtain ⟨h11, hw⟩ := st _ _ _ (by decide) hw
  obtain ⟨h12, hw⟩ := st _ _ _ (by decide) hw
  obtain ⟨h13, hw⟩ := st _ _ _ (by decide) hw
  exact ⟨h1, h2, h3, h4, h5, h6, h7, h8, h9, h10, h11, h12, h13⟩
theorem wrong_nums {h : Head} (hw : wrongH h = 0) : 0 ≤ h.mode ∧ 0 ≤ h.uid ∧ 0 ≤ h.gid ∧ 0 ≤ h.size ∧ 0 ≤ h.major ∧ 0 ≤ h.minor ∧ (0 ≤ h.nano ∧ h.nano < 1000000000) := by
  obtain ⟨h1, h2, h3, h4, h5, h6, h7, h8, h9, h10, h11, h12, h13⟩ := wrong_all hw
  unfold f4 at h4; unfold f5 at h5; unfold f6 at h6; unfold f7 at h7; unfold f8 rightT at h8; unfold f11 devOk at h11; unfold f12 devOk at h12
  simp only [Bool.or_eq_true, Bool.and_eq_true, decide_eq_true_eq] at h4 h5 h6 h7 h8 h11 h12
  omega
theorem digs_free {l : Tx} (h : l.all isDig = true) : (32 : UInt8) ∉ l := fun hm => by
  have := List.all_eq_true.1 h 32 hm
  revert this
  decide
theorem itoa_free (v : Int) : (32 : UInt8) ∉ Lib.itoa v := by
  by_cases hv : 0 ≤ v
  · obtain ⟨u, rfl⟩ := Int.eq_ofNat_of_zero_le hv
    rw [Lib.itoa_nonneg]
    exact digs_free (dec_facts u).1
  · obtain ⟨u, rfl⟩ : ∃ u : Nat, v = -(u : Int) := ⟨v.natAbs, by omega⟩
    rw [Lib.itoa_neg u (by omega), List.mem_cons, not_or]
    exact ⟨by decide, digs_free (dec_facts u).1⟩
theorem loop_free (m : Nat) (h : m < 1000000000) : (32 : UInt8) ∉ loopP 9 m := by
  by_cases h0 : 0 < m
  · have := (loop_facts m h0 h).1
    unfold digs at this
    rw [Bool.and_eq_true] at this
    exact digs_free this.1
  · obtain rfl : m = 0 := by omega
    unfold loopP
    simp
theorem print_free (s t : Int) (ht : 0 ≤ t ∧ t < 1000000000) : (32 : UInt8) ∉ printL s t := by
  unfold printL
  split
  · exact itoa_free s
  · split
    · simp only [List.mem_append, List.mem_cons, List.not_mem_nil, or_false, not_or]
      refine ⟨?_, loop_free _ (by omega)⟩
      first
        | exact ⟨⟨by decide, digs_free (dec_facts _).1⟩, by decide⟩
        | exact ⟨digs_free (dec_facts _).1, by decide⟩
        | exact ⟨by decide, digs_free (dec_facts _).1⟩
    · simp only [List.mem_append, List.mem_cons, List.not_mem_nil, or_false, not_or]
      first
        | exact ⟨⟨digs_free (dec_facts _).1, by decide⟩, loop_free _ (by omega)⟩
        | exact ⟨⟨⟨by decide, digs_free (dec_facts _).1⟩, by decide⟩, loop_free _ (by omega)⟩
theorem word_free (s : Tx) : (32 : UInt8) ∉ wordT s := by
  unfold wordT
  rw [List.mem_cons, not_or]
  exact ⟨by decide, quote_free s⟩
theorem kind_free {v : Int} (h1 : 1 ≤ v) (h2 : v ≤ 7) : (32 : UInt8) ∉ kindT v := by
  have : v = 1 ∨ v = 2 ∨ v = 3 ∨ v = 4 ∨ v = 5 ∨ v = 6 ∨ v = 7 := by omega
  rcases this with rfl | rfl | rfl | rfl | rfl | rfl | rfl <;> decide
theorem kind_back {v : Int} (h1 : 1 ≤ v) (h2 : v ≤ 7) : kindO (kindT v) = v := by
  have : v = 1 ∨ v = 2 ∨ v = 3 ∨ v = 4 ∨ v = 5 ∨ v = 6 ∨ v = 7 := by omega
  rcases this with rfl | rfl | rfl | rfl | rfl | rfl | rfl <;> decide
theorem words_free {h : Head} (hw : wrongH h = 0) : ∀ w ∈ wordsH h, (32 : UInt8) ∉ w := by
  obtain ⟨k1, k2, k3⟩ := kind_some hw
  obtain ⟨m1, m2, m3, m4, m5, m6, m7⟩ := wrong_nums hw
  intro w hm
  unfold wordsH headW at hm
  rw [List.mem_append] at hm
  rcases hm with hm | hm
  · simp only [List.mem_cons, List.not_mem_nil, or_false] at hm
    rcases hm with rfl | rfl | rfl | rfl | rfl | rfl | rfl | rfl | rfl | rfl | rfl | rfl
    · exact kind_free k1 k2
    · exact itoa_free _
    · exact itoa_free _
    · exact itoa_free _
    · exact itoa_free _
    · exact print_free _ _ m7
    · exact word_free _
    · exact word_free _
    · exact itoa_free _
    · exact itoa_free _
    · exact word_free _
    · exact word_free _
  · unfold pairW at hm
    rw [List.mem_flatMap] at hm
    obtain ⟨p, _, hm⟩ := hm
    simp only [List.mem_cons, List.not_mem_nil, or_false] at hm
    rcases hm with rfl | rfl <;> exact word_free _
theorem line_words {h : Head} (hw : wrongH h = 0) : splitL 32 (lineL h) = wordsH h := join_split 32 (wordsH h) (by unfold wordsH headW; simp) (words_free hw)
theorem num_back {v : Int} (h0 : 0 ≤ v) (h1 : v ≤ 9223372036854775807) : numO (Lib.itoa v) = some v := by
  obtain ⟨u, rfl⟩ := Int.eq_ofNat_of_zero_le h0
  unfold numO
  rw [Lib.itoa_nonneg, dec_natOk u (by omega), (dec_facts u).2.1, decide_eq_true (by omega)]
  rfl
theorem numW_back {v : Int} (h0 : 0 ≤ v) (h1 : v ≤ 9223372036854775807) : numW (Lib.itoa v) = v := by unfold numW; rw [num_back h0 h1]; rfl
theorem quote_ge : ∀ l : Tx, l.length ≤ (quoteL l).length
  | [] => Nat.le_refl _
  | c :: l => by
    have ih := quote_ge l
    have : 1 ≤ (qByte c).length := by unfold qByte; split <;> simp
    rw [quote_cons, List.length_append, List.length_cons]
    omega
theorem cut_word (s : Tx) : cutT (wordT s) = quoteL s := by unfold cutT wordT Lib.trimPrefix Lib.hasPrefix; simp [List.isPrefixOf]
theorem pre_word (s : Tx) : Lib.hasPrefix (wordT s) [61] = true := by unfold wordT Lib.hasPrefix; simp [List.isPrefixOf]
theorem text_back (s : Tx) : textO (wordT s) = some s ∧ textV (wordT s) = s := by
  have h := unq_quote s (quoteL s).length (quote_ge s)
  unfold textO textV
  rw [pre_word, if_pos rfl, cut_word, h]
  exact ⟨rfl, rfl⟩
theorem badN_no {w : Tx} {l : List Tx} {v : Int} (h : numO w = some v) : badN (w :: l) false = false := by unfold badN badW; rw [List.headD_cons, h]; rfl
theorem badT_no {s : Tx} {l : List Tx} : badT (wordT s :: l) false = false := by unfold badT badW; rw [List.headD_cons, (text_back s).1]; rfl
theorem pairs_back : ∀ l : List Pair, pairsP (pairW l) = l ∧ pairsB (pairW l) false = false
  | [] => ⟨rfl, rfl⟩
  | p :: l => by
    obtain ⟨h1, h2⟩ := pairs_back l
    rw [pairW_cons]
    constructor
    · show ⟨textV (wordT p.key), textV (wordT p.val)⟩ :: pairsP (pairW l) = _
      rw [h1, (text_back p.key).2, (text_back p.val).2]
    · show pairsB (pairW l) (badT (wordT p.val :: pairW l) (badT (wordT p.key :: wordT p.val :: pairW l) false)) = false
      rw [badT_no, badT_no, h2]
theorem head_back {h : Head} (hw : wrongH h = 0) (hb : Bd20 h) : headP (wordsH h) = h ∧ badP (wordsH h) = false := by
  obtain ⟨k1, k2, k3⟩ := kind_some hw
  obtain ⟨m1, m2, m3, m4, m5, m6, m7⟩ := wrong_nums hw
  have ht := time_print h.sec h.nano hb.sec m7
  obtain ⟨p1, p2⟩ := pairs_back h.extra
  have n1 := num_back m1 hb.mode.2
  have n2 := num_back m2 hb.uid.2
  have n3 := num_back m3 hb.gid.2
  have n4 := num_back m4 hb.size.2
  have n5 := num_back m5 hb.major.2
  have n6 := num_back m6 hb.minor.2
  constructor
  · unfold headP
    have e0 : W 0 (wordsH h) = kindT h.kind := rfl
    have e1 : W 1 (wordsH h) = Lib.itoa h.mode := rfl
    have e2 : W 2 (wordsH h) = Lib.itoa h.uid := rfl
    have e3 : W 3 (wordsH h) = Lib.itoa h.gid := rfl
    have e4 : W 4 (wordsH h) = Lib.itoa h.size := rfl
    have e5 : W 5 (wordsH h) = printL h.sec h.nano := rfl
    have e6 : W 6 (wordsH h) = wordT h.user := rfl
    have e7 : W 7 (wordsH h) = wordT h.group := rfl
    have e8 : W 8 (wordsH h) = Lib.itoa h.major := rfl
    have e9 : W 9 (wordsH h) = Lib.itoa h.minor := rfl
    have e10 : W 10 (wordsH h) = wordT h.name := rfl
    have e11 : W 11 (wordsH h) = wordT h.link := rfl
    have e12 : tl 12 (wordsH h) = pairW h.extra := rfl
    have et : timeV (printL h.sec h.nano) = (h.sec, h.nano) := by unfold timeV; rw [ht]; rfl
    rw [e0, e1, e2, e3, e4, e5, e6, e7, e8, e9, e10, e11, e12, kind_back k1 k2, numW_back m1 hb.mode.2, numW_back m2 hb.uid.2, numW_back m3 hb.gid.2, numW_back m4 hb.size.2, numW_back m5 hb.major.2, numW_back m6 hb.minor.2, et, (text_back _).2, (text_back _).2, (text_back _).2, (text_back _).2, p1]
  · unfold badP bad5
    have e1 : tl 1 (wordsH h) = Lib.itoa h.mode :: tl 2 (wordsH h) := rfl
    have e2 : tl 2 (wordsH h) = Lib.itoa h.uid :: tl 3 (wordsH h) := rfl
    have e3 : tl 3 (wordsH h) = Lib.itoa h.gid :: tl 4 (wordsH h) := rfl
    have e4 : tl 4 (wordsH h) = Lib.itoa h.size :: tl 5 (wordsH h) := rfl
    have e5 : W 5 (wordsH h) = printL h.sec h.nano := rfl
    have e6 : tl 6 (wordsH h) = wordT h.user :: tl 7 (wordsH h) := rfl
    have e7 : tl 7 (wordsH h) = wordT h.group :: tl 8 (wordsH h) := rfl
    have e8 : tl 8 (wordsH h) = Lib.itoa h.major :: tl 9 (wordsH h) := rfl
    have e9 : tl 9 (wordsH h) = Lib.itoa h.minor :: tl 10 (wordsH h) := rfl
    have e10 : tl 10 (wordsH h) = wordT h.name :: tl 11 (wordsH h) := rfl
    have e11 : tl 11 (wordsH h) = wordT h.link :: tl 12 (wordsH h) := rfl
    have e12 : tl 12 (wordsH h) = pairW h.extra := rfl
    have b0 : badW (wordsH h) false = false := rfl
    have b1 : badN (tl 1 (wordsH h)) false = false := by rw [e1]; exact badN_no n1
    have b2 : badN (tl 2 (wordsH h)) false = false := by rw [e2]; exact badN_no n2
    have b3 : badN (tl 3 (wordsH h)) false = false := by rw [e3]; exact badN_no n3
    have b4 : badN (tl 4 (wordsH h)) false = false := by rw [e4]; exact badN_no n4
    have b5 : badW (tl 5 (wordsH h)) false = false := rfl
    have b5' : badM (W 5 (wordsH h)) false = false := by rw [e5]; unfold badM; rw [ht]; rfl
    have b6 : badT (tl 6 (wordsH h)) false = false := by rw [e6]; exact badT_no
    have b7 : badT (tl 7 (wordsH h)) false = false := by rw [e7]; exact badT_no
    have b8 : badN (tl 8 (wordsH h)) false = false := by rw [e8]; exact badN_no n5
    have b9 : badN (tl 9 (wordsH h)) false = false := by rw [e9]; exact badN_no n6
    have b10 : badT (tl 10 (wordsH h)) false = false := by rw [e10]; exact badT_no
    have b11 : badT (tl 11 (wordsH h)) false = false := by rw [e11]; exact badT_no
    rw [b0, b1, b2, b3, b4, b5, b5', b6, b7, b8, b9, b10, b11, e12, p2]
/-- Whatever text it is: the head that its words tell is small. -/
def sumL : List Tx → Nat
  | [] => 0
  | w :: l => w.length + sumL l
theorem sum_split (c : UInt8) : ∀ l : Tx, sumL (splitL c l) ≤ l.length
  | [] => Nat.le_refl _
  | b :: l => by
    have ih := sum_split c l
    have hn := split_len c l
    rw [split_cons]
    cases hs : splitL c l with
    | nil => rw [hs] at hn; simp at hn
    | cons w ws =>
      rw [hs] at ih
      split
      · simp only [sumL, List.length_cons, List.length_nil] at ih ⊢; omega
      · simp only [sumL, List.headD_cons, List.tail_cons, List.length_cons] at ih ⊢; omega
theorem sumL_mem : ∀ (l : List Tx) (w : Tx), w ∈ l → w.length ≤ sumL l
  | x :: l, w, h => by
    simp only [sumL]
    rcases List.mem_cons.1 h with rfl | h
    · omega
    · have := sumL_mem l w h; omega
theorem sumL_tail (l : List Tx) : sumL l.tail ≤ sumL l := by
  cases l with
  | nil => exact Nat.le_refl _
  | cons w l => simp only [List.tail_cons, sumL]; omega
theorem sumL_tl (l : List Tx) : ∀ i, sumL (tl i l) ≤ sumL l
  | 0 => Nat.le_refl _
  | i + 1 => Nat.le_trans (sumL_tail _) (sumL_tl l i)
theorem unq_len : ∀ (f : Nat) (t s : Tx), unqL f t = some s → s.length ≤ t.length := fun f t s h => by
  have := quote_unq f t s h
  have := quote_ge s
  rw [quote_unq f t s h] at this
  exact this
theorem textV_len (w : Tx) : (textV w).length ≤ w.length := by
  unfold textV
  have hc := cutT_len w
  cases hu : unqL (cutT w).length (cutT w) with
  | none => exact Nat.zero_le _
  | some s => have := unq_len _ _ _ hu; rw [Option.getD_some]; omega
theorem pairs_small : ∀ l : List Tx, sumP (pairsP l) ≤ sumL l ∧ (pairsP l).length ≤ l.length
  | [] => ⟨Nat.le_refl _, Nat.le_refl _⟩
  | [w] => by
    have h1 := textV_len w
    have h2 := textV_len []
    simp only [pairsP, sumP, sumL, List.length_cons, List.length_nil] at h1 h2 ⊢
    omega
  | w :: v :: l => by
    have h1 := textV_len w
    have h2 := textV_len v
    obtain ⟨h3, h4⟩ := pairs_small l
    simp only [pairsP, sumP, sumL, List.length_cons] at h3 h4 ⊢
    omega
theorem pairs_half : ∀ l : List Tx, 2 * (pairsP l).length ≤ l.length + 1
  | [] => Nat.zero_le _
  | [w] => Nat.le_refl _
  | w :: v :: l => by
    have := pairs_half l
    simp only [pairsP, List.length_cons] at this ⊢
    omega
theorem numW_in (w : Tx) : -9223372036854775808 ≤ numW w ∧ numW w ≤ 9223372036854775807 := by
  unfold numW numO
  split
  · rename_i h
    rw [Bool.and_eq_true, decide_eq_true_eq] at h
    rw [Option.getD_some]
    omega
  · exact ⟨by decide, by decide⟩
theorem W_len (i : Nat) (l : List Tx) : (W i l).length ≤ sumL l := by
  have := head_mem (tl i l) (sumL l) fun w hw => Nat.le_trans (sumL_mem _ w hw) (sumL_tl l i)
  exact this
theorem head_small (line : Tx) (hl : line.length ≤ 3000) : Bd20 (headP (splitL 32 line)) ∧ (splitL 32 line).length ≤ 3001 ∧ ∀ w ∈ splitL 32 line, w.length ≤ 3000 := by
  have hs := sum_split 32 line
  have hn := split_len 32 line
  have hc := count_le 32 line
  generalize splitL 32 line = ws at hs hn ⊢
  have hw := fun i => Nat.le_trans (W_len i ws) hs
  have ht := fun i => textV_len (W i ws)
  obtain ⟨q1, q2⟩ := pairs_small (tl 12 ws)
  have q3 := sumL_tl ws 12
  have q4 : (tl 12 ws).length ≤ 3001 := tl_len (by omega) 12
  refine ⟨⟨⟨?_, ?_, ?_, ?_, ?_, fun p hp => ?_⟩, numW_in _, numW_in _, numW_in _, numW_in _, ?_, numW_in _, numW_in _, ?_, ?_⟩, by omega, fun w hm => Nat.le_trans (sumL_mem _ w hm) (by omega)⟩
  · have := hw 10; have := ht 10; show (textV (W 10 ws)).length ≤ 400000; omega
  · have := hw 11; have := ht 11; show (textV (W 11 ws)).length ≤ 400000; omega
  · have := hw 6; have := ht 6; show (textV (W 6 ws)).length ≤ 400000; omega
  · have := hw 7; have := ht 7; show (textV (W 7 ws)).length ≤ 400000; omega
  · show (pairsP (tl 12 ws)).length ≤ 100000; omega
  · have := sum_mem (pairsP (tl 12 ws)) p hp; omega
  · show -9223372036854775808 ≤ (timeV (W 5 ws)).1 ∧ (timeV (W 5 ws)).1 ≤ 9223372036854775807
    unfold timeV
    cases h5 : timeL (W 5 ws) with
    | none => exact ⟨by decide, by decide⟩
    | some p => exact (print_time (p := p.1) (r := p.2) h5).1
  · show (pairsP (tl 12 ws)).length ≤ 2000
    have := pairs_half (tl 12 ws)
    omega
  · show sumP (pairsP (tl 12 ws)) ≤ 400000; omega
end Go.Proofs.YtogfcfgfkggmlaaGreatDoor.Eng.U


/- Overlays in plain words, part 2: laid one by one. No program. -/
set_option linter.unusedVariables false
set_option linter.unusedSimpArgs false
namespace Go.Proofs.YtogfcfgfkggmlaaGreatDoor.Eng.U
open Go Go.Proofs Go.Proofs.YtogfcfgfkggmlaaGreatDoor.Eng

end Go.Proofs.YtogfcfgfkggmlaaGreatDoor.Eng.U


/- Overlays, the program's side: laid one by one; what is said of a head, both sides. -/
set_option linter.unusedVariables false
set_option linter.unusedSectionVars false
set_option linter.unusedSimpArgs false
namespace Go.Proofs.YtogfcfgfkggmlaaGreatDoor.Eng.U
open Go Go.Proofs Go.Proofs.YtogfcfgfkggmlaaGreatDoor.Eng Go.Proofs.YtogfcfgfkggmlaaGreatDoor.P04
variable {E : Ext} [Core E] {k n : Nat}

class HasIns (E : Ext) : Prop where
  ins : ∀ (k n : Nat) (xs : List Pair) (i : Nat) (p : Pair), i ≤ xs.length → xs.length ≤ 1000000 → kp E k n slices_Insert_api_Pair [.fresh 29 (prs xs), .int .i64 (i : Int), .fresh 29 [elPair p]] = some (.lback (.fresh 29 (prs (xs.take i ++ p :: xs.drop i))) [])
  del : ∀ (k n : Nat) (xs : List Pair) (i : Nat), i < xs.length → xs.length ≤ 1000000 → kp E k n slices_Delete_api_Pair [.fresh 29 (prs xs), .int .i64 (i : Int), .int .i64 ((i + 1 : Nat) : Int)] = some (.lback (.fresh 29 (prs (xs.take i ++ xs.drop (i + 1)))) [])
  cmp : ∀ (k n : Nat) (a b : Tx), kp E k n strings_Compare [.str (str a), .str (str b)] = some (.int .i64 (Lib.compareBytes a b))
section
variable [HasIns E]
end
/-! What pairs say of a head. -/
end Go.Proofs.YtogfcfgfkggmlaaGreatDoor.Eng.U


/- What pairs say of a head: the whole, both sides; two heads that are the same. -/
set_option linter.unusedVariables false
set_option linter.unusedSectionVars false
set_option linter.unusedSimpArgs false
namespace Go.Proofs.YtogfcfgfkggmlaaGreatDoor.Eng.U
open Go Go.Proofs Go.Proofs.YtogfcfgfkggmlaaGreatDoor.Eng Go.Proofs.YtogfcfgfkggmlaaGreatDoor.P04
variable {E : Ext} [Core E] [HasNum E] {k n : Nat}

theorem sameHead_k (a b : Head) (ha : a.extra.length ≤ 1000000) (hk : a.extra.length < k) : kp E k (n + 2) ref08_SameHead [.agg (encHead a), .agg (encHead b)] = some (.bool (decide (a = b))) := by
  unfold encHead
  rw [ref08_SameHead_eq, pSame_k (n := n) a.extra b.extra ha hk, callB_ok, str_dec, str_dec, str_dec, str_dec]
  have e : decide (a = b) = (decide (a.kind = b.kind) && (decide (a.name = b.name) && (decide (a.link = b.link) && (decide (a.mode = b.mode) && (decide (a.uid = b.uid) && (decide (a.gid = b.gid) && (decide (a.size = b.size) && ((decide (a.sec = b.sec) && (decide (a.nano = b.nano) && true)) && (decide (a.user = b.user) && (decide (a.group = b.group) && (decide (a.major = b.major) && (decide (a.minor = b.minor) && decide (a.extra = b.extra))))))))))))) := by
    rw [Bool.eq_iff_iff]
    simp only [Bool.and_eq_true, decide_eq_true_eq, and_true]
    constructor
    · rintro rfl; simp
    · rintro ⟨h1, h2, h3, h4, h5, h6, h7, ⟨h8, h9⟩, h10, h11, h12, h13, h14⟩
      cases a; cases b
      simp only at h1 h2 h3 h4 h5 h6 h7 h8 h9 h10 h11 h12 h13 h14
      subst h1 h2 h3 h4 h5 h6 h7 h8 h9 h10 h11 h12 h13 h14
      rfl
  rw [e]
  generalize decide (a.kind = b.kind) = x1
  generalize decide (a.name = b.name) = x2
  generalize decide (a.link = b.link) = x3
  generalize decide (a.mode = b.mode) = x4
  generalize decide (a.uid = b.uid) = x5
  generalize decide (a.gid = b.gid) = x6
  generalize decide (a.size = b.size) = x7
  generalize (decide (a.sec = b.sec) && (decide (a.nano = b.nano) && true)) = x8
  generalize decide (a.user = b.user) = x9
  generalize decide (a.group = b.group) = x10
  generalize decide (a.major = b.major) = x11
  generalize decide (a.minor = b.minor) = x12
  generalize decide (a.extra = b.extra) = x13
  cases x1
  · rfl
  cases x2
  · rfl
  cases x3
  · rfl
  cases x4
  · rfl
  cases x5
  · rfl
  cases x6
  · rfl
  cases x7
  · rfl
  cases x8
  · rfl
  cases x9
  · rfl
  cases x10
  · rfl
  cases x11
  · rfl
  cases x12
  · rfl
  rfl
end Go.Proofs.YtogfcfgfkggmlaaGreatDoor.Eng.U


/- A head's fourteen cells, taken out of an answer. -/
set_option linter.unusedVariables false
namespace Go.Proofs.YtogfcfgfkggmlaaGreatDoor.Eng.U
open Go Go.Proofs Go.Proofs.YtogfcfgfkggmlaaGreatDoor.Eng

theorem tup14 (a : Head) (t : List AV) (K : Int → ByteArray → ByteArray → Int → Int → Int → Int → Int → Int → ByteArray → ByteArray → Int → Int → List AV → List AV → Option AV) :
    (tupG 14 (.agg (encHead a) :: t) fun vg vt => cellI .i64 vg 0 fun v0 => cellS vg 1 fun v1 => cellS vg 2 fun v2 => cellI .i64 vg 3 fun v3 => cellI .i64 vg 4 fun v4 => cellI .i64 vg 5 fun v5 => cellI .i64 vg 6 fun v6 => cellI .i64 vg 7 fun v7 => cellI .i64 vg 8 fun v8 => cellS vg 9 fun v9 => cellS vg 10 fun v10 => cellI .i64 vg 11 fun v11 => cellI .i64 vg 12 fun v12 => cellL 2 vg 13 fun v13 => K v0 v1 v2 v3 v4 v5 v6 v7 v8 v9 v10 v11 v12 v13 vt) =
      K a.kind (str a.name) (str a.link) a.mode a.uid a.gid a.size a.sec a.nano (str a.user) (str a.group) a.major a.minor (prs a.extra) t := by kernel_rfl
end Go.Proofs.YtogfcfgfkggmlaaGreatDoor.Eng.U


/- The laws of lines in plain words: TaleLines, TaleBack. -/
set_option linter.unusedVariables false
set_option linter.unusedSectionVars false
set_option linter.unusedSimpArgs false
namespace Go.Proofs.YtogfcfgfkggmlaaGreatDoor.Eng.U
open Go Go.Proofs Go.Proofs.YtogfcfgfkggmlaaGreatDoor.Eng Go.Proofs.YtogfcfgfkggmlaaGreatDoor.P04
variable {E : Ext} [Core E] [HasNum E] [HasTextV E] [HasQuote E] [HasJn E] [HasCount E] {k n k0 kk : Nat}

def headA : Head := ⟨1, [97], [], 420, 0, 0, 3, 0, 0, [], [], 0, 0, []⟩
def lineA : Tx := [102, 105, 108, 101, 32, 52, 50, 48, 32, 48, 32, 48, 32, 51, 32, 48, 32, 61, 32, 61, 32, 48, 32, 48, 32, 61, 97, 32, 61]
theorem dec_one {u : Nat} (h : u < 10) : Lib.decDigits u = [UInt8.ofNat (48 + u)] := by rw [Lib.decDigits, dif_pos h]
theorem lineA_eq : lineL headA = lineA := by
  have h0 : Lib.itoa 0 = [48] := by rw [show (0 : Int) = ((0 : Nat) : Int) from rfl, Lib.itoa_nonneg, dec_one (by omega)]; rfl
  have h3 : Lib.itoa 3 = [51] := by rw [show (3 : Int) = ((3 : Nat) : Int) from rfl, Lib.itoa_nonneg, dec_one (by omega)]; rfl
  have h420 : Lib.itoa 420 = [52, 50, 48] := by rw [show (420 : Int) = ((420 : Nat) : Int) from rfl, Lib.itoa_nonneg, decDigits_rec (by omega), decDigits_rec (by omega), dec_one (by omega)]; rfl
  unfold lineL wordsH headW headA
  dsimp only
  have hp : printL 0 0 = [48] := by unfold printL; rw [if_pos rfl, h0]
  rw [h0, h3, h420, hp]
  rfl
theorem wrongA : wrongH headA = 0 := by decide
theorem bdA : Bd20 headA := ⟨⟨by decide, by decide, by decide, by decide, by decide, by simp [headA]⟩, by decide, by decide, by decide, by decide, by decide, by decide, by decide, by decide, by decide⟩
theorem words_len {h : Head} (hb : Bd20 h) (hw : wrongH h = 0) : (wordsH h).length ≤ 900000 ∧ ∀ w ∈ wordsH h, w.length ≤ 10000000 := by
  have h1 := line_len hb hw
  have h2 := sum_split 32 (lineL h)
  rw [line_words hw] at h2
  refine ⟨?_, fun w hm => by have := sumL_mem _ w hm; omega⟩
  unfold wordsH headW
  rw [List.length_append, pairW_len]
  have := hb.few
  simp only [List.length_cons, List.length_nil]
  omega
theorem head_line {h : Head} (hb : Bd20 h) (hw : wrongH h = 0) (hkk : 200000000 < kk) : kp E (kk + 6) (n + 10) tale_Head [.str (str (lineL h))] = some (.tup [.agg (encHead h), .int .u8 0]) := by
  have hl := line_len hb hw
  obtain ⟨b1, b2⟩ := words_len hb hw
  obtain ⟨e1, e2⟩ := head_back hw hb
  have hs := line_words hw
  have := head_k (E := E) (n := n) (lineL h) kk hkk (by omega) (by rw [hs]; exact b1) (by rw [hs]; exact b2) (by rw [hs, e1]; exact hb)
  rw [hs, e1, e2, endH_yes hw rfl] at this
  exact this
theorem alive20 (hkk : 200000000 < kk) : kp E (kk + 6) (n + 11) law20_alive [] = some (.bool true) := by
  have h1 := line_k (E := E) (k := kk + 6) (n := n + 1) headA bdA (by omega)
  have h2 := head_line (E := E) (n := n) (kk := kk) bdA wrongA hkk
  rw [if_pos wrongA] at h1
  rw [lineA_eq] at h1 h2
  have h1' : kp E (kk + 6) (n + 10) tale_Line [(.agg [(.int .i64 (1 : Int)), (.str (str [97])), (.str (str [])), (.int .i64 (420 : Int)), (.int .i64 (0 : Int)), (.int .i64 (0 : Int)), (.int .i64 (3 : Int)), (.int .i64 (0 : Int)), (.int .i64 (0 : Int)), (.str (str [])), (.str (str [])), (.int .i64 (0 : Int)), (.int .i64 (0 : Int)), (.list 2 [])])] = _ := h1
  have h2' : kp E (kk + 6) (n + 10) tale_Head [(.str (str [102, 105, 108, 101, 32, 52, 50, 48, 32, 48, 32, 48, 32, 51, 32, 48, 32, 61, 32, 61, 32, 48, 32, 48, 32, 61, 97, 32, 61]))] = _ := h2
  rw [law20_alive_eq, h1', callT_ok, tupS_ok, tupI_ok, atNil_ok, h2', callT_ok]
  rfl
/-- What a short text is told to be. -/
theorem head_any (line : Tx) (hl : line.length ≤ 3000) (hkk : 200000000 < kk) : ∃ r, kp E (kk + 6) (n + 10) tale_Head [.str (str line)] = some r ∧
    (r = .tup [.agg (encHead noHead), .int .u8 15] ∨ ∃ h, r = .tup [.agg (encHead h), .int .u8 0] ∧ wrongH h = 0 ∧ lineL h = line ∧ Bd20 h) := by
  obtain ⟨b1, b2, b3⟩ := head_small line hl
  have := head_k (E := E) (n := n) line kk hkk (by omega) (by omega) (fun w hw => by have := b3 w hw; omega) b1
  by_cases hc : badP (splitL 32 line) = false ∧ wrongH (headP (splitL 32 line)) = 0 ∧ lineL (headP (splitL 32 line)) = line
  · rw [hc.1, endH_yes hc.2.1 hc.2.2] at this
    exact ⟨_, this, .inr ⟨_, rfl, hc.2.1, hc.2.2, b1⟩⟩
  · rw [endH_no hc] at this
    exact ⟨_, this, .inl rfl⟩
end Go.Proofs.YtogfcfgfkggmlaaGreatDoor.Eng.U


/- ItemWrong in plain words: it answers true. -/
set_option linter.unusedVariables false
set_option linter.unusedSectionVars false
set_option linter.unusedSimpArgs false
namespace Go.Proofs.YtogfcfgfkggmlaaGreatDoor.Eng.U
open Go Go.Proofs Go.Proofs.YtogfcfgfkggmlaaGreatDoor.Eng Go.Proofs.YtogfcfgfkggmlaaGreatDoor.P04
variable {E : Ext} [Core E] [HasNum E] {k n : Nat}

end Go.Proofs.YtogfcfgfkggmlaaGreatDoor.Eng.U


/- ItemFulls over the library's pieces: strings.IndexAny at "=\\x00", decoding beside the numbers' own. -/
set_option linter.unusedVariables false
set_option linter.unusedSectionVars false
set_option linter.unusedSimpArgs false
namespace Go.Proofs.YtogfcfgfkggmlaaGreatDoor.Eng.U
open Go Go.Proofs Go.Proofs.YtogfcfgfkggmlaaGreatDoor.Eng Go.RowKit

/-- The tables of the decoder, off the variables. -/
theorem utf_tabs {S : Stab} {w : World} (hag : Agree S w) (hG : GlobOk glob S w) : Lib.Utf8Tabs 5 6 w := by
  refine ⟨fun c hc => ?_, fun i hi => ?_⟩
  · obtain ⟨u, hu, hv⟩ := glob_cell (g := 5) hag hG rfl c (.int .u8 (Lib.firstT c : Int)) (by rw [List.getElem?_map, List.getElem?_range hc]; rfl)
    rw [V_int hv] at hu
    exact hu
  · obtain ⟨u, hu, hv⟩ := glob_cell (g := 6) hag hG rfl (2 * i) (.int .u8 (Lib.accLo i : Int)) (by
      rw [List.getElem?_map, List.getElem?_range (by omega)]
      show some (AV.int .u8 (((if 2 * i % 2 = 0 then Lib.accLo (2 * i / 2) else Lib.accHi (2 * i / 2) : Nat) : Int))) = _
      rw [if_pos (by omega), show 2 * i / 2 = i from by omega])
    obtain ⟨u', hu', hv'⟩ := glob_cell (g := 6) hag hG rfl (2 * i + 1) (.int .u8 (Lib.accHi i : Int)) (by
      rw [List.getElem?_map, List.getElem?_range (by omega)]
      show some (AV.int .u8 (((if (2 * i + 1) % 2 = 0 then Lib.accLo ((2 * i + 1) / 2) else Lib.accHi ((2 * i + 1) / 2) : Nat) : Int))) = _
      rw [if_neg (by omega), show (2 * i + 1) / 2 = i from by omega])
    rw [V_int hv] at hu
    rw [V_int hv'] at hu'
    exact ⟨hu, hu'⟩
def pDec : Piece := { f := unicode_utf8_DecodeRuneInString, ans := fun args => match args with
  | [.str s] => some (.tup [.int .i32 (Lib.decodeGo s).1, .int .i64 (Lib.decodeGo s).2])
  | _ => none }
theorem dec_right : pDec.Right := by
  refine ⟨⟨Tryz.f271, Tryz.func271, by kernel_rfl, by kernel_rfl⟩, fun args res h => ?_⟩
  unfold pDec at h
  dsimp only at h
  split at h
  · rename_i s
    obtain rfl := Option.some.inj h
    refine ok_tup rfl fun S w vals hag hG hV => ?_
    obtain ⟨v, rfl, hv⟩ := VL_1 hV
    obtain rfl := V_str hv
    refine (Tryz.utf8_DecodeRuneInString s w (utf_tabs hag hG)).mono ?_
    rintro e w' ⟨rfl, hb⟩
    exact ⟨[_, _], rfl, rfl, fun S' => V2 (V.int _ _) (V.int _ _), hb⟩
  · cases h
def ps09a : List Piece := [pFmt, pItoa, pCutP, pTrimR, pIndex, pIndexByte, pRepeat, pPInt, pPUint, pDec]
def ext09a : Ext := { extOf ps09a with fs := strings_IndexAny :: coreFs }
theorem good09b (k : Nat) : (bs (extOf ps09a) k).Good := good_of (fun p hp => by
  simp only [ps09a, List.mem_cons, List.not_mem_nil, or_false] at hp
  rcases hp with rfl | rfl | rfl | rfl | rfl | rfl | rfl | rfl | rfl | rfl
  · exact fmt_right
  · exact itoa_right
  · exact cutP_right
  · exact trimR_right
  · exact index_right
  · exact indexByte_right
  · exact repeat_right
  · exact pInt_right
  · exact pUint_right
  · exact dec_right) names_ok k
theorem good09a (k : Nat) : (bs ext09a k).Good := { mixed := by kernel_rfl, names := by kernel_rfl, base := (good09b k).base }
instance core09a : Core ext09a where
  isB f hf := (core_of (ps := ps09a) (by kernel_rfl)).isB f hf
  has f hf := by
    show (strings_IndexAny :: coreFs).contains f = true
    rw [List.contains_cons, hf, Bool.or_true]
instance ib09a : HasIB ext09a := ⟨fun k n s c => (kp_base (E := ext09a) (by kernel_rfl)).trans rfl⟩
noncomputable def pAny : Piece := { f := strings_IndexAny, ans := fun args => match args with
  | [.str s, .str c] => bif decide (c = str [61, 0]) && decide (s.size ≤ 1000000) then (bif decide (8 < s.size) then some (.int .i64 (Lib.indexAny s.data.toList [61, 0])) else (bs ext09a 100).kap 3 strings_IndexAny [.str s, .str c]) else none
  | _ => none }
theorem any_right : pAny.Right := by
  refine ⟨⟨Tryz.f210, Tryz.func210, by kernel_rfl, by kernel_rfl⟩, fun args res h => ?_⟩
  unfold pAny at h
  dsimp only at h
  split at h
  · rename_i s c
    obtain ⟨hc, h'⟩ := some_of_bif h
    clear h
    simp only [Bool.and_eq_true, decide_eq_true_eq] at hc
    obtain ⟨rfl, h1⟩ := hc
    by_cases h8 : 8 < s.size
    · rw [decide_eq_true h8, cond_true] at h'
      obtain rfl := Option.some.inj h'
      refine ok_pure ⟨rfl, rfl⟩ fun S w vals hag hG hV => ?_
      obtain ⟨v, u, rfl, hv, hu⟩ := VL_2 hV
      obtain rfl := V_str hv
      obtain rfl := V_str hu
      have h2 : ∀ (j : Nat) b, (str [61, 0]).data.toList[j]? = some b → b.toNat < 128 := by
        intro j b hb
        match j, hb with
        | 0, hb => cases hb; decide
        | 1, hb => cases hb; decide
        | j + 2, hb => simp [str] at hb
      refine (Tryz.strings_IndexAny_long (fun w => by kernel_rfl) s (str [61, 0]) w (by decide) h8 (by omega) (by decide) h2).mono ?_
      rintro e w' ⟨rfl, rfl⟩
      exact ⟨_, rfl, fun S' => V.int _ _, ((Below.refl _ _).alloc (Nat.le_refl _) _).alloc (by simp) _⟩
    · rw [decide_eq_false h8, cond_false] at h'
      exact Base.ok (good09a 100) h'
  · cases h
noncomputable def ps09 : List Piece := [pFmt, pItoa, pCutP, pTrimR, pIndex, pIndexByte, pRepeat, pPInt, pPUint, pDec, pAny]
noncomputable def ext09 : Ext := extOf ps09
instance core09 : Core ext09 := core_of (by kernel_rfl)
instance num09 : HasNum ext09 := num_of rfl rfl rfl rfl rfl rfl rfl rfl rfl
instance text09 : HasText ext09 where
  dec k n s := ⟨_, _, (kp_piece (ps := ps09) (p := pDec) (k := k) (n := n) (args := [.str (str s)]) rfl).trans rfl⟩
  idx k n s hs := by
    have h := kp_piece (ps := ps09) (p := pAny) (k := k) (n := n) (args := [.str (str s), .str (str [61, 0])]) rfl
    have e : pAny.ans [.str (str s), .str (str [61, 0])] = (bif decide (str [61, 0] = str [61, 0]) && decide ((str s).size ≤ 1000000) then (bif decide (8 < (str s).size) then some (.int .i64 (Lib.indexAny (str s).data.toList [61, 0])) else (bs ext09a 100).kap 3 strings_IndexAny [.str (str s), .str (str [61, 0])]) else none) := rfl
    rw [e, str_size, decide_eq_true rfl, decide_eq_true hs, Bool.true_and, cond_true] at h
    by_cases h8 : 8 < s.length
    · rw [decide_eq_true h8, cond_true] at h
      exact ⟨_, h⟩
    · rw [decide_eq_false h8, cond_false] at h
      obtain ⟨r, hr⟩ := any_short (E := ext09a) (k := 100) (n := 0) (by kernel_rfl) (by kernel_rfl) (by omega) s (by omega)
      exact ⟨r, h.trans hr⟩
instance textV09 : HasTextV ext09 where
  dec k n s := (kp_piece (ps := ps09) (p := pDec) (k := k) (n := n) (args := [.str s]) rfl).trans rfl
  idx k n s hs := by
    have h := kp_piece (ps := ps09) (p := pAny) (k := k) (n := n) (args := [.str (str s), .str (str [61, 0])]) rfl
    have e : pAny.ans [.str (str s), .str (str [61, 0])] = (bif decide (str [61, 0] = str [61, 0]) && decide ((str s).size ≤ 1000000) then (bif decide (8 < (str s).size) then some (.int .i64 (Lib.indexAny (str s).data.toList [61, 0])) else (bs ext09a 100).kap 3 strings_IndexAny [.str (str s), .str (str [61, 0])]) else none) := rfl
    rw [e, str_size, decide_eq_true rfl, decide_eq_true hs, Bool.true_and, cond_true] at h
    by_cases h8 : 8 < s.length
    · rw [decide_eq_true h8, cond_true] at h
      exact ⟨_, h, any_long_v s⟩
    · rw [decide_eq_false h8, cond_false] at h
      obtain ⟨r, hr, hv⟩ := any_short_v (E := ext09a) (k := 100) (n := 0) (by kernel_rfl) (by kernel_rfl) (by omega) s (by omega)
      exact ⟨r, h.trans hr, hv⟩
end Go.Proofs.YtogfcfgfkggmlaaGreatDoor.Eng.U


/- strings.Join as a piece (for seats that have no paths). -/
set_option linter.unusedVariables false
set_option linter.unusedSectionVars false
set_option linter.unusedSimpArgs false
namespace Go.Proofs.YtogfcfgfkggmlaaGreatDoor.Eng.U
open Go Go.Proofs Go.Proofs.YtogfcfgfkggmlaaGreatDoor.Eng Go.RowKit

def pJoin : Piece := { f := strings_Join, ans := fun args => match args with
  | [.list sz xs, .str sep] => (toStrs xs).bind fun l => bif (sz == 1) && decide (l.length ≤ 1000000) && decide ((sep.data.toList.intercalate l).length ≤ 1000000000) then some (.str (str (sep.data.toList.intercalate l))) else none
  | _ => none }
theorem join_right : pJoin.Right := by
  refine ⟨⟨Tryz.f109, Tryz.func109, by kernel_rfl, by kernel_rfl⟩, fun args res h => ?_⟩
  unfold pJoin at h
  dsimp only at h
  split at h
  · rename_i sz xs sep
    obtain ⟨l, hl, h⟩ := Option.bind_eq_some_iff.1 h
    obtain ⟨hc, h'⟩ := some_of_bif h
    clear h
    simp only [Bool.and_eq_true, beq_iff_eq, decide_eq_true_eq] at hc
    obtain ⟨⟨rfl, h1⟩, h2⟩ := hc
    obtain rfl := Option.some.inj h'
    obtain rfl := toStrs_some hl
    refine ok_pure ⟨rfl, rfl⟩ fun S w vals hag hG hV => ?_
    obtain ⟨v, u, rfl, hv, hu⟩ := VL_2 hV
    obtain rfl := V_str hu
    have key : ∀ (l : List (List UInt8)), (l.map str).map (fun s => s.data.toList) = l := by
      intro l
      rw [List.map_map]
      conv => rhs; rw [← List.map_id l]
      rfl
    have none_case : ∀ (a : Option Addr) (c : Nat), Calls Tryz.prog strings_Join #[.slice a 0 c, .string sep] w fun e w' => ∃ v, e = .returned v ∧ (∀ S', V S' (.str (str (sep.data.toList.intercalate ([] : List (List UInt8))))) v) ∧ Below w.heap.size w w' := by
      intro a c
      refine (Tryz.strings_Join_none a c sep w).mono ?_
      rintro e w' ⟨rfl, rfl⟩
      exact ⟨_, rfl, fun S' => V.str _, Below.refl _ _⟩
    cases l with
    | nil =>
      cases hv with
      | list0 _ a c => exact none_case _ _
      | listn _ => exact none_case _ _
      | list _ _ a c f => exact none_case _ _
    | cons p l =>
      have hv : V S (.list 1 (svs (p :: l))) v := hv
      generalize hxs : svs (p :: l) = xs at hv
      cases hv with
      | list0 _ a c => simp [svs] at hxs
      | listn _ => simp [svs] at hxs
      | list _ _ a c f g0 g1 g2 g3 g4 =>
        subst hxs
        have hcell : ∀ (j : Nat) (x : List UInt8), (p :: l)[j]? = some x → w.cell? (a.add (j * 1 + 0)) = some (.string (str x)) := by
          intro j x hx
          have hsx : (svs (p :: l))[j]? = some (sv x) := by unfold svs; rw [List.getElem?_map, hx]; rfl
          have h3 := g3 j (sv x) 0 (.str (str x)) hsx rfl
          have h4 := g4 j (sv x) 0 (.str (str x)) hsx rfl
          rw [V_str h4] at h3
          exact hag _ _ h3
        have ha : a.spot = none := by
          have := hcell 0 p rfl
          apply Classical.byContradiction
          intro hs
          obtain ⟨b, o, s⟩ := a
          cases s with
          | none => exact hs rfl
          | some s =>
            simp [Addr.add, World.cell?] at this
            split at this <;> cases this
        obtain ⟨b, o, s⟩ := a
        obtain rfl : s = none := ha
        have hlen : ((p :: l).map str).length = (svs (p :: l)).length := by simp [svs]
        have hlt : b < w.heap.size := by
          have := World.block_lt_of_cell? w _ (hcell 0 p rfl)
          simpa [Addr.add] using this
        have := Tryz.strings_Join b o c ((p :: l).map str) sep w (fun j x hx => by
          rw [List.getElem?_map] at hx
          obtain ⟨y, hy, rfl⟩ := Option.map_eq_some_iff.1 hx
          have := hcell j y hy
          rwa [add_lit', show o + (j * 1 + 0) = o + j from by omega] at this) hlt (by rw [hlen, svs_len]; omega) (by rw [hlen]; exact g0) (by rw [key]; unfold Lib.join; omega)
        rw [hlen, key] at this
        refine this.mono ?_
        rintro e w' ⟨rfl, hb⟩
        exact ⟨_, rfl, fun S' => V.str _, hb⟩
  · cases h
end Go.Proofs.YtogfcfgfkggmlaaGreatDoor.Eng.U


/- strings.Count at a text of one byte, as a piece. -/
set_option linter.unusedVariables false
set_option linter.unusedSectionVars false
set_option linter.unusedSimpArgs false
namespace Go.Proofs.YtogfcfgfkggmlaaGreatDoor.Eng.U
open Go Go.RowKit Go.Proofs Go.Proofs.YtogfcfgfkggmlaaGreatDoor.Eng

def pCount : Piece := { f := strings_Count, ans := fun args => match args with
  | [.str s, .str c] => (one c).bind fun x => some (.int .i64 ((Lib.countByte s.data.toList x : Nat) : Int))
  | _ => none }
theorem count_right : pCount.Right := by
  refine ⟨⟨Tryz.f233, Tryz.func233, by kernel_rfl, by kernel_rfl⟩, fun args res h => ?_⟩
  unfold pCount at h
  dsimp only at h
  split at h
  · rename_i s c
    obtain ⟨x, hx, h⟩ := Option.bind_eq_some_iff.1 h
    obtain rfl := one_some hx
    obtain rfl := Option.some.inj h
    refine ok_pure ⟨rfl, rfl⟩ fun S w vals hag hG hV => ?_
    obtain ⟨v, u, rfl, hv, hu⟩ := VL_2 hV
    obtain rfl := V_str hv
    obtain rfl := V_str hu
    refine (Tryz.strings_Count_one s x w).mono ?_
    rintro e w' ⟨rfl, rfl⟩
    exact ⟨_, rfl, fun S' => V.int _ _, Below.refl _ _⟩
  · cases h
end Go.Proofs.YtogfcfgfkggmlaaGreatDoor.Eng.U


/- The library's functions, text.Quote and strings.Join, given together. -/
set_option linter.unusedVariables false
set_option linter.unusedSectionVars false
set_option linter.unusedSimpArgs false
namespace Go.Proofs.YtogfcfgfkggmlaaGreatDoor.Eng.U
open Go Go.RowKit Go.Proofs Go.Proofs.YtogfcfgfkggmlaaGreatDoor.Eng

noncomputable def ps20 : List Piece := [pFmt, pItoa, pCutP, pTrimR, pIndex, pIndexByte, pRepeat, pPInt, pPUint, pDec, pAny, pQuote, pJoin, pCount]
noncomputable def ext20 : Ext := extOf ps20
instance core20 : Core ext20 := core_of (by kernel_rfl)
instance num20 : HasNum ext20 := num_of rfl rfl rfl rfl rfl rfl rfl rfl rfl
instance text20 : HasText ext20 where
  dec k n s := ⟨_, _, (kp_piece (ps := ps20) (p := pDec) (k := k) (n := n) (args := [.str (str s)]) rfl).trans rfl⟩
  idx k n s hs := by
    have h := kp_piece (ps := ps20) (p := pAny) (k := k) (n := n) (args := [.str (str s), .str (str [61, 0])]) rfl
    have e : pAny.ans [.str (str s), .str (str [61, 0])] = (bif decide (str [61, 0] = str [61, 0]) && decide ((str s).size ≤ 1000000) then (bif decide (8 < (str s).size) then some (.int .i64 (Lib.indexAny (str s).data.toList [61, 0])) else (bs ext09a 100).kap 3 strings_IndexAny [.str (str s), .str (str [61, 0])]) else none) := rfl
    rw [e, str_size, decide_eq_true rfl, decide_eq_true hs, Bool.true_and, cond_true] at h
    by_cases h8 : 8 < s.length
    · rw [decide_eq_true h8, cond_true] at h
      exact ⟨_, h⟩
    · rw [decide_eq_false h8, cond_false] at h
      obtain ⟨r, hr⟩ := any_short (E := ext09a) (k := 100) (n := 0) (by kernel_rfl) (by kernel_rfl) (by omega) s (by omega)
      exact ⟨r, h.trans hr⟩
instance textV20 : HasTextV ext20 where
  dec k n s := (kp_piece (ps := ps20) (p := pDec) (k := k) (n := n) (args := [.str s]) rfl).trans rfl
  idx k n s hs := by
    have h := kp_piece (ps := ps20) (p := pAny) (k := k) (n := n) (args := [.str (str s), .str (str [61, 0])]) rfl
    have e : pAny.ans [.str (str s), .str (str [61, 0])] = (bif decide (str [61, 0] = str [61, 0]) && decide ((str s).size ≤ 1000000) then (bif decide (8 < (str s).size) then some (.int .i64 (Lib.indexAny (str s).data.toList [61, 0])) else (bs ext09a 100).kap 3 strings_IndexAny [.str (str s), .str (str [61, 0])]) else none) := rfl
    rw [e, str_size, decide_eq_true rfl, decide_eq_true hs, Bool.true_and, cond_true] at h
    by_cases h8 : 8 < s.length
    · rw [decide_eq_true h8, cond_true] at h
      exact ⟨_, h, any_long_v s⟩
    · rw [decide_eq_false h8, cond_false] at h
      obtain ⟨r, hr, hv⟩ := any_short_v (E := ext09a) (k := 100) (n := 0) (by kernel_rfl) (by kernel_rfl) (by omega) s (by omega)
      exact ⟨r, h.trans hr, hv⟩
instance quote20 : HasQuote ext20 where
  quote k n s hs := by
    have h := kp_piece (ps := ps20) (p := pQuote) (k := k) (n := n) (args := [.str (str s)]) rfl
    have e : pQuote.ans [.str (str s)] = (bif decide ((str s).size ≤ 1000000000) then some (.str (str (quoteL (str s).data.toList))) else none) := rfl
    rw [e, str_size, decide_eq_true hs, cond_true] at h
    exact h
instance join20 : HasJn ext20 := ⟨fun k n l sep h1 h2 => by
  have h := kp_piece (ps := ps20) (p := pJoin) (k := k) (n := n) (args := [.list 1 (svs l), .str (str sep)]) rfl
  refine h.trans ?_
  show (toStrs (svs l)).bind _ = _
  rw [toStrs_svs]
  show (bif (1 == 1) && decide (l.length ≤ 1000000) && decide ((sep.intercalate l).length ≤ 1000000000) then _ else none) = _
  rw [decide_eq_true h1, decide_eq_true h2]
  rfl⟩
instance count20 : HasCount ext20 := ⟨fun k n s x => (kp_piece (ps := ps20) (p := pCount) (k := k) (n := n) (args := [.str (str s), .str (str [x])]) rfl).trans rfl⟩
theorem good20 (k : Nat) : (bs ext20 k).Good := good_of (fun p hp => by
  simp only [ps20, List.mem_cons, List.not_mem_nil, or_false] at hp
  rcases hp with rfl | rfl | rfl | rfl | rfl | rfl | rfl | rfl | rfl | rfl | rfl | rfl | rfl | rfl
  · exact fmt_right
  · exact itoa_right
  · exact cutP_right
  · exact trimR_right
  · exact index_right
  · exact indexByte_right
  · exact repeat_right
  · exact pInt_right
  · exact pUint_right
  · exact dec_right
  · exact any_right
  · exact quote_right
  · exact join_right
  · exact count_right) names_ok k
end Go.Proofs.YtogfcfgfkggmlaaGreatDoor.Eng.U


/- An outcome's line and fields' names, both sides: TaleOutcomes in plain words. -/
set_option linter.unusedVariables false
set_option linter.unusedSectionVars false
set_option linter.unusedSimpArgs false
namespace Go.Proofs.YtogfcfgfkggmlaaGreatDoor.Eng.U
open Go Go.Proofs Go.Proofs.YtogfcfgfkggmlaaGreatDoor.Eng Go.Proofs.YtogfcfgfkggmlaaGreatDoor.P04
variable {E : Ext} [Core E] [HasNum E] {k n k0 kk : Nat}

theorem inb' {v m : Int} (h0 : 0 ≤ v) (h1 : v < m) : (decide ((0 : Int) ≤ v) && decide (v < m)) = true := by simp; omega
structure Outc where
  code : Int
  fcode : Int
  block : Int
  item : Int
  field : Int
  items : Int
  most : Int
def fieldsF : List Tx := [[107, 105, 110, 100], [110, 97, 109, 101], [108, 105, 110, 107], [109, 111, 100, 101], [117, 105, 100], [103, 105, 100], [115, 105, 122, 101], [116, 105, 109, 101], [117, 115, 101, 114], [103, 114, 111, 117, 112], [109, 97, 106, 111, 114], [109, 105, 110, 111, 114], [101, 120, 116, 114, 97], [114, 101, 99, 111, 114, 100, 115]]
def codesF : List Tx := [[102, 105, 110, 101], [110, 105, 108], [97, 114, 103], [115, 104, 111, 114, 116], [115, 117, 109], [110, 117, 109, 101, 114, 97, 108], [114, 101, 99, 111, 114, 100], [100, 97, 110, 103, 108, 105, 110, 103], [116, 114, 97, 105, 108, 101, 114], [102, 108, 97, 103], [110, 97, 109, 101], [115, 105, 122, 101], [108, 97, 114, 103, 101], [102, 105, 101, 108, 100], [115, 105, 110, 107], [102, 111, 114, 109], [110, 111, 110, 101]]
def fieldT (v : Int) : Tx := if 1 ≤ v ∧ v ≤ 14 then fieldsF.getD (v - 1).toNat [] else []
def codeT (c : Int) : Tx := if c < 17 then codesF.getD c.toNat [] else [111, 116, 104, 101, 114]
def outL (o : Outc) : Tx :=
  if o.code = 0 then [102, 105, 110, 101, 32] ++ Lib.itoa o.items
  else if o.code = 13 then [114, 101, 112, 111, 114, 116, 32] ++ Lib.itoa o.item ++ [32] ++ fieldT o.field ++ [32] ++ Lib.itoa o.items
  else if o.code = 14 then [115, 105, 110, 107]
  else [102, 97, 117, 108, 116, 32] ++ codeT o.code ++ [32] ++ Lib.itoa o.block ++ [32] ++ Lib.itoa o.items
structure OutR (o : Outc) : Prop where
  code : 0 ≤ o.code ∧ o.code ≤ 255
  block : -9223372036854775808 ≤ o.block ∧ o.block ≤ 9223372036854775807
  item : -9223372036854775808 ≤ o.item ∧ o.item ≤ 9223372036854775807
  field : -9223372036854775808 ≤ o.field ∧ o.field ≤ 9223372036854775807
  items : -9223372036854775808 ≤ o.items ∧ o.items ≤ 9223372036854775807
def numGo : List Tx → Nat → Tx → Int → Int
  | [], _, _, m => m
  | f :: l, i, s, m => numGo l (i + 1) s (if f = s then (i : Int) + 1 else m)
end Go.Proofs.YtogfcfgfkggmlaaGreatDoor.Eng.U


/- An outcome as a row hands it in. -/
set_option linter.unusedVariables false
set_option linter.unusedSimpArgs false
namespace Go.Proofs.YtogfcfgfkggmlaaGreatDoor.Eng.U
open Go Go.Proofs Go.Proofs.YtogfcfgfkggmlaaGreatDoor.Eng Go.Proofs.YtogfcfgfkggmlaaGreatDoor.Eng.Rdv

end Go.Proofs.YtogfcfgfkggmlaaGreatDoor.Eng.U

