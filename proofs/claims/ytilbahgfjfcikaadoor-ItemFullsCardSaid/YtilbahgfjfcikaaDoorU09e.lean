/- strings.IndexAny at "=\x00" and a text of at most 8 bytes: some place. -/
import Derived.Test.YtilbahgfjfcikaaDoorU09c
set_option linter.unusedVariables false
set_option linter.unusedSectionVars false
set_option linter.unusedSimpArgs false
namespace Go.Proofs.YtilbahgfjfcikaaDoor.Eng.U
open Go Go.Proofs Go.Proofs.YtilbahgfjfcikaaDoor.Eng
variable {E : Ext} [Core E] {k n : Nat}

class HasIB (E : Ext) : Prop where
  indexB : ∀ (k n : Nat) (s : List UInt8) (c : Int), kp E k n strings_IndexByte [.str (str s), .int .u8 c] = some (.int .i64 (Lib.indexByte s c.toNat.toUInt8))
theorem valid_B (r : Int) : IsB (kp E k (n + 1) unicode_utf8_ValidRune [.int .i32 r]) := by
  rw [unicode_utf8_ValidRune_eq]
  repeat' first | exact isB_some _ | refine isB_bif ?_ ?_
theorem enc_facts (r : Nat) (h : 128 ≤ r) : (Utf8.encode (r : Int)).size = 2 ∧ 128 ≤ byteAt (Utf8.encode (r : Int)) 1 ∨ (Utf8.encode (r : Int)).size = 3 ∨ (Utf8.encode (r : Int)).size = 4 := by
  unfold Utf8.encode
  dsimp only
  have hc : 128 ≤ (if Utf8.valid (r : Int) = true then Int.toNat (r : Int) else Utf8.runeError) := by
    split
    · omega
    · decide
  generalize (if Utf8.valid (r : Int) = true then Int.toNat (r : Int) else Utf8.runeError) = c at hc
  rw [if_neg (show ¬ c < 128 by omega)]
  split
  · refine .inl ⟨rfl, ?_⟩
    show (128 : Int) ≤ (((UInt8.ofNat (128 + c % 64)).toNat : Nat) : Int)
    rw [UInt8.toNat_ofNat']
    omega
  · split
    · exact .inr (.inl rfl)
    · exact .inr (.inr rfl)
theorem rune_I [HasIB E] (r : Nat) (hk : 10 < k) : ∃ i : Int, kp E k (n + 2) strings_IndexRune [.str (str [61, 0]), .int .i32 (r : Int)] = some (.int .i64 i) := by
  obtain ⟨k, rfl⟩ : ∃ j, k = j + 3 := ⟨k - 3, by omega⟩
  rw [strings_IndexRune_eq, bif_t (by omega)]
  by_cases h1 : r < 128
  · rw [bif_t (by omega), HasIB.indexB, callI_ok]; exact ⟨_, rfl⟩
  · rw [bif_f (by omega)]
    by_cases h2 : (r : Int) = 65533
    · rw [bif_t h2]
      have d0 : Utf8.decode (str [61, 0]) 0 = (61, 1) := by decide +kernel
      have d1 : Utf8.decode (str [61, 0]) 1 = (0, 1) := by decide +kernel
      have sz : (str [61, 0]).size = 2 := rfl
      have z1 : 0 + ((61, 1) : Nat × Nat).2 = 1 := rfl
      have z2 : 1 + ((0, 1) : Nat × Nat).2 = 2 := rfl
      rw [strings_IndexRune_L0_s, sz, d0, z1, bif_t (by omega), bif_f (by decide), strings_IndexRune_L0_s, sz, d1, z2, bif_t (by omega), bif_f (by decide), strings_IndexRune_L0_s, sz, bif_f (by omega)]
      exact ⟨_, rfl⟩
    · rw [bif_f h2]
      obtain ⟨b, hb⟩ := valid_B (E := E) (k := k + 3) (n := n) (r : Int)
      rw [hb, callB_ok]
      cases b with
      | false => exact ⟨_, rfl⟩
      | true =>
        rw [Bool.not_true, cond_false]
        have sz : (str [61, 0]).size = 2 := rfl
        rcases enc_facts r (by omega) with ⟨e1, e2⟩ | e1 | e1
        · rw [e1, i64w (by omega), strings_IndexRune_L1_s, sz, e1]
          have hb1 : byteAt (str [61, 0]) 1 = 0 := rfl
          have e3 : Int.toNat (((2 : Nat) : Int) - 1) = 1 := rfl
          rw [bif_t (by omega), bif_a, bif_t (by omega), bif_t (by omega), bif_a, bif_t (by omega), bif_t (by omega), e3, hb1, decide_eq_false (by omega), Bool.not_false, cond_true, i64w (by omega), bif_a, bif_t (by omega), bif_t (by omega), bif_a, bif_t (by omega), bif_t (by omega)]
          have e4 : Int.toNat (((2 : Nat) : Int) - 1 + 1) = 2 := rfl
          have e5 : ByteArray.extract (str [61, 0]) 2 2 = str [] := by decide +kernel
          rw [e4, e5, HasIB.indexB, callI_ok]
          have e6 : Lib.indexByte [] (byteAt (Utf8.encode (r : Int)) 1).toNat.toUInt8 = -1 := rfl
          rw [e6, bif_t (by omega)]
          exact ⟨_, rfl⟩
        · rw [e1, i64w (by omega), strings_IndexRune_L1_s, sz, bif_f (by omega)]; exact ⟨_, rfl⟩
        · rw [e1, i64w (by omega), strings_IndexRune_L1_s, sz, bif_f (by omega)]; exact ⟨_, rfl⟩
theorem any_loop [HasIB E] (hk : 10 < k) (s : List UInt8) : ∀ (m k0 i : Nat), s.length - i < m → m ≤ k0 → ∃ r : Int, strings_IndexAny_L0 (kp E k (n + 2)) k k0 (str [61, 0]) (str s) i = some (.int .i64 r)
  | 0, k0, i, h, _ => by omega
  | m + 1, k0 + 1, i, h, hkk => by
    rw [strings_IndexAny_L0_s, str_size]
    by_cases hi : i < s.length
    · rw [decide_eq_true hi, cond_true]
      obtain ⟨x, hx⟩ := rune_I (E := E) (k := k) (n := n) (Utf8.decode (str s) i).1 hk
      rw [hx, callI_ok]
      by_cases h0 : x ≥ 0
      · rw [bif_t h0]; exact ⟨_, rfl⟩
      · rw [bif_f h0]
        have hw := width_pos (str s) i
        exact any_loop hk s m k0 (i + (Utf8.decode (str s) i).2) (by omega) (by omega)
    · rw [decide_eq_false hi, cond_false]
      exact ⟨_, rfl⟩
theorem any_short [HasIB E] (hB : E.isBase strings_IndexAny = false) (hF : E.fs.contains strings_IndexAny = true) (hk : 10 < k) (s : List UInt8) (hs : s.length ≤ 8) : ∃ r : Int, kp E k (n + 3) strings_IndexAny [.str (str s), .str (str [61, 0])] = some (.int .i64 r) := by
  have sz : (str [61, 0]).size = 2 := rfl
  rw [strings_IndexAny_eq hB hF, sz, str_size, bif_f (by decide), bif_f (by omega), strings_shouldUseASCIISet_eq, callB_ok, bif_f (by omega)]
  exact any_loop hk s k k 0 (by omega) (Nat.le_refl _)
end Go.Proofs.YtilbahgfjfcikaaDoor.Eng.U
