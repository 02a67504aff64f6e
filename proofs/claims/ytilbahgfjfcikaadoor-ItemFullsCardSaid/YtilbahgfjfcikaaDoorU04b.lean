/- The functions of the Dec laws in plain words, part 2: printing. -/
import Derived.Test.YtilbahgfjfcikaaDoorU04
set_option linter.unusedVariables false
set_option linter.unusedSectionVars false
set_option linter.unusedSimpArgs false
namespace Go.Proofs.YtilbahgfjfcikaaDoor.Eng.U
open Go Go.Proofs Go.Proofs.YtilbahgfjfcikaaDoor.Eng Go.Proofs.YtilbahgfjfcikaaDoor.P04
variable {E : Ext} [Core E] [HasNum E] {k n : Nat}

theorem text_k (v : Int) (h0 : -9223372036854775808 ≤ v) (h1 : v ≤ 9223372036854775807) : kp E k (n + 1) dec_Text [.int .i64 v] = some (.str (str (Lib.itoa v))) := by
  rw [dec_Text_eq, HasNum.fmt k n v h0 h1, callS_ok]
theorem dig_len (u : Nat) (h : u ≤ 9223372036854775808) : (Lib.decDigits u).length ≤ 21 := by
  rw [Lib.decDigits_length]
  cases u with
  | zero => rw [Lib.nDigits_small (by omega)]; omega
  | succ u =>
    by_cases h2 : u + 1 < 9223372036854775808
    · have := Lib.itoa_length_le ((u + 1 : Nat) : Int) (by omega) (by omega)
      rwa [Lib.itoa_nonneg, Lib.decDigits_length] at this
    · rw [Lib.nDigits_unique 18 (u + 1) (by omega) (by omega)]; omega
theorem digits20 (u : Nat) (hu : u ≤ 9223372036854775807) : kp E k (n + 19) ref04_Digits [.int .i64 (u : Int)] = some (.str (str (Lib.decDigits u))) :=
  digits_ref (n := n) 18 u (by omega) hu
theorem refText_k (v : Int) (h0 : -9223372036854775808 ≤ v) (h1 : v ≤ 9223372036854775807) : kp E k (n + 20) ref04_Text [.int .i64 v] = some (.str (str (Lib.itoa v))) := by
  rw [ref04_Text_eq]
  by_cases hv : 0 ≤ v
  · obtain ⟨u, rfl⟩ := Int.eq_ofNat_of_zero_le hv
    rw [bif_t (by omega), digits20 u (by omega), callS_ok, Lib.itoa_nonneg]
  · obtain ⟨u, rfl⟩ : ∃ u : Nat, v = -(u : Int) := ⟨v.natAbs, by omega⟩
    have e1 : Int.tdiv (-(u : Int)) 10 = -((u / 10 : Nat) : Int) := by rw [Int.neg_tdiv]; rfl
    have e2 : Int.tmod (-(u : Int)) 10 = -((u % 10 : Nat) : Int) := by rw [Int.neg_tmod]; rfl
    rw [bif_f (by omega), Lib.itoa_neg u (by omega)]
    by_cases hs : u < 10
    · have := dig_len u (by omega)
      rw [bif_t (by omega), i64w (by omega), show (0 : Int) - -(u : Int) = (u : Int) from by omega, digits20 u (by omega), callS_ok, str_size, bif_t (by omega), str_app]
      rfl
    · have g1 := dig_len (u / 10) (by omega)
      have g2 := dig_len (u % 10) (by omega)
      rw [bif_f (by omega), e1, e2, i64w (x := -((u / 10 : Nat) : Int)) (by omega), i64w (x := 0 - -((u / 10 : Nat) : Int)) (by omega), show (0 : Int) - -((u / 10 : Nat) : Int) = ((u / 10 : Nat) : Int) from by omega, digits20 (u / 10) (by omega), callS_ok, str_size, bif_t (by omega), i64w (by omega), show (0 : Int) - -((u % 10 : Nat) : Int) = ((u % 10 : Nat) : Int) from by omega, digits20 (u % 10) (by omega), callS_ok, str_app, str_size, str_size, bif_t (by simp; omega), str_app, decDigits_rec hs, Lib.decDigits_one (i := u % 10) (by omega)]
      rfl
def rightT (t : Int) : Bool := decide (0 ≤ t) && decide (t < 1000000000)
theorem right_k (s t : Int) : kp E k (n + 1) dec_Right [.agg [.int .i64 s, .int .i64 t]] = some (.bool (rightT t)) := by
  rw [dec_Right_eq]
  unfold rightT
  by_cases h : 0 ≤ t
  · rw [bif_t (by omega), decide_eq_true h, Bool.true_and]
  · rw [bif_f (by omega), decide_eq_false h, Bool.false_and]
theorem refRight_k (s t : Int) : kp E k (n + 1) ref04_Right [.agg [.int .i64 s, .int .i64 t]] = some (.bool (rightT t)) := by
  rw [ref04_Right_eq]
  unfold rightT
  by_cases h : 0 ≤ t
  · rw [bif_t (by omega), decide_eq_true h, Bool.true_and]
    congr 2
    rw [decide_eq_decide]
    omega
  · rw [bif_f (by omega), decide_eq_false h, Bool.false_and]
theorem frac_len : ∀ k n, (frac k n).length = k
  | 0, _ => rfl
  | k + 1, n => by unfold frac; rw [List.length_cons, frac_len k]
theorem loopP_len : ∀ k n, (loopP k n).length ≤ k
  | 0, _ => Nat.le_refl _
  | k + 1, n => by
    unfold loopP
    split
    · simp
    · rw [List.length_cons]
      have := loopP_len k (n % 100000000 * 10)
      omega
theorem fmt_frac (m : Nat) (h : m < 1000000000) : kp E k n strconv_FormatInt [.int .i64 ((1000000000 + m : Nat) : Int), .int .i64 10] = some (.str (str (49 :: frac 9 m))) := by
  rw [HasNum.fmt k n _ (by omega) (by omega), Lib.itoa_nonneg, digits_frac m h]
theorem ext_one (c : UInt8) (l : List UInt8) : ByteArray.extract (str (c :: l)) 1 (l.length + 1) = str l := by
  rw [str_ext]
  simp
theorem print_k (s t : Int) (h0 : -9223372036854775808 ≤ s) (h1 : s ≤ 9223372036854775807) : kp E k (n + 3) dec_Print [.agg [.int .i64 s, .int .i64 t]] = some (bif rightT t then .tup [.str (str (printL s t)), .int .u8 0] else .tup [.str (str []), .int .u8 15]) := by
  rw [dec_Print_eq, right_k, callB_ok]
  cases hr : rightT t with
  | false => rfl
  | true =>
    unfold rightT at hr
    rw [Bool.and_eq_true, decide_eq_true_eq, decide_eq_true_eq] at hr
    rw [Bool.not_true, cond_false, cond_true]
    unfold printL
    by_cases ht : t = 0
    · rw [bif_t ht, if_pos ht, text_k s h0 h1, callS_ok]
    · rw [bif_f ht, if_neg ht]
      have tail : ∀ (pre u : List UInt8) (m : Nat), 0 < m → m < 1000000000 → u.length ≤ 21 → pre.length ≤ 1 → (bif (decide ((1 : Int) ≤ (((ByteArray.size (str (49 :: frac 9 m))) : Nat) : Int))) then (callS (some (.str (str u))) fun vs8 => (bif (decide (pre.length + (ByteArray.size vs8) ≤ 9223372036854775807)) then (bif (decide ((ByteArray.size ((str pre) ++ vs8)) + 1 ≤ 9223372036854775807)) then (callS (kp E k (n + 2) strings_TrimRight [(.str (ByteArray.extract (str (49 :: frac 9 m)) 1 (ByteArray.size (str (49 :: frac 9 m))))), (.str (str [48]))]) fun vs10 => (bif (decide ((ByteArray.size (((str pre) ++ vs8) ++ (str [46]))) + (ByteArray.size vs10) ≤ 9223372036854775807)) then (some (AV.tup [(.str ((((str pre) ++ vs8) ++ (str [46])) ++ vs10)), (.int .u8 (0 : Int))])) else none)) else none) else none)) else none)
          = some (.tup [.str (str (pre ++ u ++ [46] ++ loopP 9 m)), .int .u8 0]) := by
        intro pre u m hm0 hm hu hp
        have hf := frac_len 9 m
        have hl := loopP_len 9 m
        rw [str_size, List.length_cons, bif_t (by omega), callS_ok, str_size, bif_t (by omega), str_app, str_size, bif_t (by simp; omega), ext_one, HasNum.trimR k (n + 2) _ 48 (by decide) (by omega), callS_ok, trim_frac 9 m hm (by simp [Nat.mod_one]) (by omega), str_app, str_size, str_size, bif_t (by simp; omega), str_app]
      by_cases hs : s < 0
      · obtain ⟨m, hm⟩ := Int.eq_ofNat_of_zero_le (show 0 ≤ 1000000000 - t by omega)
        obtain ⟨u, hu⟩ := Int.eq_ofNat_of_zero_le (show 0 ≤ -(s + 1) by omega)
        rw [bif_t hs, if_pos hs, i64w (x := 1000000000 - t) (by omega), hm, i64w (by omega), show (1000000000 : Int) + (m : Int) = ((1000000000 + m : Nat) : Int) from by omega, fmt_frac m (by omega), callS_ok, i64w (x := s + 1) (by omega), i64w (x := 0 - (s + 1)) (by omega), show (0 : Int) - (s + 1) = (u : Int) from by omega, hu, text_k _ (by omega) (by omega), Lib.itoa_nonneg]
        exact tail [45] _ m (by omega) (by omega) (dig_len u (by omega)) (by simp)
      · obtain ⟨m, rfl⟩ := Int.eq_ofNat_of_zero_le hr.1
        obtain ⟨u, rfl⟩ := Int.eq_ofNat_of_zero_le (show 0 ≤ s by omega)
        rw [bif_f hs, if_neg hs, i64w (by omega), show (1000000000 : Int) + (m : Int) = ((1000000000 + m : Nat) : Int) from by omega, fmt_frac m (by omega), callS_ok, text_k _ (by omega) (by omega), Lib.itoa_nonneg]
        exact tail [] _ m (by omega) (by omega) (dig_len u (by omega)) (by simp)
theorem printLoop (kap : FuncId → List AV → Option AV) (hk : ∀ d : Nat, d < 10 → kap ref04_Digits [.int .i64 (d : Int)] = some (.str (str [UInt8.ofNat (48 + d)]))) : ∀ (j k0 m : Nat) (pre : List UInt8), j < k0 → m < 1000000000 → m % 10 ^ (9 - j) = 0 → j ≤ 9 → pre.length + j ≤ 1000 → ref04_Print_L0 kap k k0 (m : Int) (str pre) = some (.str (str (pre ++ loopP j m)))
  | 0, k0 + 1, m, pre, _, hm, hd, _, hp => by
    rw [ref04_Print_L0_s]
    have : m = 0 := by simp at hd; omega
    subst this
    rw [bif_f (by omega)]
    simp [loopP]
  | j + 1, k0 + 1, m, pre, h, hm, hd, hj, hp => by
    rw [ref04_Print_L0_s]
    unfold loopP
    by_cases h0 : m = 0
    · subst h0
      rw [bif_f (by omega), if_pos rfl, List.append_nil]
    · have e1 : Int.tdiv (m : Int) 100000000 = ((m / 100000000 : Nat) : Int) := rfl
      have e2 : Int.tmod (m : Int) 100000000 = ((m % 100000000 : Nat) : Int) := rfl
      have hm' : (m % 100000000 * 10) % 10 ^ (9 - j) = 0 := by
        have e : 10 ^ (9 - j) = 10 ^ (9 - (j + 1)) * 10 := by rw [← Nat.pow_succ]; congr 1; omega
        rw [e, Nat.mul_mod_mul_right]
        have hd' : (10 : Nat) ^ (9 - (j + 1)) ∣ 100000000 := by
          have : (100000000 : Nat) = 10 ^ 8 := rfl
          rw [this]
          exact Nat.pow_dvd_pow 10 (by omega)
        rw [Nat.mod_mod_of_dvd _ hd', hd]
      rw [bif_t (by omega), if_neg h0, e1, e2, i64w (x := ((m / 100000000 : Nat) : Int)) (by omega), hk _ (by omega), callS_ok, str_size, str_size, bif_t (by simp; omega), str_app, i64w (x := ((m % 100000000 : Nat) : Int) * 10) (by omega), show (((m % 100000000 : Nat) : Int) * 10) = ((m % 100000000 * 10 : Nat) : Int) from by rw [Int.natCast_mul]; rfl, printLoop kap hk j k0 (m % 100000000 * 10) (pre ++ [UInt8.ofNat (48 + m / 100000000)]) (by omega) (by omega) hm' (by omega) (by rw [List.length_append, List.length_singleton]; omega)]
      simp
theorem refPrint_k (s t : Int) (h0 : -9223372036854775808 ≤ s) (h1 : s ≤ 9223372036854775807) (hr : rightT t = true) (hk : 10 < k) : kp E k (n + 21) ref04_Print [.agg [.int .i64 s, .int .i64 t]] = some (.str (str (printL s t))) := by
  unfold rightT at hr
  rw [Bool.and_eq_true, decide_eq_true_eq, decide_eq_true_eq] at hr
  have hD : ∀ d : Nat, d < 10 → kp E k (n + 20) ref04_Digits [.int .i64 (d : Int)] = some (.str (str [UInt8.ofNat (48 + d)])) := fun d hd => by
    rw [show n + 20 = (n + 1) + 19 from rfl, digits20 d (by omega), Lib.decDigits_one hd]
  rw [ref04_Print_eq]
  unfold printL
  by_cases ht : t = 0
  · rw [bif_t ht, if_pos ht, refText_k s h0 h1, callS_ok]
  · rw [bif_f ht, if_neg ht]
    by_cases hs : s < 0
    · obtain ⟨m, hm⟩ := Int.eq_ofNat_of_zero_le (show 0 ≤ 1000000000 - t by omega)
      obtain ⟨u, hu⟩ := Int.eq_ofNat_of_zero_le (show 0 ≤ -(s + 1) by omega)
      have g := dig_len u (by omega)
      rw [bif_t hs, if_pos hs, i64w (x := s + 1) (by omega), i64w (x := 0 - (s + 1)) (by omega), show (0 : Int) - (s + 1) = (u : Int) from by omega, show n + 20 = (n + 1) + 19 from rfl, digits20 u (by omega), callS_ok, str_size, bif_t (by omega), str_app, str_size, bif_t (by simp; omega), str_app, i64w (by omega), hm, hu]
      exact printLoop _ hD 9 k m _ (by omega) (by omega) (by simp [Nat.mod_one]) (by omega) (by simp; omega)
    · obtain ⟨m, rfl⟩ := Int.eq_ofNat_of_zero_le hr.1
      obtain ⟨u, rfl⟩ := Int.eq_ofNat_of_zero_le (show 0 ≤ s by omega)
      have g := dig_len u (by omega)
      rw [bif_f hs, if_neg hs, show n + 20 = (n + 1) + 19 from rfl, digits20 u (by omega), callS_ok, str_size, bif_t (by omega), str_app, str_size, bif_t (by simp; omega), str_app]
      exact printLoop _ hD 9 k m _ (by omega) (by omega) (by simp [Nat.mod_one]) (by omega) (by simp; omega)
end Go.Proofs.YtilbahgfjfcikaaDoor.Eng.U
