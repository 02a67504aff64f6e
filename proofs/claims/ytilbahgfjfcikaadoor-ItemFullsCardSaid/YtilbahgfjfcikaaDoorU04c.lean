/- The functions of the Dec laws in plain words, part 3: reading. -/
import Derived.Test.YtilbahgfjfcikaaDoorU04b
set_option linter.unusedVariables false
set_option linter.unusedSectionVars false
set_option linter.unusedSimpArgs false
namespace Go.Proofs.YtilbahgfjfcikaaDoor.Eng.U
open Go Go.Proofs Go.Proofs.YtilbahgfjfcikaaDoor.Eng Go.Proofs.YtilbahgfjfcikaaDoor.P04
variable {E : Ext} [Core E] [HasNum E] {k n : Nat}

theorem dot_le (t : List UInt8) : dot t ≤ t.length := List.findIdx_le_length
theorem cut_k (t : List UInt8) (ht : t.length < 1000000000000) : kp E k (n + 2) strings_Cut [.str (str t), .str (str [46])] = some (.tup [.str (str (t.take (dot t))), .str (str (t.drop (dot t + 1))), .bool (decide (dot t < t.length))]) := by
  have hd := dot_le t
  rw [strings_Cut_eq, stringslite_Cut_eq, HasNum.index k n t 46, callI_ok, index_dot]
  by_cases h : dot t < t.length
  · rw [if_pos h, decide_eq_true h, bif_t (by omega), str_size, str_size, List.length_singleton, wrapP (by omega) (by omega), bif_a, bif_t (by omega), bif_t (by omega), bif_a, bif_t (by omega), bif_t (by omega), Int.toNat_natCast, Int.toNat_natCast, str_ext, str_ext, List.take_length, List.drop_zero]
    rfl
  · rw [if_neg h, decide_eq_false h, bif_f (by omega), List.take_of_length_le (by omega), List.drop_of_length_le (by omega)]
    rfl
theorem trim_minus (s : List UInt8) : Lib.trimPrefix s [45] = (if s.head? = some 45 then s.drop 1 else s) ∧ Lib.hasPrefix s [45] = decide (s.head? = some 45) := by
  have h : Lib.hasPrefix s [45] = decide (s.head? = some 45) := by
    unfold Lib.hasPrefix
    cases s with
    | nil => rfl
    | cons c s =>
      simp only [List.isPrefixOf, List.head?_cons, Option.some.injEq, Bool.and_true]
      rw [Bool.eq_iff_iff, beq_iff_eq, decide_eq_true_eq]
      exact eq_comm
  refine ⟨?_, h⟩
  unfold Lib.trimPrefix
  rw [h]
  by_cases hs : s.head? = some 45
  · rw [if_pos hs, if_pos (decide_eq_true hs)]; rfl
  · rw [if_neg hs, if_neg (by simpa using hs)]
theorem repeat48 : ∀ c, Lib.repeatL [48] c = List.replicate c (48 : UInt8)
  | 0 => rfl
  | c + 1 => by rw [Lib.repeatL, repeat48 c]; rfl
theorem zeros_dig (c : Nat) : (List.replicate c (48 : UInt8)).all isDig = true := by
  rw [List.all_eq_true]
  intro x hx
  rw [List.eq_of_mem_replicate hx]
  rfl
theorem parseI_eq {l : List UInt8} (hd : digs l = true) (h9 : l.length ≤ 9) : Lib.parseIntB 64 l = .ok (valA 0 l : Int) ∧ valA 0 l < 1000000000 := by
  have hall := digs_all hd
  have hv : valA 0 l < 10 ^ (0 + l.length) := valA_lt l 0 0 hall (by omega)
  have hp : 10 ^ (0 + l.length) ≤ 10 ^ 9 := Nat.pow_le_pow_right (by omega) (by omega)
  have hlt : valA 0 l < 1000000000 := by omega
  refine ⟨?_, hlt⟩
  have hB := parseB_eq hd
  rw [if_pos (by omega)] at hB
  cases l with
  | nil => simp [digs] at hd
  | cons c r =>
    rw [List.all_cons, Bool.and_eq_true] at hall
    have hc := dig_iff.1 hall.1
    unfold Lib.parseIntB
    dsimp only
    rw [if_neg (show ¬ (c.toNat = 43 ∨ c.toNat = 45) by omega), hB]
    dsimp only
    have h1 : ¬ (2 : Nat) ^ (64 - 1) ≤ valA 0 (c :: r) := by
      have : (2 : Nat) ^ (64 - 1) = 9223372036854775808 := rfl
      omega
    rw [if_neg (fun h => h1 h.2), if_neg (fun h => by omega), if_neg (by omega)]
theorem nano_digs {b : List UInt8} (hd : digs b = true) (h9 : b.length ≤ 9) : digs (b ++ List.replicate (9 - b.length) 48) = true ∧ (b ++ List.replicate (9 - b.length) (48 : UInt8)).length = 9 := by
  constructor
  · unfold digs
    rw [List.all_append, digs_all hd, zeros_dig, Bool.true_and, Bool.true_and]
    have := digs_ne hd
    cases b with
    | nil => exact absurd rfl this
    | cons c b => rfl
  · rw [List.length_append, List.length_replicate]; omega
theorem half {v : Nat} : decide (Int.fdiv (v : Int) (2 ^ (min (Int.toNat (63 : Int)) (IntKind.bits .u64))) > (0 : Int)) = decide (9223372036854775807 < v) := by
  have e : ((2 : Int) ^ (min (Int.toNat (63 : Int)) (IntKind.bits .u64))) = 9223372036854775808 := rfl
  rw [e, decide_eq_decide, Int.fdiv_eq_ediv_of_nonneg _ (by omega)]
  omega
theorem negW {v : Nat} (h : v ≤ 9223372036854775808) : IntKind.wrap .i64 (IntKind.wrap .u64 (0 - (v : Int))) = -(v : Int) := by
  rw [IntKind.wrap_u64, IntKind.wrap_i64]
  omega
def timeAV : Option (Int × Int) → AV
  | some (a, b) => .tup [.agg [.int .i64 a, .int .i64 b], .int .u8 0]
  | none => .tup [.agg [.int .i64 0, .int .i64 0], .int .u8 15]
theorem number_k (l : List UInt8) (hb : l.length < 1000000000000) (hk : l.length < k) : kp E k (n + 3) dec_Number [.str (str l)] = some (bif natOk l && decide (valA 0 l ≤ 9223372036854775807) then .tup [.int .i64 (valA 0 l : Int), .int .u8 0] else .tup [.int .i64 0, .int .u8 15]) := by
  obtain ⟨m, h1, h2⟩ := natural_k (E := E) (k := k) (n := n) l (by omega) hk
  rw [dec_Number_eq, h1]
  simp (disch := first | omega | (simp only [List.length_append, List.length_cons, List.length_nil, List.length_take, List.length_drop]; done) | (simp only [List.length_append, List.length_cons, List.length_nil, List.length_take, List.length_drop]; omega) | fail) only [bif_t, bif_f, bif_n, bif_a, callB_ok, callI_ok, callS_ok, callL_ok, callF_ok, callT_ok, tupB_ok, tupI_ok, tupS_ok, tupL_ok, tupF_ok, atNil_ok, wrap1, wrapM, wrapP, Int.toNat_natCast, svs_len, ivs_len, bvs_len, str_size, svs_mid, ivs_mid, str_dec, str_ext, str_byte, mid_byte, mid_cut, List.length_nil, List.length_singleton, svs_snoc, ivs_snoc, svs_take, svs_drop, str_app, List.take_length, List.drop_zero, List.nil_append, cond_true, cond_false, Option.bind_some, Bool.not_true, Bool.not_false, Bool.true_and, Bool.and_true]
  cases ho : natOk l with
  | false => rfl
  | true =>
    rw [h2 ho]
    simp only [Bool.not_true, cond_false, Bool.true_and, half]
    by_cases hv : 9223372036854775807 < valA 0 l
    · rw [bif_t hv, decide_eq_false (by omega)]; rfl
    · rw [bif_f hv, decide_eq_true (by omega), i64w (by omega)]; rfl
theorem refNumber_k (l : List UInt8) (hb : l.length < 1000000000000) (hk : l.length < k) : kp E k (n + 3) ref04_Number [.str (str l)] = some (bif natOk l && decide (valA 0 l ≤ 9223372036854775807) then .tup [.int .i64 (valA 0 l : Int), .bool true] else .tup [.int .i64 0, .bool false]) := by
  rw [ref04_Number_eq, below_k l (by omega) hk]
  simp (disch := first | omega | (simp only [List.length_append, List.length_cons, List.length_nil, List.length_take, List.length_drop]; done) | (simp only [List.length_append, List.length_cons, List.length_nil, List.length_take, List.length_drop]; omega) | fail) only [bif_t, bif_f, bif_n, bif_a, callB_ok, callI_ok, callS_ok, callL_ok, callF_ok, callT_ok, tupB_ok, tupI_ok, tupS_ok, tupL_ok, tupF_ok, atNil_ok, wrap1, wrapM, wrapP, Int.toNat_natCast, svs_len, ivs_len, bvs_len, str_size, svs_mid, ivs_mid, str_dec, str_ext, str_byte, mid_byte, mid_cut, List.length_nil, List.length_singleton, svs_snoc, ivs_snoc, svs_take, svs_drop, str_app, List.take_length, List.drop_zero, List.nil_append, cond_true, cond_false, Option.bind_some, Bool.not_true, Bool.not_false, Bool.true_and, Bool.and_true]
  cases ho : natOk l with
  | false => rfl
  | true =>
    have hv : valA 0 l ≤ 9223372036854775808 := by
      unfold natOk at ho
      rw [Bool.and_eq_true, decide_eq_true_eq] at ho
      exact ho.2
    simp only [if_true, Bool.not_true, cond_false, Bool.true_and]
    by_cases hv : 9223372036854775807 < valA 0 l
    · rw [bif_t (by omega), decide_eq_false (by omega)]; rfl
    · rw [bif_f (by omega), decide_eq_true (by omega), i64w (by omega), show (0 : Int) - -(valA 0 l : Int) = (valA 0 l : Int) from by omega]; rfl
theorem natOk_le {l : List UInt8} (ho : natOk l = true) : valA 0 l ≤ 9223372036854775808 := by
  unfold natOk at ho
  rw [Bool.and_eq_true, decide_eq_true_eq] at ho
  exact ho.2
theorem time_k (s : List UInt8) (hs : s.length < 100000000000) (hk : s.length < k) : kp E k (n + 3) dec_Time [.str (str s)] = some (timeAV (timeL s)) := by
  obtain ⟨t1, t2⟩ := trim_minus s
  rw [dec_Time_eq, HasNum.cutP, t1, t2]
  unfold timeL
  have hle : (if s.head? = some 45 then s.drop 1 else s).length ≤ s.length := by split <;> simp
  generalize (if s.head? = some 45 then s.drop 1 else s) = t at hle
  generalize decide (s.head? = some 45) = minus
  simp (disch := first | omega | (simp only [List.length_append, List.length_cons, List.length_nil, List.length_take, List.length_drop]; done) | (simp only [List.length_append, List.length_cons, List.length_nil, List.length_take, List.length_drop]; omega) | fail) only [bif_t, bif_f, bif_n, bif_a, callB_ok, callI_ok, callS_ok, callL_ok, callF_ok, callT_ok, tupB_ok, tupI_ok, tupS_ok, tupL_ok, tupF_ok, atNil_ok, wrap1, wrapM, wrapP, Int.toNat_natCast, svs_len, ivs_len, bvs_len, str_size, svs_mid, ivs_mid, str_dec, str_ext, str_byte, mid_byte, mid_cut, List.length_nil, List.length_singleton, svs_snoc, ivs_snoc, svs_take, svs_drop, str_app, List.take_length, List.drop_zero, List.nil_append, cond_true, cond_false, Option.bind_some, Bool.not_true, Bool.not_false, Bool.true_and, Bool.and_true]
  rw [cut_k t (by omega)]
  simp (disch := first | omega | (simp only [List.length_append, List.length_cons, List.length_nil, List.length_take, List.length_drop]; done) | (simp only [List.length_append, List.length_cons, List.length_nil, List.length_take, List.length_drop]; omega) | fail) only [bif_t, bif_f, bif_n, bif_a, callB_ok, callI_ok, callS_ok, callL_ok, callF_ok, callT_ok, tupB_ok, tupI_ok, tupS_ok, tupL_ok, tupF_ok, atNil_ok, wrap1, wrapM, wrapP, Int.toNat_natCast, svs_len, ivs_len, bvs_len, str_size, svs_mid, ivs_mid, str_dec, str_ext, str_byte, mid_byte, mid_cut, List.length_nil, List.length_singleton, svs_snoc, ivs_snoc, svs_take, svs_drop, str_app, List.take_length, List.drop_zero, List.nil_append, cond_true, cond_false, Option.bind_some, Bool.not_true, Bool.not_false, Bool.true_and, Bool.and_true]
  obtain ⟨m, h1, h2⟩ := natural_k (E := E) (k := k) (n := n) (t.take (dot t)) (by rw [List.length_take]; omega) (by rw [List.length_take]; omega)
  rw [h1]
  simp (disch := first | omega | (simp only [List.length_append, List.length_cons, List.length_nil, List.length_take, List.length_drop]; done) | (simp only [List.length_append, List.length_cons, List.length_nil, List.length_take, List.length_drop]; omega) | fail) only [bif_t, bif_f, bif_n, bif_a, callB_ok, callI_ok, callS_ok, callL_ok, callF_ok, callT_ok, tupB_ok, tupI_ok, tupS_ok, tupL_ok, tupF_ok, atNil_ok, wrap1, wrapM, wrapP, Int.toNat_natCast, svs_len, ivs_len, bvs_len, str_size, svs_mid, ivs_mid, str_dec, str_ext, str_byte, mid_byte, mid_cut, List.length_nil, List.length_singleton, svs_snoc, ivs_snoc, svs_take, svs_drop, str_app, List.take_length, List.drop_zero, List.nil_append, cond_true, cond_false, Option.bind_some, Bool.not_true, Bool.not_false, Bool.true_and, Bool.and_true]
  unfold timeB
  dsimp only
  cases ho : natOk (t.take (dot t)) with
  | false => rfl
  | true =>
    obtain rfl := h2 ho
    have hv := natOk_le ho
    generalize valA 0 (t.take (dot t)) = v at hv
    rw [if_neg (by simp)]
    simp only [half, cond_true, cond_false, Bool.not_true, Bool.not_false]
    by_cases hp : dot t < t.length
    · have hbl : (t.drop (dot t + 1)).length ≤ t.length := by rw [List.length_drop]; omega
      rw [decide_eq_true hp]
      generalize hbe : t.drop (dot t + 1) = b at hbl
      rw [if_pos hp]
      simp only [cond_true, cond_false, Bool.not_true, Bool.not_false]
      rw [digits_k b (by omega) (by omega)]
      simp (disch := first | omega | (simp only [List.length_append, List.length_cons, List.length_nil, List.length_take, List.length_drop]; done) | (simp only [List.length_append, List.length_cons, List.length_nil, List.length_take, List.length_drop]; omega) | fail) only [bif_t, bif_f, bif_n, bif_a, callB_ok, callI_ok, callS_ok, callL_ok, callF_ok, callT_ok, tupB_ok, tupI_ok, tupS_ok, tupL_ok, tupF_ok, atNil_ok, wrap1, wrapM, wrapP, Int.toNat_natCast, svs_len, ivs_len, bvs_len, str_size, svs_mid, ivs_mid, str_dec, str_ext, str_byte, mid_byte, mid_cut, List.length_nil, List.length_singleton, svs_snoc, ivs_snoc, svs_take, svs_drop, str_app, List.take_length, List.drop_zero, List.nil_append, cond_true, cond_false, Option.bind_some, Bool.not_true, Bool.not_false, Bool.true_and, Bool.and_true]
      cases hd : digs b with
      | false => rw [if_pos ⟨hp, fun h => by simp at h⟩]; rfl
      | true =>
        simp only [cond_true, cond_false, Bool.not_true, Bool.not_false]
        by_cases h9 : b.length ≤ 9
        · obtain ⟨q1, q2⟩ := nano_digs hd h9
          obtain ⟨q3, q4⟩ := parseI_eq q1 (by omega)
          rw [if_neg (fun h => h.2 ⟨trivial, h9⟩), bif_f (by omega), i64w (x := 9 - ((b.length : Nat) : Int)) (by omega), show (9 : Int) - ((b.length : Nat) : Int) = ((9 - b.length : Nat) : Int) from by omega, HasNum.rep k (n + 2) _ _ (by omega) (by rw [List.length_singleton]; omega), repeat48]
          simp (disch := first | omega | (simp only [List.length_append, List.length_cons, List.length_nil, List.length_take, List.length_drop]; done) | (simp only [List.length_append, List.length_cons, List.length_nil, List.length_take, List.length_drop]; omega) | fail) only [bif_t, bif_f, bif_n, bif_a, callB_ok, callI_ok, callS_ok, callL_ok, callF_ok, callT_ok, tupB_ok, tupI_ok, tupS_ok, tupL_ok, tupF_ok, atNil_ok, wrap1, wrapM, wrapP, Int.toNat_natCast, svs_len, ivs_len, bvs_len, str_size, svs_mid, ivs_mid, str_dec, str_ext, str_byte, mid_byte, mid_cut, List.length_nil, List.length_singleton, svs_snoc, ivs_snoc, svs_take, svs_drop, str_app, List.take_length, List.drop_zero, List.nil_append, cond_true, cond_false, Option.bind_some, Bool.not_true, Bool.not_false, Bool.true_and, Bool.and_true]
          rw [List.length_replicate, bif_t (by omega), HasNum.pint k (n + 2) _ (by omega), q3]
          generalize valA 0 (b ++ List.replicate (9 - b.length) 48) = w at q4
          unfold endI
          simp (disch := first | omega | (simp only [List.length_append, List.length_cons, List.length_nil, List.length_take, List.length_drop]; done) | (simp only [List.length_append, List.length_cons, List.length_nil, List.length_take, List.length_drop]; omega) | fail) only [bif_t, bif_f, bif_n, bif_a, callB_ok, callI_ok, callS_ok, callL_ok, callF_ok, callT_ok, tupB_ok, tupI_ok, tupS_ok, tupL_ok, tupF_ok, atNil_ok, wrap1, wrapM, wrapP, Int.toNat_natCast, svs_len, ivs_len, bvs_len, str_size, svs_mid, ivs_mid, str_dec, str_ext, str_byte, mid_byte, mid_cut, List.length_nil, List.length_singleton, svs_snoc, ivs_snoc, svs_take, svs_drop, str_app, List.take_length, List.drop_zero, List.nil_append, cond_true, cond_false, Option.bind_some, Bool.not_true, Bool.not_false, Bool.true_and, Bool.and_true]
          have e0 : ∀ K : AV → List AV → Option AV, tupV [AV.nili] K = K .nili [] := fun K => rfl
          rw [e0]
          simp (disch := first | omega | (simp only [List.length_append, List.length_cons, List.length_nil, List.length_take, List.length_drop]; done) | (simp only [List.length_append, List.length_cons, List.length_nil, List.length_take, List.length_drop]; omega) | fail) only [bif_t, bif_f, bif_n, bif_a, callB_ok, callI_ok, callS_ok, callL_ok, callF_ok, callT_ok, tupB_ok, tupI_ok, tupS_ok, tupL_ok, tupF_ok, atNil_ok, wrap1, wrapM, wrapP, Int.toNat_natCast, svs_len, ivs_len, bvs_len, str_size, svs_mid, ivs_mid, str_dec, str_ext, str_byte, mid_byte, mid_cut, List.length_nil, List.length_singleton, svs_snoc, ivs_snoc, svs_take, svs_drop, str_app, List.take_length, List.drop_zero, List.nil_append, cond_true, cond_false, Option.bind_some, Bool.not_true, Bool.not_false, Bool.true_and, Bool.and_true]
          cases minus with
          | false =>
            simp only [cond_true, cond_false, Bool.not_true, Bool.not_false, if_true]
            by_cases h3 : 9223372036854775807 < v
            · rw [bif_t h3, if_pos h3]; rfl
            · rw [bif_f h3, if_neg h3, i64w (by omega)]; rfl
          | true =>
            simp only [cond_true, cond_false, Bool.not_true, Bool.not_false, if_neg (show ¬ true = false by decide)]
            by_cases h4 : w = 0
            · subst h4
              rw [bif_t (by omega), if_pos rfl, negW (by omega)]; rfl
            · rw [bif_f (by omega), if_neg h4]
              by_cases h3 : 9223372036854775807 < v
              · rw [bif_t h3, if_pos h3]; rfl
              · rw [bif_f h3, if_neg h3, i64w (x := (v : Int)) (by omega), i64w (x := 0 - (v : Int)) (by omega), i64w (x := 0 - (v : Int) - 1) (by omega), i64w (by omega), show (0 : Int) - (v : Int) - 1 = -(v : Int) - 1 from by omega]; rfl
        · rw [if_pos ⟨hp, fun h => h9 h.2⟩, bif_t (by omega)]
          rfl
    · rw [decide_eq_false hp, if_neg (fun h => hp h.1), if_neg hp]
      simp only [cond_true, cond_false, Bool.not_true, Bool.not_false]
      cases minus with
      | false =>
        simp only [cond_true, cond_false, Bool.not_true, Bool.not_false, if_true]
        by_cases h3 : 9223372036854775807 < v
        · rw [bif_t h3, if_pos h3]; rfl
        · rw [bif_f h3, if_neg h3, i64w (by omega)]; rfl
      | true =>
        simp only [cond_true, cond_false, Bool.not_true, Bool.not_false, if_neg (show ¬ true = false by decide), if_true]
        rw [negW (by omega)]; rfl
end Go.Proofs.YtilbahgfjfcikaaDoor.Eng.U
