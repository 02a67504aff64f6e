/- The Dec laws answer true, part 2: reading, and back again. -/
import Derived.Test.YtilbahgfjfcikaaDoorV04
import Derived.Test.YtilbahgfjfcikaaDoorU04d
import Derived.Test.YtilbahgfjfcikaaDoorQ04b
set_option linter.unusedVariables false
set_option linter.unusedSectionVars false
set_option linter.unusedSimpArgs false
namespace Go.Proofs.YtilbahgfjfcikaaDoor.Eng.U
open Go Go.Proofs Go.Proofs.YtilbahgfjfcikaaDoor.Eng Go.Proofs.YtilbahgfjfcikaaDoor.P04
variable {E : Ext} [Core E] [HasNum E] {k n : Nat}

theorem tupG_two (K : List AV → List AV → Option AV) (a b : AV) (t : List AV) : tupG 2 (.agg [a, b] :: t) K = K [a, b] t := by
  simp [tupG, atCons, atAgg, AV.isFresh]
theorem cell_one (a b : Int) (K : Int → Option AV) : cellI .i64 [.int .i64 a, .int .i64 b] 0 K = K a := cellI_0 _ _ _
theorem cell_two (a b : Int) (K : Int → Option AV) : cellI .i64 [.int .i64 a, .int .i64 b] 1 K = K b := by simp [cellI, cellAt, atInt]
theorem w0 : IntKind.wrap .i64 0 = 0 := i64w (by omega)
theorem w15 : IntKind.wrap .i64 15 = 15 := i64w (by omega)
theorem form_t : kp E k (n + 1) law04_form [.int .i64 0, .bool true] = some (.bool true) := by rw [law04_form_eq]; rfl
theorem form_f : kp E k (n + 1) law04_form [.int .i64 15, .bool false] = some (.bool true) := by rw [law04_form_eq]; rfl
theorem decReads_true (l : List UInt8) (hb : l.length ≤ 140737488351232) (hk : 2000 < k) : kp E k (n + 22) law04_DecReads [.str (str l)] = some (.bool true) := by
  rw [law04_DecReads_eq, alive04 (n := n + 17) (by omega), callB_ok, Bool.not_true, cond_false, str_size]
  by_cases h : 1000 < l.length
  · rw [bif_t (by omega)]
  · rw [bif_f (by omega), number_k (n := n + 18) l (by omega) (by omega), time_k (n := n + 18) l (by omega) (by omega), refNumber_k (n := n + 18) l (by omega) (by omega), refTime_k (n := n + 18) l (by omega) (by omega) (by omega)]
    generalize (natOk l && decide (valA 0 l ≤ 9223372036854775807)) = b
    generalize valA 0 l = v
    cases timeL l with
    | none =>
      cases b <;> simp only [timeAV, timeRV, cond_true, cond_false, callT_ok, tupI_ok, tupB_ok, tupG_two, cell_one, cell_two, atNil_ok, w0, w15, decide_true, form_t (n := n + 20), form_f (n := n + 20), callB_ok, Bool.and_true]
    | some x =>
      obtain ⟨p, r⟩ := x
      cases b <;> simp only [timeAV, timeRV, cond_true, cond_false, callT_ok, tupI_ok, tupB_ok, tupG_two, cell_one, cell_two, atNil_ok, w0, w15, decide_true, form_t (n := n + 20), form_f (n := n + 20), callB_ok, Bool.and_true]
theorem right_iff {t : Int} : rightT t = true ↔ 0 ≤ t ∧ t < 1000000000 := by
  unfold rightT
  rw [Bool.and_eq_true, decide_eq_true_eq, decide_eq_true_eq]
theorem back_rest (l : List UInt8) (hk : 2000 < k) : (bif (decide ((((ByteArray.size (str l)) : Nat) : Int) > (1000 : Int))) then (some (.bool true)) else (callT (kp E k (n + 21) dec_Time [(.str (str l))]) fun vt82 => (tupG 2 vt82 fun vg83 vt84 => (cellI .i64 vg83 0 fun vn85 => (cellI .i64 vg83 1 fun vn86 => (tupI .u8 vt84 fun vn87 vt88 => (atNil vt88 (bif (!(decide ((IntKind.wrap .i64 vn87) = (0 : Int)))) then (some (.bool true)) else (callT (kp E k (n + 21) dec_Print [(.agg [(.int .i64 vn85), (.int .i64 vn86)])]) fun vt90 => (tupS vt90 fun vs91 vt92 => (tupI .u8 vt92 fun vn93 vt94 => (atNil vt94 (bif (decide ((IntKind.wrap .i64 vn93) = (0 : Int))) then (some (.bool (decide ((((ByteArray.size vs91) : Nat) : Int) ≤ (((ByteArray.size (str l)) : Nat) : Int))))) else (some (.bool false))))))))))))))) = some (AV.bool true) := by
  rw [str_size]
  by_cases h : 1000 < l.length
  · rw [bif_t (by omega)]
  · rw [bif_f (by omega), time_k (n := n + 18) l (by omega) (by omega)]
    cases ht : timeL l with
    | none =>
      simp only [timeAV, callT_ok, tupI_ok, tupG_two, cell_one, cell_two, atNil_ok, w15]
      rfl
    | some x =>
      obtain ⟨p, r⟩ := x
      obtain ⟨h1, h2, h3⟩ := print_time ht
      simp only [timeAV, callT_ok, tupI_ok, tupG_two, cell_one, cell_two, atNil_ok, w0]
      rw [print_k (n := n + 18) p r h1.1 h1.2, right_iff.2 h2]
      simp only [cond_true, callT_ok, tupS_ok, tupI_ok, atNil_ok, w0, decide_true, Bool.not_true, cond_false, str_size]
      rw [decide_eq_true (by omega)]
theorem number_text (v : Int) (h0 : 0 ≤ v) (h1 : v ≤ 9223372036854775807) (hk : 2000 < k) : kp E k (n + 3) dec_Number [.str (str (Lib.itoa v))] = some (.tup [.int .i64 v, .int .u8 0]) := by
  obtain ⟨u, rfl⟩ := Int.eq_ofNat_of_zero_le h0
  have hl := dig_len u (by omega)
  obtain ⟨g1, g2, _, _⟩ := dec_facts u
  rw [Lib.itoa_nonneg, number_k (n := n) _ (by omega) (by omega), dec_natOk u (by omega), g2, decide_eq_true (by omega)]
  rfl
theorem printL_len (s t : Int) (hs : -9223372036854775808 ≤ s ∧ s ≤ 9223372036854775807) (ht : 0 ≤ t ∧ t < 1000000000) : (printL s t).length ≤ 100 := by
  rw [printL_parts]
  have h1 := Lib.itoa_length_le s hs.1 hs.2
  have h2 := loopP_len 9 (1000000000 - t).toNat
  have h3 := loopP_len 9 t.toNat
  split
  · omega
  · split
    · have := dig_len (-(s + 1)).toNat (by omega)
      omega
    · have := dig_len s.toNat (by omega)
      omega
theorem decBack_true (v s t : Int) (l : List UInt8) (hv : -9223372036854775808 ≤ v ∧ v ≤ 9223372036854775807) (hs : -9223372036854775808 ≤ s ∧ s ≤ 9223372036854775807) (hk : 2000 < k) : kp E k (n + 22) law04_DecBack [.int .i64 v, .agg [.int .i64 s, .int .i64 t], .str (str l)] = some (.bool true) := by
  rw [law04_DecBack_eq, alive04 (n := n + 17) (by omega), callB_ok, Bool.not_true, cond_false]
  simp only [back_rest (n := n) l hk, print_k (n := n + 18) s t hs.1 hs.2]
  have tail : ∀ (Z : Option AV), Z = some (.bool true) → Z = some (.bool true) := fun Z h => h
  cases hr : rightT t with
  | false =>
    simp only [cond_false, callT_ok, tupS_ok, tupI_ok, atNil_ok, w15]
    by_cases h0 : 0 ≤ v
    · rw [bif_t (by omega), text_k (n := n + 20) v hv.1 hv.2, callS_ok, number_text (n := n + 18) v h0 hv.2 hk]
      simp only [callT_ok, tupI_ok, atNil_ok, w0, decide_true, Bool.not_true, cond_false]
      rfl
    · rw [bif_f (by omega)]
      rfl
  | true =>
    have hr' := right_iff.1 hr
    have hl := printL_len s t hs hr'
    have hT : kp E k (n + 21) dec_Time [.str (str (printL s t))] = some (.tup [.agg [.int .i64 s, .int .i64 t], .int .u8 0]) := by
      rw [time_k (n := n + 18) _ (by omega) (by omega), time_print s t hs hr']
      rfl
    simp only [cond_true, callT_ok, tupS_ok, tupI_ok, atNil_ok, w0, hT, tupG_two, cell_one, cell_two, decide_true, Bool.not_true, cond_false, Bool.and_true]
    by_cases h0 : 0 ≤ v
    · rw [bif_t (by omega), text_k (n := n + 20) v hv.1 hv.2, callS_ok, number_text (n := n + 18) v h0 hv.2 hk]
      simp only [callT_ok, tupI_ok, atNil_ok, w0, decide_true, Bool.not_true, cond_false]
    · rw [bif_f (by omega)]
end Go.Proofs.YtilbahgfjfcikaaDoor.Eng.U
