/- The Dec laws answer true. -/
import Derived.Test.YtilbahgfjfcikaaDoorU04c
import Derived.Test.YtilbahgfjfcikaaDoorApi
set_option linter.unusedVariables false
set_option linter.unusedSectionVars false
set_option linter.unusedSimpArgs false
namespace Go.Proofs.YtilbahgfjfcikaaDoor.Eng.U
open Go Go.Proofs Go.Proofs.YtilbahgfjfcikaaDoor.Eng Go.Proofs.YtilbahgfjfcikaaDoor.P04
variable {E : Ext} [Core E] [HasNum E] {k n : Nat}

theorem alive04 (hk : 10 < k) : kp E k (n + 4) law04_alive [] = some (.bool true) := by
  have ht : timeL [45, 48, 46, 53] = some (-1, 500000000) := by decide +kernel
  have hp : printL 1 500000000 = [49, 46, 53] := by
    unfold printL
    rw [if_neg (by omega), if_neg (by omega)]
    have e1 : Lib.decDigits (Int.toNat 1) = [49] := Lib.decDigits_one (i := 1) (by omega)
    have e2 : loopP 9 (Int.toNat 500000000) = [53] := by decide +kernel
    rw [e1, e2]
    rfl
  rw [law04_alive_eq, time_k (n := n) [45, 48, 46, 53] (by simp) (by simp; omega), ht]
  unfold timeAV
  dsimp only
  rw [callT_ok]
  have e : ∀ (K : List AV → List AV → Option AV) (a : List AV) (t : List AV), tupG a.length (.agg a :: t) K = K a t := by
    intro K a t
    simp [tupG, atCons, atAgg, AV.isFresh]
  have e2 : ∀ (K : List AV → List AV → Option AV) (a b : AV) (t : List AV), tupG 2 (.agg [a, b] :: t) K = K [a, b] t := fun K a b t => e K [a, b] t
  have c0 : ∀ (a b : Int) (K : Int → Option AV), cellI .i64 [.int .i64 a, .int .i64 b] 0 K = K a := fun a b K => cellI_0 _ _ _
  have c1 : ∀ (a b : Int) (K : Int → Option AV), cellI .i64 [.int .i64 a, .int .i64 b] 1 K = K b := fun a b K => by simp [cellI, cellAt, atInt]
  rw [e2, c0, c1, tupI_ok, atNil_ok, print_k (n := n) 1 500000000 (by omega) (by omega), hp]
  have hr : rightT 500000000 = true := rfl
  rw [hr, cond_true, callT_ok, tupS_ok, tupI_ok, atNil_ok]
  have hw : IntKind.wrap .i64 0 = 0 := i64w (by omega)
  have hw' : IntKind.wrap .i64 (IntKind.wrap .i64 0 + IntKind.wrap .i64 0) = 0 := by rw [hw]; exact i64w (by omega)
  rw [hw']
  rfl
theorem before_k (s t s' t' : Int) : kp E k (n + 2) dec_Before [.agg [.int .i64 s, .int .i64 t], .agg [.int .i64 s', .int .i64 t']] = some (.bool (rightT t && rightT t' && (decide (s < s') || decide (s = s') && decide (t < t')))) := by
  rw [dec_Before_eq, right_k, right_k, callB_ok]
  cases rightT t with
  | false => rfl
  | true =>
    rw [cond_true, callB_ok]
    cases rightT t' with
    | false => rfl
    | true =>
      rw [cond_true]
      by_cases h1 : s < s'
      · rw [bif_t h1, decide_eq_true h1]; rfl
      · rw [bif_f h1, decide_eq_false h1]
        by_cases h2 : s = s'
        · rw [bif_t h2, decide_eq_true h2]; rfl
        · rw [bif_f h2, decide_eq_false h2]; rfl
theorem decPrints_true (v : Int) (s t s' t' : Int) (hv : -9223372036854775808 ≤ v ∧ v ≤ 9223372036854775807) (hs : -9223372036854775808 ≤ s ∧ s ≤ 9223372036854775807) (hk : 10 < k) : kp E k (n + 22) law04_DecPrints [.int .i64 v, .agg [.int .i64 s, .int .i64 t], .agg [.int .i64 s', .int .i64 t']] = some (.bool true) := by
  rw [law04_DecPrints_eq, alive04 hk, callB_ok, Bool.not_true, cond_false]
  simp only [print_k (n := n + 18) s t hs.1 hs.2, text_k (n := n + 20) v hv.1 hv.2, refText_k (n := n + 1) v hv.1 hv.2, right_k, refRight_k, before_k (n := n + 19), callB_ok, callS_ok]
  cases hr : rightT t with
  | false =>
    simp only [cond_false, callT_ok, tupS_ok, tupI_ok, atNil_ok, decide_true, Bool.not_true, Bool.not_false, cond_true, Bool.false_and, beq_self_eq_true]
    rw [i64w (by omega)]
    rfl
  | true =>
    rw [refPrint_k (n := n) s t hs.1 hs.2 hr hk]
    have hw : IntKind.wrap .i64 0 = 0 := i64w (by omega)
    simp only [cond_true, cond_false, callT_ok, callS_ok, tupS_ok, tupI_ok, atNil_ok, decide_true, Bool.not_true, Bool.not_false, Bool.true_and, beq_self_eq_true, hw]
    cases rightT t' with
    | false => rfl
    | true =>
      simp only [cond_true, Bool.true_and]
      by_cases h1 : s < s'
      · rw [bif_t h1, decide_eq_true h1]; rfl
      · rw [bif_f h1, decide_eq_false h1]
        by_cases h2 : s = s'
        · rw [bif_t h2, decide_eq_true h2]
          by_cases h3 : t < t'
          · rw [decide_eq_true h3]; rfl
          · rw [decide_eq_false h3]; rfl
        · rw [bif_f h2, decide_eq_false h2]; rfl
end Go.Proofs.YtilbahgfjfcikaaDoor.Eng.U
