/- ItemSame: the printed functions answer as the statement says. Written by wip/gen/gen_ispure.py. -/
import Derived.Test.YtelniipccmeooaaPItemSamex
import Derived.Test.YtelniipccmeooaaBase
set_option linter.unusedVariables false
set_option linter.unusedSimpArgs false
namespace Go.Proofs.Ytelniipccmeooaa.Pure.ItemSame
open Go.RowKit Go.Proofs.Ytelniipccmeooaa.PItemSame Go.Proofs.YtelniipccmeooaaW.PrintWords Go.Proofs.YtelniipccmeooaaW.PrintLast Go.Proofs.Ytelniipccmeooaa.Base

theorem eq_l0 (x0 x1 : List S55) : ∀ (k : Nat) (i : Int), slices_Equal_api_Pair_api_Pair.l0 k x0 x1 (x0.length : Int) i = oakumref07_Same.l0 k x0 x1 i
  | 0, _ => rfl
  | k + 1, i => by
    simp only [slices_Equal_api_Pair_api_Pair.l0, oakumref07_Same.l0]
    rw [eq_l0 x0 x1 k]
    by_cases h : i < (x0.length : Int)
    · by_cases h0 : 0 ≤ i
      · simp only [if_pos h, if_pos h0]
      · simp only [if_pos h, if_neg h0]
    · simp only [if_neg h]
theorem eq_ref (k : Nat) (l l' : List S55) : slices_Equal_api_Pair_api_Pair.f k l l' = oakumref07_Same.f k l l' := by
  unfold slices_Equal_api_Pair_api_Pair.f oakumref07_Same.f
  rw [eq_l0]
theorem ref07_l0 (l l' : List S55) (hl : l.length = l'.length) (hb : l.length ≤ 4398046510976) : ∀ (n i : Nat), i + n = l.length → ∃ r, Ev (fun k => oakumref07_Same.l0 k l l' i) r ∧ (l = l' → r = true)
  | 0, i, h => ⟨true, Ev.step (f := fun _ => some true) (fun k => by simp only [oakumref07_Same.l0]; rw [if_neg (by omega)]) (Ev.now true), fun _ => rfl⟩
  | n + 1, i, h => by
    obtain ⟨r, hr, hs⟩ := ref07_l0 l l' hl hb n (i + 1) (by omega)
    have hw : wrap64 ((i : Int) + 1) = ((i + 1 : Nat) : Int) := by rw [wrap64_id (by omega) (by omega)]; omega
    by_cases c : (!((((rd_T55 l i).f0).toList) == (((rd_T55 l' i).f0).toList)) || (!((((rd_T55 l i).f1).toList) == (((rd_T55 l' i).f1).toList)))) = true
    · refine ⟨false, Ev.step (f := fun _ => some false) (fun k => ?_) (Ev.now false), fun e => ?_⟩
      · simp only [oakumref07_Same.l0]
        rw [if_pos (by omega), if_pos (by omega), if_pos (by omega), if_pos c]
      · subst e
        simp at c
    · refine ⟨r, Ev.step (f := fun k => oakumref07_Same.l0 k l l' ((i + 1 : Nat) : Int)) (fun k => ?_) hr, hs⟩
      simp only [oakumref07_Same.l0]
      rw [if_pos (by omega), if_pos (by omega), if_pos (by omega), if_neg c, hw]
theorem ref07 (l l' : List S55) (hb : l.length ≤ 4398046510976) : ∃ r, Ev (fun k => oakumref07_Same.f k l l') r ∧ (l = l' → r = true) := by
  by_cases hl : l.length = l'.length
  · obtain ⟨r, hr, hs⟩ := ref07_l0 l l' hl hb l.length 0 (by omega)
    refine ⟨r, Ev.congr (f := fun k => oakumref07_Same.l0 k l l' ((0 : Nat) : Int)) (fun k => ?_) hr, hs⟩
    unfold oakumref07_Same.f
    rw [if_pos (by omega)]
    rfl
  · refine ⟨false, Ev.congr (f := fun _ => some false) (fun k => ?_) (Ev.now false), fun e => absurd (by rw [e]) hl⟩
    unfold oakumref07_Same.f
    rw [if_neg (by omega)]
theorem many_l0 (a0_0 : Int) (a0_1 : ByteArray) (a0_2 : ByteArray) (a0_3 : Int) (a0_4 : Int) (a0_5 : Int) (a0_6 : Int) (a0_7 : Int) (a0_8 : Int) (a0_9 : ByteArray) (a0_10 : ByteArray) (a0_11 : Int) (a0_12 : Int) (l : List S55) (hb : l.length ≤ 4398046510976) : ∀ (n i : Nat) (x : Int), i + n = l.length → ∃ r, Ev (fun k => oakumlaw09_many.l0 k x i a0_0 a0_1 a0_2 a0_3 a0_4 a0_5 a0_6 a0_7 a0_8 a0_9 a0_10 a0_11 a0_12 l) r
  | 0, i, x, h => by
    by_cases c : x > 200000
    · exact ⟨true, Ev.step (f := fun _ => some true) (fun k => by simp only [oakumlaw09_many.l0]; rw [if_neg (by omega), if_pos c]) (Ev.now true)⟩
    · exact ⟨_, Ev.step (f := fun _ => some (decide ((l.length : Int) > 40))) (fun k => by simp only [oakumlaw09_many.l0]; rw [if_neg (by omega), if_neg c]) (Ev.now _)⟩
  | n + 1, i, x, h => by
    obtain ⟨r, hr⟩ := many_l0 a0_0 a0_1 a0_2 a0_3 a0_4 a0_5 a0_6 a0_7 a0_8 a0_9 a0_10 a0_11 a0_12 l hb n (i + 1) (wrap64 ((wrap64 (x + (((rd_T55 l i).f0).size : Int))) + (((rd_T55 l i).f1).size : Int))) (by omega)
    have hw : wrap64 ((i : Int) + 1) = ((i + 1 : Nat) : Int) := by rw [wrap64_id (by omega) (by omega)]; omega
    refine ⟨r, Ev.step (f := fun k => oakumlaw09_many.l0 k (wrap64 ((wrap64 (x + (((rd_T55 l i).f0).size : Int))) + (((rd_T55 l i).f1).size : Int))) ((i + 1 : Nat) : Int) a0_0 a0_1 a0_2 a0_3 a0_4 a0_5 a0_6 a0_7 a0_8 a0_9 a0_10 a0_11 a0_12 l) (fun k => ?_) hr⟩
    simp only [oakumlaw09_many.l0]
    rw [if_pos (by omega), if_pos (by omega), hw]
theorem many (a0_0 : Int) (a0_1 : ByteArray) (a0_2 : ByteArray) (a0_3 : Int) (a0_4 : Int) (a0_5 : Int) (a0_6 : Int) (a0_7 : Int) (a0_8 : Int) (a0_9 : ByteArray) (a0_10 : ByteArray) (a0_11 : Int) (a0_12 : Int) (l : List S55) (hb : l.length ≤ 4398046510976) : ∃ r, Ev (fun k => oakumlaw09_many.f k a0_0 a0_1 a0_2 a0_3 a0_4 a0_5 a0_6 a0_7 a0_8 a0_9 a0_10 a0_11 a0_12 l) r := by
  obtain ⟨r, hr⟩ := many_l0 a0_0 a0_1 a0_2 a0_3 a0_4 a0_5 a0_6 a0_7 a0_8 a0_9 a0_10 a0_11 a0_12 l hb l.length 0 _ (by omega)
  exact ⟨r, hr⟩
theorem alive : ∃ k, oakumlaw09_alive.f k = some true := ⟨40, by decide +kernel⟩
theorem all (a0_0 : Int) (a0_1 : ByteArray) (a0_2 : ByteArray) (a0_3 : Int) (a0_4 : Int) (a0_5 : Int) (a0_6 : Int) (a0_7 : Int) (a0_8 : Int) (a0_9 : ByteArray) (a0_10 : ByteArray) (a0_11 : Int) (a0_12 : Int) (l0_13 : List S55) (l0_14 : List Int) (a1_0 : Int) (a1_1 : ByteArray) (a1_2 : ByteArray) (a1_3 : Int) (a1_4 : Int) (a1_5 : Int) (a1_6 : Int) (a1_7 : Int) (a1_8 : Int) (a1_9 : ByteArray) (a1_10 : ByteArray) (a1_11 : Int) (a1_12 : Int) (l1_13 : List S55) (l1_14 : List Int) (hp : l0_13.length ≤ 4398046510976) (hq : l1_13.length ≤ 4398046510976) (hd : l0_14.length ≤ 140737488351232) :
    ∃ (k : Nat) (ma mb s : Bool), oakumlaw09_alive.f k = some true ∧ oakumlaw09_many.f k a0_0 a0_1 a0_2 a0_3 a0_4 a0_5 a0_6 a0_7 a0_8 a0_9 a0_10 a0_11 a0_12 l0_13 = some ma ∧ oakumlaw09_many.f k a1_0 a1_1 a1_2 a1_3 a1_4 a1_5 a1_6 a1_7 a1_8 a1_9 a1_10 a1_11 a1_12 l1_13 = some mb ∧
      (item_Same.f k a0_0 a0_1 a0_2 a0_3 a0_4 a0_5 a0_6 a0_7 a0_8 a0_9 a0_10 a0_11 a0_12 l0_13 l0_14 a1_0 a1_1 a1_2 a1_3 a1_4 a1_5 a1_6 a1_7 a1_8 a1_9 a1_10 a1_11 a1_12 l1_13 l1_14 = some s ∧ oakumref09_Same.f k a0_0 a0_1 a0_2 a0_3 a0_4 a0_5 a0_6 a0_7 a0_8 a0_9 a0_10 a0_11 a0_12 l0_13 l0_14 a1_0 a1_1 a1_2 a1_3 a1_4 a1_5 a1_6 a1_7 a1_8 a1_9 a1_10 a1_11 a1_12 l1_13 l1_14 = some s ∧ item_Same.f k a0_0 a0_1 a0_2 a0_3 a0_4 a0_5 a0_6 a0_7 a0_8 a0_9 a0_10 a0_11 a0_12 l0_13 l0_14 a0_0 a0_1 a0_2 a0_3 a0_4 a0_5 a0_6 a0_7 a0_8 a0_9 a0_10 a0_11 a0_12 l0_13 l0_14 = some true ∧
      slices_Clone_api_Pair_api_Pair.f l0_13 = some l0_13 ∧ slices_Clone_byte_byte.f l0_14 = some l0_14 ∧ oakumref08_SameHead.f k a0_0 a0_1 a0_2 a0_3 a0_4 a0_5 a0_6 a0_7 a0_8 a0_9 a0_10 a0_11 a0_12 l0_13 a0_0 a0_1 a0_2 a0_3 a0_4 a0_5 a0_6 a0_7 a0_8 a0_9 a0_10 a0_11 a0_12 l0_13 = some true ∧ oakumref01_Same.f l0_14 l0_14 = some true ∧
      oakumref09_Same.f k a0_0 a0_1 a0_2 a0_3 a0_4 a0_5 a0_6 a0_7 a0_8 a0_9 a0_10 a0_11 a0_12 l0_13 l0_14 a0_0 a0_1 a0_2 a0_3 a0_4 a0_5 a0_6 a0_7 a0_8 a0_9 a0_10 a0_11 a0_12 l0_13 l0_14 = some true ∧ oakumref07_Same.f k l0_13 l0_13 = some true) := by
  obtain ⟨ka, hka⟩ := alive
  obtain ⟨K0, h0⟩ : Ev (fun k => oakumlaw09_alive.f k) true := Ev.of (fun k => oakumlaw09_alive.mono k) hka
  obtain ⟨ma, K1, h1⟩ := many a0_0 a0_1 a0_2 a0_3 a0_4 a0_5 a0_6 a0_7 a0_8 a0_9 a0_10 a0_11 a0_12 l0_13 hp
  obtain ⟨mb, K2, h2⟩ := many a1_0 a1_1 a1_2 a1_3 a1_4 a1_5 a1_6 a1_7 a1_8 a1_9 a1_10 a1_11 a1_12 l1_13 hq
  obtain ⟨r, ⟨K3, h3⟩, _⟩ := ref07 l0_13 l1_13 hp
  obtain ⟨r', ⟨K4, h4⟩, hr'⟩ := ref07 l0_13 l0_13 hp
  have hr' := hr' rfl
  subst hr'
  have a0 := h0 (K0 + K1 + K2 + K3 + K4) (by omega)
  have a1 := h1 (K0 + K1 + K2 + K3 + K4) (by omega)
  have a2 := h2 (K0 + K1 + K2 + K3 + K4) (by omega)
  have a3 : oakumref07_Same.f (K0 + K1 + K2 + K3 + K4) l0_13 l1_13 = some r := h3 (K0 + K1 + K2 + K3 + K4) (by omega)
  have a4 : oakumref07_Same.f (K0 + K1 + K2 + K3 + K4) l0_13 l0_13 = some true := h4 (K0 + K1 + K2 + K3 + K4) (by omega)
  have hself : oakumref08_SameHead.b a0_0 a0_1 a0_2 a0_3 a0_4 a0_5 a0_6 a0_7 a0_8 a0_9 a0_10 a0_11 a0_12 a0_0 a0_1 a0_2 a0_3 a0_4 a0_5 a0_6 a0_7 a0_8 a0_9 a0_10 a0_11 a0_12 = true := by simp [oakumref08_SameHead.b]
  refine ⟨K0 + K1 + K2 + K3 + K4, ma, mb, oakumref08_SameHead.b a0_0 a0_1 a0_2 a0_3 a0_4 a0_5 a0_6 a0_7 a0_8 a0_9 a0_10 a0_11 a0_12 a1_0 a1_1 a1_2 a1_3 a1_4 a1_5 a1_6 a1_7 a1_8 a1_9 a1_10 a1_11 a1_12 && r && ((strOfNums l0_14).toList == (strOfNums l1_14).toList), a0, a1, a2, ?_, ?_, ?_, ?_, ?_, ?_, ?_, ?_, a4⟩
  · unfold item_Same.f
    rw [eq_ref, a3]
    show (if r = true then (bytes_Equal.f l0_14 l1_14).bind fun u_ => if u_ = true then some (oakumref08_SameHead.b a0_0 a0_1 a0_2 a0_3 a0_4 a0_5 a0_6 a0_7 a0_8 a0_9 a0_10 a0_11 a0_12 a1_0 a1_1 a1_2 a1_3 a1_4 a1_5 a1_6 a1_7 a1_8 a1_9 a1_10 a1_11 a1_12) else some false else some false) = _
    unfold bytes_Equal.f
    generalize oakumref08_SameHead.b a0_0 a0_1 a0_2 a0_3 a0_4 a0_5 a0_6 a0_7 a0_8 a0_9 a0_10 a0_11 a0_12 a1_0 a1_1 a1_2 a1_3 a1_4 a1_5 a1_6 a1_7 a1_8 a1_9 a1_10 a1_11 a1_12 = c
    generalize ((strOfNums l0_14).toList == (strOfNums l1_14).toList) = d
    cases r <;> cases c <;> cases d <;> rfl
  · unfold oakumref09_Same.f oakumref08_SameHead.f oakumref01_Same.f
    rw [a3]
    generalize oakumref08_SameHead.b a0_0 a0_1 a0_2 a0_3 a0_4 a0_5 a0_6 a0_7 a0_8 a0_9 a0_10 a0_11 a0_12 a1_0 a1_1 a1_2 a1_3 a1_4 a1_5 a1_6 a1_7 a1_8 a1_9 a1_10 a1_11 a1_12 = c
    generalize ((strOfNums l0_14).toList == (strOfNums l1_14).toList) = d
    cases r <;> cases c <;> cases d <;> rfl
  · unfold item_Same.f
    rw [eq_ref, a4]
    show (if true = true then (bytes_Equal.f l0_14 l0_14).bind fun u_ => if u_ = true then some (oakumref08_SameHead.b a0_0 a0_1 a0_2 a0_3 a0_4 a0_5 a0_6 a0_7 a0_8 a0_9 a0_10 a0_11 a0_12 a0_0 a0_1 a0_2 a0_3 a0_4 a0_5 a0_6 a0_7 a0_8 a0_9 a0_10 a0_11 a0_12) else some false else some false) = _
    unfold bytes_Equal.f
    rw [hself, beq_self_eq_true]
    rfl
  · unfold slices_Clone_api_Pair_api_Pair.f
    rw [if_pos (by omega)]
  · unfold slices_Clone_byte_byte.f
    rw [if_pos (by omega)]
  · unfold oakumref08_SameHead.f
    rw [hself, if_pos rfl, a4]
  · unfold oakumref01_Same.f
    rw [beq_self_eq_true]
  · unfold oakumref09_Same.f oakumref08_SameHead.f oakumref01_Same.f
    rw [hself, if_pos rfl, a4, beq_self_eq_true]
    rfl
end Go.Proofs.Ytelniipccmeooaa.Pure.ItemSame
