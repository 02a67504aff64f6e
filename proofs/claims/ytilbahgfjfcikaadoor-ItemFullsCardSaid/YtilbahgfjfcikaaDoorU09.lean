/- Items' names in plain words: what a full name tells, a head's full names, how much a head is. -/
import Derived.Test.YtilbahgfjfcikaaDoorR09
import Derived.Test.YtilbahgfjfcikaaDoorE23
import Derived.Test.YtilbahgfjfcikaaDoorApi
set_option linter.unusedVariables false
set_option linter.unusedSectionVars false
set_option linter.unusedSimpArgs false
namespace Go.Proofs.YtilbahgfjfcikaaDoor.Eng.U
open Go Go.Proofs Go.Proofs.YtilbahgfjfcikaaDoor.Eng
variable {E : Ext} [Core E] {k n : Nat}

theorem snoc_cases (s : List UInt8) : s = [] ∨ ∃ l c, s = l ++ [c] := by
  induction s with
  | nil => exact .inl rfl
  | cons x s ih =>
    rcases ih with rfl | ⟨l, c, rfl⟩
    · exact .inr ⟨[], x, rfl⟩
    · exact .inr ⟨x :: l, c, rfl⟩
/-- Does a text end in a slash? -/
def sl (s : List UInt8) : Bool := decide (s.getLast? = some 47)
theorem suffix_k (s : List UInt8) (h : s.length ≤ 1000000000000000) : kp E k (n + 2) strings_HasSuffix [.str (str s), .str (str [47])] = some (.bool (sl s)) := by
  rw [strings_HasSuffix_eq, stringslite_HasSuffix_eq, str_size, str_size, List.length_singleton]
  rcases snoc_cases s with rfl | ⟨l, c, rfl⟩
  · rfl
  · rw [List.length_append, List.length_singleton] at h ⊢
    have hd : (l ++ [c]).drop l.length = [c] := by simp
    rw [bif_t (by omega), i64w (by omega), bif_a, bif_t (by omega), bif_t (by omega), show (((l.length + 1 : Nat) : Int) - ((1 : Nat) : Int)).toNat = l.length from by omega, str_ext, List.take_of_length_le (by simp), hd, callB_ok, str_dec]
    unfold sl
    simp
def told (kind : Int) (s : List UInt8) : Int × List UInt8 :=
  if kind = 1 ∧ sl s = true then (if 1 < s.length then (6, s.dropLast) else (6, s))
  else if kind = 6 ∧ sl s = true ∧ 1 < s.length then (6, s.dropLast) else (kind, s)
theorem told_k (kind : Int) (s : List UInt8) (h : s.length ≤ 1000000000000000) : kp E k (n + 3) item_Told [.int .i64 kind, .str (str s)] = some (.tup [.int .i64 (told kind s).1, .str (str (told kind s).2)]) := by
  rw [item_Told_eq, suffix_k s h, callB_ok, str_size]
  have hcut : 1 < s.length → ByteArray.extract (str s) 0 (Int.toNat (IntKind.wrap .i64 ((((s.length : Nat) : Int)) - (1 : Int)))) = str s.dropLast := fun hl => by
    rw [i64w (by omega), show (((s.length : Nat) : Int) - (1 : Int)).toNat = s.length - 1 from by omega, str_ext, List.drop_zero, List.dropLast_eq_take]
  have hin : 1 < s.length → (decide ((0 : Int) ≤ (IntKind.wrap .i64 (((s.length : Nat) : Int) - (1 : Int)))) && decide ((IntKind.wrap .i64 (((s.length : Nat) : Int) - (1 : Int))) ≤ ((s.length : Nat) : Int))) = true := fun hl => by
    rw [i64w (by omega), decide_eq_true (by omega), decide_eq_true (by omega)]; rfl
  have hgt : decide (((s.length : Nat) : Int) > 1) = decide (1 < s.length) := by rw [decide_eq_decide]; omega
  unfold told
  by_cases h1 : kind = 1
  · subst h1
    cases hs : sl s with
    | false => simp only [decide_true, cond_true, cond_false, show decide ((1 : Int) = 6) = false from rfl, Bool.false_eq_true, and_false, false_and, if_false]
    | true =>
      by_cases hl : 1 < s.length
      · simp only [decide_true, cond_true, hgt, decide_eq_true hl, hin hl, hcut hl, and_self, if_true, if_pos hl]
      · simp only [decide_true, cond_true, cond_false, hgt, decide_eq_false hl, and_self, if_true, if_neg hl]
  · by_cases h6 : kind = 6
    · subst h6
      cases hs : sl s with
      | false => simp only [show decide ((6 : Int) = 1) = false from rfl, decide_true, cond_true, cond_false, Bool.false_eq_true, and_false, false_and, if_false]
      | true =>
        by_cases hl : 1 < s.length
        · simp only [show decide ((6 : Int) = 1) = false from rfl, show ¬ ((6 : Int) = 1) by omega, decide_true, decide_false, cond_true, cond_false, hgt, decide_eq_true hl, hin hl, hcut hl, false_and, if_false, true_and, and_self, if_true, if_pos hl, hl]
        · simp only [show decide ((6 : Int) = 1) = false from rfl, show ¬ ((6 : Int) = 1) by omega, decide_true, decide_false, cond_true, cond_false, hgt, decide_eq_false hl, false_and, if_false, true_and, hl]
    · simp only [decide_eq_false h1, decide_eq_false h6, decide_false, cond_false, h1, h6, false_and, if_false]
def fulls (kind : Int) (s : List UInt8) : List (List UInt8) :=
  if kind = 6 then (if sl s = true ∧ 1 < s.length then [s ++ [47]] else [s, s ++ [47]]) else [s]
theorem fulls_k (h : Head) (hl : h.name.length ≤ 1000000000000000) : kp E k (n + 3) item_Fulls [.agg (encHead h)] = some (.list 1 (svs (fulls h.kind h.name))) := by
  unfold encHead
  rw [item_Fulls_eq, str_size]
  have hgt : decide (((h.name.length : Nat) : Int) > 1) = decide (1 < h.name.length) := by rw [decide_eq_decide]; omega
  unfold fulls
  by_cases h6 : h.kind = 6
  · rw [decide_eq_true h6, Bool.not_true, cond_false, bif_t (by omega), suffix_k _ (by omega), callB_ok, if_pos h6, str_app, hgt]
    cases hs : sl h.name with
    | false => rw [cond_false, if_neg (by simp)]; rfl
    | true =>
      by_cases hl : 1 < h.name.length
      · rw [cond_true, decide_eq_true hl, cond_true, if_pos ⟨rfl, hl⟩]; rfl
      · rw [cond_true, decide_eq_false hl, cond_false, if_neg (fun h => hl h.2)]; rfl
  · rw [decide_eq_false h6, Bool.not_false, cond_true, if_neg h6]; rfl
/-- What the two say of each other. -/
theorem told_fulls (kind : Int) (s other : List UInt8) (hs : s ≠ []) (hf : ¬ (kind = 1 ∧ sl s = true)) : (∀ f ∈ fulls kind s, told kind f = (kind, s)) ∧ (other ∈ fulls kind s ↔ told kind other = (kind, s)) := by
  have e1 : ∀ t : List UInt8, sl (t ++ [47]) = true := fun t => by simp [sl]
  have e2 : ∀ t : List UInt8, sl t = true → t = t.dropLast ++ [47] := by
    intro t ht
    rcases snoc_cases t with rfl | ⟨l, c, rfl⟩
    · simp [sl] at ht
    · simp [sl] at ht
      subst ht
      simp
  have hpos : 0 < s.length := List.length_pos_iff.2 hs
  by_cases h6 : kind = 6
  · subst h6
    have t2 : told 6 (s ++ [47]) = (6, s) := by
      unfold told
      rw [if_neg (fun h => by omega), if_pos ⟨rfl, e1 s, by rw [List.length_append, List.length_singleton]; omega⟩, List.dropLast_concat]
    unfold fulls
    rw [if_pos rfl]
    by_cases he : sl s = true ∧ 1 < s.length
    · rw [if_pos he]
      refine ⟨fun f hf => by rw [List.mem_singleton.1 hf, t2], ⟨fun h => by rw [List.mem_singleton.1 h, t2], fun h => ?_⟩⟩
      unfold told at h
      rw [if_neg (fun h => by omega)] at h
      by_cases ho : sl other = true ∧ 1 < other.length
      · rw [if_pos ⟨rfl, ho⟩] at h
        have := congrArg Prod.snd h
        rw [List.mem_singleton, e2 other ho.1]
        exact congrArg (· ++ [47]) this
      · rw [if_neg (fun h => ho h.2)] at h
        have := congrArg Prod.snd h
        have : other = s := this
        subst this
        exact absurd he ho
    · rw [if_neg he]
      have t1 : told 6 s = (6, s) := by
        unfold told
        rw [if_neg (fun h => by omega), if_neg (fun h => he h.2)]
      refine ⟨fun f hf => ?_, ⟨fun h => ?_, fun h => ?_⟩⟩
      · rcases List.mem_cons.1 hf with rfl | hf
        · exact t1
        · rw [List.mem_singleton.1 hf, t2]
      · rcases List.mem_cons.1 h with rfl | hf
        · exact t1
        · rw [List.mem_singleton.1 hf, t2]
      · unfold told at h
        rw [if_neg (fun h => by omega)] at h
        by_cases ho : sl other = true ∧ 1 < other.length
        · rw [if_pos ⟨rfl, ho⟩] at h
          have := congrArg Prod.snd h
          refine List.mem_cons_of_mem _ ?_
          rw [List.mem_singleton, e2 other ho.1]
          exact congrArg (· ++ [47]) this
        · rw [if_neg (fun h => ho h.2)] at h
          have := congrArg Prod.snd h
          have : other = s := this
          subst this
          simp
  · have tk : ∀ t : List UInt8, ¬ (kind = 1 ∧ sl t = true) → told kind t = (kind, t) := fun t ht => by
      unfold told
      rw [if_neg ht, if_neg (fun h => h6 h.1)]
    unfold fulls
    rw [if_neg h6]
    refine ⟨fun f hf' => by rw [List.mem_singleton.1 hf', tk s hf], ⟨fun h => by rw [List.mem_singleton.1 h, tk s hf], fun h => ?_⟩⟩
    by_cases ho : kind = 1 ∧ sl other = true
    · unfold told at h
      rw [if_pos ho] at h
      split at h
      · have := congrArg Prod.fst h
        exact absurd this.symm h6
      · have := congrArg Prod.fst h
        exact absurd this.symm h6
    · rw [tk other ho] at h
      have := congrArg Prod.snd h
      rw [List.mem_singleton]
      exact this
end Go.Proofs.YtilbahgfjfcikaaDoor.Eng.U
