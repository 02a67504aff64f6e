/- What is printed is read, in plain Lean. -/
import Derived.Test.YtilbahgfjfcikaaDoorQ04
import Derived.Lib.ItoaMem
set_option linter.unusedVariables false
set_option linter.unusedSimpArgs false
namespace Go.Proofs.YtilbahgfjfcikaaDoor.P04
open Go

theorem ofNat_dig {d : Nat} (h : d < 10) : (UInt8.ofNat (48 + d)).toNat = 48 + d := by rw [UInt8.toNat_ofNat']; omega
theorem isDig_of {d : Nat} (h : d < 10) : isDig (UInt8.ofNat (48 + d)) = true := by rw [dig_iff, ofNat_dig h]; omega
theorem dec_facts (u : Nat) : (Lib.decDigits u).all isDig = true ∧ valA 0 (Lib.decDigits u) = u ∧ Lib.decDigits u ≠ [] ∧ ((Lib.decDigits u).headD 0 = 48 → u = 0) := by
  induction u using Nat.strongRecOn with
  | ind u ih =>
    by_cases h : u < 10
    · rw [Lib.decDigits_one h]
      refine ⟨by rw [List.all_cons, isDig_of h]; rfl, ?_, by simp, fun e => ?_⟩
      · show 0 * 10 + ((UInt8.ofNat (48 + u)).toNat - 48) = u
        rw [ofNat_dig h]; omega
      · have : (UInt8.ofNat (48 + u)).toNat = 48 := congrArg UInt8.toNat e
        rw [ofNat_dig h] at this; omega
    · obtain ⟨h1, h2, h3, h4⟩ := ih (u / 10) (by omega)
      rw [decDigits_rec h]
      refine ⟨by rw [List.all_append, h1, List.all_cons, isDig_of (by omega)]; rfl, ?_, by simp, fun e => ?_⟩
      · rw [valA_app, h2]
        show u / 10 * 10 + ((UInt8.ofNat (48 + u % 10)).toNat - 48) = u
        rw [ofNat_dig (by omega)]; omega
      · cases hl : Lib.decDigits (u / 10) with
        | nil => exact absurd hl h3
        | cons c l =>
          rw [hl] at e h4
          have := h4 e
          omega
theorem dec_digs (u : Nat) : digs (Lib.decDigits u) = true := by
  obtain ⟨h1, _, h3, _⟩ := dec_facts u
  unfold digs
  rw [h1, Bool.true_and, Bool.not_eq_true', List.isEmpty_eq_false_iff]
  exact h3
theorem dec_natOk (u : Nat) (h : u ≤ 9223372036854775808) : natOk (Lib.decDigits u) = true := by
  obtain ⟨h1, h2, h3, h4⟩ := dec_facts u
  unfold natOk
  rw [dec_digs, h2, decide_eq_true h, Bool.and_true, Bool.true_and, Bool.not_eq_true']
  unfold lead
  by_cases e : (Lib.decDigits u).headD 0 = 48
  · have := h4 e
    subst this
    rw [Lib.decDigits_one (by omega)]
    rfl
  · rw [decide_eq_false e]; rfl
theorem valA_acc : ∀ (l : List UInt8) (a : Nat), valA a l = a * 10 ^ l.length + valA 0 l
  | [], a => by show a = a * 1 + 0; omega
  | c :: l, a => by
    rw [valA_cons, valA_cons, valA_acc l (a * 10 + (c.toNat - 48)), valA_acc l (0 * 10 + (c.toNat - 48)), List.length_cons, Nat.pow_succ]
    rw [Nat.zero_mul, Nat.zero_add, Nat.add_mul, Nat.mul_assoc, Nat.mul_comm 10, Nat.add_assoc]
theorem frac_length : ∀ k n, (frac k n).length = k
  | 0, _ => rfl
  | k + 1, n => by unfold frac; rw [List.length_cons, frac_length k]
theorem frac_val (m : Nat) (h : m < 1000000000) : valA 0 (frac 9 m) = m ∧ (frac 9 m).all isDig = true := by
  have hd := digits_frac m h
  obtain ⟨h1, h2, _, _⟩ := dec_facts (1000000000 + m)
  rw [hd] at h1 h2
  rw [List.all_cons, Bool.and_eq_true] at h1
  refine ⟨?_, h1.2⟩
  rw [valA_cons, valA_acc, frac_length] at h2
  have e : 0 * 10 + (UInt8.toNat 49 - 48) = 1 := rfl
  rw [e] at h2
  omega
theorem dropW_rep (c : UInt8) : ∀ l : List UInt8, l = List.replicate (l.length - (l.dropWhile (· == c)).length) c ++ l.dropWhile (· == c)
  | [] => rfl
  | x :: l => by
    rw [List.dropWhile_cons]
    by_cases h : x = c
    · subst h
      have ih := dropW_rep x l
      have hle : (l.dropWhile (· == x)).length ≤ l.length := (List.dropWhile_sublist _).length_le
      rw [if_pos (beq_self_eq_true x), List.length_cons, show l.length + 1 - (l.dropWhile (· == x)).length = (l.length - (l.dropWhile (· == x)).length) + 1 from by omega, List.replicate_succ, List.cons_append, ← ih]
    · rw [if_neg (by simpa using h), Nat.sub_self]
      rfl
theorem trim_rep (l : List UInt8) (c : UInt8) : l = Lib.trimRightB l c ++ List.replicate (l.length - (Lib.trimRightB l c).length) c := by
  have h := dropW_rep c l.reverse
  have h2 := congrArg List.reverse h
  rw [List.reverse_reverse, List.reverse_append, List.reverse_replicate, List.length_reverse] at h2
  unfold Lib.trimRightB
  rw [List.length_reverse]
  exact h2
theorem loopP_length : ∀ k n, (loopP k n).length ≤ k
  | 0, _ => Nat.le_refl _
  | k + 1, n => by
    unfold loopP
    split
    · simp
    · rw [List.length_cons]
      have := loopP_length k (n % 100000000 * 10)
      omega
theorem loop_facts (m : Nat) (h0 : 0 < m) (h : m < 1000000000) : digs (loopP 9 m) = true ∧ (loopP 9 m).length ≤ 9 ∧ valA 0 (loopP 9 m ++ List.replicate (9 - (loopP 9 m).length) 48) = m := by
  obtain ⟨h1, h2⟩ := frac_val m h
  have ht := trim_frac 9 m h (by simp [Nat.mod_one]) (by omega)
  have hr := trim_rep (frac 9 m) 48
  rw [ht, frac_length] at hr
  refine ⟨?_, loopP_length 9 m, by rw [← hr, h1]⟩
  unfold digs
  rw [hr, List.all_append, Bool.and_eq_true] at h2
  rw [h2.1, Bool.true_and, Bool.not_eq_true', List.isEmpty_eq_false_iff]
  unfold loopP
  rw [if_neg (by omega)]
  simp
/-- No point among digits. -/
theorem dot_digs : ∀ (a : List UInt8), a.all isDig = true → dot a = a.length
  | [], _ => rfl
  | c :: a, h => by
    rw [List.all_cons, Bool.and_eq_true] at h
    have hc := dig_iff.1 h.1
    have ih := dot_digs a h.2
    unfold dot at ih ⊢
    rw [List.findIdx_cons, beq_eq_false_iff_ne.2 (by rintro rfl; exact absurd hc.1 (by decide)), cond_false, ih, List.length_cons]
theorem dot_point : ∀ (a b : List UInt8), a.all isDig = true → dot (a ++ 46 :: b) = a.length
  | [], b, _ => rfl
  | c :: a, b, h => by
    rw [List.all_cons, Bool.and_eq_true] at h
    have hc := dig_iff.1 h.1
    have ih := dot_point a b h.2
    unfold dot at ih ⊢
    rw [List.cons_append, List.findIdx_cons, beq_eq_false_iff_ne.2 (by rintro rfl; exact absurd hc.1 (by decide)), cond_false, ih, List.length_cons]
theorem timeB_whole (q : Bool) (u : Nat) (hu : u ≤ 9223372036854775808) : timeB q (Lib.decDigits u) = if q = false then (if 9223372036854775807 < u then none else some ((u : Int), 0)) else some (-(u : Int), 0) := by
  obtain ⟨h1, h2, h3, h4⟩ := dec_facts u
  unfold timeB
  dsimp only
  rw [dot_digs _ h1, List.take_length, dec_natOk u hu, h2, if_neg (by simp), if_neg (fun h => by omega), if_neg (Nat.lt_irrefl _)]
  rfl
theorem timeB_parts (q : Bool) (u m : Nat) (hu : u ≤ 9223372036854775807) (hm0 : 0 < m) (hm : m < 1000000000) : timeB q (Lib.decDigits u ++ [46] ++ loopP 9 m) = if q = false then some ((u : Int), (m : Int)) else some (-(u : Int) - 1, 1000000000 - (m : Int)) := by
  obtain ⟨h1, h2, h3, h4⟩ := dec_facts u
  obtain ⟨g1, g2, g3⟩ := loop_facts m hm0 hm
  have hd := dot_point (Lib.decDigits u) (loopP 9 m) h1
  unfold timeB
  dsimp only
  rw [List.append_assoc, List.singleton_append, hd]
  have e1 : (Lib.decDigits u ++ 46 :: loopP 9 m).take (Lib.decDigits u).length = Lib.decDigits u := by simp
  have e2 : (Lib.decDigits u ++ 46 :: loopP 9 m).drop ((Lib.decDigits u).length + 1) = loopP 9 m := by
    rw [List.drop_append]
    simp
  rw [e1, e2, dec_natOk u (by omega), h2, if_neg (by simp), if_neg (fun h => h.2 ⟨g1, g2⟩), if_pos (show (Lib.decDigits u).length < (Lib.decDigits u ++ 46 :: loopP 9 m).length by simp), g3, if_neg (show ¬ m = 0 by omega), if_neg (show ¬ 9223372036854775807 < u by omega), if_neg (show ¬ 9223372036854775807 < u by omega)]
theorem dec_head (u : Nat) (l : List UInt8) : (Lib.decDigits u ++ l).head? ≠ some 45 := by
  obtain ⟨h1, _, h3, _⟩ := dec_facts u
  cases hl : Lib.decDigits u with
  | nil => exact absurd hl h3
  | cons c r =>
    rw [hl, List.all_cons, Bool.and_eq_true] at h1
    have hc := dig_iff.1 h1.1
    intro e
    rw [List.cons_append, List.head?_cons, Option.some.injEq] at e
    subst e
    exact absurd hc.1 (by decide)
theorem time_print (s t : Int) (hs : -9223372036854775808 ≤ s ∧ s ≤ 9223372036854775807) (ht : 0 ≤ t ∧ t < 1000000000) : timeL (printL s t) = some (s, t) := by
  unfold printL timeL
  by_cases h0 : t = 0
  · subst h0
    rw [if_pos rfl]
    unfold Lib.itoa
    by_cases h : s < 0
    · have hh : (45 :: Lib.decDigits s.natAbs).head? = some 45 := rfl
      rw [if_pos h, if_pos hh, decide_eq_true hh, List.drop_one, List.tail_cons, timeB_whole true _ (by omega), if_neg (by simp), show -((s.natAbs : Nat) : Int) = s from by omega]
    · have hh := dec_head s.toNat []
      rw [List.append_nil] at hh
      rw [if_neg h, if_neg hh, decide_eq_false hh, timeB_whole false _ (by omega), if_pos rfl, if_neg (by omega), show ((s.toNat : Nat) : Int) = s from by omega]
  · rw [if_neg h0]
    by_cases h : s < 0
    · have hh : (45 :: (Lib.decDigits (-(s + 1)).toNat ++ [46] ++ loopP 9 (1000000000 - t).toNat)).head? = some 45 := rfl
      rw [if_pos h, List.cons_append, List.cons_append, if_pos hh, decide_eq_true hh, List.drop_one, List.tail_cons, timeB_parts true _ _ (by omega) (by omega) (by omega), if_neg (by simp)]
      rw [show -(((-(s + 1)).toNat : Nat) : Int) - 1 = s from by omega, show (1000000000 : Int) - (((1000000000 - t).toNat : Nat) : Int) = t from by omega]
    · have hh := dec_head s.toNat ([46] ++ loopP 9 t.toNat)
      rw [← List.append_assoc] at hh
      rw [if_neg h, if_neg hh, decide_eq_false hh, timeB_parts false _ _ (by omega) (by omega) (by omega), if_pos rfl, show ((s.toNat : Nat) : Int) = s from by omega, show ((t.toNat : Nat) : Int) = t from by omega]
/-! No fewer bytes. -/
theorem nDigits_le : ∀ (k u : Nat), u < 10 ^ (k + 1) → Lib.nDigits u ≤ k + 1
  | 0, u, h => by rw [Lib.nDigits_small (by omega)]; omega
  | k + 1, u, h => by
    by_cases h1 : u < 10
    · rw [Lib.nDigits_small h1]; omega
    · rw [Lib.nDigits_big h1]
      have := nDigits_le k (u / 10) (by rw [Nat.pow_succ] at h; omega)
      omega
theorem dec_short {a : List UInt8} (h : digs a = true) : (Lib.decDigits (valA 0 a)).length ≤ a.length := by
  unfold digs at h
  rw [Bool.and_eq_true, Bool.not_eq_true', List.isEmpty_eq_false_iff] at h
  have hl := List.length_pos_iff.2 h.2
  have := valA_lt a 0 0 h.1 (by omega)
  rw [Lib.decDigits_length]
  obtain ⟨k, hk⟩ : ∃ k, a.length = k + 1 := ⟨a.length - 1, by omega⟩
  rw [Nat.zero_add] at this
  rw [hk] at this ⊢
  exact nDigits_le k _ this
theorem loop_short : ∀ (j k n : Nat), n < 1000000000 → n % 10 ^ (9 - k) = 0 → k ≤ 9 → (loopP j n).length ≤ k
  | 0, k, n, _, _, _ => Nat.zero_le _
  | j + 1, k, n, hn, hm, hk => by
    unfold loopP
    by_cases h : n = 0
    · rw [if_pos h]; simp
    · rw [if_neg h, List.length_cons]
      cases k with
      | zero =>
        simp at hm
        omega
      | succ k =>
        have hm' : (n % 100000000 * 10) % 10 ^ (9 - k) = 0 := by
          have e : 10 ^ (9 - k) = 10 ^ (9 - (k + 1)) * 10 := by rw [← Nat.pow_succ]; congr 1; omega
          rw [e, Nat.mul_mod_mul_right]
          have hd : (10 : Nat) ^ (9 - (k + 1)) ∣ 100000000 := by
            have : (100000000 : Nat) = 10 ^ 8 := rfl
            rw [this]
            exact Nat.pow_dvd_pow 10 (by omega)
          rw [Nat.mod_mod_of_dvd _ hd, hm]
        have := loop_short j k (n % 100000000 * 10) (by omega) hm' (by omega)
        omega
theorem zeros_val : ∀ c, valA 0 (List.replicate c (48 : UInt8)) = 0
  | 0 => rfl
  | c + 1 => by rw [List.replicate_succ, valA_cons]; exact zeros_val c
theorem frac_short {b : List UInt8} (hb : digs b = true) (h9 : b.length ≤ 9) : (loopP 9 (valA 0 (b ++ List.replicate (9 - b.length) 48))).length ≤ b.length := by
  unfold digs at hb
  rw [Bool.and_eq_true] at hb
  have e : valA 0 (b ++ List.replicate (9 - b.length) 48) = valA 0 b * 10 ^ (9 - b.length) := by
    rw [valA_app, valA_acc, List.length_replicate, zeros_val, Nat.add_zero]
  have hlt := valA_lt b 0 0 hb.1 (by omega)
  rw [Nat.zero_add] at hlt
  refine loop_short 9 b.length _ ?_ (by rw [e]; exact Nat.mul_mod_left _ _) h9
  rw [e]
  have : 10 ^ b.length * 10 ^ (9 - b.length) = 1000000000 := by rw [← Nat.pow_add, show b.length + (9 - b.length) = 9 from by omega]
  rw [← this]
  exact Nat.mul_lt_mul_of_pos_right hlt (Nat.pow_pos (by omega))
theorem printL_parts (s t : Int) : (printL s t).length = (if t = 0 then (Lib.itoa s).length else if s < 0 then 1 + (Lib.decDigits (-(s + 1)).toNat).length + 1 + (loopP 9 (1000000000 - t).toNat).length else (Lib.decDigits s.toNat).length + 1 + (loopP 9 t.toNat).length) := by
  unfold printL
  split
  · rfl
  · split
    · simp; omega
    · simp; omega
theorem timeB_facts {q : Bool} {t : List UInt8} {p r : Int} (h : timeB q t = some (p, r)) : ∃ v w : Nat, v ≤ 9223372036854775808 ∧ (Lib.decDigits v).length + (if w = 0 then 0 else 1 + (loopP 9 w).length) ≤ t.length ∧ w < 1000000000 ∧ (q = false → p = (v : Int) ∧ r = (w : Int) ∧ v ≤ 9223372036854775807) ∧ (q = true → (w = 0 → p = -(v : Int) ∧ r = 0) ∧ (w ≠ 0 → p = -(v : Int) - 1 ∧ r = 1000000000 - (w : Int) ∧ v ≤ 9223372036854775807)) := by
  unfold timeB at h
  dsimp only at h
  have hdl : dot t ≤ t.length := List.findIdx_le_length
  split at h
  · cases h
  · rename_i ho
    have ho : natOk (t.take (dot t)) = true := by simpa using ho
    unfold natOk at ho
    rw [Bool.and_eq_true, Bool.and_eq_true, decide_eq_true_eq] at ho
    have ha := dec_short ho.1.1
    rw [List.length_take] at ha
    have hv := ho.2
    split at h
    · cases h
    · rename_i hpd
      refine ⟨valA 0 (t.take (dot t)), if dot t < t.length then valA 0 (t.drop (dot t + 1) ++ List.replicate (9 - (t.drop (dot t + 1)).length) 48) else 0, hv, ?_, ?_, ?_⟩
      · by_cases hp : dot t < t.length
        · have hb : digs (t.drop (dot t + 1)) = true ∧ (t.drop (dot t + 1)).length ≤ 9 := Classical.byContradiction fun hn => hpd ⟨hp, hn⟩
          have := frac_short hb.1 hb.2
          rw [if_pos hp]
          have hl : (t.drop (dot t + 1)).length = t.length - (dot t + 1) := List.length_drop
          rw [hl] at this ⊢
          split <;> omega
        · rw [if_neg hp, if_pos rfl]
          omega
      · by_cases hp : dot t < t.length
        · have hb : digs (t.drop (dot t + 1)) = true ∧ (t.drop (dot t + 1)).length ≤ 9 := Classical.byContradiction fun hn => hpd ⟨hp, hn⟩
          rw [if_pos hp]
          have hball : (t.drop (dot t + 1)).all isDig = true := by
            have := hb.1
            unfold digs at this
            rw [Bool.and_eq_true] at this
            exact this.1
          have hz : (List.replicate (9 - (t.drop (dot t + 1)).length) (48 : UInt8)).all isDig = true := by
            rw [List.all_eq_true]
            intro x hx
            rw [List.eq_of_mem_replicate hx]
            rfl
          have := valA_lt (t.drop (dot t + 1) ++ List.replicate (9 - (t.drop (dot t + 1)).length) 48) 0 0 (by rw [List.all_append, hball, hz]; rfl) (by omega)
          rw [List.length_append, List.length_replicate, Nat.zero_add, show (t.drop (dot t + 1)).length + (9 - (t.drop (dot t + 1)).length) = 9 from by omega] at this
          exact this
        · rw [if_neg hp]; omega
      · generalize (if dot t < t.length then valA 0 (t.drop (dot t + 1) ++ List.replicate (9 - (t.drop (dot t + 1)).length) 48) else 0) = w at h
        generalize valA 0 (t.take (dot t)) = v at h
        cases q with
        | false =>
          rw [if_pos rfl] at h
          refine ⟨fun _ => ?_, fun e => by cases e⟩
          split at h
          · cases h
          · cases h; exact ⟨rfl, rfl, by omega⟩
        | true =>
          rw [if_neg (by simp)] at h
          refine ⟨fun e => (by cases e), fun _ => ⟨fun hw => ?_, fun hw => ?_⟩⟩
          · rw [if_pos hw] at h
            have h := Option.some.inj h
            exact ⟨(congrArg Prod.fst h).symm, (congrArg Prod.snd h).symm⟩
          · rw [if_neg hw] at h
            split at h
            · cases h
            · have h := Option.some.inj h
              exact ⟨(congrArg Prod.fst h).symm, (congrArg Prod.snd h).symm, by omega⟩
theorem print_time {s : List UInt8} {p r : Int} (h : timeL s = some (p, r)) : (-9223372036854775808 ≤ p ∧ p ≤ 9223372036854775807) ∧ (0 ≤ r ∧ r < 1000000000) ∧ (printL p r).length ≤ s.length := by
  unfold timeL at h
  obtain ⟨v, w, hv, hl, hw, hf, ht⟩ := timeB_facts h
  rw [printL_parts]
  by_cases hs : s.head? = some 45
  · rw [decide_eq_true hs] at ht
    rw [if_pos hs] at hl
    obtain ⟨h1, h2⟩ := ht rfl
    have hlen : (s.drop 1).length + 1 ≤ s.length := by
      cases s with
      | nil => cases hs
      | cons c s => simp
    by_cases hw0 : w = 0
    · obtain ⟨rfl, rfl⟩ := h1 hw0
      rw [if_pos hw0] at hl
      refine ⟨by omega, by omega, ?_⟩
      rw [if_pos rfl]
      unfold Lib.itoa
      split
      · rw [List.length_cons, show (-(v : Int)).natAbs = v from by omega]; omega
      · rw [show (-(v : Int)).toNat = 0 from by omega, Lib.decDigits_one (by omega)]
        simp
        omega
    · obtain ⟨rfl, rfl, hv'⟩ := h2 hw0
      rw [if_neg hw0] at hl
      refine ⟨by omega, by omega, ?_⟩
      rw [if_neg (by omega), if_pos (by omega), show (-(-(v : Int) - 1 + 1)).toNat = v from by omega, show (1000000000 - (1000000000 - (w : Int))).toNat = w from by omega]
      omega
  · rw [decide_eq_false hs] at hf
    rw [if_neg hs] at hl
    obtain ⟨rfl, rfl, hv'⟩ := hf rfl
    refine ⟨by omega, by omega, ?_⟩
    by_cases hw0 : w = 0
    · subst hw0
      rw [if_pos rfl] at hl
      rw [if_pos (by omega)]
      unfold Lib.itoa
      rw [if_neg (by omega), Int.toNat_natCast]
      omega
    · rw [if_neg hw0] at hl
      rw [if_neg (by omega), if_neg (by omega), Int.toNat_natCast, Int.toNat_natCast]
      omega
end Go.Proofs.YtilbahgfjfcikaaDoor.P04
