/- Several texts of this proof in one file: V08b. -/
import Derived.Test.YtogfcfgfkggmlaaGreatDoorMOverAgain1
/- The laws of overlays in plain words, part 2: OverLays, OverAgain. -/
set_option linter.unusedVariables false
set_option linter.unusedSectionVars false
set_option linter.unusedSimpArgs false
namespace Go.Proofs.YtogfcfgfkggmlaaGreatDoor.Eng.U
open Go Go.RowKit Go.Proofs Go.Proofs.YtogfcfgfkggmlaaGreatDoor.Eng Go.Proofs.YtogfcfgfkggmlaaGreatDoor.P04

section
variable {E : Ext} [Core E] {k n : Nat}
end
theorem again_loop2 (l more : List Pair) (hl : l.length ≤ 40) (hm : more.length ≤ 40) : ∀ (suf pre : List Pair) (k0 : Nat), suf.length < k0 → pre ++ suf = layAll l →
    law08_OverAgain_L2 (kp ext08 10000000000000 25) 10000000000000 k0 (prs more) (prs (layAll (l ++ more))) (prs (layAll l)) ((pre.length : Nat) : Int) = some (.bool true)
  | [], pre, k0 + 1, h, he => by
    rw [List.append_nil] at he
    rw [law08_OverAgain_L2_s, prs_len, bif_f (by rw [← he]; omega)]
  | p :: suf, pre, k0 + 1, h, he => by
    have hi : pre.length < (layAll l).length := by rw [← he]; simp
    have hmm : ∀ F : AV → Option AV, ((prs (layAll l))[pre.length]?).bind F = F (elPair p) := fun F => by rw [← he]; exact prs_mid pre suf p F
    have hmem : p ∈ layAll l := by rw [← he]; simp
    have hln := lay_len l
    have hln2 := lay_len (l ++ more)
    rw [List.length_append] at hln2
    have ih := again_loop2 l more hl hm suf (pre ++ [p]) k0 (by simpa using h) (by rw [← he]; simp)
    rw [List.length_append, List.length_singleton] at ih
    rw [law08_OverAgain_L2_s, prs_len, bif_t (by omega), bif_a, bif_t (by omega), bif_t (by omega), Int.toNat_natCast, hmm, cells_pair, p_0, HasGet.get (E := ext08) _ _ more p.key (by omega), wrap1 (by omega)]
    cases hq : getL more p.key with
    | some q =>
      have e : ∀ K : List AV → Option AV, callT (some (getAV (some q))) K = K [.str (str q.val), .bool true] := fun K => rfl
      rw [e, tupS_ok, tupB_ok, atNil_ok, cond_true]
      exact ih
    | none =>
      have e : ∀ K : List AV → Option AV, callT (some (getAV none)) K = K [.str (str []), .bool false] := fun K => rfl
      obtain ⟨q, hq2, hv⟩ := lay_stays hmem hq
      have e2 : ∀ K : List AV → Option AV, callT (some (getAV (some q))) K = K [.str (str q.val), .bool true] := fun K => rfl
      rw [e, tupS_ok, tupB_ok, atNil_ok, cond_false, bif_a, bif_t (by omega), bif_t (by omega), hmm, cells_pair, p_0, HasGet.get (E := ext08) _ _ (layAll (l ++ more)) p.key (by omega), hq2, e2, tupS_ok, tupB_ok, atNil_ok, Bool.not_true, cond_false, bif_a, bif_t (by omega), bif_t (by omega), hmm, cells_pair, p_1, str_dec, decide_eq_true hv, Bool.not_true, cond_false]
      exact ih
theorem again_loop1 (l more : List Pair) (fl : few8L l = true) (fm : few8L more = true) : ∀ (suf pre : List Pair) (b : Bool) (k0 : Nat), suf.length < k0 → pre ++ suf = more → b = (l.all pairOk && pre.all pairOk) →
    law08_OverAgain_L1 (kp ext08 10000000000000 25) 10000000000000 k0 (prs l) (prs more) (prs (layAll (l ++ more))) b ((pre.length : Nat) : Int) = some (.bool true)
  | [], pre, b, k0 + 1, h, he, hb => by
    rw [List.append_nil] at he
    subst he
    obtain ⟨f1, f2, f3⟩ := few8_facts fl
    obtain ⟨m1, m2, m3⟩ := few8_facts fm
    have hln := lay_len (l ++ pre)
    have hln1 := lay_len l
    rw [List.length_append] at hln
    have hL2 := again_loop2 l pre f1 m1 (layAll l) [] 10000000000000 (by omega) rfl
    have hlay := overLay_k (E := ext08) (k := 10000000000000) (n := 20) l [] (by omega) (by simp) (by omega)
    rw [List.append_nil] at hlay
    have hlay' : kp ext08 10000000000000 25 over_Lay [.list 2 (prs l), .list 2 []] = _ := hlay
    rw [law08_OverAgain_L1_s, prs_len, bif_f (by omega), hlay']
    cases b with
    | false => rw [cond_false, callL_ok]; exact hL2
    | true =>
      have hall := hb.symm
      rw [Bool.and_eq_true] at hall
      have hok : overOk (layAll (l ++ pre)) = true := by
        unfold overOk
        rw [lay_okst, Bool.true_and, List.all_eq_true]
        intro q hq
        rcases List.mem_append.1 (mem_layAll hq) with h | h
        · exact List.all_eq_true.1 hall.1 q h
        · exact List.all_eq_true.1 hall.2 q h
      have hbb : ∀ p ∈ layAll (l ++ pre), p.key.length ≤ 1000000 ∧ p.val.length ≤ 1000000 := fun p hp => by
        rcases List.mem_append.1 (mem_layAll hp) with h | h
        · have := f2 p h; omega
        · have := m2 p h; omega
      rw [cond_true, overRight_k (E := ext08) (n := 19) _ (by omega) hbb (by omega), callB_ok, hok, Bool.not_true, cond_false, callL_ok]
      exact hL2
  | p :: suf, pre, b, k0 + 1, h, he, hb => by
    obtain ⟨m1, m2, m3⟩ := few8_facts fm
    have hi : pre.length < more.length := by rw [← he]; simp
    have hmm : ∀ F : AV → Option AV, ((prs more)[pre.length]?).bind F = F (elPair p) := fun F => by rw [← he]; exact prs_mid pre suf p F
    have hpm := m2 p (by rw [← he]; simp)
    have ih := fun b hb => again_loop1 l more fl fm suf (pre ++ [p]) b k0 (by simpa using h) (by rw [← he]; simp) hb
    rw [List.length_append, List.length_singleton] at ih
    rw [law08_OverAgain_L1_s, prs_len, bif_t (by omega), wrap1 (by omega)]
    cases b with
    | false =>
      rw [cond_false]
      refine ih false ?_
      rw [List.all_append, ← Bool.and_assoc, ← hb]; rfl
    | true =>
      rw [cond_true, bif_a, bif_t (by omega), bif_t (by omega), Int.toNat_natCast, hmm, cells_pair, p_0, p_1, refPair_k (E := ext08) (n := 21) p (by omega) (by omega) (by omega), callB_ok]
      refine ih (pairOk p) ?_
      rw [List.all_append, ← Bool.and_assoc, ← hb]; simp
theorem again_loop0 (l more : List Pair) (fl : few8L l = true) (fm : few8L more = true) : ∀ (suf pre : List Pair) (b : Bool) (k0 : Nat), suf.length < k0 → pre ++ suf = l → b = pre.all pairOk →
    law08_OverAgain_L0 (kp ext08 10000000000000 25) 10000000000000 k0 (prs l) (prs more) (prs (layAll (l ++ more))) b ((pre.length : Nat) : Int) = some (.bool true)
  | [], pre, b, k0 + 1, h, he, hb => by
    rw [List.append_nil] at he
    subst he
    obtain ⟨m1, m2, m3⟩ := few8_facts fm
    rw [law08_OverAgain_L0_s, prs_len, bif_f (by omega)]
    exact again_loop1 pre more fl fm more [] b 10000000000000 (by omega) rfl (by rw [hb]; simp)
  | p :: suf, pre, b, k0 + 1, h, he, hb => by
    obtain ⟨m1, m2, m3⟩ := few8_facts fl
    have hi : pre.length < l.length := by rw [← he]; simp
    have hmm : ∀ F : AV → Option AV, ((prs l)[pre.length]?).bind F = F (elPair p) := fun F => by rw [← he]; exact prs_mid pre suf p F
    have hpm := m2 p (by rw [← he]; simp)
    have ih := fun b hb => again_loop0 l more fl fm suf (pre ++ [p]) b k0 (by simpa using h) (by rw [← he]; simp) hb
    rw [List.length_append, List.length_singleton] at ih
    rw [law08_OverAgain_L0_s, prs_len, bif_t (by omega), wrap1 (by omega)]
    cases b with
    | false =>
      rw [cond_false]
      refine ih false ?_
      rw [List.all_append, ← hb]; rfl
    | true =>
      rw [cond_true, bif_a, bif_t (by omega), bif_t (by omega), Int.toNat_natCast, hmm, cells_pair, p_0, p_1, refPair_k (E := ext08) (n := 21) p (by omega) (by omega) (by omega), callB_ok]
      refine ih (pairOk p) ?_
      rw [List.all_append, ← hb]; simp
theorem again08 (l more : List Pair) (gl : G_LapiPair l) (gm : G_LapiPair more) : (bs ext08 10000000000000).kap 26 law08_OverAgain [.list 2 (prs l), .list 2 (prs more)] = some (.bool true) := by
  have g1 := gl.1
  have g2 := gm.1
  change kp ext08 10000000000000 26 law08_OverAgain [.list 2 (prs l), .list 2 (prs more)] = _
  rw [law08_OverAgain_eq, alive08, callB_ok, Bool.not_true, cond_false, few8_k (n := 24) l gl (by omega), callB_ok]
  cases hf : few8L l with
  | false => rfl
  | true =>
    rw [Bool.not_true, cond_false, few8_k (n := 24) more gm (by omega), callB_ok]
    cases hf2 : few8L more with
    | false => rfl
    | true =>
      obtain ⟨f1, f2, f3⟩ := few8_facts hf
      obtain ⟨m1, m2, m3⟩ := few8_facts hf2
      have hln := lay_len (l ++ more)
      rw [List.length_append] at hln
      have h2 := overLay_k (E := ext08) (k := 10000000000000) (n := 20) (layAll (l ++ more)) more (by omega) (by omega) (by omega)
      rw [lay_again] at h2
      have h3 := overLay_k (E := ext08) (k := 10000000000000) (n := 20) (layAll (l ++ more)) [] (by omega) (by simp) (by omega)
      rw [List.append_nil, lay_self (lay_okst _)] at h3
      have h3' : kp ext08 10000000000000 25 over_Lay [.list 2 (prs (layAll (l ++ more))), .list 2 []] = _ := h3
      rw [Bool.not_true, cond_false, prs_len, show (decide ((0 + l.length) * 32 ≤ 140737488355328) && decide (0 + l.length ≤ 9223372036854775807)) = true by simp; omega, cond_true, overLay_k (E := ext08) (n := 20) l more (by omega) (by omega) (by omega), callL_ok, h2, callL_ok, pSame_k (n := 24) _ _ (by omega) (by omega), callB_ok, decide_eq_true rfl, Bool.not_true, cond_false, h3', callL_ok, pSame_k (n := 24) _ _ (by omega) (by omega), callB_ok, decide_eq_true rfl, Bool.not_true, cond_false, List.nil_append, pSame_k (n := 24) l l (by omega) (by omega), callB_ok, decide_eq_true rfl, Bool.not_true, cond_false]
      exact again_loop0 l more hf hf2 l [] true 10000000000000 (by omega) rfl rfl
end Go.Proofs.YtogfcfgfkggmlaaGreatDoor.Eng.U

