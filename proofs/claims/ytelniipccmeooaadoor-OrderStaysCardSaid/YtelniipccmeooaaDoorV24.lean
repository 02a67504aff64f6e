/- The Path laws in plain words: each answers true. -/
import Derived.Test.YtelniipccmeooaaDoorT24
set_option linter.unusedVariables false
set_option linter.unusedSimpArgs false
set_option linter.unusedSectionVars false
namespace Go.Proofs.YtelniipccmeooaaDoor.Eng.U
open Go Go.Proofs Go.Proofs.YtelniipccmeooaaDoor.Eng Go.Proofs.YtelniipccmeooaaDoor.P24
variable {E : Ext} [Core E] [HasParts E] [HasJoin E] {k n : Nat}

theorem same_loop (kap : FuncId → List AV → Option AV) : ∀ (suf pre sb pb : List (List UInt8)) (k0 : Nat), suf.length < k0 → (pre ++ suf).length < 1000000000 → suf.length = sb.length → pre.length = pb.length →
    law24_same_L0 kap k k0 (svs (pre ++ suf)) (svs (pb ++ sb)) ((pre.length : Nat) : Int) = some (.bool (decide (suf = sb)))
  | [], pre, [], pb, k0 + 1, h, hb, hl, hp => by
    rw [law24_same_L0_s, svs_len, nlt]
    simp
  | p :: suf, pre, q :: sb, pb, k0 + 1, h, hb, hl, hp => by
    have hm := mid_len pre suf p
    have hm2 := mid_len pb sb q
    rw [law24_same_L0_s, svs_len, svs_len, hm, hm2, dec0, Bool.true_and, nlt, decide_eq_true (by omega), cond_true, cond_true, Bool.true_and, nlt, decide_eq_true (by omega), Int.toNat_natCast, svs_mid, cond_true, hp, svs_mid, str_dec, ← hp]
    by_cases hx : p = q
    · subst hx
      rw [decide_eq_true rfl, Bool.not_true, cond_false, wrap1 (by omega)]
      have := same_loop kap suf (pre ++ [p]) sb (pb ++ [p]) k0 (by simpa using h) (by simpa using hb) (by simpa using hl) (by simp [hp])
      simp only [List.append_assoc, List.cons_append, List.nil_append] at this
      rw [show ((pre.length + 1 : Nat) : Int) = (((pre ++ [p]).length : Nat) : Int) from by simp, this]
      simp
    · rw [decide_eq_false hx, Bool.not_false, cond_true]
      simp [hx]
  | [], pre, q :: sb, pb, k0, h, hb, hl, hp => by simp at hl
  | p :: suf, pre, [], pb, k0, h, hb, hl, hp => by simp at hl
theorem same_k (a b : List (List UInt8)) (hb : a.length < 1000000000) (hk : a.length < k) : kp E k (n + 1) law24_same [.list 1 (svs a), .list 1 (svs b)] = some (.bool (decide (a = b))) := by
  rw [law24_same_eq, svs_len, svs_len, neq_]
  by_cases h : a.length = b.length
  · rw [decide_eq_true h, Bool.not_true, cond_false]
    exact same_loop (k := k) (kp E k n) a [] b [] k hk (by simpa using hb) h rfl
  · rw [decide_eq_false h, Bool.not_false, cond_true, decide_eq_false (fun e => h (by rw [e]))]
theorem alive_k (hk : 100 < k) : kp E k (n + 6) law24_alive [] = some (.bool true) := by
  rw [law24_alive_eq, clean_k _ (by decide) (by simp; omega), callS_ok, str_dec, show decide (cleanL [97, 47, 46, 47, 98, 47, 47, 46, 46, 47, 99, 47] = [97, 47, 99]) = true from by decide +kernel, cond_true, safe_k _ (by decide) (by simp; omega), callB_ok, show safeL [97, 47, 46, 46, 47, 46, 46] = false from by decide +kernel, safe_k _ (by decide) (by simp; omega), callB_ok]
  rfl
theorem pathForms_true (s : List UInt8) (c : Int) (hk : 1000 < k) : kp E k (n + 7) law24_PathForms [.str (str s), .int .i64 c] = some (.bool true) := by
  rw [law24_PathForms_eq, alive_k (by omega), callB_ok, str_size]
  by_cases h : s.length > 300
  · simp (disch := first | omega | (simp only [List.length_append, List.length_cons, List.length_nil, List.length_take, List.length_drop]; done) | (simp only [List.length_append, List.length_cons, List.length_nil, List.length_take, List.length_drop]; omega) | fail) only [bif_t, bif_f, bif_n, bif_a, callB_ok, callI_ok, callS_ok, callL_ok, callF_ok, callT_ok, tupB_ok, tupI_ok, tupS_ok, tupL_ok, tupF_ok, atNil_ok, wrap1, wrapM, wrapP, Int.toNat_natCast, svs_len, ivs_len, bvs_len, str_size, svs_mid, ivs_mid, str_dec, str_ext, str_byte, mid_byte, mid_cut, List.length_nil, List.length_singleton, svs_snoc, ivs_snoc, svs_take, svs_drop, str_app, List.take_length, List.drop_zero, List.nil_append, cond_true, cond_false, Option.bind_some, Bool.not_true, Bool.not_false, Bool.true_and, Bool.and_true]
  · have hw := stk_sum s
    have hp := parts_len s
    have e1 := up_k (E := E) (k := k) (n := n) s (by omega) (by omega)
    have e2 := left_k (E := E) (k := k) (n := n + 4) s (by omega) (by omega)
    have e3 := ref_clean_k (E := E) (k := k) (n := n + 3) s (by omega) (by omega)
    have e4 := root_k (E := E) (k := k) (n := n + 5) s
    have e5 := strip_k (E := E) (k := k) (n := n + 5) s c (by omega)
    have e6 := ref_strip_k (E := E) (k := k) (n := n + 4) s c (by omega) (by omega)
    have e7 := HasParts.parts (E := E) k (n + 6) s (by omega)
    have e8 := ref_parts_k (E := E) (k := k) (n := n + 5) s (by omega) (by omega)
    have e9 := same_k (E := E) (k := k) (n := n + 5) (partsL s) (partsL s) (by omega) (by omega)
    have e10 := clean_k (E := E) (k := k) (n := n + 1) s (by omega) (by omega)
    have e11 := safe_k (E := E) (k := k) (n := n + 1) s (by omega) (by omega)
    have e12 := ref_safe_k (E := E) (k := k) (n := n + 3) s (by omega) (by omega)
    by_cases hs : stk s = []
    · have hu : upL s = (cleanL s, cleanL s) := by unfold upL; rw [if_pos hs]
      rw [hu] at e1
      simp (disch := first | omega | (simp only [List.length_append, List.length_cons, List.length_nil, List.length_take, List.length_drop]; done) | (simp only [List.length_append, List.length_cons, List.length_nil, List.length_take, List.length_drop]; omega) | fail) only [bif_t, bif_f, bif_n, bif_a, callB_ok, callI_ok, callS_ok, callL_ok, callF_ok, callT_ok, tupB_ok, tupI_ok, tupS_ok, tupL_ok, tupF_ok, atNil_ok, wrap1, wrapM, wrapP, Int.toNat_natCast, svs_len, ivs_len, bvs_len, str_size, svs_mid, ivs_mid, str_dec, str_ext, str_byte, mid_byte, mid_cut, List.length_nil, List.length_singleton, svs_snoc, ivs_snoc, svs_take, svs_drop, str_app, List.take_length, List.drop_zero, List.nil_append, cond_true, cond_false, Option.bind_some, Bool.not_true, Bool.not_false, Bool.true_and, Bool.and_true, e1, e2, e3, e4, e5, e6, e7, e8, e9, e10, e11, e12, hs, decide_true, beq_self_eq_true]
    · have hl := List.length_pos_iff.2 hs
      have hu : upL s = (formL (isAbs s) (stk s).dropLast, (stk s).getLast hs) := by unfold upL; rw [if_neg hs, List.getLast?_eq_some_getLast hs]; rfl
      rw [hu] at e1
      have hd : (stk s).dropLast.flatten.length ≤ (stk s).flatten.length := by
        rw [List.dropLast_eq_take]
        conv => rhs; rw [← List.take_append_drop ((stk s).length - 1) (stk s), List.flatten_append, List.length_append]
        omega
      have e13 := ref_form_k (E := E) (k := k) (n := n + 5) (isAbs s) (stk s).dropLast (by simp; omega) (by omega) (by simp; omega)
      rw [List.dropLast_eq_take] at e13 e1
      simp (disch := first | omega | (simp only [List.length_append, List.length_cons, List.length_nil, List.length_take, List.length_drop]; done) | (simp only [List.length_append, List.length_cons, List.length_nil, List.length_take, List.length_drop]; omega) | fail) only [bif_t, bif_f, bif_n, bif_a, callB_ok, callI_ok, callS_ok, callL_ok, callF_ok, callT_ok, tupB_ok, tupI_ok, tupS_ok, tupL_ok, tupF_ok, atNil_ok, wrap1, wrapM, wrapP, Int.toNat_natCast, svs_len, ivs_len, bvs_len, str_size, svs_mid, ivs_mid, str_dec, str_ext, str_byte, mid_byte, mid_cut, List.length_nil, List.length_singleton, svs_snoc, ivs_snoc, svs_take, svs_drop, str_app, List.take_length, List.drop_zero, List.nil_append, cond_true, cond_false, Option.bind_some, Bool.not_true, Bool.not_false, Bool.true_and, Bool.and_true, e1, e2, e3, e4, e5, e6, e7, e8, e9, e10, e11, e12, e13, last_at _ hs, decide_true, beq_self_eq_true]
theorem pathPairs_true (s dir : List UInt8) (hk : 1000 < k) (h1 : s.length < 4611686018427387904) (h2 : dir.length < 4611686018427387904) : kp E k (n + 7) law24_PathPairs [.str (str s), .str (str dir)] = some (.bool true) := by
  rw [law24_PathPairs_eq, alive_k (by omega), callB_ok, str_size, str_size]
  by_cases h : s.length + dir.length > 300
  · simp (disch := first | omega | (simp only [List.length_append, List.length_cons, List.length_nil, List.length_take, List.length_drop]; done) | (simp only [List.length_append, List.length_cons, List.length_nil, List.length_take, List.length_drop]; omega) | fail) only [bif_t, bif_f, bif_n, bif_a, callB_ok, callI_ok, callS_ok, callL_ok, callF_ok, callT_ok, tupB_ok, tupI_ok, tupS_ok, tupL_ok, tupF_ok, atNil_ok, wrap1, wrapM, wrapP, Int.toNat_natCast, svs_len, ivs_len, bvs_len, str_size, svs_mid, ivs_mid, str_dec, str_ext, str_byte, mid_byte, mid_cut, List.length_nil, List.length_singleton, svs_snoc, ivs_snoc, svs_take, svs_drop, str_app, List.take_length, List.drop_zero, List.nil_append, cond_true, cond_false, Option.bind_some, Bool.not_true, Bool.not_false, Bool.true_and, Bool.and_true]
  · have e1 := pjoin_k (E := E) (k := k) (n := n) dir s (by omega) (by omega)
    have e2 := ref_join_k (E := E) (k := k) (n := n + 2) dir s (by omega) (by omega)
    have e3 := in_k (E := E) (k := k) (n := n + 1) s dir (by omega) (by omega)
    have e4 := ref_in_k (E := E) (k := k) (n := n + 3) s dir (by omega) (by omega)
    simp (disch := first | omega | (simp only [List.length_append, List.length_cons, List.length_nil, List.length_take, List.length_drop]; done) | (simp only [List.length_append, List.length_cons, List.length_nil, List.length_take, List.length_drop]; omega) | fail) only [bif_t, bif_f, bif_n, bif_a, callB_ok, callI_ok, callS_ok, callL_ok, callF_ok, callT_ok, tupB_ok, tupI_ok, tupS_ok, tupL_ok, tupF_ok, atNil_ok, wrap1, wrapM, wrapP, Int.toNat_natCast, svs_len, ivs_len, bvs_len, str_size, svs_mid, ivs_mid, str_dec, str_ext, str_byte, mid_byte, mid_cut, List.length_nil, List.length_singleton, svs_snoc, ivs_snoc, svs_take, svs_drop, str_app, List.take_length, List.drop_zero, List.nil_append, cond_true, cond_false, Option.bind_some, Bool.not_true, Bool.not_false, Bool.true_and, Bool.and_true, e1, e2, e3, e4, decide_true, beq_self_eq_true]
theorem joinP_le (dir s : List UInt8) : (joinP dir s).length ≤ 2 * (dir.length + s.length) + 5 := by
  unfold joinP
  split
  · have := clean_len s; omega
  · have := clean_len (dir ++ 47 :: s); simp at this; omega
theorem up_len (s : List UInt8) : (upL s).1.length ≤ 2 * s.length + 3 ∧ (upL s).2.length ≤ 2 * s.length + 3 := by
  have h := stk_sum s
  have hc := clean_len s
  unfold upL
  split
  · exact ⟨hc, hc⟩
  · rename_i hs
    have hd : (stk s).dropLast.flatten.length ≤ (stk s).flatten.length := by
      rw [List.dropLast_eq_take]
      conv => rhs; rw [← List.take_append_drop ((stk s).length - 1) (stk s), List.flatten_append, List.length_append]
      omega
    have hj := join_len (stk s).dropLast
    simp only [List.length_dropLast] at hj
    refine ⟨?_, ?_⟩
    · show (formL _ _).length ≤ _
      unfold formL
      split
      · simp; omega
      · split
        · simp
        · omega
    · show ((stk s).getLast?.getD []).length ≤ _
      rw [List.getLast?_eq_some_getLast hs]
      have : ((stk s).getLast hs).length ≤ (stk s).flatten.length := by
        conv => rhs; rw [← List.dropLast_concat_getLast hs, List.flatten_append, List.length_append]
        simp
      simp only [Option.getD_some]
      omega
theorem pathStays_true (s dir : List UInt8) (hk : 10000 < k) (h1 : s.length < 4611686018427387904) (h2 : dir.length < 4611686018427387904) : kp E k (n + 7) law24_PathStays [.str (str s), .str (str dir)] = some (.bool true) := by
  rw [law24_PathStays_eq, alive_k (by omega), callB_ok, str_size, str_size]
  by_cases h : s.length + dir.length > 300
  · simp (disch := first | omega | (simp only [List.length_append, List.length_cons, List.length_nil, List.length_take, List.length_drop]; done) | (simp only [List.length_append, List.length_cons, List.length_nil, List.length_take, List.length_drop]; omega) | fail) only [bif_t, bif_f, bif_n, bif_a, callB_ok, callI_ok, callS_ok, callL_ok, callF_ok, callT_ok, tupB_ok, tupI_ok, tupS_ok, tupL_ok, tupF_ok, atNil_ok, wrap1, wrapM, wrapP, Int.toNat_natCast, svs_len, ivs_len, bvs_len, str_size, svs_mid, ivs_mid, str_dec, str_ext, str_byte, mid_byte, mid_cut, List.length_nil, List.length_singleton, svs_snoc, ivs_snoc, svs_take, svs_drop, str_app, List.take_length, List.drop_zero, List.nil_append, cond_true, cond_false, Option.bind_some, Bool.not_true, Bool.not_false, Bool.true_and, Bool.and_true]
  · have l1 := clean_len s
    have l2 := joinP_le dir s
    have l3 := up_len s
    have e1 := clean_k (E := E) (k := k) (n := n + 1) s (by omega) (by omega)
    have e2 := clean_k (E := E) (k := k) (n := n + 1) (cleanL s) (by omega) (by omega)
    have e3 := clean_k (E := E) (k := k) (n := n + 1) dir (by omega) (by omega)
    have e4 := safe_k (E := E) (k := k) (n := n + 1) s (by omega) (by omega)
    have e5 := safe_k (E := E) (k := k) (n := n + 1) (cleanL s) (by omega) (by omega)
    have e6 := pjoin_k (E := E) (k := k) (n := n) [] s (by simp; omega) (by simp; omega)
    have e7 := pjoin_k (E := E) (k := k) (n := n) dir s (by omega) (by omega)
    have e8 := in_k (E := E) (k := k) (n := n + 1) (joinP dir s) dir (by omega) (by omega)
    have e9 := in_k (E := E) (k := k) (n := n + 1) s dir (by omega) (by omega)
    have e10 := in_k (E := E) (k := k) (n := n + 1) dir s (by omega) (by omega)
    have e11 := up_k (E := E) (k := k) (n := n) s (by omega) (by omega)
    have e12 := pjoin_k (E := E) (k := k) (n := n) (upL s).1 (upL s).2 (by omega) (by omega)
    rw [clean_clean] at e2
    rw [safe_clean] at e5
    rw [show joinP [] s = cleanL s from by simp [joinP]] at e6
    have tail : ∀ x : Option AV, x = (callT (kp E k (n + 6) path_Up [.str (str s)]) fun vt => tupS vt fun a vt => tupS vt fun b vt => atNil vt (bif decide (b = str (cleanL s)) then some (.bool true) else callS (kp E k (n + 6) path_Join [.str a, .str b]) fun c => some (.bool (decide (c = str (cleanL s)))))) → x = some (.bool true) := by
      rintro x rfl
      simp (disch := first | omega | (simp only [List.length_append, List.length_cons, List.length_nil, List.length_take, List.length_drop]; done) | (simp only [List.length_append, List.length_cons, List.length_nil, List.length_take, List.length_drop]; omega) | fail) only [bif_t, bif_f, bif_n, bif_a, callB_ok, callI_ok, callS_ok, callL_ok, callF_ok, callT_ok, tupB_ok, tupI_ok, tupS_ok, tupL_ok, tupF_ok, atNil_ok, wrap1, wrapM, wrapP, Int.toNat_natCast, svs_len, ivs_len, bvs_len, str_size, svs_mid, ivs_mid, str_dec, str_ext, str_byte, mid_byte, mid_cut, List.length_nil, List.length_singleton, svs_snoc, ivs_snoc, svs_take, svs_drop, str_app, List.take_length, List.drop_zero, List.nil_append, cond_true, cond_false, Option.bind_some, Bool.not_true, Bool.not_false, Bool.true_and, Bool.and_true, e11, e12]
      rcases up_join s with hu | hu
      · rw [decide_eq_true hu]; rfl
      · rw [hu]
        by_cases hx : (upL s).2 = cleanL s
        · rw [decide_eq_true hx]; rfl
        · rw [decide_eq_false hx]; simp
    rw [wrapP (by omega) (by omega), bif_f (show ¬ (((s.length + dir.length : Nat) : Int) > 300) by omega), Bool.not_true, cond_false, e1, callS_ok, e2, callS_ok, str_dec, decide_eq_true rfl, Bool.not_true, cond_false, e5, callB_ok, e4, callB_ok, beq_self_eq_true, Bool.not_true, cond_false, e6, callS_ok, str_dec, decide_eq_true rfl, Bool.not_true, cond_false, callB_ok, e7, callS_ok, e3, callS_ok, e8, callB_ok, e9, callB_ok, e10, callB_ok, callS_ok, callS_ok]
    have third : ∀ x y : Option AV, y = some (.bool true) → (bif inL s dir then (bif inL dir s then some (.bool false) else (bif decide (str (cleanL s) = str (cleanL dir)) then some (.bool false) else y)) else y) = some (.bool true) := by
      rintro x y rfl
      cases hi : inL s dir with
      | false => rfl
      | true =>
        obtain ⟨q1, q2⟩ := in_not hi
        rw [q1, str_dec, decide_eq_false q2]
        rfl
    have fin := third none _ (tail _ rfl)
    cases hsafe : safeL s with
    | false => exact fin
    | true =>
      rw [cond_true]
      by_cases hd : dir = []
      · subst hd
        rw [decide_eq_true rfl, Bool.not_true, cond_false]
        exact fin
      · rw [str_dec, decide_eq_false hd, Bool.not_false, cond_true, str_dec]
        rcases join_in hd hsafe with hj | hj
        · rw [decide_eq_true hj, Bool.not_true, cond_false]
          exact fin
        · rw [hj, Bool.not_true, cond_false, Bool.cond_self]
          exact fin
end Go.Proofs.YtelniipccmeooaaDoor.Eng.U
