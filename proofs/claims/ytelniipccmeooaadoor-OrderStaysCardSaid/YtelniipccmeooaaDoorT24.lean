/- The Path functions in plain words, part 2. -/
import Derived.Test.YtelniipccmeooaaDoorU24
set_option linter.unusedVariables false
set_option linter.unusedSimpArgs false
set_option linter.unusedSectionVars false
namespace Go.Proofs.YtelniipccmeooaaDoor.Eng.U
open Go Go.Proofs Go.Proofs.YtelniipccmeooaaDoor.Eng Go.Proofs.YtelniipccmeooaaDoor.P24
variable {E : Ext} [Core E] [HasParts E] [HasJoin E] {k n : Nat}

theorem clean_k (s : List UInt8) (hb : s.length < 100000) (hk : s.length + 10 < k) : kp E k (n + 5) path_Clean [.str (str s)] = some (.str (str (cleanL s))) := by
  have h := stk_sum s
  rw [path_Clean_eq, absolute_k, callB_ok, stack_k s hb (by omega), callL_ok, form_k _ _ (by omega) (by omega), callS_ok]
  rfl
theorem ref_clean_k (s : List UInt8) (hb : s.length < 100000) (hk : s.length + 10 < k) : kp E k (n + 3) ref24_Clean [.str (str s)] = some (.str (str (cleanL s))) := by
  have h := stk_sum s
  rw [ref24_Clean_eq, root_k, callB_ok, left_k s hb hk, callL_ok, ref_form_k _ _ (by omega) (by omega) (by omega), callS_ok]
  rfl
theorem safe_k (s : List UInt8) (hb : s.length < 100000) (hk : s.length + 10 < k) : kp E k (n + 5) path_Safe [.str (str s)] = some (.bool (safeL s)) := by
  have h := stk_sum s
  rw [path_Safe_eq, absolute_k, callB_ok, stack_k s hb (by omega), callL_ok, show ([46, 46] : List UInt8) = dd from rfl, contains_k _ _ (by omega) (by omega), callB_ok]
  unfold safeL
  cases isAbs s <;> rfl
theorem first_dd (s : List UInt8) (ha : isAbs s = false) : (stk s).contains dd = decide (∃ h : stk s ≠ [], (stk s).head h = dd) := by
  unfold stk stOf
  rw [ha]
  simp only [Bool.false_eq_true, if_false]
  have ho := nf_order (partsL s)
  generalize nf (partsL s) = t at ho
  obtain ⟨j, m⟩ := t
  cases j with
  | zero =>
    simp only [List.replicate_zero, List.nil_append]
    have h1 : m.contains dd = false := by
      rw [Bool.eq_false_iff]
      intro hc
      exact ho dd (List.contains_iff_mem.1 hc) rfl
    rw [h1, eq_comm, decide_eq_false_iff_not]
    rintro ⟨h, e⟩
    exact ho _ (List.head_mem h) e
  | succ j =>
    rw [List.replicate_succ]
    rw [decide_eq_true ⟨by simp, by simp⟩]
    simp
theorem ref_safe_k (s : List UInt8) (hb : s.length < 100000) (hk : s.length + 10 < k) : kp E k (n + 3) ref24_Safe [.str (str s)] = some (.bool (safeL s)) := by
  rw [ref24_Safe_eq, left_k s hb hk, callL_ok, root_k, callB_ok]
  unfold safeL
  cases ha : isAbs s with
  | true => rfl
  | false =>
    rw [first_dd s ha]
    cases hs : stk s with
    | nil => rfl
    | cons p l =>
      have h0 : ∀ (K : ByteArray → Option AV), (((svs (p :: l))[0]?).bind fun y => cellS (AV.cells y) 0 K) = K (str p) := fun K => svs_at (p :: l) 0 (by simp) K
      have hl : (p :: l).length = l.length + 1 := rfl
      simp (disch := first | omega | (simp only [List.length_append, List.length_cons, List.length_nil, List.length_take, List.length_drop]; done) | (simp only [List.length_append, List.length_cons, List.length_nil, List.length_take, List.length_drop]; omega) | fail) only [bif_t, bif_f, bif_n, bif_a, callB_ok, callI_ok, callS_ok, callL_ok, callF_ok, callT_ok, tupB_ok, tupI_ok, tupS_ok, tupL_ok, tupF_ok, atNil_ok, wrap1, wrapM, wrapP, Int.toNat_natCast, svs_len, ivs_len, bvs_len, str_size, svs_mid, ivs_mid, str_dec, str_ext, str_byte, mid_byte, mid_cut, List.length_nil, List.length_singleton, svs_snoc, ivs_snoc, svs_take, svs_drop, str_app, List.take_length, List.drop_zero, List.nil_append, cond_true, cond_false, Option.bind_some, Bool.not_true, Bool.not_false, Bool.true_and, Bool.and_true, h0, hl]
      simp [dd]
theorem joinP_len (dir s : List UInt8) : (dir ++ [47] ++ s).length = dir.length + s.length + 1 := by simp; omega
theorem pjoin_k (dir s : List UInt8) (hb : dir.length + s.length < 10000) (hk : dir.length + s.length + 20 < k) : kp E k (n + 6) path_Join [.str (str dir), .str (str s)] = some (.str (str (joinP dir s))) := by
  have hl := joinP_len dir s
  rw [path_Join_eq, clean_k s (by omega) (by omega), callS_ok, absolute_k, callB_ok]
  simp (disch := first | omega | (simp only [List.length_append, List.length_cons, List.length_nil, List.length_take, List.length_drop]; done) | (simp only [List.length_append, List.length_cons, List.length_nil, List.length_take, List.length_drop]; omega) | fail) only [bif_t, bif_f, bif_n, bif_a, callB_ok, callI_ok, callS_ok, callL_ok, callF_ok, callT_ok, tupB_ok, tupI_ok, tupS_ok, tupL_ok, tupF_ok, atNil_ok, wrap1, wrapM, wrapP, Int.toNat_natCast, svs_len, ivs_len, bvs_len, str_size, svs_mid, ivs_mid, str_dec, str_ext, str_byte, mid_byte, mid_cut, List.length_nil, List.length_singleton, svs_snoc, ivs_snoc, svs_take, svs_drop, str_app, List.take_length, List.drop_zero, List.nil_append, cond_true, cond_false, Option.bind_some, Bool.not_true, Bool.not_false, Bool.true_and, Bool.and_true, clean_k (n := n) (E := E) (dir ++ [47] ++ s) (by omega) (by omega : _ < k)]
  unfold joinP
  by_cases hd : dir = []
  · simp [hd]
  · rw [decide_eq_false hd]
    cases isAbs s with
    | true => simp [hd]
    | false => simp [hd]
theorem ref_join_k (dir s : List UInt8) (hb : dir.length + s.length < 10000) (hk : dir.length + s.length + 20 < k) : kp E k (n + 4) ref24_Join [.str (str dir), .str (str s)] = some (.str (str (joinP dir s))) := by
  have hl := joinP_len dir s
  rw [ref24_Join_eq, ref_clean_k s (by omega) (by omega), callS_ok, root_k, callB_ok]
  simp (disch := first | omega | (simp only [List.length_append, List.length_cons, List.length_nil, List.length_take, List.length_drop]; done) | (simp only [List.length_append, List.length_cons, List.length_nil, List.length_take, List.length_drop]; omega) | fail) only [bif_t, bif_f, bif_n, bif_a, callB_ok, callI_ok, callS_ok, callL_ok, callF_ok, callT_ok, tupB_ok, tupI_ok, tupS_ok, tupL_ok, tupF_ok, atNil_ok, wrap1, wrapM, wrapP, Int.toNat_natCast, svs_len, ivs_len, bvs_len, str_size, svs_mid, ivs_mid, str_dec, str_ext, str_byte, mid_byte, mid_cut, List.length_nil, List.length_singleton, svs_snoc, ivs_snoc, svs_take, svs_drop, str_app, List.take_length, List.drop_zero, List.nil_append, cond_true, cond_false, Option.bind_some, Bool.not_true, Bool.not_false, Bool.true_and, Bool.and_true, ref_clean_k (n := n) (E := E) (dir ++ [47] ++ s) (by omega) (by omega : _ < k)]
  unfold joinP
  by_cases hd : dir = []
  · simp [hd]
  · rw [decide_eq_false hd]
    cases isAbs s with
    | true => simp [hd]
    | false => simp [hd]
theorem in_k (s dir : List UInt8) (hb : dir.length + s.length < 10000) (hk : dir.length + s.length + 20 < k) : kp E k (n + 5) path_In [.str (str s), .str (str dir)] = some (.bool (inL s dir)) := by
  have h1 := stk_sum s
  have h2 := stk_sum dir
  rw [path_In_eq, stack_k s (by omega) (by omega), callL_ok, stack_k dir (by omega) (by omega), callL_ok, absolute_k, callB_ok, absolute_k, callB_ok]
  unfold inL
  by_cases hl : (stk s).length > (stk dir).length
  · have he := equal_k (E := E) (k := k) (n := n + 3) ((stk s).take (stk dir).length) (stk dir) (by simp; omega) (by simp; omega)
    simp (disch := first | omega | (simp only [List.length_append, List.length_cons, List.length_nil, List.length_take, List.length_drop]; done) | (simp only [List.length_append, List.length_cons, List.length_nil, List.length_take, List.length_drop]; omega) | fail) only [bif_t, bif_f, bif_n, bif_a, callB_ok, callI_ok, callS_ok, callL_ok, callF_ok, callT_ok, tupB_ok, tupI_ok, tupS_ok, tupL_ok, tupF_ok, atNil_ok, wrap1, wrapM, wrapP, Int.toNat_natCast, svs_len, ivs_len, bvs_len, str_size, svs_mid, ivs_mid, str_dec, str_ext, str_byte, mid_byte, mid_cut, List.length_nil, List.length_singleton, svs_snoc, ivs_snoc, svs_take, svs_drop, str_app, List.take_length, List.drop_zero, List.nil_append, cond_true, cond_false, Option.bind_some, Bool.not_true, Bool.not_false, Bool.true_and, Bool.and_true, he]
    cases isAbs s == isAbs dir <;> simp [hl]
  · simp (disch := first | omega | (simp only [List.length_append, List.length_cons, List.length_nil, List.length_take, List.length_drop]; done) | (simp only [List.length_append, List.length_cons, List.length_nil, List.length_take, List.length_drop]; omega) | fail) only [bif_t, bif_f, bif_n, bif_a, callB_ok, callI_ok, callS_ok, callL_ok, callF_ok, callT_ok, tupB_ok, tupI_ok, tupS_ok, tupL_ok, tupF_ok, atNil_ok, wrap1, wrapM, wrapP, Int.toNat_natCast, svs_len, ivs_len, bvs_len, str_size, svs_mid, ivs_mid, str_dec, str_ext, str_byte, mid_byte, mid_cut, List.length_nil, List.length_singleton, svs_snoc, ivs_snoc, svs_take, svs_drop, str_app, List.take_length, List.drop_zero, List.nil_append, cond_true, cond_false, Option.bind_some, Bool.not_true, Bool.not_false, Bool.true_and, Bool.and_true]
    cases isAbs s == isAbs dir <;> simp [hl]
theorem in_loop (kap : FuncId → List AV → Option AV) : ∀ (suf pre sb pb : List (List UInt8)) (k0 : Nat), suf.length < k0 → (pb ++ sb).length < 1000000000 → suf.length ≤ sb.length → pre.length = pb.length →
    ref24_In_L0 kap k k0 (svs (pb ++ sb)) (svs (pre ++ suf)) ((pre.length : Nat) : Int) = some (.bool (decide (sb.take suf.length = suf)))
  | [], pre, sb, pb, k0 + 1, h, hb, hl, hp => by
    rw [List.append_nil]
    rw [ref24_In_L0_s]
    simp (disch := first | omega | (simp only [List.length_append, List.length_cons, List.length_nil, List.length_take, List.length_drop]; done) | (simp only [List.length_append, List.length_cons, List.length_nil, List.length_take, List.length_drop]; omega) | fail) only [bif_t, bif_f, bif_n, bif_a, callB_ok, callI_ok, callS_ok, callL_ok, callF_ok, callT_ok, tupB_ok, tupI_ok, tupS_ok, tupL_ok, tupF_ok, atNil_ok, wrap1, wrapM, wrapP, Int.toNat_natCast, svs_len, ivs_len, bvs_len, str_size, svs_mid, ivs_mid, str_dec, str_ext, str_byte, mid_byte, mid_cut, List.length_nil, List.length_singleton, svs_snoc, ivs_snoc, svs_take, svs_drop, str_app, List.take_length, List.drop_zero, List.nil_append, cond_true, cond_false, Option.bind_some, Bool.not_true, Bool.not_false, Bool.true_and, Bool.and_true, List.take_zero]
    simp
  | p :: suf, pre, q :: sb, pb, k0 + 1, h, hb, hl, hp => by
    have hm := mid_len pre suf p
    have hm2 := mid_len pb sb q
    have hb' : pb.length + sb.length + 1 < 1000000000 := by rw [← hm2]; exact hb
    have hl' : suf.length ≤ sb.length := by simpa using hl
    have q1 : ∀ (K : ByteArray → Option AV), (((svs (pb ++ q :: sb))[pre.length]?).bind fun y => cellS (AV.cells y) 0 K) = K (str q) := fun K => by rw [hp]; exact svs_mid _ _ _ _
    rw [ref24_In_L0_s]
    simp (disch := first | omega | (simp only [List.length_append, List.length_cons, List.length_nil, List.length_take, List.length_drop]; done) | (simp only [List.length_append, List.length_cons, List.length_nil, List.length_take, List.length_drop]; omega) | fail) only [bif_t, bif_f, bif_n, bif_a, callB_ok, callI_ok, callS_ok, callL_ok, callF_ok, callT_ok, tupB_ok, tupI_ok, tupS_ok, tupL_ok, tupF_ok, atNil_ok, wrap1, wrapM, wrapP, Int.toNat_natCast, svs_len, ivs_len, bvs_len, str_size, svs_mid, ivs_mid, str_dec, str_ext, str_byte, mid_byte, mid_cut, List.length_nil, List.length_singleton, svs_snoc, ivs_snoc, svs_take, svs_drop, str_app, List.take_length, List.drop_zero, List.nil_append, cond_true, cond_false, Option.bind_some, Bool.not_true, Bool.not_false, Bool.true_and, Bool.and_true, hm, hm2, q1]
    by_cases hx : q = p
    · subst hx
      have := in_loop kap suf (pre ++ [q]) sb (pb ++ [q]) k0 (by simpa using h) (by simpa using hb) hl' (by simp [hp])
      rw [← mid_snoc, ← mid_snoc, List.length_append, List.length_singleton] at this
      rw [decide_eq_true rfl, cond_true, this]
      simp
    · rw [decide_eq_false hx, cond_false]
      simp [hx]
  | p :: suf, pre, [], pb, k0, h, hb, hl, hp => by simp at hl
theorem ref_in_k (s dir : List UInt8) (hb : dir.length + s.length < 10000) (hk : dir.length + s.length + 20 < k) : kp E k (n + 3) ref24_In [.str (str s), .str (str dir)] = some (.bool (inL s dir)) := by
  have h1 := stk_sum s
  have h2 := stk_sum dir
  rw [ref24_In_eq, left_k s (by omega) (by omega), callL_ok, left_k dir (by omega) (by omega), callL_ok, root_k, callB_ok, root_k, callB_ok]
  unfold inL
  by_cases hl : (stk s).length > (stk dir).length
  · have he := in_loop (k := k) (kp E k (n + 2)) (stk dir) [] (stk s) [] k (by omega) (by simp; omega) (by omega) rfl
    simp only [List.nil_append, List.length_nil] at he
    simp (disch := first | omega | (simp only [List.length_append, List.length_cons, List.length_nil, List.length_take, List.length_drop]; done) | (simp only [List.length_append, List.length_cons, List.length_nil, List.length_take, List.length_drop]; omega) | fail) only [bif_t, bif_f, bif_n, bif_a, callB_ok, callI_ok, callS_ok, callL_ok, callF_ok, callT_ok, tupB_ok, tupI_ok, tupS_ok, tupL_ok, tupF_ok, atNil_ok, wrap1, wrapM, wrapP, Int.toNat_natCast, svs_len, ivs_len, bvs_len, str_size, svs_mid, ivs_mid, str_dec, str_ext, str_byte, mid_byte, mid_cut, List.length_nil, List.length_singleton, svs_snoc, ivs_snoc, svs_take, svs_drop, str_app, List.take_length, List.drop_zero, List.nil_append, cond_true, cond_false, Option.bind_some, Bool.not_true, Bool.not_false, Bool.true_and, Bool.and_true]
    rw [show ((0 : Int)) = ((0 : Nat) : Int) from rfl, he]
    cases isAbs s == isAbs dir <;> simp [hl]
  · simp (disch := first | omega | (simp only [List.length_append, List.length_cons, List.length_nil, List.length_take, List.length_drop]; done) | (simp only [List.length_append, List.length_cons, List.length_nil, List.length_take, List.length_drop]; omega) | fail) only [bif_t, bif_f, bif_n, bif_a, callB_ok, callI_ok, callS_ok, callL_ok, callF_ok, callT_ok, tupB_ok, tupI_ok, tupS_ok, tupL_ok, tupF_ok, atNil_ok, wrap1, wrapM, wrapP, Int.toNat_natCast, svs_len, ivs_len, bvs_len, str_size, svs_mid, ivs_mid, str_dec, str_ext, str_byte, mid_byte, mid_cut, List.length_nil, List.length_singleton, svs_snoc, ivs_snoc, svs_take, svs_drop, str_app, List.take_length, List.drop_zero, List.nil_append, cond_true, cond_false, Option.bind_some, Bool.not_true, Bool.not_false, Bool.true_and, Bool.and_true]
    cases isAbs s == isAbs dir <;> simp [hl]
/-- What is left without the first parts. -/
def stripL (s : List UInt8) (c : Int) : List UInt8 × Bool := if c < 0 ∨ ((partsL s).length : Int) ≤ c then ([], false) else (joinL ((partsL s).drop c.toNat), true)
theorem drop_sum (l : List (List UInt8)) (m : Nat) : (l.drop m).flatten.length ≤ l.flatten.length := by
  conv => rhs; rw [← List.take_append_drop m l, List.flatten_append, List.length_append]
  omega
theorem strip_k (s : List UInt8) (c : Int) (hb : s.length < 10000) : kp E k (n + 1) path_Strip [.str (str s), .int .i64 c] = some (.tup [.str (str (stripL s c).1), .bool (stripL s c).2]) := by
  have h1 := parts_len s
  have h2 := parts_sum s
  rw [path_Strip_eq, HasParts.parts _ _ _ (by omega), callL_ok]
  unfold stripL
  by_cases hc : c < 0 ∨ ((partsL s).length : Int) ≤ c
  · rw [if_pos hc]
    rcases hc with hc | hc
    · simp (disch := first | omega | (simp only [List.length_append, List.length_cons, List.length_nil, List.length_take, List.length_drop]; done) | (simp only [List.length_append, List.length_cons, List.length_nil, List.length_take, List.length_drop]; omega) | fail) only [bif_t, bif_f, bif_n, bif_a, callB_ok, callI_ok, callS_ok, callL_ok, callF_ok, callT_ok, tupB_ok, tupI_ok, tupS_ok, tupL_ok, tupF_ok, atNil_ok, wrap1, wrapM, wrapP, Int.toNat_natCast, svs_len, ivs_len, bvs_len, str_size, svs_mid, ivs_mid, str_dec, str_ext, str_byte, mid_byte, mid_cut, List.length_nil, List.length_singleton, svs_snoc, ivs_snoc, svs_take, svs_drop, str_app, List.take_length, List.drop_zero, List.nil_append, cond_true, cond_false, Option.bind_some, Bool.not_true, Bool.not_false, Bool.true_and, Bool.and_true]
    · by_cases h0 : c < 0
      · simp (disch := first | omega | (simp only [List.length_append, List.length_cons, List.length_nil, List.length_take, List.length_drop]; done) | (simp only [List.length_append, List.length_cons, List.length_nil, List.length_take, List.length_drop]; omega) | fail) only [bif_t, bif_f, bif_n, bif_a, callB_ok, callI_ok, callS_ok, callL_ok, callF_ok, callT_ok, tupB_ok, tupI_ok, tupS_ok, tupL_ok, tupF_ok, atNil_ok, wrap1, wrapM, wrapP, Int.toNat_natCast, svs_len, ivs_len, bvs_len, str_size, svs_mid, ivs_mid, str_dec, str_ext, str_byte, mid_byte, mid_cut, List.length_nil, List.length_singleton, svs_snoc, ivs_snoc, svs_take, svs_drop, str_app, List.take_length, List.drop_zero, List.nil_append, cond_true, cond_false, Option.bind_some, Bool.not_true, Bool.not_false, Bool.true_and, Bool.and_true]
      · simp (disch := first | omega | (simp only [List.length_append, List.length_cons, List.length_nil, List.length_take, List.length_drop]; done) | (simp only [List.length_append, List.length_cons, List.length_nil, List.length_take, List.length_drop]; omega) | fail) only [bif_t, bif_f, bif_n, bif_a, callB_ok, callI_ok, callS_ok, callL_ok, callF_ok, callT_ok, tupB_ok, tupI_ok, tupS_ok, tupL_ok, tupF_ok, atNil_ok, wrap1, wrapM, wrapP, Int.toNat_natCast, svs_len, ivs_len, bvs_len, str_size, svs_mid, ivs_mid, str_dec, str_ext, str_byte, mid_byte, mid_cut, List.length_nil, List.length_singleton, svs_snoc, ivs_snoc, svs_take, svs_drop, str_app, List.take_length, List.drop_zero, List.nil_append, cond_true, cond_false, Option.bind_some, Bool.not_true, Bool.not_false, Bool.true_and, Bool.and_true]
  · rw [if_neg hc]
    have h3 := drop_sum (partsL s) c.toNat
    have h4 := join_len ((partsL s).drop c.toNat)
    rw [List.length_drop] at h4
    have hj := HasJoin.join (E := E) k n ((partsL s).drop c.toNat) [47] (by rw [List.length_drop]; omega) (by rw [join_inter]; omega)
    rw [join_inter] at hj
    simp (disch := first | omega | (simp only [List.length_append, List.length_cons, List.length_nil, List.length_take, List.length_drop]; done) | (simp only [List.length_append, List.length_cons, List.length_nil, List.length_take, List.length_drop]; omega) | fail) only [bif_t, bif_f, bif_n, bif_a, callB_ok, callI_ok, callS_ok, callL_ok, callF_ok, callT_ok, tupB_ok, tupI_ok, tupS_ok, tupL_ok, tupF_ok, atNil_ok, wrap1, wrapM, wrapP, Int.toNat_natCast, svs_len, ivs_len, bvs_len, str_size, svs_mid, ivs_mid, str_dec, str_ext, str_byte, mid_byte, mid_cut, List.length_nil, List.length_singleton, svs_snoc, ivs_snoc, svs_take, svs_drop, str_app, List.take_length, List.drop_zero, List.nil_append, cond_true, cond_false, Option.bind_some, Bool.not_true, Bool.not_false, Bool.true_and, Bool.and_true, hj]
theorem ref_strip_k (s : List UInt8) (c : Int) (hb : s.length < 10000) (hk : s.length + 10 < k) : kp E k (n + 2) ref24_Strip [.str (str s), .int .i64 c] = some (.tup [.str (str (stripL s c).1), .bool (stripL s c).2]) := by
  have h1 := parts_len s
  have h2 := parts_sum s
  rw [ref24_Strip_eq, ref_parts_k s (by omega) (by omega), callL_ok]
  unfold stripL
  by_cases hc : c < 0 ∨ ((partsL s).length : Int) ≤ c
  · rw [if_pos hc]
    rcases hc with hc | hc
    · simp (disch := first | omega | (simp only [List.length_append, List.length_cons, List.length_nil, List.length_take, List.length_drop]; done) | (simp only [List.length_append, List.length_cons, List.length_nil, List.length_take, List.length_drop]; omega) | fail) only [bif_t, bif_f, bif_n, bif_a, callB_ok, callI_ok, callS_ok, callL_ok, callF_ok, callT_ok, tupB_ok, tupI_ok, tupS_ok, tupL_ok, tupF_ok, atNil_ok, wrap1, wrapM, wrapP, Int.toNat_natCast, svs_len, ivs_len, bvs_len, str_size, svs_mid, ivs_mid, str_dec, str_ext, str_byte, mid_byte, mid_cut, List.length_nil, List.length_singleton, svs_snoc, ivs_snoc, svs_take, svs_drop, str_app, List.take_length, List.drop_zero, List.nil_append, cond_true, cond_false, Option.bind_some, Bool.not_true, Bool.not_false, Bool.true_and, Bool.and_true]
    · by_cases h0 : c < 0
      · simp (disch := first | omega | (simp only [List.length_append, List.length_cons, List.length_nil, List.length_take, List.length_drop]; done) | (simp only [List.length_append, List.length_cons, List.length_nil, List.length_take, List.length_drop]; omega) | fail) only [bif_t, bif_f, bif_n, bif_a, callB_ok, callI_ok, callS_ok, callL_ok, callF_ok, callT_ok, tupB_ok, tupI_ok, tupS_ok, tupL_ok, tupF_ok, atNil_ok, wrap1, wrapM, wrapP, Int.toNat_natCast, svs_len, ivs_len, bvs_len, str_size, svs_mid, ivs_mid, str_dec, str_ext, str_byte, mid_byte, mid_cut, List.length_nil, List.length_singleton, svs_snoc, ivs_snoc, svs_take, svs_drop, str_app, List.take_length, List.drop_zero, List.nil_append, cond_true, cond_false, Option.bind_some, Bool.not_true, Bool.not_false, Bool.true_and, Bool.and_true]
      · simp (disch := first | omega | (simp only [List.length_append, List.length_cons, List.length_nil, List.length_take, List.length_drop]; done) | (simp only [List.length_append, List.length_cons, List.length_nil, List.length_take, List.length_drop]; omega) | fail) only [bif_t, bif_f, bif_n, bif_a, callB_ok, callI_ok, callS_ok, callL_ok, callF_ok, callT_ok, tupB_ok, tupI_ok, tupS_ok, tupL_ok, tupF_ok, atNil_ok, wrap1, wrapM, wrapP, Int.toNat_natCast, svs_len, ivs_len, bvs_len, str_size, svs_mid, ivs_mid, str_dec, str_ext, str_byte, mid_byte, mid_cut, List.length_nil, List.length_singleton, svs_snoc, ivs_snoc, svs_take, svs_drop, str_app, List.take_length, List.drop_zero, List.nil_append, cond_true, cond_false, Option.bind_some, Bool.not_true, Bool.not_false, Bool.true_and, Bool.and_true]
  · rw [if_neg hc]
    have h3 := drop_sum (partsL s) c.toNat
    have hj := ref_form_k (E := E) (k := k) (n := n) false ((partsL s).drop c.toNat) (by rw [List.length_drop]; omega) (by omega) (by rw [List.length_drop]; omega)
    have hne : joinL ((partsL s).drop c.toNat) ≠ [] := by
      intro e
      rw [join_nil (fun p hp => parts_part (List.mem_of_mem_drop hp))] at e
      have := congrArg List.length e
      rw [List.length_drop] at this
      simp at this
      omega
    rw [show formL false ((partsL s).drop c.toNat) = joinL ((partsL s).drop c.toNat) from by simp [formL, hne]] at hj
    simp (disch := first | omega | (simp only [List.length_append, List.length_cons, List.length_nil, List.length_take, List.length_drop]; done) | (simp only [List.length_append, List.length_cons, List.length_nil, List.length_take, List.length_drop]; omega) | fail) only [bif_t, bif_f, bif_n, bif_a, callB_ok, callI_ok, callS_ok, callL_ok, callF_ok, callT_ok, tupB_ok, tupI_ok, tupS_ok, tupL_ok, tupF_ok, atNil_ok, wrap1, wrapM, wrapP, Int.toNat_natCast, svs_len, ivs_len, bvs_len, str_size, svs_mid, ivs_mid, str_dec, str_ext, str_byte, mid_byte, mid_cut, List.length_nil, List.length_singleton, svs_snoc, ivs_snoc, svs_take, svs_drop, str_app, List.take_length, List.drop_zero, List.nil_append, cond_true, cond_false, Option.bind_some, Bool.not_true, Bool.not_false, Bool.true_and, Bool.and_true, hj]
theorem up_k (s : List UInt8) (hb : s.length < 10000) (hk : s.length + 20 < k) : kp E k (n + 6) path_Up [.str (str s)] = some (.tup [.str (str (upL s).1), .str (str (upL s).2)]) := by
  have h1 := stk_sum s
  rw [path_Up_eq, stack_k s (by omega) (by omega), callL_ok, clean_k s (by omega) (by omega), callS_ok, callS_ok, absolute_k, callB_ok]
  unfold upL
  by_cases hs : stk s = []
  · rw [if_pos hs, hs]
    simp (disch := first | omega | (simp only [List.length_append, List.length_cons, List.length_nil, List.length_take, List.length_drop]; done) | (simp only [List.length_append, List.length_cons, List.length_nil, List.length_take, List.length_drop]; omega) | fail) only [bif_t, bif_f, bif_n, bif_a, callB_ok, callI_ok, callS_ok, callL_ok, callF_ok, callT_ok, tupB_ok, tupI_ok, tupS_ok, tupL_ok, tupF_ok, atNil_ok, wrap1, wrapM, wrapP, Int.toNat_natCast, svs_len, ivs_len, bvs_len, str_size, svs_mid, ivs_mid, str_dec, str_ext, str_byte, mid_byte, mid_cut, List.length_nil, List.length_singleton, svs_snoc, ivs_snoc, svs_take, svs_drop, str_app, List.take_length, List.drop_zero, List.nil_append, cond_true, cond_false, Option.bind_some, Bool.not_true, Bool.not_false, Bool.true_and, Bool.and_true]
  · have hl := List.length_pos_iff.2 hs
    rw [if_neg hs]
    have hd : (stk s).dropLast.flatten.length ≤ (stk s).flatten.length := by
      rw [List.dropLast_eq_take]
      conv => rhs; rw [← List.take_append_drop ((stk s).length - 1) (stk s), List.flatten_append, List.length_append]
      omega
    have hf := form_k (E := E) (k := k) (n := n + 4) (isAbs s) (stk s).dropLast (by simp; omega) (by omega)
    rw [List.dropLast_eq_take] at hf
    simp (disch := first | omega | (simp only [List.length_append, List.length_cons, List.length_nil, List.length_take, List.length_drop]; done) | (simp only [List.length_append, List.length_cons, List.length_nil, List.length_take, List.length_drop]; omega) | fail) only [bif_t, bif_f, bif_n, bif_a, callB_ok, callI_ok, callS_ok, callL_ok, callF_ok, callT_ok, tupB_ok, tupI_ok, tupS_ok, tupL_ok, tupF_ok, atNil_ok, wrap1, wrapM, wrapP, Int.toNat_natCast, svs_len, ivs_len, bvs_len, str_size, svs_mid, ivs_mid, str_dec, str_ext, str_byte, mid_byte, mid_cut, List.length_nil, List.length_singleton, svs_snoc, ivs_snoc, svs_take, svs_drop, str_app, List.take_length, List.drop_zero, List.nil_append, cond_true, cond_false, Option.bind_some, Bool.not_true, Bool.not_false, Bool.true_and, Bool.and_true, hf, last_at _ hs]
    rw [List.dropLast_eq_take, List.getLast?_eq_some_getLast hs]
    rfl
theorem clean_len (s : List UInt8) : (cleanL s).length ≤ 2 * s.length + 3 := by
  have h := stk_sum s
  have h2 := join_len (stk s)
  unfold cleanL formL
  split
  · simp; omega
  · split
    · simp
    · omega
end Go.Proofs.YtelniipccmeooaaDoor.Eng.U
