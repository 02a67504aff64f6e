/- The functions of the Order laws in plain words, part 2: which leans on which; the order; the items in order. -/
import Derived.Test.YtelniipccmeooaaDoorU40
set_option linter.unusedVariables false
set_option linter.unusedSimpArgs false
set_option linter.unusedSectionVars false
namespace Go.Proofs.YtelniipccmeooaaDoor.Eng.U
open Go Go.Proofs Go.Proofs.YtelniipccmeooaaDoor.Eng Go.Proofs.YtelniipccmeooaaDoor.P24 Go.Proofs.YtelniipccmeooaaDoor.P40
class HasClone (E : Ext) : Prop where
  pairs : ∀ (k n : Nat) (l : List Pair), l.length ≤ 1000000000 → kp E k n slices_Clone_api_Pair [.list 2 (prs l)] = some (.list 2 (prs l))
  bytes : ∀ (k n : Nat) (l : Tx), l.length ≤ 1000000000 → kp E k n slices_Clone_byte [.list 1 (bys l)] = some (.list 1 (bys l))
variable {E : Ext} [Core E] [HasParts E] [HasJoin E] [HasClone E] {k n : Nat}

theorem copy_k (x : Item) (h1 : x.head.extra.length ≤ 1000000000) (h2 : x.data.length ≤ 1000000000) : kp E k (n + 1) item_Copy [elItem x] = some (elItem x) := by
  refine (item_Copy_eq (E := E) k n x.head.kind (str x.head.name) (str x.head.link) x.head.mode x.head.uid x.head.gid x.head.size x.head.sec x.head.nano (str x.head.user) (str x.head.group) x.head.major x.head.minor (prs x.head.extra) (bys x.data)).trans ?_
  rw [HasClone.pairs _ _ _ h1, HasClone.bytes _ _ _ h2]
  simp (disch := first | omega | (simp only [List.length_append, List.length_cons, List.length_nil, List.length_take, List.length_drop]; done) | (simp only [List.length_append, List.length_cons, List.length_nil, List.length_take, List.length_drop]; omega) | fail) only [bif_t, bif_f, bif_n, bif_a, callB_ok, callI_ok, callS_ok, callL_ok, callF_ok, callT_ok, tupB_ok, tupI_ok, tupS_ok, tupL_ok, tupF_ok, atNil_ok, wrap1, wrapM, wrapP, Int.toNat_natCast, svs_len, ivs_len, bvs_len, str_size, svs_mid, ivs_mid, str_dec, str_ext, str_byte, mid_byte, mid_cut, List.length_nil, List.length_singleton, svs_snoc, ivs_snoc, svs_take, svs_drop, str_app, List.take_length, List.drop_zero, List.nil_append, cond_true, cond_false, Option.bind_some, Bool.not_true, Bool.not_false, Bool.true_and, Bool.and_true, bys_len, prs_len, its_len, cells_pair, cells_time, cells_head, cells_item, fold_pair, fold_time, fold_head, fold_ihead, fold_item, prs_mid, its_mid, bys_mid, byte_c, callG_pair, callG_time, callG_head, callG_item, tupG_pair, tupG_time, tupG_head, tupG_item, h_0, i_0, h_1, i_1, h_2, i_2, h_3, i_3, h_4, i_4, h_5, i_5, h_6, i_6, h_7, i_7, h_8, i_8, h_9, i_9, h_10, i_10, h_11, i_11, h_12, i_12, h_13, i_13, i_14, p_0, p_1, t_0, t_1]
/-- Does an item lean on another one? -/
def leanH (x y : Head) : Bool := !decide (cleanL x.name = cleanL y.name) && (decide (y.kind = 6) && inL x.name y.name || decide (y.kind = 1) && decide (x.kind = 2) && decide (cleanL x.link = cleanL y.name))
theorem in_clean (s t : Tx) : inL (cleanL s) (cleanL t) = inL s t := by unfold inL; rw [abs_clean, abs_clean, stk_clean, stk_clean]
theorem in_clean1 (s t : Tx) : inL s (cleanL t) = inL s t := by unfold inL; rw [abs_clean, stk_clean]
theorem leans_k (x y : Head) (h1 : x.name.length + x.link.length ≤ 300) (h2 : y.name.length + y.link.length ≤ 300) (hk : 10000 < k) : kp E k (n + 6) order_leans [elHead x, elHead y] = some (.bool (leanH x y)) := by
  have l1 := clean_len x.name
  have l2 := clean_len y.name
  have e1 := clean_k (E := E) (k := k) (n := n) x.name (by omega) (by omega)
  have e2 := clean_k (E := E) (k := k) (n := n) y.name (by omega) (by omega)
  have e3 := clean_k (E := E) (k := k) (n := n) x.link (by omega) (by omega)
  have e4 := in_k (E := E) (k := k) (n := n) (cleanL x.name) (cleanL y.name) (by omega) (by omega)
  refine (order_leans_eq (E := E) k (n + 5) x.kind (str x.name) (str x.link) x.mode x.uid x.gid x.size x.sec x.nano (str x.user) (str x.group) x.major x.minor (prs x.extra) y.kind (str y.name) (str y.link) y.mode y.uid y.gid y.size y.sec y.nano (str y.user) (str y.group) y.major y.minor (prs y.extra)).trans ?_
  simp (disch := first | omega | (simp only [List.length_append, List.length_cons, List.length_nil, List.length_take, List.length_drop]; done) | (simp only [List.length_append, List.length_cons, List.length_nil, List.length_take, List.length_drop]; omega) | fail) only [bif_t, bif_f, bif_n, bif_a, callB_ok, callI_ok, callS_ok, callL_ok, callF_ok, callT_ok, tupB_ok, tupI_ok, tupS_ok, tupL_ok, tupF_ok, atNil_ok, wrap1, wrapM, wrapP, Int.toNat_natCast, svs_len, ivs_len, bvs_len, str_size, svs_mid, ivs_mid, str_dec, str_ext, str_byte, mid_byte, mid_cut, List.length_nil, List.length_singleton, svs_snoc, ivs_snoc, svs_take, svs_drop, str_app, List.take_length, List.drop_zero, List.nil_append, cond_true, cond_false, Option.bind_some, Bool.not_true, Bool.not_false, Bool.true_and, Bool.and_true, bys_len, prs_len, its_len, cells_pair, cells_time, cells_head, cells_item, fold_pair, fold_time, fold_head, fold_ihead, fold_item, prs_mid, its_mid, bys_mid, byte_c, callG_pair, callG_time, callG_head, callG_item, tupG_pair, tupG_time, tupG_head, tupG_item, h_0, i_0, h_1, i_1, h_2, i_2, h_3, i_3, h_4, i_4, h_5, i_5, h_6, i_6, h_7, i_7, h_8, i_8, h_9, i_9, h_10, i_10, h_11, i_11, h_12, i_12, h_13, i_13, i_14, p_0, p_1, t_0, t_1, e1, e2, e3, e4]
  rw [in_clean]
  unfold leanH
  by_cases a1 : cleanL x.name = cleanL y.name
  · simp [a1]
  · by_cases a2 : y.kind = 6
    · simp [a1, a2]
    · by_cases a3 : y.kind = 1
      · by_cases a4 : x.kind = 2 <;> simp [a1, a2, a3, a4]
      · simp [a1, a2, a3]
/-- Names that are few enough. -/
def Short (l : List Item) : Prop := ∀ x ∈ l, x.head.name.length + x.head.link.length ≤ 300
theorem short_at {l : List Item} (h : Short l) (i : Nat) (hi : i < l.length) : (l[i]).head.name.length + (l[i]).head.link.length ≤ 300 := h _ (List.getElem_mem hi)
def leanAt (l : List Item) (i j : Int) : Bool := if h : 0 ≤ i ∧ 0 ≤ j ∧ i < l.length ∧ j < l.length ∧ i ≠ j then leanH (l[i.toNat]'(by omega)).head (l[j.toNat]'(by omega)).head else false
theorem Leans_k (l : List Item) (i j : Int) (hs : Short l) (hk : 10000 < k) (hl : l.length ≤ 1000000) : kp E k (n + 7) order_Leans [.list 15 (its l), .int .i64 i, .int .i64 j] = some (.bool (leanAt l i j)) := by
  rw [order_Leans_eq]
  unfold leanAt
  by_cases h : 0 ≤ i ∧ 0 ≤ j ∧ i < l.length ∧ j < l.length ∧ i ≠ j
  · rw [dif_pos h]
    obtain ⟨h1, h2, h3, h4, h5⟩ := h
    have e := leans_k (E := E) (k := k) (n := n) (l[i.toNat]'(by omega)).head (l[j.toNat]'(by omega)).head (short_at hs _ _) (short_at hs _ _) hk
    simp (disch := first | omega | (simp only [List.length_append, List.length_cons, List.length_nil, List.length_take, List.length_drop]; done) | (simp only [List.length_append, List.length_cons, List.length_nil, List.length_take, List.length_drop]; omega) | fail) only [bif_t, bif_f, bif_n, bif_a, callB_ok, callI_ok, callS_ok, callL_ok, callF_ok, callT_ok, tupB_ok, tupI_ok, tupS_ok, tupL_ok, tupF_ok, atNil_ok, wrap1, wrapM, wrapP, Int.toNat_natCast, svs_len, ivs_len, bvs_len, str_size, svs_mid, ivs_mid, str_dec, str_ext, str_byte, mid_byte, mid_cut, List.length_nil, List.length_singleton, svs_snoc, ivs_snoc, svs_take, svs_drop, str_app, List.take_length, List.drop_zero, List.nil_append, cond_true, cond_false, Option.bind_some, Bool.not_true, Bool.not_false, Bool.true_and, Bool.and_true, bys_len, prs_len, its_len, cells_pair, cells_time, cells_head, cells_item, fold_pair, fold_time, fold_head, fold_ihead, fold_item, prs_mid, its_mid, bys_mid, byte_c, callG_pair, callG_time, callG_head, callG_item, tupG_pair, tupG_time, tupG_head, tupG_item, h_0, i_0, h_1, i_1, h_2, i_2, h_3, i_3, h_4, i_4, h_5, i_5, h_6, i_6, h_7, i_7, h_8, i_8, h_9, i_9, h_10, i_10, h_11, i_11, h_12, i_12, h_13, i_13, i_14, p_0, p_1, t_0, t_1, its_at, e]
  · rw [dif_neg h]
    by_cases h1 : i < 0
    · simp (disch := first | omega | (simp only [List.length_append, List.length_cons, List.length_nil, List.length_take, List.length_drop]; done) | (simp only [List.length_append, List.length_cons, List.length_nil, List.length_take, List.length_drop]; omega) | fail) only [bif_t, bif_f, bif_n, bif_a, callB_ok, callI_ok, callS_ok, callL_ok, callF_ok, callT_ok, tupB_ok, tupI_ok, tupS_ok, tupL_ok, tupF_ok, atNil_ok, wrap1, wrapM, wrapP, Int.toNat_natCast, svs_len, ivs_len, bvs_len, str_size, svs_mid, ivs_mid, str_dec, str_ext, str_byte, mid_byte, mid_cut, List.length_nil, List.length_singleton, svs_snoc, ivs_snoc, svs_take, svs_drop, str_app, List.take_length, List.drop_zero, List.nil_append, cond_true, cond_false, Option.bind_some, Bool.not_true, Bool.not_false, Bool.true_and, Bool.and_true, bys_len, prs_len, its_len, cells_pair, cells_time, cells_head, cells_item, fold_pair, fold_time, fold_head, fold_ihead, fold_item, prs_mid, its_mid, bys_mid, byte_c, callG_pair, callG_time, callG_head, callG_item, tupG_pair, tupG_time, tupG_head, tupG_item, h_0, i_0, h_1, i_1, h_2, i_2, h_3, i_3, h_4, i_4, h_5, i_5, h_6, i_6, h_7, i_7, h_8, i_8, h_9, i_9, h_10, i_10, h_11, i_11, h_12, i_12, h_13, i_13, i_14, p_0, p_1, t_0, t_1]
    by_cases h2 : j < 0
    · simp (disch := first | omega | (simp only [List.length_append, List.length_cons, List.length_nil, List.length_take, List.length_drop]; done) | (simp only [List.length_append, List.length_cons, List.length_nil, List.length_take, List.length_drop]; omega) | fail) only [bif_t, bif_f, bif_n, bif_a, callB_ok, callI_ok, callS_ok, callL_ok, callF_ok, callT_ok, tupB_ok, tupI_ok, tupS_ok, tupL_ok, tupF_ok, atNil_ok, wrap1, wrapM, wrapP, Int.toNat_natCast, svs_len, ivs_len, bvs_len, str_size, svs_mid, ivs_mid, str_dec, str_ext, str_byte, mid_byte, mid_cut, List.length_nil, List.length_singleton, svs_snoc, ivs_snoc, svs_take, svs_drop, str_app, List.take_length, List.drop_zero, List.nil_append, cond_true, cond_false, Option.bind_some, Bool.not_true, Bool.not_false, Bool.true_and, Bool.and_true, bys_len, prs_len, its_len, cells_pair, cells_time, cells_head, cells_item, fold_pair, fold_time, fold_head, fold_ihead, fold_item, prs_mid, its_mid, bys_mid, byte_c, callG_pair, callG_time, callG_head, callG_item, tupG_pair, tupG_time, tupG_head, tupG_item, h_0, i_0, h_1, i_1, h_2, i_2, h_3, i_3, h_4, i_4, h_5, i_5, h_6, i_6, h_7, i_7, h_8, i_8, h_9, i_9, h_10, i_10, h_11, i_11, h_12, i_12, h_13, i_13, i_14, p_0, p_1, t_0, t_1]
    by_cases h3 : i ≥ l.length
    · simp (disch := first | omega | (simp only [List.length_append, List.length_cons, List.length_nil, List.length_take, List.length_drop]; done) | (simp only [List.length_append, List.length_cons, List.length_nil, List.length_take, List.length_drop]; omega) | fail) only [bif_t, bif_f, bif_n, bif_a, callB_ok, callI_ok, callS_ok, callL_ok, callF_ok, callT_ok, tupB_ok, tupI_ok, tupS_ok, tupL_ok, tupF_ok, atNil_ok, wrap1, wrapM, wrapP, Int.toNat_natCast, svs_len, ivs_len, bvs_len, str_size, svs_mid, ivs_mid, str_dec, str_ext, str_byte, mid_byte, mid_cut, List.length_nil, List.length_singleton, svs_snoc, ivs_snoc, svs_take, svs_drop, str_app, List.take_length, List.drop_zero, List.nil_append, cond_true, cond_false, Option.bind_some, Bool.not_true, Bool.not_false, Bool.true_and, Bool.and_true, bys_len, prs_len, its_len, cells_pair, cells_time, cells_head, cells_item, fold_pair, fold_time, fold_head, fold_ihead, fold_item, prs_mid, its_mid, bys_mid, byte_c, callG_pair, callG_time, callG_head, callG_item, tupG_pair, tupG_time, tupG_head, tupG_item, h_0, i_0, h_1, i_1, h_2, i_2, h_3, i_3, h_4, i_4, h_5, i_5, h_6, i_6, h_7, i_7, h_8, i_8, h_9, i_9, h_10, i_10, h_11, i_11, h_12, i_12, h_13, i_13, i_14, p_0, p_1, t_0, t_1]
    by_cases h4 : j ≥ l.length
    · simp (disch := first | omega | (simp only [List.length_append, List.length_cons, List.length_nil, List.length_take, List.length_drop]; done) | (simp only [List.length_append, List.length_cons, List.length_nil, List.length_take, List.length_drop]; omega) | fail) only [bif_t, bif_f, bif_n, bif_a, callB_ok, callI_ok, callS_ok, callL_ok, callF_ok, callT_ok, tupB_ok, tupI_ok, tupS_ok, tupL_ok, tupF_ok, atNil_ok, wrap1, wrapM, wrapP, Int.toNat_natCast, svs_len, ivs_len, bvs_len, str_size, svs_mid, ivs_mid, str_dec, str_ext, str_byte, mid_byte, mid_cut, List.length_nil, List.length_singleton, svs_snoc, ivs_snoc, svs_take, svs_drop, str_app, List.take_length, List.drop_zero, List.nil_append, cond_true, cond_false, Option.bind_some, Bool.not_true, Bool.not_false, Bool.true_and, Bool.and_true, bys_len, prs_len, its_len, cells_pair, cells_time, cells_head, cells_item, fold_pair, fold_time, fold_head, fold_ihead, fold_item, prs_mid, its_mid, bys_mid, byte_c, callG_pair, callG_time, callG_head, callG_item, tupG_pair, tupG_time, tupG_head, tupG_item, h_0, i_0, h_1, i_1, h_2, i_2, h_3, i_3, h_4, i_4, h_5, i_5, h_6, i_6, h_7, i_7, h_8, i_8, h_9, i_9, h_10, i_10, h_11, i_11, h_12, i_12, h_13, i_13, i_14, p_0, p_1, t_0, t_1]
    have h5 : i = j := by omega
    simp (disch := first | omega | (simp only [List.length_append, List.length_cons, List.length_nil, List.length_take, List.length_drop]; done) | (simp only [List.length_append, List.length_cons, List.length_nil, List.length_take, List.length_drop]; omega) | fail) only [bif_t, bif_f, bif_n, bif_a, callB_ok, callI_ok, callS_ok, callL_ok, callF_ok, callT_ok, tupB_ok, tupI_ok, tupS_ok, tupL_ok, tupF_ok, atNil_ok, wrap1, wrapM, wrapP, Int.toNat_natCast, svs_len, ivs_len, bvs_len, str_size, svs_mid, ivs_mid, str_dec, str_ext, str_byte, mid_byte, mid_cut, List.length_nil, List.length_singleton, svs_snoc, ivs_snoc, svs_take, svs_drop, str_app, List.take_length, List.drop_zero, List.nil_append, cond_true, cond_false, Option.bind_some, Bool.not_true, Bool.not_false, Bool.true_and, Bool.and_true, bys_len, prs_len, its_len, cells_pair, cells_time, cells_head, cells_item, fold_pair, fold_time, fold_head, fold_ihead, fold_item, prs_mid, its_mid, bys_mid, byte_c, callG_pair, callG_time, callG_head, callG_item, tupG_pair, tupG_time, tupG_head, tupG_item, h_0, i_0, h_1, i_1, h_2, i_2, h_3, i_3, h_4, i_4, h_5, i_5, h_6, i_6, h_7, i_7, h_8, i_8, h_9, i_9, h_10, i_10, h_11, i_11, h_12, i_12, h_13, i_13, i_14, p_0, p_1, t_0, t_1]
theorem refLeans_k (l : List Item) (i j : Int) (hs : Short l) (hk : 10000 < k) (hl : l.length ≤ 1000000) : kp E k (n + 4) ref40_Leans [.list 15 (its l), .int .i64 i, .int .i64 j] = some (.bool (leanAt l i j)) := by
  rw [ref40_Leans_eq]
  unfold leanAt
  by_cases h : 0 ≤ i ∧ 0 ≤ j ∧ i < l.length ∧ j < l.length ∧ i ≠ j
  · rw [dif_pos h]
    obtain ⟨h1, h2, h3, h4, h5⟩ := h
    have s1 := short_at hs i.toNat (by omega)
    have s2 := short_at hs j.toNat (by omega)
    have hx1 : ∀ F : AV → Option AV, ((its l)[i.toNat]?).bind F = F (elItem (l[i.toNat]'(by omega))) := fun F => its_at _ _ (by omega) F
    have hx2 : ∀ F : AV → Option AV, ((its l)[j.toNat]?).bind F = F (elItem (l[j.toNat]'(by omega))) := fun F => its_at _ _ (by omega) F
    generalize (l[i.toNat]'(by omega)) = x at *
    generalize (l[j.toNat]'(by omega)) = y at *
    have l2 := clean_len y.head.name
    have e1 := ref_clean_k (E := E) (k := k) (n := n) x.head.name (by omega) (by omega)
    have e2 := ref_clean_k (E := E) (k := k) (n := n) y.head.name (by omega) (by omega)
    have e3 := ref_clean_k (E := E) (k := k) (n := n) x.head.link (by omega) (by omega)
    have e4 := ref_in_k (E := E) (k := k) (n := n) x.head.name (cleanL y.head.name) (by omega) (by omega)
    simp (disch := first | omega | (simp only [List.length_append, List.length_cons, List.length_nil, List.length_take, List.length_drop]; done) | (simp only [List.length_append, List.length_cons, List.length_nil, List.length_take, List.length_drop]; omega) | fail) only [bif_t, bif_f, bif_n, bif_a, callB_ok, callI_ok, callS_ok, callL_ok, callF_ok, callT_ok, tupB_ok, tupI_ok, tupS_ok, tupL_ok, tupF_ok, atNil_ok, wrap1, wrapM, wrapP, Int.toNat_natCast, svs_len, ivs_len, bvs_len, str_size, svs_mid, ivs_mid, str_dec, str_ext, str_byte, mid_byte, mid_cut, List.length_nil, List.length_singleton, svs_snoc, ivs_snoc, svs_take, svs_drop, str_app, List.take_length, List.drop_zero, List.nil_append, cond_true, cond_false, Option.bind_some, Bool.not_true, Bool.not_false, Bool.true_and, Bool.and_true, bys_len, prs_len, its_len, cells_pair, cells_time, cells_head, cells_item, fold_pair, fold_time, fold_head, fold_ihead, fold_item, prs_mid, its_mid, bys_mid, byte_c, callG_pair, callG_time, callG_head, callG_item, tupG_pair, tupG_time, tupG_head, tupG_item, h_0, i_0, h_1, i_1, h_2, i_2, h_3, i_3, h_4, i_4, h_5, i_5, h_6, i_6, h_7, i_7, h_8, i_8, h_9, i_9, h_10, i_10, h_11, i_11, h_12, i_12, h_13, i_13, i_14, p_0, p_1, t_0, t_1, hx1, hx2, e1, e2, e3, e4]
    rw [in_clean1]
    unfold leanH
    by_cases a1 : cleanL x.head.name = cleanL y.head.name
    · simp [a1]
    · by_cases a2 : y.head.kind = 6
      · cases inL x.head.name y.head.name <;> simp [a1, a2]
      · by_cases a3 : y.head.kind = 1
        · by_cases a4 : x.head.kind = 2 <;> simp [a1, a2, a3, a4]
        · simp [a1, a2, a3]
  · rw [dif_neg h]
    by_cases h1 : i < 0
    · simp (disch := first | omega | (simp only [List.length_append, List.length_cons, List.length_nil, List.length_take, List.length_drop]; done) | (simp only [List.length_append, List.length_cons, List.length_nil, List.length_take, List.length_drop]; omega) | fail) only [bif_t, bif_f, bif_n, bif_a, callB_ok, callI_ok, callS_ok, callL_ok, callF_ok, callT_ok, tupB_ok, tupI_ok, tupS_ok, tupL_ok, tupF_ok, atNil_ok, wrap1, wrapM, wrapP, Int.toNat_natCast, svs_len, ivs_len, bvs_len, str_size, svs_mid, ivs_mid, str_dec, str_ext, str_byte, mid_byte, mid_cut, List.length_nil, List.length_singleton, svs_snoc, ivs_snoc, svs_take, svs_drop, str_app, List.take_length, List.drop_zero, List.nil_append, cond_true, cond_false, Option.bind_some, Bool.not_true, Bool.not_false, Bool.true_and, Bool.and_true, bys_len, prs_len, its_len, cells_pair, cells_time, cells_head, cells_item, fold_pair, fold_time, fold_head, fold_ihead, fold_item, prs_mid, its_mid, bys_mid, byte_c, callG_pair, callG_time, callG_head, callG_item, tupG_pair, tupG_time, tupG_head, tupG_item, h_0, i_0, h_1, i_1, h_2, i_2, h_3, i_3, h_4, i_4, h_5, i_5, h_6, i_6, h_7, i_7, h_8, i_8, h_9, i_9, h_10, i_10, h_11, i_11, h_12, i_12, h_13, i_13, i_14, p_0, p_1, t_0, t_1]
    by_cases h2 : i ≥ l.length
    · simp (disch := first | omega | (simp only [List.length_append, List.length_cons, List.length_nil, List.length_take, List.length_drop]; done) | (simp only [List.length_append, List.length_cons, List.length_nil, List.length_take, List.length_drop]; omega) | fail) only [bif_t, bif_f, bif_n, bif_a, callB_ok, callI_ok, callS_ok, callL_ok, callF_ok, callT_ok, tupB_ok, tupI_ok, tupS_ok, tupL_ok, tupF_ok, atNil_ok, wrap1, wrapM, wrapP, Int.toNat_natCast, svs_len, ivs_len, bvs_len, str_size, svs_mid, ivs_mid, str_dec, str_ext, str_byte, mid_byte, mid_cut, List.length_nil, List.length_singleton, svs_snoc, ivs_snoc, svs_take, svs_drop, str_app, List.take_length, List.drop_zero, List.nil_append, cond_true, cond_false, Option.bind_some, Bool.not_true, Bool.not_false, Bool.true_and, Bool.and_true, bys_len, prs_len, its_len, cells_pair, cells_time, cells_head, cells_item, fold_pair, fold_time, fold_head, fold_ihead, fold_item, prs_mid, its_mid, bys_mid, byte_c, callG_pair, callG_time, callG_head, callG_item, tupG_pair, tupG_time, tupG_head, tupG_item, h_0, i_0, h_1, i_1, h_2, i_2, h_3, i_3, h_4, i_4, h_5, i_5, h_6, i_6, h_7, i_7, h_8, i_8, h_9, i_9, h_10, i_10, h_11, i_11, h_12, i_12, h_13, i_13, i_14, p_0, p_1, t_0, t_1]
    by_cases h3 : j < 0
    · simp (disch := first | omega | (simp only [List.length_append, List.length_cons, List.length_nil, List.length_take, List.length_drop]; done) | (simp only [List.length_append, List.length_cons, List.length_nil, List.length_take, List.length_drop]; omega) | fail) only [bif_t, bif_f, bif_n, bif_a, callB_ok, callI_ok, callS_ok, callL_ok, callF_ok, callT_ok, tupB_ok, tupI_ok, tupS_ok, tupL_ok, tupF_ok, atNil_ok, wrap1, wrapM, wrapP, Int.toNat_natCast, svs_len, ivs_len, bvs_len, str_size, svs_mid, ivs_mid, str_dec, str_ext, str_byte, mid_byte, mid_cut, List.length_nil, List.length_singleton, svs_snoc, ivs_snoc, svs_take, svs_drop, str_app, List.take_length, List.drop_zero, List.nil_append, cond_true, cond_false, Option.bind_some, Bool.not_true, Bool.not_false, Bool.true_and, Bool.and_true, bys_len, prs_len, its_len, cells_pair, cells_time, cells_head, cells_item, fold_pair, fold_time, fold_head, fold_ihead, fold_item, prs_mid, its_mid, bys_mid, byte_c, callG_pair, callG_time, callG_head, callG_item, tupG_pair, tupG_time, tupG_head, tupG_item, h_0, i_0, h_1, i_1, h_2, i_2, h_3, i_3, h_4, i_4, h_5, i_5, h_6, i_6, h_7, i_7, h_8, i_8, h_9, i_9, h_10, i_10, h_11, i_11, h_12, i_12, h_13, i_13, i_14, p_0, p_1, t_0, t_1]
    by_cases h4 : j ≥ l.length
    · simp (disch := first | omega | (simp only [List.length_append, List.length_cons, List.length_nil, List.length_take, List.length_drop]; done) | (simp only [List.length_append, List.length_cons, List.length_nil, List.length_take, List.length_drop]; omega) | fail) only [bif_t, bif_f, bif_n, bif_a, callB_ok, callI_ok, callS_ok, callL_ok, callF_ok, callT_ok, tupB_ok, tupI_ok, tupS_ok, tupL_ok, tupF_ok, atNil_ok, wrap1, wrapM, wrapP, Int.toNat_natCast, svs_len, ivs_len, bvs_len, str_size, svs_mid, ivs_mid, str_dec, str_ext, str_byte, mid_byte, mid_cut, List.length_nil, List.length_singleton, svs_snoc, ivs_snoc, svs_take, svs_drop, str_app, List.take_length, List.drop_zero, List.nil_append, cond_true, cond_false, Option.bind_some, Bool.not_true, Bool.not_false, Bool.true_and, Bool.and_true, bys_len, prs_len, its_len, cells_pair, cells_time, cells_head, cells_item, fold_pair, fold_time, fold_head, fold_ihead, fold_item, prs_mid, its_mid, bys_mid, byte_c, callG_pair, callG_time, callG_head, callG_item, tupG_pair, tupG_time, tupG_head, tupG_item, h_0, i_0, h_1, i_1, h_2, i_2, h_3, i_3, h_4, i_4, h_5, i_5, h_6, i_6, h_7, i_7, h_8, i_8, h_9, i_9, h_10, i_10, h_11, i_11, h_12, i_12, h_13, i_13, i_14, p_0, p_1, t_0, t_1]
    have h5 : i = j := by omega
    simp (disch := first | omega | (simp only [List.length_append, List.length_cons, List.length_nil, List.length_take, List.length_drop]; done) | (simp only [List.length_append, List.length_cons, List.length_nil, List.length_take, List.length_drop]; omega) | fail) only [bif_t, bif_f, bif_n, bif_a, callB_ok, callI_ok, callS_ok, callL_ok, callF_ok, callT_ok, tupB_ok, tupI_ok, tupS_ok, tupL_ok, tupF_ok, atNil_ok, wrap1, wrapM, wrapP, Int.toNat_natCast, svs_len, ivs_len, bvs_len, str_size, svs_mid, ivs_mid, str_dec, str_ext, str_byte, mid_byte, mid_cut, List.length_nil, List.length_singleton, svs_snoc, ivs_snoc, svs_take, svs_drop, str_app, List.take_length, List.drop_zero, List.nil_append, cond_true, cond_false, Option.bind_some, Bool.not_true, Bool.not_false, Bool.true_and, Bool.and_true, bys_len, prs_len, its_len, cells_pair, cells_time, cells_head, cells_item, fold_pair, fold_time, fold_head, fold_ihead, fold_item, prs_mid, its_mid, bys_mid, byte_c, callG_pair, callG_time, callG_head, callG_item, tupG_pair, tupG_time, tupG_head, tupG_item, h_0, i_0, h_1, i_1, h_2, i_2, h_3, i_3, h_4, i_4, h_5, i_5, h_6, i_6, h_7, i_7, h_8, i_8, h_9, i_9, h_10, i_10, h_11, i_11, h_12, i_12, h_13, i_13, i_14, p_0, p_1, t_0, t_1]
/-- What leans on what, by places. -/
def rel (l : List Item) (i j : Nat) : Bool := leanAt l i j
/-- What is taken, as flags. -/
def flags (m : Nat) (out : List Nat) : List Bool := (List.range m).map out.contains
def nats (out : List Nat) : List Int := out.map fun i : Nat => ((i : Nat) : Int)
theorem flags_len (m : Nat) (out : List Nat) : (flags m out).length = m := by simp [flags]
theorem flags_at {m : Nat} {out : List Nat} {i : Nat} (h : i < m) {β : Type} (K : Bool → Option β) : (((bvs (flags m out))[i]?).bind fun y => cellB (AV.cells y) 0 K) = K (out.contains i) := by
  rw [bvs_at _ _ (by rw [flags_len]; exact h)]
  congr 1
  simp [flags]
theorem flags_get {m : Nat} {out : List Nat} {i : Nat} (h : i < m) {β : Type} (F : AV → Option β) : ((bvs (flags m out))[i]?).bind F = F (bv (out.contains i)) := by
  unfold bvs flags
  rw [List.getElem?_map, List.getElem?_map, List.getElem?_range h]
  rfl
theorem flags_set {m : Nat} {out : List Nat} {i : Nat} (h : i < m) : (bvs (flags m out)).set i (mkElem 1 (splice (AV.cells (bv (out.contains i))) 0 [(.bool true)]) (bv (out.contains i))) = bvs (flags m (out ++ [i])) := by
  apply List.ext_getElem?
  intro j
  rw [List.getElem?_set]
  unfold bvs flags
  by_cases hij : i = j
  · subst hij
    rw [if_pos rfl]
    simp [h, bv, mkElem, splice, AV.cells]
  · rw [if_neg hij]
    simp only [List.getElem?_map]
    by_cases hj : j < m
    · rw [List.getElem?_range hj]
      simp only [Option.map_some, Option.some.injEq, bv, AV.bool.injEq]
      rw [Bool.eq_iff_iff]
      simp [hij, eq_comm]
    · rw [List.getElem?_eq_none (by simp; omega)]
      rfl
theorem nats_snoc (out : List Nat) (i : Nat) : nats out ++ [((i : Nat) : Int)] = nats (out ++ [i]) := by simp [nats]
theorem nats_len (out : List Nat) : (nats out).length = out.length := by simp [nats]
theorem room8 {m : Nat} (h : m ≤ 1000000) : (m + 1) * 8 ≤ 140737488355328 ∧ m + 1 ≤ 9223372036854775807 := by omega

section
variable (l : List Item) (hs : Short l) (hk : 10000 < k) (hl : l.length ≤ 12)
/-- What a choice leads to. -/
noncomputable def led (E : Ext) (k n : Nat) (l : List Item) (k0 : Nat) (s14 : Nat) (out : List Nat) (c : Nat) : Option AV := order_Sorted_L0 (kp E k (n + 7)) k k0 (its l) ((l.length : Nat) : Int) ((s14 + 1 : Nat) : Int) (bvs (flags l.length (out ++ [c]))) (ivs (nats (out ++ [c])))
include hs hk hl in
theorem sorted2 (k0 k1 s14 : Nat) (out : List Nat) (i : Nat) (s5 : Int) (hi : i < l.length) (ho : out.length ≤ 12) (h14 : s14 ≤ 12) : ∀ (m j : Nat) (w : Bool) (k2 : Nat), j + m = l.length → m < k2 →
    order_Sorted_L2 (kp E k (n + 7)) k k1 k0 k2 (its l) s5 ((i : Nat) : Int) w ((l.length : Nat) : Int) ((s14 : Nat) : Int) ((l.length : Nat) : Int) ((i : Nat) : Int) ((l.length : Nat) : Int) ((j : Nat) : Int) (bvs (flags l.length out)) (ivs (nats out)) =
    if w = false ∧ (List.range' j m).all (fun q => out.contains q || !rel l i q) then led E k n l k0 s14 out i
    else order_Sorted_L1 (kp E k (n + 7)) k k0 k1 (its l) s5 ((l.length : Nat) : Int) ((s14 : Nat) : Int) ((l.length : Nat) : Int) ((i + 1 : Nat) : Int) (bvs (flags l.length out)) (ivs (nats out))
  | 0, j, w, k2 + 1, hj, hk2 => by
    rw [order_Sorted_L2_s]
    simp (disch := first | omega | (simp only [List.length_append, List.length_cons, List.length_nil, List.length_take, List.length_drop]; done) | (simp only [List.length_append, List.length_cons, List.length_nil, List.length_take, List.length_drop]; omega) | fail) only [bif_t, bif_f, bif_n, bif_a, callB_ok, callI_ok, callS_ok, callL_ok, callF_ok, callT_ok, tupB_ok, tupI_ok, tupS_ok, tupL_ok, tupF_ok, atNil_ok, wrap1, wrapM, wrapP, Int.toNat_natCast, svs_len, ivs_len, bvs_len, str_size, svs_mid, ivs_mid, str_dec, str_ext, str_byte, mid_byte, mid_cut, List.length_nil, List.length_singleton, svs_snoc, ivs_snoc, svs_take, svs_drop, str_app, List.take_length, List.drop_zero, List.nil_append, cond_true, cond_false, Option.bind_some, Bool.not_true, Bool.not_false, Bool.true_and, Bool.and_true, bys_len, prs_len, its_len, cells_pair, cells_time, cells_head, cells_item, fold_pair, fold_time, fold_head, fold_ihead, fold_item, prs_mid, its_mid, bys_mid, byte_c, callG_pair, callG_time, callG_head, callG_item, tupG_pair, tupG_time, tupG_head, tupG_item, h_0, i_0, h_1, i_1, h_2, i_2, h_3, i_3, h_4, i_4, h_5, i_5, h_6, i_6, h_7, i_7, h_8, i_8, h_9, i_9, h_10, i_10, h_11, i_11, h_12, i_12, h_13, i_13, i_14, p_0, p_1, t_0, t_1, flags_len, flags_get, flags_set, nats_snoc, nats_len]
    cases w with
    | true => rw [if_neg (by simp)]; rfl
    | false => rw [if_pos ⟨rfl, rfl⟩]; rfl
  | m + 1, j, w, k2 + 1, hj, hk2 => by
    have ih := sorted2 k0 k1 s14 out i s5 hi ho h14 m (j + 1)
    have hL := Leans_k (E := E) (k := k) (n := n) l ((i : Nat) : Int) ((j : Nat) : Int) hs hk (by omega)
    rw [order_Sorted_L2_s]
    simp (disch := first | omega | (simp only [List.length_append, List.length_cons, List.length_nil, List.length_take, List.length_drop]; done) | (simp only [List.length_append, List.length_cons, List.length_nil, List.length_take, List.length_drop]; omega) | fail) only [bif_t, bif_f, bif_n, bif_a, callB_ok, callI_ok, callS_ok, callL_ok, callF_ok, callT_ok, tupB_ok, tupI_ok, tupS_ok, tupL_ok, tupF_ok, atNil_ok, wrap1, wrapM, wrapP, Int.toNat_natCast, svs_len, ivs_len, bvs_len, str_size, svs_mid, ivs_mid, str_dec, str_ext, str_byte, mid_byte, mid_cut, List.length_nil, List.length_singleton, svs_snoc, ivs_snoc, svs_take, svs_drop, str_app, List.take_length, List.drop_zero, List.nil_append, cond_true, cond_false, Option.bind_some, Bool.not_true, Bool.not_false, Bool.true_and, Bool.and_true, bys_len, prs_len, its_len, cells_pair, cells_time, cells_head, cells_item, fold_pair, fold_time, fold_head, fold_ihead, fold_item, prs_mid, its_mid, bys_mid, byte_c, callG_pair, callG_time, callG_head, callG_item, tupG_pair, tupG_time, tupG_head, tupG_item, h_0, i_0, h_1, i_1, h_2, i_2, h_3, i_3, h_4, i_4, h_5, i_5, h_6, i_6, h_7, i_7, h_8, i_8, h_9, i_9, h_10, i_10, h_11, i_11, h_12, i_12, h_13, i_13, i_14, p_0, p_1, t_0, t_1, flags_len, flags_at, hL, ih]
    rw [List.range'_succ, List.all_cons]
    cases w with
    | true => simp only [cond_true, reduceCtorEq, false_and, if_false]
    | false =>
      cases hc : out.contains j with
      | true => simp only [cond_true, cond_false, Bool.true_or, Bool.true_and, true_and]
      | false =>
        have hr : rel l i j = leanAt l ((i : Nat) : Int) ((j : Nat) : Int) := rfl
        rw [hr]
        cases leanAt l ((i : Nat) : Int) ((j : Nat) : Int) with
        | true => simp only [cond_false, reduceCtorEq, false_and, if_false, Bool.not_true, Bool.false_or, Bool.false_and, Bool.false_eq_true, and_false]
        | false => simp only [cond_false, Bool.false_or, Bool.not_false, Bool.true_and, true_and]
include hs hk hl in
theorem sorted1 (k0 s14 : Nat) (out : List Nat) (ho : out.length ≤ 12) (h14 : s14 ≤ 12) (hleft : ∃ c, P40.choose l.length (rel l) out.contains (List.range l.length) none = some c) : ∀ (m i : Nat) (nx : Option Nat) (k1 : Nat), i + m = l.length → m < k1 → (∀ c, nx = some c → c < l.length) →
    ∀ c, P40.choose l.length (rel l) out.contains (List.range' i m) nx = some c →
    order_Sorted_L1 (kp E k (n + 7)) k k0 k1 (its l) (match nx with | some c => ((c : Nat) : Int) | none => -1) ((l.length : Nat) : Int) ((s14 : Nat) : Int) ((l.length : Nat) : Int) ((i : Nat) : Int) (bvs (flags l.length out)) (ivs (nats out)) = led E k n l k0 s14 out c
  | 0, i, nx, k1 + 1, hi, hk1, hnx, c, hc => by
    have hc : nx = some c := hc
    subst hc
    have := hnx c rfl
    rw [order_Sorted_L1_s]
    simp (disch := first | omega | (simp only [List.length_append, List.length_cons, List.length_nil, List.length_take, List.length_drop]; done) | (simp only [List.length_append, List.length_cons, List.length_nil, List.length_take, List.length_drop]; omega) | fail) only [bif_t, bif_f, bif_n, bif_a, callB_ok, callI_ok, callS_ok, callL_ok, callF_ok, callT_ok, tupB_ok, tupI_ok, tupS_ok, tupL_ok, tupF_ok, atNil_ok, wrap1, wrapM, wrapP, Int.toNat_natCast, svs_len, ivs_len, bvs_len, str_size, svs_mid, ivs_mid, str_dec, str_ext, str_byte, mid_byte, mid_cut, List.length_nil, List.length_singleton, svs_snoc, ivs_snoc, svs_take, svs_drop, str_app, List.take_length, List.drop_zero, List.nil_append, cond_true, cond_false, Option.bind_some, Bool.not_true, Bool.not_false, Bool.true_and, Bool.and_true, bys_len, prs_len, its_len, cells_pair, cells_time, cells_head, cells_item, fold_pair, fold_time, fold_head, fold_ihead, fold_item, prs_mid, its_mid, bys_mid, byte_c, callG_pair, callG_time, callG_head, callG_item, tupG_pair, tupG_time, tupG_head, tupG_item, h_0, i_0, h_1, i_1, h_2, i_2, h_3, i_3, h_4, i_4, h_5, i_5, h_6, i_6, h_7, i_7, h_8, i_8, h_9, i_9, h_10, i_10, h_11, i_11, h_12, i_12, h_13, i_13, i_14, p_0, p_1, t_0, t_1, flags_len, flags_get, flags_set, nats_snoc, nats_len]
    rfl
  | m + 1, i, nx, k1 + 1, hi, hk1, hnx, c, hc => by
    rw [List.range'_succ, P40.choose] at hc
    have hall : (List.range l.length).all (fun q => out.contains q || !rel l i q) = (List.range' 0 l.length).all (fun q => out.contains q || !rel l i q) := by rw [List.range_eq_range']
    have e2 := fun s5 => sorted2 (E := E) (k := k) (n := n) l hs hk hl k0 k1 s14 out i s5 (by omega) ho h14 l.length 0 false k (by omega) (by omega)
    simp only [true_and] at e2
    rw [show (((0 : Nat) : Int)) = (0 : Int) from rfl] at e2
    rw [order_Sorted_L1_s]
    cases ht : out.contains i with
    | true =>
      rw [if_pos ht] at hc
      have := sorted1 k0 s14 out ho h14 hleft m (i + 1) nx k1 (by omega) (by omega) hnx c hc
      simp (disch := first | omega | (simp only [List.length_append, List.length_cons, List.length_nil, List.length_take, List.length_drop]; done) | (simp only [List.length_append, List.length_cons, List.length_nil, List.length_take, List.length_drop]; omega) | fail) only [bif_t, bif_f, bif_n, bif_a, callB_ok, callI_ok, callS_ok, callL_ok, callF_ok, callT_ok, tupB_ok, tupI_ok, tupS_ok, tupL_ok, tupF_ok, atNil_ok, wrap1, wrapM, wrapP, Int.toNat_natCast, svs_len, ivs_len, bvs_len, str_size, svs_mid, ivs_mid, str_dec, str_ext, str_byte, mid_byte, mid_cut, List.length_nil, List.length_singleton, svs_snoc, ivs_snoc, svs_take, svs_drop, str_app, List.take_length, List.drop_zero, List.nil_append, cond_true, cond_false, Option.bind_some, Bool.not_true, Bool.not_false, Bool.true_and, Bool.and_true, bys_len, prs_len, its_len, cells_pair, cells_time, cells_head, cells_item, fold_pair, fold_time, fold_head, fold_ihead, fold_item, prs_mid, its_mid, bys_mid, byte_c, callG_pair, callG_time, callG_head, callG_item, tupG_pair, tupG_time, tupG_head, tupG_item, h_0, i_0, h_1, i_1, h_2, i_2, h_3, i_3, h_4, i_4, h_5, i_5, h_6, i_6, h_7, i_7, h_8, i_8, h_9, i_9, h_10, i_10, h_11, i_11, h_12, i_12, h_13, i_13, i_14, p_0, p_1, t_0, t_1, flags_len, flags_at, ht, this]
    | false =>
      rw [if_neg (by rw [ht]; simp)] at hc
      rw [hall] at hc
      have hno : ∀ x : Option Nat, (match x.or (some i) with | some c => ((c : Nat) : Int) | none => -1) = (match x with | some c => ((c : Nat) : Int) | none => ((i : Nat) : Int)) := by intro x; cases x <;> rfl
      have step : ∀ s5 : Int, s5 = (match nx.or (some i) with | some c => ((c : Nat) : Int) | none => -1) → order_Sorted_L2 (kp E k (n + 7)) k k1 k0 k (its l) s5 ((i : Nat) : Int) false ((l.length : Nat) : Int) ((s14 : Nat) : Int) ((l.length : Nat) : Int) ((i : Nat) : Int) ((l.length : Nat) : Int) 0 (bvs (flags l.length out)) (ivs (nats out)) = led E k n l k0 s14 out c := by
        rintro s5 rfl
        rw [e2]
        split
        · rename_i ha
          rw [if_pos ha] at hc
          cases hc
          rfl
        · rename_i ha
          rw [if_neg ha] at hc
          exact sorted1 k0 s14 out ho h14 hleft m (i + 1) (nx.or (some i)) k1 (by omega) (by omega) (fun c' hc' => by
            cases nx with
            | none => cases hc'; omega
            | some x => cases hc'; exact hnx _ rfl) c hc
      cases nx with
      | none =>
        simp (disch := first | omega | (simp only [List.length_append, List.length_cons, List.length_nil, List.length_take, List.length_drop]; done) | (simp only [List.length_append, List.length_cons, List.length_nil, List.length_take, List.length_drop]; omega) | fail) only [bif_t, bif_f, bif_n, bif_a, callB_ok, callI_ok, callS_ok, callL_ok, callF_ok, callT_ok, tupB_ok, tupI_ok, tupS_ok, tupL_ok, tupF_ok, atNil_ok, wrap1, wrapM, wrapP, Int.toNat_natCast, svs_len, ivs_len, bvs_len, str_size, svs_mid, ivs_mid, str_dec, str_ext, str_byte, mid_byte, mid_cut, List.length_nil, List.length_singleton, svs_snoc, ivs_snoc, svs_take, svs_drop, str_app, List.take_length, List.drop_zero, List.nil_append, cond_true, cond_false, Option.bind_some, Bool.not_true, Bool.not_false, Bool.true_and, Bool.and_true, bys_len, prs_len, its_len, cells_pair, cells_time, cells_head, cells_item, fold_pair, fold_time, fold_head, fold_ihead, fold_item, prs_mid, its_mid, bys_mid, byte_c, callG_pair, callG_time, callG_head, callG_item, tupG_pair, tupG_time, tupG_head, tupG_item, h_0, i_0, h_1, i_1, h_2, i_2, h_3, i_3, h_4, i_4, h_5, i_5, h_6, i_6, h_7, i_7, h_8, i_8, h_9, i_9, h_10, i_10, h_11, i_11, h_12, i_12, h_13, i_13, i_14, p_0, p_1, t_0, t_1, flags_len, flags_at, ht, step]
        exact step _ rfl
      | some x =>
        simp (disch := first | omega | (simp only [List.length_append, List.length_cons, List.length_nil, List.length_take, List.length_drop]; done) | (simp only [List.length_append, List.length_cons, List.length_nil, List.length_take, List.length_drop]; omega) | fail) only [bif_t, bif_f, bif_n, bif_a, callB_ok, callI_ok, callS_ok, callL_ok, callF_ok, callT_ok, tupB_ok, tupI_ok, tupS_ok, tupL_ok, tupF_ok, atNil_ok, wrap1, wrapM, wrapP, Int.toNat_natCast, svs_len, ivs_len, bvs_len, str_size, svs_mid, ivs_mid, str_dec, str_ext, str_byte, mid_byte, mid_cut, List.length_nil, List.length_singleton, svs_snoc, ivs_snoc, svs_take, svs_drop, str_app, List.take_length, List.drop_zero, List.nil_append, cond_true, cond_false, Option.bind_some, Bool.not_true, Bool.not_false, Bool.true_and, Bool.and_true, bys_len, prs_len, its_len, cells_pair, cells_time, cells_head, cells_item, fold_pair, fold_time, fold_head, fold_ihead, fold_item, prs_mid, its_mid, bys_mid, byte_c, callG_pair, callG_time, callG_head, callG_item, tupG_pair, tupG_time, tupG_head, tupG_item, h_0, i_0, h_1, i_1, h_2, i_2, h_3, i_3, h_4, i_4, h_5, i_5, h_6, i_6, h_7, i_7, h_8, i_8, h_9, i_9, h_10, i_10, h_11, i_11, h_12, i_12, h_13, i_13, i_14, p_0, p_1, t_0, t_1, flags_len, flags_at, ht]
        exact step _ rfl
end
end Go.Proofs.YtelniipccmeooaaDoor.Eng.U
