/- The functions of the Order laws in plain words, part 3: the reference's order, whether items are in order, the items in order. -/
import Derived.Test.YtelniipccmeooaaDoorU40b
set_option linter.unusedVariables false
set_option linter.unusedSimpArgs false
set_option linter.unusedSectionVars false
namespace Go.Proofs.YtelniipccmeooaaDoor.Eng.U
open Go Go.Proofs Go.Proofs.YtelniipccmeooaaDoor.Eng Go.Proofs.YtelniipccmeooaaDoor.P24 Go.Proofs.YtelniipccmeooaaDoor.P40
variable {E : Ext} [Core E] [HasParts E] [HasJoin E] [HasClone E] {k n : Nat}

theorem choose_pick {m : Nat} {R : Nat → Nat → Bool} {out : List Nat} (hl : out.length < m) : P40.choose m R out.contains (List.range m) none = some (pick m R out.contains) := by
  rw [choose_eq]
  unfold pick
  cases (List.range m).find? (free m R out.contains) with
  | some i => rfl
  | none =>
    obtain ⟨i, hi, hc⟩ := any_left hl
    cases hg : (List.range m).find? (fun i => !out.contains i) with
    | none =>
      have := find_none.1 hg i hi
      rw [hc] at this
      cases this
    | some j => rfl
theorem sorted0 (l : List Item) (hs : Short l) (hk : 10000 < k) (hl : l.length ≤ 12) : ∀ (m k0 : Nat) (out : List Nat), out.length + m = l.length → m < k0 →
    order_Sorted_L0 (kp E k (n + 7)) k k0 (its l) ((l.length : Nat) : Int) ((out.length : Nat) : Int) (bvs (flags l.length out)) (ivs (nats out)) = some (.list 1 (ivs (nats (sortGo l.length (rel l) m out))))
  | 0, k0 + 1, out, ho, hk0 => by
    rw [order_Sorted_L0_s]
    simp (disch := first | omega | (simp only [List.length_append, List.length_cons, List.length_nil, List.length_take, List.length_drop]; done) | (simp only [List.length_append, List.length_cons, List.length_nil, List.length_take, List.length_drop]; omega) | fail) only [bif_t, bif_f, bif_n, bif_a, callB_ok, callI_ok, callS_ok, callL_ok, callF_ok, callT_ok, tupB_ok, tupI_ok, tupS_ok, tupL_ok, tupF_ok, atNil_ok, wrap1, wrapM, wrapP, Int.toNat_natCast, svs_len, ivs_len, bvs_len, str_size, svs_mid, ivs_mid, str_dec, str_ext, str_byte, mid_byte, mid_cut, List.length_nil, List.length_singleton, svs_snoc, ivs_snoc, svs_take, svs_drop, str_app, List.take_length, List.drop_zero, List.nil_append, cond_true, cond_false, Option.bind_some, Bool.not_true, Bool.not_false, Bool.true_and, Bool.and_true, bys_len, prs_len, its_len, cells_pair, cells_time, cells_head, cells_item, fold_pair, fold_time, fold_head, fold_ihead, fold_item, prs_mid, its_mid, bys_mid, byte_c, callG_pair, callG_time, callG_head, callG_item, tupG_pair, tupG_time, tupG_head, tupG_item, h_0, i_0, h_1, i_1, h_2, i_2, h_3, i_3, h_4, i_4, h_5, i_5, h_6, i_6, h_7, i_7, h_8, i_8, h_9, i_9, h_10, i_10, h_11, i_11, h_12, i_12, h_13, i_13, i_14, p_0, p_1, t_0, t_1]
    rfl
  | m + 1, k0 + 1, out, ho, hk0 => by
    have hc := choose_pick (R := rel l) (out := out) (m := l.length) (by omega)
    have e1 := sorted1 (E := E) (k := k) (n := n) l hs hk hl k0 out.length out (by omega) (by omega) ⟨_, hc⟩ l.length 0 none k (by omega) (by omega) (fun _ h => by cases h) _ (by rw [← List.range_eq_range']; exact hc)
    have ih := sorted0 l hs hk hl m k0 (out ++ [pick l.length (rel l) out.contains]) (by simp; omega) (by omega)
    rw [List.length_append, List.length_singleton] at ih
    rw [order_Sorted_L0_s]
    simp (disch := first | omega | (simp only [List.length_append, List.length_cons, List.length_nil, List.length_take, List.length_drop]; done) | (simp only [List.length_append, List.length_cons, List.length_nil, List.length_take, List.length_drop]; omega) | fail) only [bif_t, bif_f, bif_n, bif_a, callB_ok, callI_ok, callS_ok, callL_ok, callF_ok, callT_ok, tupB_ok, tupI_ok, tupS_ok, tupL_ok, tupF_ok, atNil_ok, wrap1, wrapM, wrapP, Int.toNat_natCast, svs_len, ivs_len, bvs_len, str_size, svs_mid, ivs_mid, str_dec, str_ext, str_byte, mid_byte, mid_cut, List.length_nil, List.length_singleton, svs_snoc, ivs_snoc, svs_take, svs_drop, str_app, List.take_length, List.drop_zero, List.nil_append, cond_true, cond_false, Option.bind_some, Bool.not_true, Bool.not_false, Bool.true_and, Bool.and_true, bys_len, prs_len, its_len, cells_pair, cells_time, cells_head, cells_item, fold_pair, fold_time, fold_head, fold_ihead, fold_item, prs_mid, its_mid, bys_mid, byte_c, callG_pair, callG_time, callG_head, callG_item, tupG_pair, tupG_time, tupG_head, tupG_item, h_0, i_0, h_1, i_1, h_2, i_2, h_3, i_3, h_4, i_4, h_5, i_5, h_6, i_6, h_7, i_7, h_8, i_8, h_9, i_9, h_10, i_10, h_11, i_11, h_12, i_12, h_13, i_13, i_14, p_0, p_1, t_0, t_1]
    exact e1.trans ih
theorem Sorted_k (l : List Item) (hs : Short l) (hk : 10000 < k) (hl : l.length ≤ 12) : kp E k (n + 8) order_Sorted [.list 15 (its l)] = some (.list 1 (ivs (nats (sorted l.length (rel l))))) := by
  rw [order_Sorted_eq]
  have e := sorted0 (E := E) (k := k) (n := n) l hs hk hl l.length k [] (by simp) (by omega)
  have hf : List.replicate l.length (AV.bool false) = bvs (flags l.length []) := by
    apply List.ext_getElem?
    intro j
    unfold bvs flags
    rw [List.getElem?_replicate, List.getElem?_map, List.getElem?_map]
    by_cases hj : j < l.length
    · rw [if_pos hj, List.getElem?_range hj]; rfl
    · rw [if_neg hj, List.getElem?_eq_none (by simp; omega)]; rfl
  simp (disch := first | omega | (simp only [List.length_append, List.length_cons, List.length_nil, List.length_take, List.length_drop]; done) | (simp only [List.length_append, List.length_cons, List.length_nil, List.length_take, List.length_drop]; omega) | fail) only [bif_t, bif_f, bif_n, bif_a, callB_ok, callI_ok, callS_ok, callL_ok, callF_ok, callT_ok, tupB_ok, tupI_ok, tupS_ok, tupL_ok, tupF_ok, atNil_ok, wrap1, wrapM, wrapP, Int.toNat_natCast, svs_len, ivs_len, bvs_len, str_size, svs_mid, ivs_mid, str_dec, str_ext, str_byte, mid_byte, mid_cut, List.length_nil, List.length_singleton, svs_snoc, ivs_snoc, svs_take, svs_drop, str_app, List.take_length, List.drop_zero, List.nil_append, cond_true, cond_false, Option.bind_some, Bool.not_true, Bool.not_false, Bool.true_and, Bool.and_true, bys_len, prs_len, its_len, cells_pair, cells_time, cells_head, cells_item, fold_pair, fold_time, fold_head, fold_ihead, fold_item, prs_mid, its_mid, bys_mid, byte_c, callG_pair, callG_time, callG_head, callG_item, tupG_pair, tupG_time, tupG_head, tupG_item, h_0, i_0, h_1, i_1, h_2, i_2, h_3, i_3, h_4, i_4, h_5, i_5, h_6, i_6, h_7, i_7, h_8, i_8, h_9, i_9, h_10, i_10, h_11, i_11, h_12, i_12, h_13, i_13, i_14, p_0, p_1, t_0, t_1, hf]
  exact e

/-! The reference's. -/
theorem has_loop (kap : FuncId → List AV → Option AV) (y : Int) : ∀ (suf pre : List Int) (k0 : Nat), suf.length < k0 → (pre ++ suf).length < 1000000 →
    ref40_has_L0 kap k k0 (ivs (pre ++ suf)) y ((pre.length : Nat) : Int) = some (.bool (suf.contains y))
  | [], pre, k0 + 1, h, hb => by
    rw [ref40_has_L0_s]
    simp (disch := first | omega | (simp only [List.length_append, List.length_cons, List.length_nil, List.length_take, List.length_drop]; done) | (simp only [List.length_append, List.length_cons, List.length_nil, List.length_take, List.length_drop]; omega) | fail) only [bif_t, bif_f, bif_n, bif_a, callB_ok, callI_ok, callS_ok, callL_ok, callF_ok, callT_ok, tupB_ok, tupI_ok, tupS_ok, tupL_ok, tupF_ok, atNil_ok, wrap1, wrapM, wrapP, Int.toNat_natCast, svs_len, ivs_len, bvs_len, str_size, svs_mid, ivs_mid, str_dec, str_ext, str_byte, mid_byte, mid_cut, List.length_nil, List.length_singleton, svs_snoc, ivs_snoc, svs_take, svs_drop, str_app, List.take_length, List.drop_zero, List.nil_append, cond_true, cond_false, Option.bind_some, Bool.not_true, Bool.not_false, Bool.true_and, Bool.and_true, bys_len, prs_len, its_len, cells_pair, cells_time, cells_head, cells_item, fold_pair, fold_time, fold_head, fold_ihead, fold_item, prs_mid, its_mid, bys_mid, byte_c, callG_pair, callG_time, callG_head, callG_item, tupG_pair, tupG_time, tupG_head, tupG_item, h_0, i_0, h_1, i_1, h_2, i_2, h_3, i_3, h_4, i_4, h_5, i_5, h_6, i_6, h_7, i_7, h_8, i_8, h_9, i_9, h_10, i_10, h_11, i_11, h_12, i_12, h_13, i_13, i_14, p_0, p_1, t_0, t_1, List.append_nil]
    rfl
  | x :: suf, pre, k0 + 1, h, hb => by
    have hm := mid_len pre suf x
    have ih := has_loop kap y suf (pre ++ [x]) k0 (by simpa using h) (by simpa using hb)
    rw [← mid_snoc, List.length_append, List.length_singleton] at ih
    rw [ref40_has_L0_s]
    simp (disch := first | omega | (simp only [List.length_append, List.length_cons, List.length_nil, List.length_take, List.length_drop]; done) | (simp only [List.length_append, List.length_cons, List.length_nil, List.length_take, List.length_drop]; omega) | fail) only [bif_t, bif_f, bif_n, bif_a, callB_ok, callI_ok, callS_ok, callL_ok, callF_ok, callT_ok, tupB_ok, tupI_ok, tupS_ok, tupL_ok, tupF_ok, atNil_ok, wrap1, wrapM, wrapP, Int.toNat_natCast, svs_len, ivs_len, bvs_len, str_size, svs_mid, ivs_mid, str_dec, str_ext, str_byte, mid_byte, mid_cut, List.length_nil, List.length_singleton, svs_snoc, ivs_snoc, svs_take, svs_drop, str_app, List.take_length, List.drop_zero, List.nil_append, cond_true, cond_false, Option.bind_some, Bool.not_true, Bool.not_false, Bool.true_and, Bool.and_true, bys_len, prs_len, its_len, cells_pair, cells_time, cells_head, cells_item, fold_pair, fold_time, fold_head, fold_ihead, fold_item, prs_mid, its_mid, bys_mid, byte_c, callG_pair, callG_time, callG_head, callG_item, tupG_pair, tupG_time, tupG_head, tupG_item, h_0, i_0, h_1, i_1, h_2, i_2, h_3, i_3, h_4, i_4, h_5, i_5, h_6, i_6, h_7, i_7, h_8, i_8, h_9, i_9, h_10, i_10, h_11, i_11, h_12, i_12, h_13, i_13, i_14, p_0, p_1, t_0, t_1, hm, ih]
    by_cases hx : x = y
    · simp [hx]
    · have hx' : ¬ y = x := fun e => hx e.symm
      simp [hx, hx']
theorem nats_contains (out : List Nat) (j : Nat) : (nats out).contains ((j : Nat) : Int) = out.contains j := by
  rw [Bool.eq_iff_iff, List.contains_iff_mem, List.contains_iff_mem]
  unfold nats
  rw [List.mem_map]
  constructor
  · rintro ⟨a, ha, e⟩
    have : a = j := by omega
    rwa [← this]
  · intro h; exact ⟨j, h, rfl⟩
theorem has_k (out : List Nat) (j : Nat) (hk : 100 < k) (hl : out.length ≤ 12) : kp E k (n + 1) ref40_has [.list 1 (ivs (nats out)), .int .i64 ((j : Nat) : Int)] = some (.bool (out.contains j)) := by
  rw [ref40_has_eq]
  have := has_loop (k := k) (kp E k n) ((j : Nat) : Int) (nats out) [] k (by rw [nats_len]; omega) (by simp [nats_len]; omega)
  simp only [List.nil_append, List.length_nil, nats_contains] at this
  exact this
section
variable (l : List Item) (hs : Short l) (hk : 10000 < k) (hl : l.length ≤ 12)
include hs hk hl in
theorem free_loop (out : List Nat) (ho : out.length ≤ 12) (i : Nat) : ∀ (m j k0 : Nat), j + m = l.length → m < k0 →
    ref40_free_L0 (kp E k (n + 4)) k k0 (its l) (ivs (nats out)) ((i : Nat) : Int) ((j : Nat) : Int) = some (.bool ((List.range' j m).all (fun q => out.contains q || !rel l i q) && !out.contains i))
  | 0, j, k0 + 1, hj, hk0 => by
    have h1 := has_k (E := E) (k := k) (n := n + 3) out i (by omega) ho
    rw [ref40_free_L0_s]
    simp (disch := first | omega | (simp only [List.length_append, List.length_cons, List.length_nil, List.length_take, List.length_drop]; done) | (simp only [List.length_append, List.length_cons, List.length_nil, List.length_take, List.length_drop]; omega) | fail) only [bif_t, bif_f, bif_n, bif_a, callB_ok, callI_ok, callS_ok, callL_ok, callF_ok, callT_ok, tupB_ok, tupI_ok, tupS_ok, tupL_ok, tupF_ok, atNil_ok, wrap1, wrapM, wrapP, Int.toNat_natCast, svs_len, ivs_len, bvs_len, str_size, svs_mid, ivs_mid, str_dec, str_ext, str_byte, mid_byte, mid_cut, List.length_nil, List.length_singleton, svs_snoc, ivs_snoc, svs_take, svs_drop, str_app, List.take_length, List.drop_zero, List.nil_append, cond_true, cond_false, Option.bind_some, Bool.not_true, Bool.not_false, Bool.true_and, Bool.and_true, bys_len, prs_len, its_len, cells_pair, cells_time, cells_head, cells_item, fold_pair, fold_time, fold_head, fold_ihead, fold_item, prs_mid, its_mid, bys_mid, byte_c, callG_pair, callG_time, callG_head, callG_item, tupG_pair, tupG_time, tupG_head, tupG_item, h_0, i_0, h_1, i_1, h_2, i_2, h_3, i_3, h_4, i_4, h_5, i_5, h_6, i_6, h_7, i_7, h_8, i_8, h_9, i_9, h_10, i_10, h_11, i_11, h_12, i_12, h_13, i_13, i_14, p_0, p_1, t_0, t_1, h1]
    rfl
  | m + 1, j, k0 + 1, hj, hk0 => by
    have h1 := has_k (E := E) (k := k) (n := n + 3) out j (by omega) ho
    have h2 := refLeans_k (E := E) (k := k) (n := n) l ((i : Nat) : Int) ((j : Nat) : Int) hs hk (by omega)
    have ih := free_loop out ho i m (j + 1) k0 (by omega) (by omega)
    rw [ref40_free_L0_s]
    simp (disch := first | omega | (simp only [List.length_append, List.length_cons, List.length_nil, List.length_take, List.length_drop]; done) | (simp only [List.length_append, List.length_cons, List.length_nil, List.length_take, List.length_drop]; omega) | fail) only [bif_t, bif_f, bif_n, bif_a, callB_ok, callI_ok, callS_ok, callL_ok, callF_ok, callT_ok, tupB_ok, tupI_ok, tupS_ok, tupL_ok, tupF_ok, atNil_ok, wrap1, wrapM, wrapP, Int.toNat_natCast, svs_len, ivs_len, bvs_len, str_size, svs_mid, ivs_mid, str_dec, str_ext, str_byte, mid_byte, mid_cut, List.length_nil, List.length_singleton, svs_snoc, ivs_snoc, svs_take, svs_drop, str_app, List.take_length, List.drop_zero, List.nil_append, cond_true, cond_false, Option.bind_some, Bool.not_true, Bool.not_false, Bool.true_and, Bool.and_true, bys_len, prs_len, its_len, cells_pair, cells_time, cells_head, cells_item, fold_pair, fold_time, fold_head, fold_ihead, fold_item, prs_mid, its_mid, bys_mid, byte_c, callG_pair, callG_time, callG_head, callG_item, tupG_pair, tupG_time, tupG_head, tupG_item, h_0, i_0, h_1, i_1, h_2, i_2, h_3, i_3, h_4, i_4, h_5, i_5, h_6, i_6, h_7, i_7, h_8, i_8, h_9, i_9, h_10, i_10, h_11, i_11, h_12, i_12, h_13, i_13, i_14, p_0, p_1, t_0, t_1, h1, h2, ih]
    have hr : rel l i j = leanAt l ((i : Nat) : Int) ((j : Nat) : Int) := rfl
    rw [List.range'_succ, List.all_cons, hr]
    cases out.contains j with
    | true => simp
    | false => cases leanAt l ((i : Nat) : Int) ((j : Nat) : Int) <;> simp
include hs hk hl in
theorem free_k (out : List Nat) (ho : out.length ≤ 12) (i : Nat) : kp E k (n + 5) ref40_free [.list 15 (its l), .list 1 (ivs (nats out)), .int .i64 ((i : Nat) : Int)] = some (.bool (P40.free l.length (rel l) out.contains i)) := by
  rw [ref40_free_eq]
  have := free_loop (E := E) (k := k) (n := n) l hs hk hl out ho i l.length 0 k (by omega) (by omega)
  rw [← List.range_eq_range'] at this
  exact this
include hs hk hl in
theorem hasFree_loop (out : List Nat) (ho : out.length ≤ 12) : ∀ (m j k0 : Nat), j + m = l.length → m < k0 →
    ref40_hasFree_L0 (kp E k (n + 5)) k k0 (its l) (ivs (nats out)) ((j : Nat) : Int) = some (.bool ((List.range' j m).any (P40.free l.length (rel l) out.contains)))
  | 0, j, k0 + 1, hj, hk0 => by
    rw [ref40_hasFree_L0_s]
    simp (disch := first | omega | (simp only [List.length_append, List.length_cons, List.length_nil, List.length_take, List.length_drop]; done) | (simp only [List.length_append, List.length_cons, List.length_nil, List.length_take, List.length_drop]; omega) | fail) only [bif_t, bif_f, bif_n, bif_a, callB_ok, callI_ok, callS_ok, callL_ok, callF_ok, callT_ok, tupB_ok, tupI_ok, tupS_ok, tupL_ok, tupF_ok, atNil_ok, wrap1, wrapM, wrapP, Int.toNat_natCast, svs_len, ivs_len, bvs_len, str_size, svs_mid, ivs_mid, str_dec, str_ext, str_byte, mid_byte, mid_cut, List.length_nil, List.length_singleton, svs_snoc, ivs_snoc, svs_take, svs_drop, str_app, List.take_length, List.drop_zero, List.nil_append, cond_true, cond_false, Option.bind_some, Bool.not_true, Bool.not_false, Bool.true_and, Bool.and_true, bys_len, prs_len, its_len, cells_pair, cells_time, cells_head, cells_item, fold_pair, fold_time, fold_head, fold_ihead, fold_item, prs_mid, its_mid, bys_mid, byte_c, callG_pair, callG_time, callG_head, callG_item, tupG_pair, tupG_time, tupG_head, tupG_item, h_0, i_0, h_1, i_1, h_2, i_2, h_3, i_3, h_4, i_4, h_5, i_5, h_6, i_6, h_7, i_7, h_8, i_8, h_9, i_9, h_10, i_10, h_11, i_11, h_12, i_12, h_13, i_13, i_14, p_0, p_1, t_0, t_1]
    rfl
  | m + 1, j, k0 + 1, hj, hk0 => by
    have h1 := free_k (E := E) (k := k) (n := n) l hs hk hl out ho j
    have ih := hasFree_loop out ho m (j + 1) k0 (by omega) (by omega)
    rw [ref40_hasFree_L0_s]
    simp (disch := first | omega | (simp only [List.length_append, List.length_cons, List.length_nil, List.length_take, List.length_drop]; done) | (simp only [List.length_append, List.length_cons, List.length_nil, List.length_take, List.length_drop]; omega) | fail) only [bif_t, bif_f, bif_n, bif_a, callB_ok, callI_ok, callS_ok, callL_ok, callF_ok, callT_ok, tupB_ok, tupI_ok, tupS_ok, tupL_ok, tupF_ok, atNil_ok, wrap1, wrapM, wrapP, Int.toNat_natCast, svs_len, ivs_len, bvs_len, str_size, svs_mid, ivs_mid, str_dec, str_ext, str_byte, mid_byte, mid_cut, List.length_nil, List.length_singleton, svs_snoc, ivs_snoc, svs_take, svs_drop, str_app, List.take_length, List.drop_zero, List.nil_append, cond_true, cond_false, Option.bind_some, Bool.not_true, Bool.not_false, Bool.true_and, Bool.and_true, bys_len, prs_len, its_len, cells_pair, cells_time, cells_head, cells_item, fold_pair, fold_time, fold_head, fold_ihead, fold_item, prs_mid, its_mid, bys_mid, byte_c, callG_pair, callG_time, callG_head, callG_item, tupG_pair, tupG_time, tupG_head, tupG_item, h_0, i_0, h_1, i_1, h_2, i_2, h_3, i_3, h_4, i_4, h_5, i_5, h_6, i_6, h_7, i_7, h_8, i_8, h_9, i_9, h_10, i_10, h_11, i_11, h_12, i_12, h_13, i_13, i_14, p_0, p_1, t_0, t_1, h1, ih]
    rw [List.range'_succ, List.any_cons]
    cases P40.free l.length (rel l) out.contains j <;> simp
include hs hk hl in
theorem hasFree_k (out : List Nat) (ho : out.length ≤ 12) : kp E k (n + 6) ref40_hasFree [.list 15 (its l), .list 1 (ivs (nats out))] = some (.bool ((List.range l.length).any (P40.free l.length (rel l) out.contains))) := by
  rw [ref40_hasFree_eq]
  have := hasFree_loop (E := E) (k := k) (n := n) l hs hk hl out ho l.length 0 k (by omega) (by omega)
  rw [← List.range_eq_range'] at this
  exact this
def accI : Option Nat → Int
  | some c => (c : Int)
  | none => -1
include hs hk hl in
theorem refSorted1 (k0 : Nat) (out : List Nat) (ho : out.length ≤ 12) : ∀ (i k1 : Nat) (acc : Option Nat), i ≤ 12 → i < k1 →
    ref40_Sorted_L1 (kp E k (n + 6)) k k0 k1 (its l) (accI acc) (((i : Nat) : Int) - 1) (ivs (nats out)) = ref40_Sorted_L2 (kp E k (n + 6)) k k0 k (its l) (accI (down (P40.free l.length (rel l) out.contains) i acc)) (((l.length : Nat) : Int) - 1) (ivs (nats out))
  | 0, k1 + 1, acc, hi, hk1 => by
    rw [ref40_Sorted_L1_s]
    simp (disch := first | omega | (simp only [List.length_append, List.length_cons, List.length_nil, List.length_take, List.length_drop]; done) | (simp only [List.length_append, List.length_cons, List.length_nil, List.length_take, List.length_drop]; omega) | fail) only [bif_t, bif_f, bif_n, bif_a, callB_ok, callI_ok, callS_ok, callL_ok, callF_ok, callT_ok, tupB_ok, tupI_ok, tupS_ok, tupL_ok, tupF_ok, atNil_ok, wrap1, wrapM, wrapP, Int.toNat_natCast, svs_len, ivs_len, bvs_len, str_size, svs_mid, ivs_mid, str_dec, str_ext, str_byte, mid_byte, mid_cut, List.length_nil, List.length_singleton, svs_snoc, ivs_snoc, svs_take, svs_drop, str_app, List.take_length, List.drop_zero, List.nil_append, cond_true, cond_false, Option.bind_some, Bool.not_true, Bool.not_false, Bool.true_and, Bool.and_true, bys_len, prs_len, its_len, cells_pair, cells_time, cells_head, cells_item, fold_pair, fold_time, fold_head, fold_ihead, fold_item, prs_mid, its_mid, bys_mid, byte_c, callG_pair, callG_time, callG_head, callG_item, tupG_pair, tupG_time, tupG_head, tupG_item, h_0, i_0, h_1, i_1, h_2, i_2, h_3, i_3, h_4, i_4, h_5, i_5, h_6, i_6, h_7, i_7, h_8, i_8, h_9, i_9, h_10, i_10, h_11, i_11, h_12, i_12, h_13, i_13, i_14, p_0, p_1, t_0, t_1]
    rw [i64w (by omega)]
    rfl
  | i + 1, k1 + 1, acc, hi, hk1 => by
    have h1 := free_k (E := E) (k := k) (n := n + 1) l hs hk hl out ho i
    have ih := fun acc => refSorted1 k0 out ho i k1 acc (by omega) (by omega)
    have e : ((i + 1 : Nat) : Int) - 1 = ((i : Nat) : Int) := by omega
    have w : IntKind.wrap .i64 (((i : Nat) : Int) - 1) = ((i : Nat) : Int) - 1 := i64w (by omega)
    rw [e, ref40_Sorted_L1_s]
    rw [bif_t (show ((i : Nat) : Int) ≥ 0 by omega), h1, callB_ok, w, ih, down]
    cases P40.free l.length (rel l) out.contains i with
    | true => exact ih (some i)
    | false => rfl
include hs hk hl in
theorem refSorted2a (k0 k2 : Nat) (out : List Nat) (ho : out.length ≤ 12) (c : Nat) (s6 : Int) (h : (List.range l.length).any (P40.free l.length (rel l) out.contains) = true) :
    ref40_Sorted_L2 (kp E k (n + 6)) k k0 (k2 + 1) (its l) ((c : Nat) : Int) s6 (ivs (nats out)) = ref40_Sorted_L0 (kp E k (n + 6)) k k0 (its l) (ivs (nats (out ++ [c]))) := by
  have h1 := hasFree_k (E := E) (k := k) (n := n) l hs hk hl out ho
  rw [h] at h1
  rw [ref40_Sorted_L2_s]
  simp (disch := first | omega | (simp only [List.length_append, List.length_cons, List.length_nil, List.length_take, List.length_drop]; done) | (simp only [List.length_append, List.length_cons, List.length_nil, List.length_take, List.length_drop]; omega) | fail) only [bif_t, bif_f, bif_n, bif_a, callB_ok, callI_ok, callS_ok, callL_ok, callF_ok, callT_ok, tupB_ok, tupI_ok, tupS_ok, tupL_ok, tupF_ok, atNil_ok, wrap1, wrapM, wrapP, Int.toNat_natCast, svs_len, ivs_len, bvs_len, str_size, svs_mid, ivs_mid, str_dec, str_ext, str_byte, mid_byte, mid_cut, List.length_nil, List.length_singleton, svs_snoc, ivs_snoc, svs_take, svs_drop, str_app, List.take_length, List.drop_zero, List.nil_append, cond_true, cond_false, Option.bind_some, Bool.not_true, Bool.not_false, Bool.true_and, Bool.and_true, bys_len, prs_len, its_len, cells_pair, cells_time, cells_head, cells_item, fold_pair, fold_time, fold_head, fold_ihead, fold_item, prs_mid, its_mid, bys_mid, byte_c, callG_pair, callG_time, callG_head, callG_item, tupG_pair, tupG_time, tupG_head, tupG_item, h_0, i_0, h_1, i_1, h_2, i_2, h_3, i_3, h_4, i_4, h_5, i_5, h_6, i_6, h_7, i_7, h_8, i_8, h_9, i_9, h_10, i_10, h_11, i_11, h_12, i_12, h_13, i_13, i_14, p_0, p_1, t_0, t_1, h1, nats_snoc, nats_len]
  rw [Bool.cond_self]
include hs hk hl in
theorem refSorted2b (k0 : Nat) (out : List Nat) (ho : out.length ≤ 12) (h : (List.range l.length).any (P40.free l.length (rel l) out.contains) = false) : ∀ (i k2 : Nat) (acc : Option Nat), i ≤ 12 → i < k2 → ∀ c, down (fun j => !out.contains j) i acc = some c →
    ref40_Sorted_L2 (kp E k (n + 6)) k k0 k2 (its l) (accI acc) (((i : Nat) : Int) - 1) (ivs (nats out)) = ref40_Sorted_L0 (kp E k (n + 6)) k k0 (its l) (ivs (nats (out ++ [c])))
  | 0, k2 + 1, acc, hi, hk2, c, hc => by
    have hc : acc = some c := hc
    subst hc
    rw [ref40_Sorted_L2_s]
    simp (disch := first | omega | (simp only [List.length_append, List.length_cons, List.length_nil, List.length_take, List.length_drop]; done) | (simp only [List.length_append, List.length_cons, List.length_nil, List.length_take, List.length_drop]; omega) | fail) only [bif_t, bif_f, bif_n, bif_a, callB_ok, callI_ok, callS_ok, callL_ok, callF_ok, callT_ok, tupB_ok, tupI_ok, tupS_ok, tupL_ok, tupF_ok, atNil_ok, wrap1, wrapM, wrapP, Int.toNat_natCast, svs_len, ivs_len, bvs_len, str_size, svs_mid, ivs_mid, str_dec, str_ext, str_byte, mid_byte, mid_cut, List.length_nil, List.length_singleton, svs_snoc, ivs_snoc, svs_take, svs_drop, str_app, List.take_length, List.drop_zero, List.nil_append, cond_true, cond_false, Option.bind_some, Bool.not_true, Bool.not_false, Bool.true_and, Bool.and_true, bys_len, prs_len, its_len, cells_pair, cells_time, cells_head, cells_item, fold_pair, fold_time, fold_head, fold_ihead, fold_item, prs_mid, its_mid, bys_mid, byte_c, callG_pair, callG_time, callG_head, callG_item, tupG_pair, tupG_time, tupG_head, tupG_item, h_0, i_0, h_1, i_1, h_2, i_2, h_3, i_3, h_4, i_4, h_5, i_5, h_6, i_6, h_7, i_7, h_8, i_8, h_9, i_9, h_10, i_10, h_11, i_11, h_12, i_12, h_13, i_13, i_14, p_0, p_1, t_0, t_1, accI, nats_snoc, nats_len]
  | i + 1, k2 + 1, acc, hi, hk2, c, hc => by
    have h1 := hasFree_k (E := E) (k := k) (n := n) l hs hk hl out ho
    have h2 := has_k (E := E) (k := k) (n := n + 5) out i (by omega) ho
    rw [h] at h1
    rw [down] at hc
    have e : ((i + 1 : Nat) : Int) - 1 = ((i : Nat) : Int) := by omega
    have w : IntKind.wrap .i64 (((i : Nat) : Int) - 1) = ((i : Nat) : Int) - 1 := i64w (by omega)
    rw [e, ref40_Sorted_L2_s]
    rw [bif_t (show ((i : Nat) : Int) ≥ 0 by omega), h1, callB_ok, h2, callB_ok, w, Bool.not_false, cond_true]
    cases hoc : out.contains i with
    | true =>
      rw [hoc] at hc
      exact refSorted2b k0 out ho h i k2 acc (by omega) (by omega) c hc
    | false =>
      rw [hoc] at hc
      exact refSorted2b k0 out ho h i k2 (some i) (by omega) (by omega) c hc
include hs hk hl in
theorem refSorted0 : ∀ (m k0 : Nat) (out : List Nat), out.length + m = l.length → m < k0 →
    ref40_Sorted_L0 (kp E k (n + 6)) k k0 (its l) (ivs (nats out)) = some (.list 1 (ivs (nats (sortGo l.length (rel l) m out))))
  | 0, k0 + 1, out, ho, hk0 => by
    rw [ref40_Sorted_L0_s]
    simp (disch := first | omega | (simp only [List.length_append, List.length_cons, List.length_nil, List.length_take, List.length_drop]; done) | (simp only [List.length_append, List.length_cons, List.length_nil, List.length_take, List.length_drop]; omega) | fail) only [bif_t, bif_f, bif_n, bif_a, callB_ok, callI_ok, callS_ok, callL_ok, callF_ok, callT_ok, tupB_ok, tupI_ok, tupS_ok, tupL_ok, tupF_ok, atNil_ok, wrap1, wrapM, wrapP, Int.toNat_natCast, svs_len, ivs_len, bvs_len, str_size, svs_mid, ivs_mid, str_dec, str_ext, str_byte, mid_byte, mid_cut, List.length_nil, List.length_singleton, svs_snoc, ivs_snoc, svs_take, svs_drop, str_app, List.take_length, List.drop_zero, List.nil_append, cond_true, cond_false, Option.bind_some, Bool.not_true, Bool.not_false, Bool.true_and, Bool.and_true, bys_len, prs_len, its_len, cells_pair, cells_time, cells_head, cells_item, fold_pair, fold_time, fold_head, fold_ihead, fold_item, prs_mid, its_mid, bys_mid, byte_c, callG_pair, callG_time, callG_head, callG_item, tupG_pair, tupG_time, tupG_head, tupG_item, h_0, i_0, h_1, i_1, h_2, i_2, h_3, i_3, h_4, i_4, h_5, i_5, h_6, i_6, h_7, i_7, h_8, i_8, h_9, i_9, h_10, i_10, h_11, i_11, h_12, i_12, h_13, i_13, i_14, p_0, p_1, t_0, t_1, nats_len]
    rfl
  | m + 1, k0 + 1, out, ho, hk0 => by
    have ih := refSorted0 m k0 (out ++ [pick l.length (rel l) out.contains]) (by simp; omega) (by omega)
    have w : IntKind.wrap .i64 (((l.length : Nat) : Int) - 1) = ((l.length : Nat) : Int) - 1 := i64w (by omega)
    have e1 := refSorted1 (E := E) (k := k) (n := n) l hs hk hl k0 out (by omega) l.length k none hl (by omega)
    rw [ref40_Sorted_L0_s, its_len, ivs_len, nats_len, bif_t (by omega), w]
    refine e1.trans ?_
    rw [down_eq, Option.or_none]
    rw [sortGo]
    refine Eq.trans ?_ ih
    unfold pick
    cases hf : (List.range l.length).find? (P40.free l.length (rel l) out.contains) with
    | some i =>
      obtain ⟨k', rfl⟩ : ∃ j, k = j + 1 := ⟨k - 1, by omega⟩
      have ha : (List.range l.length).any (P40.free l.length (rel l) out.contains) = true := List.any_eq_true.2 ⟨i, List.mem_of_find?_eq_some hf, (find_some hf).2.1⟩
      exact refSorted2a (E := E) (k := k' + 1) (n := n) l hs hk hl k0 k' out (by omega) i _ ha
    | none =>
      have ha : (List.range l.length).any (P40.free l.length (rel l) out.contains) = false := by
        rw [List.any_eq_false]
        intro i hi
        rw [find_none.1 hf i (by simpa using hi)]
        simp
      obtain ⟨i, hi, hc⟩ := any_left (out := out) (n := l.length) (by omega)
      cases hg : (List.range l.length).find? (fun i => !out.contains i) with
      | none =>
        have := find_none.1 hg i hi
        rw [hc] at this
        cases this
      | some j => exact refSorted2b (E := E) (k := k) (n := n) l hs hk hl k0 out (by omega) ha l.length k none hl (by omega) j (by rw [down_eq, hg]; rfl)
include hs hk hl in
theorem refSorted_k : kp E k (n + 7) ref40_Sorted [.list 15 (its l)] = some (.list 1 (ivs (nats (sorted l.length (rel l))))) := by
  rw [ref40_Sorted_eq]
  exact refSorted0 (E := E) (k := k) (n := n) l hs hk hl l.length k [] (by simp) (by omega)

/-! Is it in order? -/
def isOrd (l : List Item) : Bool := (List.range l.length).all fun a => (List.range' (a + 1) (l.length - a - 1)).all fun b => !rel l a b
include hs hk hl in
theorem is1 (k0 a : Nat) : ∀ (m j k1 : Nat), j + m = l.length → m < k1 →
    order_Is_L1 (kp E k (n + 7)) k k0 k1 (its l) ((a : Nat) : Int) ((j : Nat) : Int) ((l.length : Nat) : Int) ((a : Nat) : Int) = if (List.range' j m).all (fun b => !rel l a b) then order_Is_L0 (kp E k (n + 7)) k k0 (its l) ((l.length : Nat) : Int) (IntKind.wrap .i64 (((a : Nat) : Int) + 1)) else some (.bool false)
  | 0, j, k1 + 1, hj, hk1 => by
    rw [order_Is_L1_s, its_len, bif_f (by omega)]
    rfl
  | m + 1, j, k1 + 1, hj, hk1 => by
    have h1 := Leans_k (E := E) (k := k) (n := n) l ((a : Nat) : Int) ((j : Nat) : Int) hs hk (by omega)
    have ih := is1 k0 a m (j + 1) k1 (by omega) (by omega)
    have hr : rel l a j = leanAt l ((a : Nat) : Int) ((j : Nat) : Int) := rfl
    rw [order_Is_L1_s, its_len, bif_t (by omega), h1, callB_ok, wrap1 (by omega), ih, List.range'_succ, List.all_cons, hr]
    cases leanAt l ((a : Nat) : Int) ((j : Nat) : Int) with
    | true => rfl
    | false => simp only [cond_false, Bool.not_false, Bool.true_and]
include hs hk hl in
theorem is0 : ∀ (m a k0 : Nat), a + m = l.length → m < k0 →
    order_Is_L0 (kp E k (n + 7)) k k0 (its l) ((l.length : Nat) : Int) ((a : Nat) : Int) = some (.bool ((List.range' a m).all fun a => (List.range' (a + 1) (l.length - a - 1)).all fun b => !rel l a b))
  | 0, a, k0 + 1, ha, hk0 => by
    rw [order_Is_L0_s, bif_f (by omega)]
    rfl
  | m + 1, a, k0 + 1, ha, hk0 => by
    have e1 := is1 (E := E) (k := k) (n := n) l hs hk hl k0 a (l.length - a - 1) (a + 1) k (by omega) (by omega)
    have ih := is0 m (a + 1) k0 (by omega) (by omega)
    rw [order_Is_L0_s, bif_t (by omega), wrap1 (by omega), e1, wrap1 (by omega), ih, List.range'_succ, List.all_cons]
    cases (List.range' (a + 1) (l.length - a - 1)).all (fun b => !rel l a b) with
    | true => simp
    | false => simp
include hs hk hl in
theorem is_k : kp E k (n + 8) order_Is [.list 15 (its l)] = some (.bool (isOrd l)) := by
  rw [order_Is_eq]
  have := is0 (E := E) (k := k) (n := n) l hs hk hl l.length 0 k (by omega) (by omega)
  rw [← List.range_eq_range'] at this
  simp (disch := first | omega | (simp only [List.length_append, List.length_cons, List.length_nil, List.length_take, List.length_drop]; done) | (simp only [List.length_append, List.length_cons, List.length_nil, List.length_take, List.length_drop]; omega) | fail) only [bif_t, bif_f, bif_n, bif_a, callB_ok, callI_ok, callS_ok, callL_ok, callF_ok, callT_ok, tupB_ok, tupI_ok, tupS_ok, tupL_ok, tupF_ok, atNil_ok, wrap1, wrapM, wrapP, Int.toNat_natCast, svs_len, ivs_len, bvs_len, str_size, svs_mid, ivs_mid, str_dec, str_ext, str_byte, mid_byte, mid_cut, List.length_nil, List.length_singleton, svs_snoc, ivs_snoc, svs_take, svs_drop, str_app, List.take_length, List.drop_zero, List.nil_append, cond_true, cond_false, Option.bind_some, Bool.not_true, Bool.not_false, Bool.true_and, Bool.and_true, bys_len, prs_len, its_len, cells_pair, cells_time, cells_head, cells_item, fold_pair, fold_time, fold_head, fold_ihead, fold_item, prs_mid, its_mid, bys_mid, byte_c, callG_pair, callG_time, callG_head, callG_item, tupG_pair, tupG_time, tupG_head, tupG_item, h_0, i_0, h_1, i_1, h_2, i_2, h_3, i_3, h_4, i_4, h_5, i_5, h_6, i_6, h_7, i_7, h_8, i_8, h_9, i_9, h_10, i_10, h_11, i_11, h_12, i_12, h_13, i_13, i_14, p_0, p_1, t_0, t_1]
  exact this
/-- Items that aren't too large. -/
def Small (l : List Item) : Prop := ∀ x ∈ l, x.head.extra.length ≤ 1000000000 ∧ x.data.length ≤ 1000000000
def itemsAt (l : List Item) (s : List Nat) : List Item := s.filterMap fun i => l[i]?
theorem itemsAt_cons (l : List Item) {i : Nat} (hi : i < l.length) (s : List Nat) : itemsAt l (i :: s) = l[i] :: itemsAt l s := by
  unfold itemsAt
  rw [List.filterMap_cons, List.getElem?_eq_getElem hi]
include hk hl in
theorem items_loop (hsm : Small l) : ∀ (suf pre : List Nat) (out : List Item) (k0 : Nat), suf.length < k0 → (pre ++ suf).length ≤ 12 → out.length ≤ pre.length → (∀ i ∈ suf, i < l.length) →
    order_Items_L0 (kp E k (n + 8)) k k0 (its l) (ivs (nats (pre ++ suf))) (((pre ++ suf).length : Nat) : Int) ((pre.length : Nat) : Int) (its out) = some (.list 15 (its (out ++ itemsAt l suf)))
  | [], pre, out, k0 + 1, h, hb, ho, hi => by
    rw [order_Items_L0_s]
    simp (disch := first | omega | (simp only [List.length_append, List.length_cons, List.length_nil, List.length_take, List.length_drop]; done) | (simp only [List.length_append, List.length_cons, List.length_nil, List.length_take, List.length_drop]; omega) | fail) only [bif_t, bif_f, bif_n, bif_a, callB_ok, callI_ok, callS_ok, callL_ok, callF_ok, callT_ok, tupB_ok, tupI_ok, tupS_ok, tupL_ok, tupF_ok, atNil_ok, wrap1, wrapM, wrapP, Int.toNat_natCast, svs_len, ivs_len, bvs_len, str_size, svs_mid, ivs_mid, str_dec, str_ext, str_byte, mid_byte, mid_cut, List.length_nil, List.length_singleton, svs_snoc, ivs_snoc, svs_take, svs_drop, str_app, List.take_length, List.drop_zero, List.nil_append, cond_true, cond_false, Option.bind_some, Bool.not_true, Bool.not_false, Bool.true_and, Bool.and_true, bys_len, prs_len, its_len, cells_pair, cells_time, cells_head, cells_item, fold_pair, fold_time, fold_head, fold_ihead, fold_item, prs_mid, its_mid, bys_mid, byte_c, callG_pair, callG_time, callG_head, callG_item, tupG_pair, tupG_time, tupG_head, tupG_item, h_0, i_0, h_1, i_1, h_2, i_2, h_3, i_3, h_4, i_4, h_5, i_5, h_6, i_6, h_7, i_7, h_8, i_8, h_9, i_9, h_10, i_10, h_11, i_11, h_12, i_12, h_13, i_13, i_14, p_0, p_1, t_0, t_1, List.append_nil]
    simp [itemsAt]
  | i :: suf, pre, out, k0 + 1, h, hb, ho, hi => by
    have hm := mid_len pre suf i
    have hii := hi i (by simp)
    have hx := hsm _ (List.getElem_mem hii)
    have hc := copy_k (E := E) (k := k) (n := n + 7) l[i] hx.1 hx.2
    have hn : nats (pre ++ i :: suf) = nats pre ++ ((i : Nat) : Int) :: nats suf := by simp [nats]
    have hnl := nats_len pre
    have hg : ∀ (K : Int → Option AV), (((ivs (nats (pre ++ i :: suf)))[pre.length]?).bind fun y => cellI .i64 (AV.cells y) 0 K) = K ((i : Nat) : Int) := fun K => by
      rw [hn, ← hnl]; exact ivs_mid _ _ _ _
    have hit : ∀ (F : AV → Option AV), ((its l)[i]?).bind F = F (elItem l[i]) := fun F => its_at _ _ hii F
    have hsn : ∀ x : Item, its out ++ [elItem x] = its (out ++ [x]) := fun x => by simp [its]
    have ih := items_loop hsm suf (pre ++ [i]) (out ++ [l[i]]) k0 (by simpa using h) (by simpa using hb) (by simp; omega) (fun j hj => hi j (by simp [hj]))
    rw [← mid_snoc, show (pre ++ [i]).length = pre.length + 1 from by simp, hm] at ih
    rw [order_Items_L0_s]
    simp (disch := first | omega | (simp only [List.length_append, List.length_cons, List.length_nil, List.length_take, List.length_drop]; done) | (simp only [List.length_append, List.length_cons, List.length_nil, List.length_take, List.length_drop]; omega) | fail) only [bif_t, bif_f, bif_n, bif_a, callB_ok, callI_ok, callS_ok, callL_ok, callF_ok, callT_ok, tupB_ok, tupI_ok, tupS_ok, tupL_ok, tupF_ok, atNil_ok, wrap1, wrapM, wrapP, Int.toNat_natCast, svs_len, ivs_len, bvs_len, str_size, svs_mid, ivs_mid, str_dec, str_ext, str_byte, mid_byte, mid_cut, List.length_nil, List.length_singleton, svs_snoc, ivs_snoc, svs_take, svs_drop, str_app, List.take_length, List.drop_zero, List.nil_append, cond_true, cond_false, Option.bind_some, Bool.not_true, Bool.not_false, Bool.true_and, Bool.and_true, bys_len, prs_len, its_len, cells_pair, cells_time, cells_head, cells_item, fold_pair, fold_time, fold_head, fold_ihead, fold_item, prs_mid, its_mid, bys_mid, byte_c, callG_pair, callG_time, callG_head, callG_item, tupG_pair, tupG_time, tupG_head, tupG_item, h_0, i_0, h_1, i_1, h_2, i_2, h_3, i_3, h_4, i_4, h_5, i_5, h_6, i_6, h_7, i_7, h_8, i_8, h_9, i_9, h_10, i_10, h_11, i_11, h_12, i_12, h_13, i_13, i_14, p_0, p_1, t_0, t_1, hm, hg, hit, hc, hsn, nats_len, ih]
    rw [itemsAt_cons l hii]
    simp
include hs hk hl in
theorem items_k (hsm : Small l) : kp E k (n + 9) order_Items [.list 15 (its l)] = some (.list 15 (its (itemsAt l (sorted l.length (rel l))))) := by
  obtain ⟨hg, hlen⟩ := sorted_gone l.length (rel l)
  have e := items_loop (E := E) (k := k) (n := n) l hk hl hsm (sorted l.length (rel l)) [] [] k (by omega) (by simp; omega) (by simp) hg.lt
  have hS := Sorted_k (E := E) (k := k) (n := n) l hs hk hl
  rw [order_Items_eq, hS, callL_ok]
  simp only [List.nil_append, List.length_nil] at e
  simp (disch := first | omega | (simp only [List.length_append, List.length_cons, List.length_nil, List.length_take, List.length_drop]; done) | (simp only [List.length_append, List.length_cons, List.length_nil, List.length_take, List.length_drop]; omega) | fail) only [bif_t, bif_f, bif_n, bif_a, callB_ok, callI_ok, callS_ok, callL_ok, callF_ok, callT_ok, tupB_ok, tupI_ok, tupS_ok, tupL_ok, tupF_ok, atNil_ok, wrap1, wrapM, wrapP, Int.toNat_natCast, svs_len, ivs_len, bvs_len, str_size, svs_mid, ivs_mid, str_dec, str_ext, str_byte, mid_byte, mid_cut, List.length_nil, List.length_singleton, svs_snoc, ivs_snoc, svs_take, svs_drop, str_app, List.take_length, List.drop_zero, List.nil_append, cond_true, cond_false, Option.bind_some, Bool.not_true, Bool.not_false, Bool.true_and, Bool.and_true, bys_len, prs_len, its_len, cells_pair, cells_time, cells_head, cells_item, fold_pair, fold_time, fold_head, fold_ihead, fold_item, prs_mid, its_mid, bys_mid, byte_c, callG_pair, callG_time, callG_head, callG_item, tupG_pair, tupG_time, tupG_head, tupG_item, h_0, i_0, h_1, i_1, h_2, i_2, h_3, i_3, h_4, i_4, h_5, i_5, h_6, i_6, h_7, i_7, h_8, i_8, h_9, i_9, h_10, i_10, h_11, i_11, h_12, i_12, h_13, i_13, i_14, p_0, p_1, t_0, t_1, nats_len]
  exact e
end
end Go.Proofs.YtelniipccmeooaaDoor.Eng.U
