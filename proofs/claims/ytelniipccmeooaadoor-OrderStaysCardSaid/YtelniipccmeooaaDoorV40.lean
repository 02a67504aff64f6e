/- The Order laws in plain words: OrderSorts and OrderStays answer true. -/
import Derived.Test.YtelniipccmeooaaDoorU40c
import Derived.Test.YtelniipccmeooaaDoorU17
set_option linter.unusedVariables false
set_option linter.unusedSimpArgs false
set_option linter.unusedSectionVars false
namespace Go.Proofs.YtelniipccmeooaaDoor.Eng.U
open Go Go.Proofs Go.Proofs.YtelniipccmeooaaDoor.Eng Go.Proofs.YtelniipccmeooaaDoor.P24 Go.Proofs.YtelniipccmeooaaDoor.P40
variable {E : Ext} [Core E] [HasParts E] [HasJoin E] [HasClone E] {k n : Nat}

def fewL (l : List Item) : Bool := l.all (fun x => decide (x.head.name.length + x.head.link.length ≤ 300)) && !manyGo l.length 0 l
theorem few_loop (l : List Item) (hl : l.length < 1000000000000) (hlk : l.length < k) (hx : ∀ x ∈ l, x.head.extra.length < k ∧ x.head.extra.length < 1000000000000000) (hb : ∀ x ∈ l, BdI x) : ∀ (suf pre : List Item) (k0 : Nat), suf.length < k0 → l = pre ++ suf →
    law40_few_L0 (kp E k (n + 1)) k k0 (its l) ((pre.length : Nat) : Int) = some (.bool (suf.all (fun x => decide (x.head.name.length + x.head.link.length ≤ 300)) && !manyGo l.length 0 l))
  | [], pre, k0 + 1, hk, he => by
    rw [List.append_nil] at he
    have hm := many_k (E := E) (k := k) (n := n) l hl hlk hx
    rw [law40_few_L0_s]
    subst he
    simp (disch := first | omega | (simp only [List.length_append, List.length_cons, List.length_nil, List.length_take, List.length_drop]; done) | (simp only [List.length_append, List.length_cons, List.length_nil, List.length_take, List.length_drop]; omega) | fail) only [bif_t, bif_f, bif_n, bif_a, callB_ok, callI_ok, callS_ok, callL_ok, callF_ok, callT_ok, tupB_ok, tupI_ok, tupS_ok, tupL_ok, tupF_ok, atNil_ok, wrap1, wrapM, wrapP, Int.toNat_natCast, svs_len, ivs_len, bvs_len, str_size, svs_mid, ivs_mid, str_dec, str_ext, str_byte, mid_byte, mid_cut, List.length_nil, List.length_singleton, svs_snoc, ivs_snoc, svs_take, svs_drop, str_app, List.take_length, List.drop_zero, List.nil_append, cond_true, cond_false, Option.bind_some, Bool.not_true, Bool.not_false, Bool.true_and, Bool.and_true, bys_len, prs_len, its_len, cells_pair, cells_time, cells_head, cells_item, fold_pair, fold_time, fold_head, fold_ihead, fold_item, prs_mid, its_mid, bys_mid, byte_c, callG_pair, callG_time, callG_head, callG_item, tupG_pair, tupG_time, tupG_head, tupG_item, h_0, i_0, h_1, i_1, h_2, i_2, h_3, i_3, h_4, i_4, h_5, i_5, h_6, i_6, h_7, i_7, h_8, i_8, h_9, i_9, h_10, i_10, h_11, i_11, h_12, i_12, h_13, i_13, i_14, p_0, p_1, t_0, t_1, hm]
    rfl
  | x :: suf, pre, k0 + 1, hk, he => by
    have hm := mid_len pre suf x
    obtain ⟨b1, b2, _⟩ := hb x (by rw [he]; simp)
    have ih := few_loop l hl hlk hx hb suf (pre ++ [x]) k0 (by simpa using hk) (by rw [he]; simp)
    rw [List.length_append, List.length_singleton] at ih
    have hg : ∀ F : AV → Option AV, ((its l)[pre.length]?).bind F = F (elItem x) := fun F => by rw [he]; exact its_mid _ _ _ _
    have hll : l.length = pre.length + suf.length + 1 := by rw [he]; exact hm
    rw [law40_few_L0_s]
    simp (disch := first | omega | (simp only [List.length_append, List.length_cons, List.length_nil, List.length_take, List.length_drop]; done) | (simp only [List.length_append, List.length_cons, List.length_nil, List.length_take, List.length_drop]; omega) | fail) only [bif_t, bif_f, bif_n, bif_a, callB_ok, callI_ok, callS_ok, callL_ok, callF_ok, callT_ok, tupB_ok, tupI_ok, tupS_ok, tupL_ok, tupF_ok, atNil_ok, wrap1, wrapM, wrapP, Int.toNat_natCast, svs_len, ivs_len, bvs_len, str_size, svs_mid, ivs_mid, str_dec, str_ext, str_byte, mid_byte, mid_cut, List.length_nil, List.length_singleton, svs_snoc, ivs_snoc, svs_take, svs_drop, str_app, List.take_length, List.drop_zero, List.nil_append, cond_true, cond_false, Option.bind_some, Bool.not_true, Bool.not_false, Bool.true_and, Bool.and_true, bys_len, prs_len, its_len, cells_pair, cells_time, cells_head, cells_item, fold_pair, fold_time, fold_head, fold_ihead, fold_item, prs_mid, its_mid, bys_mid, byte_c, callG_pair, callG_time, callG_head, callG_item, tupG_pair, tupG_time, tupG_head, tupG_item, h_0, i_0, h_1, i_1, h_2, i_2, h_3, i_3, h_4, i_4, h_5, i_5, h_6, i_6, h_7, i_7, h_8, i_8, h_9, i_9, h_10, i_10, h_11, i_11, h_12, i_12, h_13, i_13, i_14, p_0, p_1, t_0, t_1, hg, hll]
    rw [ih, List.all_cons, ← hll]
    by_cases h : x.head.name.length + x.head.link.length ≤ 300
    · rw [bif_f (by omega), decide_eq_true h]; simp
    · rw [bif_t (by omega), decide_eq_false h]; simp
theorem few_k (l : List Item) (hl : l.length < 1000000000000) (hlk : l.length < k) (hx : ∀ x ∈ l, x.head.extra.length < k ∧ x.head.extra.length < 1000000000000000) (hb : ∀ x ∈ l, BdI x) : kp E k (n + 2) law40_few [.list 15 (its l)] = some (.bool (fewL l)) := by
  rw [law40_few_eq]
  exact few_loop l hl hlk hx hb l [] k hlk rfl
theorem few_is {l : List Item} (hb : ∀ x ∈ l, BdI x) (h : fewL l = true) : Short l ∧ l.length ≤ 12 ∧ (∀ x ∈ l, FewI x) ∧ Small l := by
  unfold fewL at h
  simp only [Bool.and_eq_true, Bool.not_eq_true'] at h
  obtain ⟨h1, h2⟩ := many_few l.length l 0 hb (by omega) (by omega) h.2
  refine ⟨fun x hx => by simpa using List.all_eq_true.1 h.1 x hx, h1, h2, fun x hx => ?_⟩
  obtain ⟨_, _, _, _, a, b⟩ := h2 x hx
  omega

/-- The rank that falls along every lean. -/
def rank (x : Head) : Nat := (if x.kind = 2 then 1000000 else 0) + (stk x.name).length
theorem lean_rank {x y : Head} (hy : y.name.length ≤ 300) (h : leanH x y = true) : rank y < rank x := by
  unfold leanH at h
  simp only [Bool.and_eq_true, Bool.or_eq_true, decide_eq_true_eq] at h
  have hs := (stk_sum y.name).2
  unfold rank
  rcases h.2 with ⟨h6, hin⟩ | ⟨⟨h1, h2⟩, _⟩
  · unfold inL at hin
    simp only [Bool.and_eq_true, decide_eq_true_eq] at hin
    rw [if_neg (by omega)]
    split <;> omega
  · rw [if_neg (by omega), if_pos h2]
    omega
theorem rel_at {l : List Item} {i j : Nat} (hi : i < l.length) (hj : j < l.length) (hij : i ≠ j) : rel l i j = leanH l[i].head l[j].head := by
  unfold rel leanAt
  rw [dif_pos ⟨by omega, by omega, by omega, by omega, by omega⟩]
  simp
theorem rel_self (l : List Item) (i : Nat) : rel l i i = false := by
  unfold rel leanAt
  rw [dif_neg]
  rintro ⟨_, _, _, _, h⟩
  exact h rfl
theorem rel_rank {l : List Item} (hs : Short l) : ∀ i j, i < l.length → j < l.length → rel l i j = true → (fun q => rank ((l[q]?.getD default).head)) j < (fun q => rank ((l[q]?.getD default).head)) i := by
  intro i j hi hj h
  by_cases hij : i = j
  · subst hij
    rw [rel_self] at h
    cases h
  · rw [rel_at hi hj hij] at h
    have := lean_rank (by have := short_at hs j hj; omega) h
    simpa [List.getElem?_eq_getElem hi, List.getElem?_eq_getElem hj] using this
theorem itemsAt_len (l : List Item) : ∀ (s : List Nat), (∀ i ∈ s, i < l.length) → (itemsAt l s).length = s.length
  | [], _ => rfl
  | i :: s, h => by
    rw [itemsAt_cons l (h i (by simp)), List.length_cons, itemsAt_len l s (fun j hj => h j (by simp [hj])), List.length_cons]
theorem itemsAt_get (l : List Item) : ∀ (s : List Nat) (h : ∀ i ∈ s, i < l.length) (j : Nat) (hj : j < s.length), (itemsAt l s)[j]? = l[s[j]]?
  | [], _, j, hj => by simp at hj
  | i :: s, h, j, hj => by
    rw [itemsAt_cons l (h i (by simp))]
    cases j with
    | zero => rw [List.getElem?_cons_zero, List.getElem_cons_zero, List.getElem?_eq_getElem (h i (by simp))]
    | succ j => simpa using itemsAt_get l s (fun j hj => h j (by simp [hj])) j (by simpa using hj)
theorem itemsAt_app (l : List Item) (a b : List Nat) : itemsAt l (a ++ b) = itemsAt l a ++ itemsAt l b := by simp [itemsAt]
theorem itemsAt_mem {l : List Item} {s : List Nat} {x : Item} (h : x ∈ itemsAt l s) : x ∈ l := by
  unfold itemsAt at h
  obtain ⟨i, _, hi⟩ := List.mem_filterMap.1 h
  exact List.mem_of_getElem? hi
/-- The items in order. -/
def ordered (l : List Item) : List Item := itemsAt l (sorted l.length (rel l))
theorem ordered_len (l : List Item) : (ordered l).length = l.length := by
  obtain ⟨hg, hlen⟩ := sorted_gone l.length (rel l)
  unfold ordered
  rw [itemsAt_len l _ hg.lt, hlen]
theorem ordered_ord {l : List Item} (hs : Short l) : isOrd (ordered l) = true := by
  obtain ⟨hg, hlen⟩ := sorted_gone l.length (rel l)
  unfold isOrd
  rw [ordered_len, List.all_eq_true]
  intro a ha
  rw [List.all_eq_true]
  intro b hb
  have ha : a < l.length := by simpa using ha
  rw [List.mem_range'_1] at hb
  have hf := sorted_fine (R := rel l) (n := l.length) _ (rel_rank hs) (a := a) (b := b) (by omega) (by omega)
  generalize hS : sorted l.length (rel l) = s at *
  have ha' : a < s.length := by omega
  have hb' : b < s.length := by omega
  rw [List.getD_eq_getElem?_getD, List.getD_eq_getElem?_getD, List.getElem?_eq_getElem ha', List.getElem?_eq_getElem hb', Option.getD_some, Option.getD_some] at hf
  have la := hg.lt _ (List.getElem_mem ha')
  have lb := hg.lt _ (List.getElem_mem hb')
  have hne : s[a] ≠ s[b] := by
    intro e
    have := (List.getElem?_inj (i := a) (j := b) ha' hg.nd).1 (by rw [List.getElem?_eq_getElem ha', List.getElem?_eq_getElem hb', e])
    omega
  rw [rel_at la lb hne] at hf
  have hla : a < (ordered l).length := by rw [ordered_len]; omega
  have hlb : b < (ordered l).length := by rw [ordered_len]; omega
  rw [rel_at hla hlb (by omega)]
  have ga : (ordered l)[a] = l[s[a]] := by
    have := itemsAt_get l s hg.lt a ha'
    unfold ordered at hla ⊢
    simp only [hS] at hla ⊢
    rw [List.getElem?_eq_getElem hla, List.getElem?_eq_getElem la] at this
    exact Option.some.inj this
  have gb : (ordered l)[b] = l[s[b]] := by
    have := itemsAt_get l s hg.lt b hb'
    unfold ordered at hlb ⊢
    simp only [hS] at hlb ⊢
    rw [List.getElem?_eq_getElem hlb, List.getElem?_eq_getElem lb] at this
    exact Option.some.inj this
  rw [ga, gb, hf]
  rfl
theorem itemsAt_range (l : List Item) : itemsAt l (List.range l.length) = l := by
  apply List.ext_getElem?
  intro j
  by_cases hj : j < l.length
  · rw [itemsAt_get l _ (by simp) j (by simpa using hj)]
    simp
  · rw [List.getElem?_eq_none (by rw [itemsAt_len l _ (by simp)]; simp; omega), List.getElem?_eq_none (by omega)]
theorem ordered_id {l : List Item} (h : isOrd l = true) : ordered l = l := by
  unfold ordered
  rw [sorted_id (rel_self l) (fun i j hij hj => ?_)]
  · exact itemsAt_range l
  · unfold isOrd at h
    rw [List.all_eq_true] at h
    have := h i (by simp; omega)
    rw [List.all_eq_true] at this
    have := this j (by rw [List.mem_range'_1]; omega)
    simpa using this
theorem ordered_short {l : List Item} (hs : Short l) : Short (ordered l) := fun x hx => hs x (itemsAt_mem hx)
theorem ordered_small {l : List Item} (hs : Small l) : Small (ordered l) := fun x hx => hs x (itemsAt_mem hx)

/-! The chapter's example. -/
def h0 (kind : Int) (name : Tx) : Head := ⟨kind, name, [], 0, 0, 0, 0, 0, 0, [], [], 0, 0, []⟩
def aliveL : List Item := [⟨h0 1 [97, 47, 98], []⟩, ⟨h0 6 [97], []⟩]
theorem aliveL_its : its aliveL = [(.agg [(.int .i64 (1 : Int)), (.str (str [97, 47, 98])), (.str (str [])), (.int .i64 (0 : Int)), (.int .i64 (0 : Int)), (.int .i64 (0 : Int)), (.int .i64 (0 : Int)), (.int .i64 (0 : Int)), (.int .i64 (0 : Int)), (.str (str [])), (.str (str [])), (.int .i64 (0 : Int)), (.int .i64 (0 : Int)), (.list 2 []), (.list 1 [])]), (.agg [(.int .i64 (6 : Int)), (.str (str [97])), (.str (str [])), (.int .i64 (0 : Int)), (.int .i64 (0 : Int)), (.int .i64 (0 : Int)), (.int .i64 (0 : Int)), (.int .i64 (0 : Int)), (.int .i64 (0 : Int)), (.str (str [])), (.str (str [])), (.int .i64 (0 : Int)), (.int .i64 (0 : Int)), (.list 2 []), (.list 1 [])])] := rfl
theorem alive40_k (hk : 10000 < k) : kp E k (n + 9) law40_alive [] = some (.bool true) := by
  have hs : Short aliveL := by
    intro x hx
    rcases List.mem_cons.1 hx with rfl | hx
    · decide
    · rw [List.mem_singleton.1 hx]; decide
  have e1 := Sorted_k (E := E) (k := k) (n := n) aliveL hs hk (by decide)
  have e2 := is_k (E := E) (k := k) (n := n) aliveL hs hk (by decide)
  have e3 := sameInts_k (E := E) (k := k) (n := n + 7) [1, 0] [1, 0] (by decide) (by simp; omega)
  rw [show nats (sorted aliveL.length (rel aliveL)) = [1, 0] from by decide +kernel] at e1
  rw [show isOrd aliveL = false from by decide +kernel] at e2
  rw [law40_alive_eq, ← aliveL_its, e1, callL_ok, show ([(.int .i64 (1 : Int)), (.int .i64 (0 : Int))] : List AV) = ivs [1, 0] from rfl, e3, callB_ok, e2, callB_ok]
  rfl

section
variable (l : List Item) (hs : Short l) (hk : 10000 < k) (hl : l.length ≤ 12)
include hs hk hl in
theorem sorts1 (i j : Int) (s7 s8 : List AV) (k0 a : Nat) (ha : a < l.length) : ∀ (m b k1 : Nat) (w : Bool), b + m = l.length → m < k1 →
    law40_OrderSorts_L1 (kp E k (n + 9)) k k0 k1 (its l) i j s7 s8 w ((a : Nat) : Int) ((b : Nat) : Int) = law40_OrderSorts_L0 (kp E k (n + 9)) k k0 (its l) i j s7 s8 (w && (List.range' b m).all (fun b => !rel l a b)) ((a + 1 : Nat) : Int)
  | 0, b, k1 + 1, w, hb, hk1 => by
    rw [law40_OrderSorts_L1_s]
    simp (disch := first | omega | (simp only [List.length_append, List.length_cons, List.length_nil, List.length_take, List.length_drop]; done) | (simp only [List.length_append, List.length_cons, List.length_nil, List.length_take, List.length_drop]; omega) | fail) only [bif_t, bif_f, bif_n, bif_a, callB_ok, callI_ok, callS_ok, callL_ok, callF_ok, callT_ok, tupB_ok, tupI_ok, tupS_ok, tupL_ok, tupF_ok, atNil_ok, wrap1, wrapM, wrapP, Int.toNat_natCast, svs_len, ivs_len, bvs_len, str_size, svs_mid, ivs_mid, str_dec, str_ext, str_byte, mid_byte, mid_cut, List.length_nil, List.length_singleton, svs_snoc, ivs_snoc, svs_take, svs_drop, str_app, List.take_length, List.drop_zero, List.nil_append, cond_true, cond_false, Option.bind_some, Bool.not_true, Bool.not_false, Bool.true_and, Bool.and_true, bys_len, prs_len, its_len, cells_pair, cells_time, cells_head, cells_item, fold_pair, fold_time, fold_head, fold_ihead, fold_item, prs_mid, its_mid, bys_mid, byte_c, callG_pair, callG_time, callG_head, callG_item, tupG_pair, tupG_time, tupG_head, tupG_item, h_0, i_0, h_1, i_1, h_2, i_2, h_3, i_3, h_4, i_4, h_5, i_5, h_6, i_6, h_7, i_7, h_8, i_8, h_9, i_9, h_10, i_10, h_11, i_11, h_12, i_12, h_13, i_13, i_14, p_0, p_1, t_0, t_1]
    rw [show (List.range' b 0).all (fun b => !rel l a b) = true from rfl, Bool.and_true]
  | m + 1, b, k1 + 1, w, hb, hk1 => by
    have h1 := refLeans_k (E := E) (k := k) (n := n + 5) l ((a : Nat) : Int) ((b : Nat) : Int) hs hk (by omega)
    have ih := fun w => sorts1 i j s7 s8 k0 a ha m (b + 1) k1 w (by omega) (by omega)
    have hr : rel l a b = leanAt l ((a : Nat) : Int) ((b : Nat) : Int) := rfl
    rw [law40_OrderSorts_L1_s]
    simp (disch := first | omega | (simp only [List.length_append, List.length_cons, List.length_nil, List.length_take, List.length_drop]; done) | (simp only [List.length_append, List.length_cons, List.length_nil, List.length_take, List.length_drop]; omega) | fail) only [bif_t, bif_f, bif_n, bif_a, callB_ok, callI_ok, callS_ok, callL_ok, callF_ok, callT_ok, tupB_ok, tupI_ok, tupS_ok, tupL_ok, tupF_ok, atNil_ok, wrap1, wrapM, wrapP, Int.toNat_natCast, svs_len, ivs_len, bvs_len, str_size, svs_mid, ivs_mid, str_dec, str_ext, str_byte, mid_byte, mid_cut, List.length_nil, List.length_singleton, svs_snoc, ivs_snoc, svs_take, svs_drop, str_app, List.take_length, List.drop_zero, List.nil_append, cond_true, cond_false, Option.bind_some, Bool.not_true, Bool.not_false, Bool.true_and, Bool.and_true, bys_len, prs_len, its_len, cells_pair, cells_time, cells_head, cells_item, fold_pair, fold_time, fold_head, fold_ihead, fold_item, prs_mid, its_mid, bys_mid, byte_c, callG_pair, callG_time, callG_head, callG_item, tupG_pair, tupG_time, tupG_head, tupG_item, h_0, i_0, h_1, i_1, h_2, i_2, h_3, i_3, h_4, i_4, h_5, i_5, h_6, i_6, h_7, i_7, h_8, i_8, h_9, i_9, h_10, i_10, h_11, i_11, h_12, i_12, h_13, i_13, i_14, p_0, p_1, t_0, t_1, h1, ih]
    rw [List.range'_succ, List.all_cons, hr]
    cases w with
    | true => simp only [cond_true, Bool.true_and]
    | false => simp only [cond_false, Bool.false_and]
include hs hk hl in
theorem sorts0 (i j : Int) (s7 s8 : List AV) : ∀ (m a k0 : Nat) (w : Bool), a + m = l.length → m < k0 →
    law40_OrderSorts_L0 (kp E k (n + 9)) k k0 (its l) i j s7 s8 w ((a : Nat) : Int) =
      (callL 15 (kp E k (n + 9) order_Items [.list 15 (its l)]) fun x => law40_OrderSorts_L2 (kp E k (n + 9)) k k (its l) i j s7 s8 (w && (List.range' a m).all fun a => (List.range' (a + 1) (l.length - a - 1)).all fun b => !rel l a b) x 0)
  | 0, a, k0 + 1, w, ha, hk0 => by
    rw [law40_OrderSorts_L0_s]
    simp (disch := first | omega | (simp only [List.length_append, List.length_cons, List.length_nil, List.length_take, List.length_drop]; done) | (simp only [List.length_append, List.length_cons, List.length_nil, List.length_take, List.length_drop]; omega) | fail) only [bif_t, bif_f, bif_n, bif_a, callB_ok, callI_ok, callS_ok, callL_ok, callF_ok, callT_ok, tupB_ok, tupI_ok, tupS_ok, tupL_ok, tupF_ok, atNil_ok, wrap1, wrapM, wrapP, Int.toNat_natCast, svs_len, ivs_len, bvs_len, str_size, svs_mid, ivs_mid, str_dec, str_ext, str_byte, mid_byte, mid_cut, List.length_nil, List.length_singleton, svs_snoc, ivs_snoc, svs_take, svs_drop, str_app, List.take_length, List.drop_zero, List.nil_append, cond_true, cond_false, Option.bind_some, Bool.not_true, Bool.not_false, Bool.true_and, Bool.and_true, bys_len, prs_len, its_len, cells_pair, cells_time, cells_head, cells_item, fold_pair, fold_time, fold_head, fold_ihead, fold_item, prs_mid, its_mid, bys_mid, byte_c, callG_pair, callG_time, callG_head, callG_item, tupG_pair, tupG_time, tupG_head, tupG_item, h_0, i_0, h_1, i_1, h_2, i_2, h_3, i_3, h_4, i_4, h_5, i_5, h_6, i_6, h_7, i_7, h_8, i_8, h_9, i_9, h_10, i_10, h_11, i_11, h_12, i_12, h_13, i_13, i_14, p_0, p_1, t_0, t_1]
    rw [show (List.range' a 0).all (fun a => (List.range' (a + 1) (l.length - a - 1)).all fun b => !rel l a b) = true from rfl, Bool.and_true]
  | m + 1, a, k0 + 1, w, ha, hk0 => by
    have e1 := sorts1 (E := E) (k := k) (n := n) l hs hk hl i j s7 s8 k0 a (by omega) (l.length - a - 1) (a + 1) k w (by omega) (by omega)
    have ih := fun w => sorts0 i j s7 s8 m (a + 1) k0 w (by omega) (by omega)
    rw [law40_OrderSorts_L0_s]
    simp (disch := first | omega | (simp only [List.length_append, List.length_cons, List.length_nil, List.length_take, List.length_drop]; done) | (simp only [List.length_append, List.length_cons, List.length_nil, List.length_take, List.length_drop]; omega) | fail) only [bif_t, bif_f, bif_n, bif_a, callB_ok, callI_ok, callS_ok, callL_ok, callF_ok, callT_ok, tupB_ok, tupI_ok, tupS_ok, tupL_ok, tupF_ok, atNil_ok, wrap1, wrapM, wrapP, Int.toNat_natCast, svs_len, ivs_len, bvs_len, str_size, svs_mid, ivs_mid, str_dec, str_ext, str_byte, mid_byte, mid_cut, List.length_nil, List.length_singleton, svs_snoc, ivs_snoc, svs_take, svs_drop, str_app, List.take_length, List.drop_zero, List.nil_append, cond_true, cond_false, Option.bind_some, Bool.not_true, Bool.not_false, Bool.true_and, Bool.and_true, bys_len, prs_len, its_len, cells_pair, cells_time, cells_head, cells_item, fold_pair, fold_time, fold_head, fold_ihead, fold_item, prs_mid, its_mid, bys_mid, byte_c, callG_pair, callG_time, callG_head, callG_item, tupG_pair, tupG_time, tupG_head, tupG_item, h_0, i_0, h_1, i_1, h_2, i_2, h_3, i_3, h_4, i_4, h_5, i_5, h_6, i_6, h_7, i_7, h_8, i_8, h_9, i_9, h_10, i_10, h_11, i_11, h_12, i_12, h_13, i_13, i_14, p_0, p_1, t_0, t_1, e1]
    rw [ih, List.range'_succ, List.all_cons, Bool.and_assoc]
include hs hk hl in
theorem sorts2 (i j : Int) (hx : ∀ x ∈ l, FewI x) : ∀ (suf pre : List Nat) (k2 : Nat), suf.length < k2 → pre ++ suf = sorted l.length (rel l) →
    law40_OrderSorts_L2 (kp E k (n + 9)) k k2 (its l) i j (ivs (nats (sorted l.length (rel l)))) (ivs (nats (sorted l.length (rel l)))) (isOrd l) (its (ordered l)) ((pre.length : Nat) : Int) = some (.bool true)
  | [], pre, k2 + 1, h2, he => by
    obtain ⟨hg, hlen⟩ := sorted_gone l.length (rel l)
    have ho := ordered_len l
    rw [List.append_nil] at he
    have e1 := sameInts_k (E := E) (k := k) (n := n + 8) (nats (sorted l.length (rel l))) (nats (sorted l.length (rel l))) (by rw [nats_len]; omega) (by rw [nats_len]; omega)
    have e2 := is_k (E := E) (k := k) (n := n + 1) l hs hk hl
    have e3 := Leans_k (E := E) (k := k) (n := n + 2) l i j hs hk (by omega)
    have e4 := refLeans_k (E := E) (k := k) (n := n + 5) l i j hs hk (by omega)
    have hp : pre.length = l.length := by rw [he]; exact hlen
    rw [law40_OrderSorts_L2_s]
    simp (disch := first | omega | (simp only [List.length_append, List.length_cons, List.length_nil, List.length_take, List.length_drop]; done) | (simp only [List.length_append, List.length_cons, List.length_nil, List.length_take, List.length_drop]; omega) | fail) only [bif_t, bif_f, bif_n, bif_a, callB_ok, callI_ok, callS_ok, callL_ok, callF_ok, callT_ok, tupB_ok, tupI_ok, tupS_ok, tupL_ok, tupF_ok, atNil_ok, wrap1, wrapM, wrapP, Int.toNat_natCast, svs_len, ivs_len, bvs_len, str_size, svs_mid, ivs_mid, str_dec, str_ext, str_byte, mid_byte, mid_cut, List.length_nil, List.length_singleton, svs_snoc, ivs_snoc, svs_take, svs_drop, str_app, List.take_length, List.drop_zero, List.nil_append, cond_true, cond_false, Option.bind_some, Bool.not_true, Bool.not_false, Bool.true_and, Bool.and_true, bys_len, prs_len, its_len, cells_pair, cells_time, cells_head, cells_item, fold_pair, fold_time, fold_head, fold_ihead, fold_item, prs_mid, its_mid, bys_mid, byte_c, callG_pair, callG_time, callG_head, callG_item, tupG_pair, tupG_time, tupG_head, tupG_item, h_0, i_0, h_1, i_1, h_2, i_2, h_3, i_3, h_4, i_4, h_5, i_5, h_6, i_6, h_7, i_7, h_8, i_8, h_9, i_9, h_10, i_10, h_11, i_11, h_12, i_12, h_13, i_13, i_14, p_0, p_1, t_0, t_1, ho, hp, e1, e2, e3, e4, decide_true, beq_self_eq_true]
  | q :: suf, pre, k2 + 1, h2, he => by
    obtain ⟨hg, hlen⟩ := sorted_gone l.length (rel l)
    have ho := ordered_len l
    have hq : q < l.length := hg.lt q (by rw [← he]; simp)
    have hpl : pre.length < l.length := by rw [← hlen, ← he]; simp
    have hnn : nats (sorted l.length (rel l)) = nats pre ++ ((q : Nat) : Int) :: nats suf := by rw [← he]; simp [nats]
    have hnl := nats_len pre
    have g1 : ∀ (K : Int → Option AV), (((ivs (nats (sorted l.length (rel l))))[pre.length]?).bind fun y => cellI .i64 (AV.cells y) 0 K) = K ((q : Nat) : Int) := fun K => by
      rw [hnn, ← hnl]; exact ivs_mid _ _ _ _
    have hol : ordered l = itemsAt l pre ++ l[q] :: itemsAt l suf := by
      unfold ordered
      rw [← he, itemsAt_app, itemsAt_cons l hq]
    have hil : (itemsAt l pre).length = pre.length := itemsAt_len l pre (fun i hi => hg.lt i (by rw [← he]; simp [hi]))
    have g2 : ∀ (F : AV → Option AV), ((its (ordered l))[pre.length]?).bind F = F (elItem l[q]) := fun F => by
      rw [hol, ← hil]; exact its_mid _ _ _ _
    have g3 : ∀ (F : AV → Option AV), ((its l)[q]?).bind F = F (elItem l[q]) := fun F => its_at _ _ hq F
    have hfx := hx _ (List.getElem_mem hq)
    obtain ⟨_, _, _, _, _, h30⟩ := hfx
    have e1 := sameItem_k (E := E) (k := k) (n := n + 6) l[q] l[q] (by omega) (by omega)
    have ih := sorts2 i j hx suf (pre ++ [q]) k2 (by simpa using h2) (by rw [← he]; simp)
    rw [show (pre ++ [q]).length = pre.length + 1 from by simp] at ih
    rw [law40_OrderSorts_L2_s]
    simp (disch := first | omega | (simp only [List.length_append, List.length_cons, List.length_nil, List.length_take, List.length_drop]; done) | (simp only [List.length_append, List.length_cons, List.length_nil, List.length_take, List.length_drop]; omega) | fail) only [bif_t, bif_f, bif_n, bif_a, callB_ok, callI_ok, callS_ok, callL_ok, callF_ok, callT_ok, tupB_ok, tupI_ok, tupS_ok, tupL_ok, tupF_ok, atNil_ok, wrap1, wrapM, wrapP, Int.toNat_natCast, svs_len, ivs_len, bvs_len, str_size, svs_mid, ivs_mid, str_dec, str_ext, str_byte, mid_byte, mid_cut, List.length_nil, List.length_singleton, svs_snoc, ivs_snoc, svs_take, svs_drop, str_app, List.take_length, List.drop_zero, List.nil_append, cond_true, cond_false, Option.bind_some, Bool.not_true, Bool.not_false, Bool.true_and, Bool.and_true, bys_len, prs_len, its_len, cells_pair, cells_time, cells_head, cells_item, fold_pair, fold_time, fold_head, fold_ihead, fold_item, prs_mid, its_mid, bys_mid, byte_c, callG_pair, callG_time, callG_head, callG_item, tupG_pair, tupG_time, tupG_head, tupG_item, h_0, i_0, h_1, i_1, h_2, i_2, h_3, i_3, h_4, i_4, h_5, i_5, h_6, i_6, h_7, i_7, h_8, i_8, h_9, i_9, h_10, i_10, h_11, i_11, h_12, i_12, h_13, i_13, i_14, p_0, p_1, t_0, t_1, ho, hlen, nats_len, g1, g2, g3, e1, ih, decide_true]
end
theorem orderSorts_true (l : List Item) (i j : Int) (hb : ∀ x ∈ l, BdI x) (hl : l.length < 1000000000000) (hlk : l.length < k) (hx : ∀ x ∈ l, x.head.extra.length < k ∧ x.head.extra.length < 1000000000000000) (hk : 10000 < k) : kp E k (n + 10) law40_OrderSorts [.list 15 (its l), .int .i64 i, .int .i64 j] = some (.bool true) := by
  have hf := few_k (E := E) (k := k) (n := n + 7) l hl hlk hx hb
  rw [law40_OrderSorts_eq, alive40_k hk, callB_ok, hf, callB_ok]
  cases hfew : fewL l with
  | false => rfl
  | true =>
    obtain ⟨hs, h12, hfi, hsm⟩ := few_is hb hfew
    have e1 := Sorted_k (E := E) (k := k) (n := n + 1) l hs hk h12
    have e2 := refSorted_k (E := E) (k := k) (n := n + 2) l hs hk h12
    have e3 := sorts0 (E := E) (k := k) (n := n) l hs hk h12 i j (ivs (nats (sorted l.length (rel l)))) (ivs (nats (sorted l.length (rel l)))) l.length 0 k true (by omega) (by omega)
    have e4 := items_k (E := E) (k := k) (n := n) l hs hk h12 hsm
    have e5 := sorts2 (E := E) (k := k) (n := n) l hs hk h12 i j hfi (sorted l.length (rel l)) [] k (by obtain ⟨_, h⟩ := sorted_gone l.length (rel l); omega) rfl
    rw [e1, callL_ok, e2, callL_ok]
    refine e3.trans ?_
    rw [e4, callL_ok, Bool.true_and, ← List.range_eq_range']
    exact e5
/-! What stays. -/
theorem stays_loop (kap : FuncId → List AV → Option AV) (l : List Item) (hl : l.length ≤ 12) : ∀ (suf pre : List Nat) (k0 : Nat), suf.length < k0 → pre ++ suf = sorted l.length (rel l) →
    law40_OrderStays_L0 kap k k0 (its l) (ivs (nats (sorted l.length (rel l)))) ((pre.length : Nat) : Int) (bvs (flags l.length pre)) = some (.bool true)
  | [], pre, k0 + 1, h0, he => by
    obtain ⟨hg, hlen⟩ := sorted_gone l.length (rel l)
    rw [List.append_nil] at he
    have hp : pre.length = l.length := by rw [he]; exact hlen
    rw [law40_OrderStays_L0_s]
    simp (disch := first | omega | (simp only [List.length_append, List.length_cons, List.length_nil, List.length_take, List.length_drop]; done) | (simp only [List.length_append, List.length_cons, List.length_nil, List.length_take, List.length_drop]; omega) | fail) only [bif_t, bif_f, bif_n, bif_a, callB_ok, callI_ok, callS_ok, callL_ok, callF_ok, callT_ok, tupB_ok, tupI_ok, tupS_ok, tupL_ok, tupF_ok, atNil_ok, wrap1, wrapM, wrapP, Int.toNat_natCast, svs_len, ivs_len, bvs_len, str_size, svs_mid, ivs_mid, str_dec, str_ext, str_byte, mid_byte, mid_cut, List.length_nil, List.length_singleton, svs_snoc, ivs_snoc, svs_take, svs_drop, str_app, List.take_length, List.drop_zero, List.nil_append, cond_true, cond_false, Option.bind_some, Bool.not_true, Bool.not_false, Bool.true_and, Bool.and_true, bys_len, prs_len, its_len, cells_pair, cells_time, cells_head, cells_item, fold_pair, fold_time, fold_head, fold_ihead, fold_item, prs_mid, its_mid, bys_mid, byte_c, callG_pair, callG_time, callG_head, callG_item, tupG_pair, tupG_time, tupG_head, tupG_item, h_0, i_0, h_1, i_1, h_2, i_2, h_3, i_3, h_4, i_4, h_5, i_5, h_6, i_6, h_7, i_7, h_8, i_8, h_9, i_9, h_10, i_10, h_11, i_11, h_12, i_12, h_13, i_13, i_14, p_0, p_1, t_0, t_1, hlen, nats_len, hp, decide_true]
  | q :: suf, pre, k0 + 1, h0, he => by
    obtain ⟨hg, hlen⟩ := sorted_gone l.length (rel l)
    have hq : q < l.length := hg.lt q (by rw [← he]; simp)
    have hpl : pre.length < l.length := by rw [← hlen, ← he]; simp
    have hnn : nats (sorted l.length (rel l)) = nats pre ++ ((q : Nat) : Int) :: nats suf := by rw [← he]; simp [nats]
    have hnl := nats_len pre
    have hnot : pre.contains q = false := by
      rw [Bool.eq_false_iff]
      intro hc
      have hnd := hg.nd
      rw [← he, List.nodup_append] at hnd
      exact hnd.2.2 q (List.contains_iff_mem.1 hc) q (by simp) rfl
    have g1 : ∀ (K : Int → Option AV), (((ivs (nats (sorted l.length (rel l))))[pre.length]?).bind fun y => cellI .i64 (AV.cells y) 0 K) = K ((q : Nat) : Int) := fun K => by
      rw [hnn, ← hnl]; exact ivs_mid _ _ _ _
    have g2 : ∀ (K : Bool → Option AV), (((bvs (flags l.length pre))[q]?).bind fun y => cellB (AV.cells y) 0 K) = K false := fun K => by rw [flags_at hq, hnot]
    have g3 : ∀ (F : AV → Option AV), ((bvs (flags l.length pre))[q]?).bind F = F (bv (pre.contains q)) := fun F => flags_get hq F
    have g4 := flags_set (m := l.length) (out := pre) hq
    have hc1 : (AV.cells (bv (pre.contains q))).length = 1 := rfl
    have ih := stays_loop kap l hl suf (pre ++ [q]) k0 (by simpa using h0) (by rw [← he]; simp)
    rw [show (pre ++ [q]).length = pre.length + 1 from by simp] at ih
    rw [law40_OrderStays_L0_s]
    simp (disch := first | omega | (simp only [List.length_append, List.length_cons, List.length_nil, List.length_take, List.length_drop]; done) | (simp only [List.length_append, List.length_cons, List.length_nil, List.length_take, List.length_drop]; omega) | fail) only [bif_t, bif_f, bif_n, bif_a, callB_ok, callI_ok, callS_ok, callL_ok, callF_ok, callT_ok, tupB_ok, tupI_ok, tupS_ok, tupL_ok, tupF_ok, atNil_ok, wrap1, wrapM, wrapP, Int.toNat_natCast, svs_len, ivs_len, bvs_len, str_size, svs_mid, ivs_mid, str_dec, str_ext, str_byte, mid_byte, mid_cut, List.length_nil, List.length_singleton, svs_snoc, ivs_snoc, svs_take, svs_drop, str_app, List.take_length, List.drop_zero, List.nil_append, cond_true, cond_false, Option.bind_some, Bool.not_true, Bool.not_false, Bool.true_and, Bool.and_true, bys_len, prs_len, its_len, cells_pair, cells_time, cells_head, cells_item, fold_pair, fold_time, fold_head, fold_ihead, fold_item, prs_mid, its_mid, bys_mid, byte_c, callG_pair, callG_time, callG_head, callG_item, tupG_pair, tupG_time, tupG_head, tupG_item, h_0, i_0, h_1, i_1, h_2, i_2, h_3, i_3, h_4, i_4, h_5, i_5, h_6, i_6, h_7, i_7, h_8, i_8, h_9, i_9, h_10, i_10, h_11, i_11, h_12, i_12, h_13, i_13, i_14, p_0, p_1, t_0, t_1, hlen, nats_len, flags_len, g1, g2, g3, g4, hc1, ih]
theorem orderStays_true (l : List Item) (hb : ∀ x ∈ l, BdI x) (hl : l.length < 1000000000000) (hlk : l.length < k) (hx : ∀ x ∈ l, x.head.extra.length < k ∧ x.head.extra.length < 1000000000000000) (hk : 10000 < k) : kp E k (n + 10) law40_OrderStays [.list 15 (its l)] = some (.bool true) := by
  have hf := few_k (E := E) (k := k) (n := n + 7) l hl hlk hx hb
  rw [law40_OrderStays_eq, alive40_k hk, callB_ok, hf, callB_ok]
  cases hfew : fewL l with
  | false => rfl
  | true =>
    obtain ⟨hs, h12, hfi, hsm⟩ := few_is hb hfew
    have ho := ordered_len l
    have e1 := items_k (E := E) (k := k) (n := n) l hs hk h12 hsm
    have e2 := is_k (E := E) (k := k) (n := n + 1) (ordered l) (ordered_short hs) hk (by omega)
    have e3 := items_k (E := E) (k := k) (n := n) (ordered l) (ordered_short hs) hk (by omega) (ordered_small hsm)
    rw [ordered_ord hs] at e2
    rw [show itemsAt (ordered l) (sorted (ordered l).length (rel (ordered l))) = ordered l from ordered_id (ordered_ord hs)] at e3
    have e4 := sameAll_k (E := E) (k := k) (n := n + 5) (ordered l) (ordered l) 30 (by omega) (by omega) (fun x hx => (hfi x (itemsAt_mem hx)).2.2.2.2.2) (by omega) (by omega)
    have e5 := is_k (E := E) (k := k) (n := n + 1) l hs hk h12
    have e6 := sameAll_k (E := E) (k := k) (n := n + 5) (ordered l) l 30 (by omega) (by omega) (fun x hx => (hfi x (itemsAt_mem hx)).2.2.2.2.2) (by omega) (by omega)
    have e7 := Sorted_k (E := E) (k := k) (n := n + 1) l hs hk h12
    have e8 := stays_loop (k := k) (kp E k (n + 9)) l h12 (sorted l.length (rel l)) [] k (by obtain ⟨_, h⟩ := sorted_gone l.length (rel l); omega) rfl
    have hfl : List.replicate l.length (AV.bool false) = bvs (flags l.length []) := by
      apply List.ext_getElem?
      intro j
      unfold bvs flags
      rw [List.getElem?_replicate, List.getElem?_map, List.getElem?_map]
      by_cases hj : j < l.length
      · rw [if_pos hj, List.getElem?_range hj]; rfl
      · rw [if_neg hj, List.getElem?_eq_none (by simp; omega)]; rfl
    rw [List.length_nil] at e8
    have e1' : kp E k (n + 9) order_Items [.list 15 (its l)] = some (.list 15 (its (ordered l))) := e1
    simp (disch := first | omega | (simp only [List.length_append, List.length_cons, List.length_nil, List.length_take, List.length_drop]; done) | (simp only [List.length_append, List.length_cons, List.length_nil, List.length_take, List.length_drop]; omega) | fail) only [bif_t, bif_f, bif_n, bif_a, callB_ok, callI_ok, callS_ok, callL_ok, callF_ok, callT_ok, tupB_ok, tupI_ok, tupS_ok, tupL_ok, tupF_ok, atNil_ok, wrap1, wrapM, wrapP, Int.toNat_natCast, svs_len, ivs_len, bvs_len, str_size, svs_mid, ivs_mid, str_dec, str_ext, str_byte, mid_byte, mid_cut, List.length_nil, List.length_singleton, svs_snoc, ivs_snoc, svs_take, svs_drop, str_app, List.take_length, List.drop_zero, List.nil_append, cond_true, cond_false, Option.bind_some, Bool.not_true, Bool.not_false, Bool.true_and, Bool.and_true, bys_len, prs_len, its_len, cells_pair, cells_time, cells_head, cells_item, fold_pair, fold_time, fold_head, fold_ihead, fold_item, prs_mid, its_mid, bys_mid, byte_c, callG_pair, callG_time, callG_head, callG_item, tupG_pair, tupG_time, tupG_head, tupG_item, h_0, i_0, h_1, i_1, h_2, i_2, h_3, i_3, h_4, i_4, h_5, i_5, h_6, i_6, h_7, i_7, h_8, i_8, h_9, i_9, h_10, i_10, h_11, i_11, h_12, i_12, h_13, i_13, i_14, p_0, p_1, t_0, t_1, e1', e2, e3, e4, e5, e7, hfl, decide_true]
    rw [show ((0 : Int)) = ((0 : Nat) : Int) from rfl, e8]
    cases hord : isOrd l with
    | false => rfl
    | true =>
      rw [ordered_id hord] at e6 ⊢
      rw [e6]
      simp (disch := first | omega | (simp only [List.length_append, List.length_cons, List.length_nil, List.length_take, List.length_drop]; done) | (simp only [List.length_append, List.length_cons, List.length_nil, List.length_take, List.length_drop]; omega) | fail) only [bif_t, bif_f, bif_n, bif_a, callB_ok, callI_ok, callS_ok, callL_ok, callF_ok, callT_ok, tupB_ok, tupI_ok, tupS_ok, tupL_ok, tupF_ok, atNil_ok, wrap1, wrapM, wrapP, Int.toNat_natCast, svs_len, ivs_len, bvs_len, str_size, svs_mid, ivs_mid, str_dec, str_ext, str_byte, mid_byte, mid_cut, List.length_nil, List.length_singleton, svs_snoc, ivs_snoc, svs_take, svs_drop, str_app, List.take_length, List.drop_zero, List.nil_append, cond_true, cond_false, Option.bind_some, Bool.not_true, Bool.not_false, Bool.true_and, Bool.and_true, bys_len, prs_len, its_len, cells_pair, cells_time, cells_head, cells_item, fold_pair, fold_time, fold_head, fold_ihead, fold_item, prs_mid, its_mid, bys_mid, byte_c, callG_pair, callG_time, callG_head, callG_item, tupG_pair, tupG_time, tupG_head, tupG_item, h_0, i_0, h_1, i_1, h_2, i_2, h_3, i_3, h_4, i_4, h_5, i_5, h_6, i_6, h_7, i_7, h_8, i_8, h_9, i_9, h_10, i_10, h_11, i_11, h_12, i_12, h_13, i_13, i_14, p_0, p_1, t_0, t_1, decide_true]
end Go.Proofs.YtelniipccmeooaaDoor.Eng.U
