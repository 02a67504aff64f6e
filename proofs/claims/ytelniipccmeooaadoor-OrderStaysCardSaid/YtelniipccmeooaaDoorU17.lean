/- The statements' own bounds: how many items, and how much text in them, are gone through. -/
import Derived.Test.YtelniipccmeooaaDoorR40
import Derived.Test.YtelniipccmeooaaDoorApi
set_option linter.unusedVariables false
set_option linter.unusedSimpArgs false
set_option linter.unusedSectionVars false
namespace Go.Proofs.YtelniipccmeooaaDoor.Eng.U
open Go Go.Proofs Go.Proofs.YtelniipccmeooaaDoor.Eng
variable {E : Ext} [Core E] {k n : Nat}
abbrev W64 (x : Int) : Int := IntKind.wrap .i64 x
theorem W64_in {x : Int} (h : -9223372036854775808 ≤ x ∧ x ≤ 9223372036854775807) : W64 x = x := i64w h
theorem W64_1 {i : Nat} (h : i < 9223372036854775807) : W64 (((i : Nat) : Int) + 1) = ((i + 1 : Nat) : Int) := wrap1 h
/-- How much text pairs have, on top of a number. -/
def pairsW (s : Int) (l : List Pair) : Int := l.foldl (fun s p => W64 (W64 (s + ((p.key.length : Nat) : Int)) + ((p.val.length : Nat) : Int))) s
def headW (s : Int) (x : Item) : Int := W64 (W64 (W64 (W64 (W64 (s + ((x.head.name.length : Nat) : Int)) + ((x.head.link.length : Nat) : Int)) + ((x.head.user.length : Nat) : Int)) + ((x.head.group.length : Nat) : Int)) + ((x.data.length : Nat) : Int))
def manyGo (m : Nat) : Int → List Item → Bool
  | s, [] => decide (m > 12)
  | s, x :: l => if x.head.extra.length > 30 then true else if pairsW (headW s x) x.head.extra > 300000 then true else manyGo m (pairsW (headW s x) x.head.extra) l
theorem many1 (kap : FuncId → List AV → Option AV) (h : Head) (k0 : Nat) (s0 : List AV) (s4 : Int) : ∀ (suf pre : List Pair) (k1 : Nat) (s3 : Int), suf.length < k1 → (pre ++ suf).length < 1000000000000000 → h.extra = pre ++ suf →
    law17_Many_L1 kap k k0 k1 s0 s3 s4 ((pre.length : Nat) : Int) h.kind (str h.name) (str h.link) h.mode h.uid h.gid h.size h.sec h.nano (str h.user) (str h.group) h.major h.minor (prs h.extra) =
      if h.extra.length > 30 then some (.bool true) else if pairsW s3 suf > 300000 then some (.bool true) else law17_Many_L0 kap k k0 s0 (pairsW s3 suf) (W64 (s4 + 1))
  | [], pre, k1 + 1, s3, hk, hb, he => by
    rw [List.append_nil] at he
    rw [law17_Many_L1_s, he]
    simp (disch := first | omega | (simp only [List.length_append, List.length_cons, List.length_nil, List.length_take, List.length_drop]; done) | (simp only [List.length_append, List.length_cons, List.length_nil, List.length_take, List.length_drop]; omega) | fail) only [bif_t, bif_f, bif_n, bif_a, callB_ok, callI_ok, callS_ok, callL_ok, callF_ok, callT_ok, tupB_ok, tupI_ok, tupS_ok, tupL_ok, tupF_ok, atNil_ok, wrap1, wrapM, wrapP, Int.toNat_natCast, svs_len, ivs_len, bvs_len, str_size, svs_mid, ivs_mid, str_dec, str_ext, str_byte, mid_byte, mid_cut, List.length_nil, List.length_singleton, svs_snoc, ivs_snoc, svs_take, svs_drop, str_app, List.take_length, List.drop_zero, List.nil_append, cond_true, cond_false, Option.bind_some, Bool.not_true, Bool.not_false, Bool.true_and, Bool.and_true, bys_len, prs_len, its_len, cells_pair, cells_time, cells_head, cells_item, fold_pair, fold_time, fold_head, fold_ihead, fold_item, prs_mid, its_mid, bys_mid, byte_c, callG_pair, callG_time, callG_head, callG_item, tupG_pair, tupG_time, tupG_head, tupG_item, h_0, i_0, h_1, i_1, h_2, i_2, h_3, i_3, h_4, i_4, h_5, i_5, h_6, i_6, h_7, i_7, h_8, i_8, h_9, i_9, h_10, i_10, h_11, i_11, h_12, i_12, h_13, i_13, i_14, p_0, p_1, t_0, t_1, bif_dec]
    by_cases h1 : pre.length > 30
    · rw [if_pos h1, if_pos (by omega)]
    · rw [if_neg h1, if_neg (by omega)]
      rfl
  | p :: suf, pre, k1 + 1, s3, hk, hb, he => by
    have hm := mid_len pre suf p
    have ih := many1 kap h k0 s0 s4 suf (pre ++ [p]) k1 (W64 (W64 (s3 + ((p.key.length : Nat) : Int)) + ((p.val.length : Nat) : Int))) (by simpa using hk) (by simpa using hb) (by rw [he]; simp)
    rw [List.length_append, List.length_singleton, he] at ih
    rw [law17_Many_L1_s, he]
    simp (disch := first | omega | (simp only [List.length_append, List.length_cons, List.length_nil, List.length_take, List.length_drop]; done) | (simp only [List.length_append, List.length_cons, List.length_nil, List.length_take, List.length_drop]; omega) | fail) only [bif_t, bif_f, bif_n, bif_a, callB_ok, callI_ok, callS_ok, callL_ok, callF_ok, callT_ok, tupB_ok, tupI_ok, tupS_ok, tupL_ok, tupF_ok, atNil_ok, wrap1, wrapM, wrapP, Int.toNat_natCast, svs_len, ivs_len, bvs_len, str_size, svs_mid, ivs_mid, str_dec, str_ext, str_byte, mid_byte, mid_cut, List.length_nil, List.length_singleton, svs_snoc, ivs_snoc, svs_take, svs_drop, str_app, List.take_length, List.drop_zero, List.nil_append, cond_true, cond_false, Option.bind_some, Bool.not_true, Bool.not_false, Bool.true_and, Bool.and_true, bys_len, prs_len, its_len, cells_pair, cells_time, cells_head, cells_item, fold_pair, fold_time, fold_head, fold_ihead, fold_item, prs_mid, its_mid, bys_mid, byte_c, callG_pair, callG_time, callG_head, callG_item, tupG_pair, tupG_time, tupG_head, tupG_item, h_0, i_0, h_1, i_1, h_2, i_2, h_3, i_3, h_4, i_4, h_5, i_5, h_6, i_6, h_7, i_7, h_8, i_8, h_9, i_9, h_10, i_10, h_11, i_11, h_12, i_12, h_13, i_13, i_14, p_0, p_1, t_0, t_1, hm, ih]
    rfl
theorem many0 (l : List Item) (hl : l.length < 1000000000000) : ∀ (suf pre : List Item) (k0 : Nat) (s3 : Int), suf.length < k0 → l = pre ++ suf → (∀ x ∈ suf, x.head.extra.length < k ∧ x.head.extra.length < 1000000000000000) →
    law17_Many_L0 (kp E k n) k k0 (its l) s3 ((pre.length : Nat) : Int) = some (.bool (manyGo l.length s3 suf))
  | [], pre, k0 + 1, s3, hk, he, hx => by
    rw [List.append_nil] at he
    subst he
    rw [law17_Many_L0_s]
    simp (disch := first | omega | (simp only [List.length_append, List.length_cons, List.length_nil, List.length_take, List.length_drop]; done) | (simp only [List.length_append, List.length_cons, List.length_nil, List.length_take, List.length_drop]; omega) | fail) only [bif_t, bif_f, bif_n, bif_a, callB_ok, callI_ok, callS_ok, callL_ok, callF_ok, callT_ok, tupB_ok, tupI_ok, tupS_ok, tupL_ok, tupF_ok, atNil_ok, wrap1, wrapM, wrapP, Int.toNat_natCast, svs_len, ivs_len, bvs_len, str_size, svs_mid, ivs_mid, str_dec, str_ext, str_byte, mid_byte, mid_cut, List.length_nil, List.length_singleton, svs_snoc, ivs_snoc, svs_take, svs_drop, str_app, List.take_length, List.drop_zero, List.nil_append, cond_true, cond_false, Option.bind_some, Bool.not_true, Bool.not_false, Bool.true_and, Bool.and_true, bys_len, prs_len, its_len, cells_pair, cells_time, cells_head, cells_item, fold_pair, fold_time, fold_head, fold_ihead, fold_item, prs_mid, its_mid, bys_mid, byte_c, callG_pair, callG_time, callG_head, callG_item, tupG_pair, tupG_time, tupG_head, tupG_item, h_0, i_0, h_1, i_1, h_2, i_2, h_3, i_3, h_4, i_4, h_5, i_5, h_6, i_6, h_7, i_7, h_8, i_8, h_9, i_9, h_10, i_10, h_11, i_11, h_12, i_12, h_13, i_13, i_14, p_0, p_1, t_0, t_1]
    rw [manyGo]
    congr 2
    rw [decide_eq_decide]
    omega
  | x :: suf, pre, k0 + 1, s3, hk, he, hx => by
    obtain ⟨h1, h2⟩ := hx x (by simp)
    have hm := mid_len pre suf x
    have e1 := fun s => many1 (k := k) (kp E k n) x.head k0 (its l) ((pre.length : Nat) : Int) x.head.extra [] k s h1 (by simpa using h2) rfl
    have ih := fun s => many0 l hl suf (pre ++ [x]) k0 s (by simpa using hk) (by rw [he]; simp) (fun y hy => hx y (by simp [hy]))
    simp only [List.length_append, List.length_singleton] at ih
    rw [List.length_nil] at e1
    have hg : ∀ F : AV → Option AV, ((its l)[pre.length]?).bind F = F (elItem x) := fun F => by rw [he]; exact its_mid _ _ _ _
    have hll : l.length = pre.length + suf.length + 1 := by rw [he]; exact hm
    rw [law17_Many_L0_s]
    simp (disch := first | omega | (simp only [List.length_append, List.length_cons, List.length_nil, List.length_take, List.length_drop]; done) | (simp only [List.length_append, List.length_cons, List.length_nil, List.length_take, List.length_drop]; omega) | fail) only [bif_t, bif_f, bif_n, bif_a, callB_ok, callI_ok, callS_ok, callL_ok, callF_ok, callT_ok, tupB_ok, tupI_ok, tupS_ok, tupL_ok, tupF_ok, atNil_ok, wrap1, wrapM, wrapP, Int.toNat_natCast, svs_len, ivs_len, bvs_len, str_size, svs_mid, ivs_mid, str_dec, str_ext, str_byte, mid_byte, mid_cut, List.length_nil, List.length_singleton, svs_snoc, ivs_snoc, svs_take, svs_drop, str_app, List.take_length, List.drop_zero, List.nil_append, cond_true, cond_false, Option.bind_some, Bool.not_true, Bool.not_false, Bool.true_and, Bool.and_true, bys_len, prs_len, its_len, cells_pair, cells_time, cells_head, cells_item, fold_pair, fold_time, fold_head, fold_ihead, fold_item, prs_mid, its_mid, bys_mid, byte_c, callG_pair, callG_time, callG_head, callG_item, tupG_pair, tupG_time, tupG_head, tupG_item, h_0, i_0, h_1, i_1, h_2, i_2, h_3, i_3, h_4, i_4, h_5, i_5, h_6, i_6, h_7, i_7, h_8, i_8, h_9, i_9, h_10, i_10, h_11, i_11, h_12, i_12, h_13, i_13, i_14, p_0, p_1, t_0, t_1, hg, hll]
    rw [show ((0 : Int)) = ((0 : Nat) : Int) from rfl, e1, W64_1 (by omega), ih]
    rw [manyGo]
    unfold headW
    rw [hll]
    split
    · rfl
    · split <;> rfl
theorem many_k (l : List Item) (hl : l.length < 1000000000000) (hlk : l.length < k) (hx : ∀ x ∈ l, x.head.extra.length < k ∧ x.head.extra.length < 1000000000000000) : kp E k (n + 1) law17_Many [.list 15 (its l)] = some (.bool (manyGo l.length 0 l)) := by
  rw [law17_Many_eq]
  exact many0 l hl l [] k 0 hlk rfl hx
/-- What a row knows of its items. -/
def BdP (p : Pair) : Prop := p.key.length ≤ 140737488351232 ∧ p.val.length ≤ 140737488351232
def BdI (x : Item) : Prop := x.head.name.length ≤ 140737488351232 ∧ x.head.link.length ≤ 140737488351232 ∧ x.head.user.length ≤ 140737488351232 ∧ x.head.group.length ≤ 140737488351232 ∧ x.data.length ≤ 140737488351232 ∧ ∀ p ∈ x.head.extra, BdP p
theorem pairsW_eq : ∀ (l : List Pair) (s : Int), (∀ p ∈ l, BdP p) → 0 ≤ s → l.length ≤ 30 → s + ((l.length : Nat) : Int) * 281474976702464 ≤ 9223372036854775807 → s ≤ pairsW s l ∧ pairsW s l ≤ s + ((l.length : Nat) : Int) * 281474976702464
  | [], s, _, h0, _, _ => by simp [pairsW]
  | p :: l, s, hb, h0, hl, hs => by
    obtain ⟨h1, h2⟩ := hb p (by simp)
    have hlen : ((p :: l).length : Nat) = l.length + 1 := rfl
    rw [hlen] at hs hl ⊢
    have e : pairsW s (p :: l) = pairsW (s + ((p.key.length : Nat) : Int) + ((p.val.length : Nat) : Int)) l := by
      show pairsW (W64 (W64 (s + _) + _)) l = _
      rw [W64_in (x := s + ((p.key.length : Nat) : Int)) (by omega), W64_in (by omega)]
    rw [e]
    have := pairsW_eq l (s + ((p.key.length : Nat) : Int) + ((p.val.length : Nat) : Int)) (fun q hq => hb q (by simp [hq])) (by omega) (by omega) (by omega)
    omega
theorem headW_eq (x : Item) (h : BdI x) (s : Int) (h0 : 0 ≤ s) (h1 : s ≤ 300000) : headW s x = s + ((x.head.name.length : Nat) : Int) + ((x.head.link.length : Nat) : Int) + ((x.head.user.length : Nat) : Int) + ((x.head.group.length : Nat) : Int) + ((x.data.length : Nat) : Int) := by
  obtain ⟨a1, a2, a3, a4, a5, _⟩ := h
  unfold headW
  rw [W64_in (x := s + ((x.head.name.length : Nat) : Int)) (by omega), W64_in (x := s + ((x.head.name.length : Nat) : Int) + ((x.head.link.length : Nat) : Int)) (by omega), W64_in (x := s + ((x.head.name.length : Nat) : Int) + ((x.head.link.length : Nat) : Int) + ((x.head.user.length : Nat) : Int)) (by omega), W64_in (x := s + ((x.head.name.length : Nat) : Int) + ((x.head.link.length : Nat) : Int) + ((x.head.user.length : Nat) : Int) + ((x.head.group.length : Nat) : Int)) (by omega), W64_in (by omega)]
/-- What few items are. -/
def FewI (x : Item) : Prop := x.head.name.length ≤ 300000 ∧ x.head.link.length ≤ 300000 ∧ x.head.user.length ≤ 300000 ∧ x.head.group.length ≤ 300000 ∧ x.data.length ≤ 300000 ∧ x.head.extra.length ≤ 30
theorem many_few (m : Nat) : ∀ (l : List Item) (s : Int), (∀ x ∈ l, BdI x) → 0 ≤ s → s ≤ 300000 → manyGo m s l = false → m ≤ 12 ∧ ∀ x ∈ l, FewI x
  | [], s, _, _, _, h => by
    simp only [manyGo, decide_eq_false_iff_not] at h
    exact ⟨by omega, fun x hx => by cases hx⟩
  | x :: l, s, hb, h0, h1, h => by
    rw [manyGo] at h
    have hx := hb x (by simp)
    split at h
    · cases h
    · rename_i h30
      split at h
      · cases h
      · rename_i hsum
        have e := headW_eq x hx s h0 h1
        have hxx := hx
        obtain ⟨a1, a2, a3, a4, a5, a6⟩ := hxx
        have hw := pairsW_eq x.head.extra (headW s x) a6 (by omega) (by omega) (by omega)
        have ih := many_few m l _ (fun y hy => hb y (by simp [hy])) (by omega) (by omega) h
        refine ⟨ih.1, fun y hy => ?_⟩
        rcases List.mem_cons.1 hy with rfl | hy
        · unfold FewI; omega
        · exact ih.2 y hy
end Go.Proofs.YtelniipccmeooaaDoor.Eng.U
