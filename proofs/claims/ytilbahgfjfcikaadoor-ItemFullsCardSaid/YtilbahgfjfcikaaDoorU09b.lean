/- ItemFulls, but for whether any field is wrong. -/
import Derived.Test.YtilbahgfjfcikaaDoorU09
set_option linter.unusedVariables false
set_option linter.unusedSectionVars false
set_option linter.unusedSimpArgs false
namespace Go.Proofs.YtilbahgfjfcikaaDoor.Eng.U
open Go Go.Proofs Go.Proofs.YtilbahgfjfcikaaDoor.Eng
variable {E : Ext} [Core E] {k n : Nat}

def manyW : Int → List Pair → Int
  | s, [] => s
  | s, p :: l => manyW (IntKind.wrap .i64 (IntKind.wrap .i64 (s + ((p.key.length : Nat) : Int)) + ((p.val.length : Nat) : Int))) l
theorem many_loop (kap : FuncId → List AV → Option AV) (h : Head) : ∀ (suf pre : List Pair) (k0 : Nat) (s : Int), suf.length < k0 → (pre ++ suf).length < 1000000000000000 →
    law09_many_L0 kap k k0 s ((pre.length : Nat) : Int) h.kind (str h.name) (str h.link) h.mode h.uid h.gid h.size h.sec h.nano (str h.user) (str h.group) h.major h.minor (prs (pre ++ suf)) = some (.bool (decide (manyW s suf > 200000) || decide (40 < (pre ++ suf).length)))
  | [], pre, k0 + 1, s, hk, hb => by
    rw [law09_many_L0_s, prs_len, nlt, decide_eq_false (by simp), cond_false]
    unfold manyW
    by_cases h1 : s > 200000
    · rw [bif_t h1, decide_eq_true h1]; rfl
    · rw [bif_f h1, decide_eq_false h1, Bool.false_or]
      congr 2
      rw [decide_eq_decide]
      omega
  | p :: suf, pre, k0 + 1, s, hk, hb => by
    have hb' := hb
    rw [mid_len] at hb'
    have ih := many_loop kap h suf (pre ++ [p]) k0 (IntKind.wrap .i64 (IntKind.wrap .i64 (s + ((p.key.length : Nat) : Int)) + ((p.val.length : Nat) : Int))) (by simpa using hk) (by simpa using hb)
    rw [List.append_assoc, List.singleton_append, List.length_append, List.length_singleton] at ih
    rw [law09_many_L0_s, prs_len, mid_len, dec0, nlt, decide_eq_true (by omega), Bool.true_and, cond_true, cond_true, Int.toNat_natCast]
    unfold manyW
    rw [← mid_len pre suf p, ← ih]
    simp (disch := first | omega | (simp only [List.length_append, List.length_cons, List.length_nil, List.length_take, List.length_drop]; done) | (simp only [List.length_append, List.length_cons, List.length_nil, List.length_take, List.length_drop]; omega) | fail) only [bif_t, bif_f, bif_n, bif_a, callB_ok, callI_ok, callS_ok, callL_ok, callF_ok, callT_ok, tupB_ok, tupI_ok, tupS_ok, tupL_ok, tupF_ok, atNil_ok, wrap1, wrapM, wrapP, Int.toNat_natCast, svs_len, ivs_len, bvs_len, str_size, svs_mid, ivs_mid, str_dec, str_ext, str_byte, mid_byte, mid_cut, List.length_nil, List.length_singleton, svs_snoc, ivs_snoc, svs_take, svs_drop, str_app, List.take_length, List.drop_zero, List.nil_append, cond_true, cond_false, Option.bind_some, Bool.not_true, Bool.not_false, Bool.true_and, Bool.and_true, bys_len, prs_len, its_len, cells_pair, cells_time, cells_head, cells_item, fold_pair, fold_time, fold_head, fold_ihead, fold_item, prs_mid, its_mid, bys_mid, byte_c, callG_pair, callG_time, callG_head, callG_item, tupG_pair, tupG_time, tupG_head, tupG_item, h_0, i_0, h_1, i_1, h_2, i_2, h_3, i_3, h_4, i_4, h_5, i_5, h_6, i_6, h_7, i_7, h_8, i_8, h_9, i_9, h_10, i_10, h_11, i_11, h_12, i_12, h_13, i_13, i_14, p_0, p_1, t_0, t_1]
theorem manyW_few (M : Nat) (hM : M = 140737488351232) : ∀ (l : List Pair) (s : Int), (∀ p ∈ l, p.key.length ≤ M ∧ p.val.length ≤ M) → 0 ≤ s → s + ((l.length : Nat) : Int) * 281474976702464 ≤ 9000000000000000000 → s ≤ manyW s l ∧ ∀ p ∈ l, ((p.key.length : Nat) : Int) ≤ manyW s l ∧ ((p.val.length : Nat) : Int) ≤ manyW s l
  | [], s, _, h0, hs => ⟨Int.le_refl _, fun p hp => by cases hp⟩
  | p :: l, s, hp, h0, hs => by
    obtain ⟨h1, h2⟩ := hp p (by simp)
    rw [List.length_cons] at hs
    unfold manyW
    have hl : 0 ≤ ((l.length : Nat) : Int) * 281474976702464 := by omega
    rw [i64w (x := s + ((p.key.length : Nat) : Int)) (by omega), i64w (x := s + ((p.key.length : Nat) : Int) + ((p.val.length : Nat) : Int)) (by omega)]
    obtain ⟨g1, g2⟩ := manyW_few M hM l (s + ((p.key.length : Nat) : Int) + ((p.val.length : Nat) : Int)) (fun q hq => hp q (by simp [hq])) (by omega) (by omega)
    refine ⟨by omega, fun q hq => ?_⟩
    rcases List.mem_cons.1 hq with rfl | hq
    · exact ⟨by omega, by omega⟩
    · exact g2 q hq
def manyB (h : Head) : Bool := decide (manyW (((h.name.length + h.link.length + h.user.length + h.group.length : Nat)) : Int) h.extra > 200000) || decide (40 < h.extra.length)
def BdH (h : Head) : Prop := h.name.length ≤ 140737488351232 ∧ h.link.length ≤ 140737488351232 ∧ h.user.length ≤ 140737488351232 ∧ h.group.length ≤ 140737488351232 ∧ (∀ p ∈ h.extra, p.key.length ≤ 140737488351232 ∧ p.val.length ≤ 140737488351232) ∧ h.extra.length < 10000000000000
def FewH (h : Head) : Prop := h.name.length ≤ 200000 ∧ h.link.length ≤ 200000 ∧ h.user.length ≤ 200000 ∧ h.group.length ≤ 200000 ∧ (∀ p ∈ h.extra, p.key.length ≤ 200000 ∧ p.val.length ≤ 200000) ∧ h.extra.length ≤ 40
theorem many9_k (h : Head) (hb : BdH h) (hk : h.extra.length < k) : kp E k (n + 1) law09_many [.agg (encHead h)] = some (.bool (manyB h)) := by
  obtain ⟨b1, b2, b3, b4, b5, b6⟩ := hb
  unfold encHead
  rw [law09_many_eq]
  have := many_loop (k := k) (kp E k n) h h.extra [] k (((h.name.length + h.link.length + h.user.length + h.group.length : Nat)) : Int) hk (by simpa using (show h.extra.length < 1000000000000000 by omega))
  rw [str_size, str_size, str_size, str_size, wrapP (by omega) (by omega), wrapP (by omega) (by omega), wrapP (by omega) (by omega)]
  exact this
theorem few_of (h : Head) (hb : BdH h) (hm : manyB h = false) : FewH h := by
  obtain ⟨b1, b2, b3, b4, b5, b6⟩ := hb
  unfold manyB at hm
  rw [Bool.or_eq_false_iff, decide_eq_false_iff_not, decide_eq_false_iff_not] at hm
  obtain ⟨h1, h2⟩ := manyW_few _ rfl h.extra (((h.name.length + h.link.length + h.user.length + h.group.length : Nat)) : Int) b5 (by omega) (by omega)
  refine ⟨by omega, by omega, by omega, by omega, fun p hp => ?_, by omega⟩
  obtain ⟨g1, g2⟩ := h2 p hp
  exact ⟨by omega, by omega⟩
theorem fulls_loop (kap : FuncId → List AV → Option AV) (h : Head) (other : List UInt8) (htold : ∀ f : List UInt8, f.length ≤ 1000000 → kap item_Told [.int .i64 h.kind, .str (str f)] = some (.tup [.int .i64 (told h.kind f).1, .str (str (told h.kind f).2)])) (ho : other.length ≤ 1000000) :
    ∀ (suf pre : List (List UInt8)) (k0 : Nat) (b : Bool), suf.length < k0 → (pre ++ suf).length < 1000 → 0 < (pre ++ suf).length → (∀ f ∈ suf, f.length ≤ 1000000 ∧ told h.kind f = (h.kind, h.name)) →
    law09_ItemFulls_L0 kap k k0 (str other) (svs (pre ++ suf)) b ((pre.length : Nat) : Int) h.kind (str h.name) (str h.link) h.mode h.uid h.gid h.size h.sec h.nano (str h.user) (str h.group) h.major h.minor (prs h.extra) = some (.bool ((b || suf.contains other) == decide (told h.kind other = (h.kind, h.name))))
  | [], pre, k0 + 1, b, hk, hb, hp, hf => by
    rw [law09_ItemFulls_L0_s, svs_len, nlt, decide_eq_false (by simp), cond_false, htold other ho, callT_ok, tupI_ok, tupS_ok, atNil_ok, bif_t (by omega), List.contains_nil, Bool.or_false]
    by_cases h1 : (told h.kind other).1 = h.kind
    · rw [decide_eq_true h1, cond_true, str_dec]
      congr 3
      rw [decide_eq_decide]
      constructor
      · intro e; exact Prod.ext h1 e
      · intro e; rw [e]
    · rw [decide_eq_false h1, cond_false, decide_eq_false (fun e => h1 (congrArg Prod.fst e))]
  | f :: suf, pre, k0 + 1, b, hk, hb, hp, hf => by
    obtain ⟨g1, g2⟩ := hf f (by simp)
    have hb' := hb
    rw [mid_len] at hb'
    have ih := fulls_loop kap h other htold ho suf (pre ++ [f]) k0 (b || decide (f = other)) (by simpa using hk) (by simpa using hb) (by simp; omega) (fun x hx => hf x (by simp [hx]))
    rw [List.append_assoc, List.singleton_append, List.length_append, List.length_singleton] at ih
    have hc : ((f :: suf).contains other) = (decide (f = other) || suf.contains other) := by
      rw [List.contains_cons]
      congr 1
      rw [Bool.eq_iff_iff, beq_iff_eq, decide_eq_true_eq]
      exact eq_comm
    rw [law09_ItemFulls_L0_s, svs_len, mid_len, dec0, nlt, decide_eq_true (by omega), Bool.true_and, cond_true, cond_true, Int.toNat_natCast, svs_mid, htold f g1, callT_ok, tupI_ok, tupS_ok, atNil_ok, g2, decide_eq_true rfl, Bool.not_true, cond_false, decide_eq_true rfl, Bool.not_true, cond_false, svs_mid, wrap1 (by omega), hc, ← Bool.or_assoc, ← ih, str_dec]
    cases b
    · rw [cond_false, cond_true, Bool.false_or]
    · rw [cond_true, Bool.true_or]
theorem itemFulls_true (h : Head) (other : List UInt8) (hb : BdH h) (hk : 10000000000000 ≤ k) (ho : other.length ≤ 140737488351232) (halive : kp E k (n + 4) law09_alive [] = some (.bool true))
    (hw : FewH h → ∃ w : Int, kp E k (n + 4) item_Wrong [.agg (encHead h)] = some (.int .i64 w) ∧ (w = 0 → h.name ≠ [] ∧ ¬ (h.kind = 1 ∧ sl h.name = true))) :
    kp E k (n + 5) law09_ItemFulls [.agg (encHead h), .str (str other)] = some (.bool true) := by
  have hm := many9_k (E := E) (k := k) (n := n + 3) h hb (by have := hb.2.2.2.2.2; omega)
  have hfu := fulls_k (E := E) (k := k) (n := n + 1) h (by have := hb.1; omega)
  unfold encHead at hw hm hfu ⊢
  rw [law09_ItemFulls_eq, halive, callB_ok, Bool.not_true, cond_false]
  rw [show kp E k (n + 4) law09_many [_] = _ from hm, callB_ok]
  cases hmb : manyB h with
  | true => rfl
  | false =>
    have hfew := few_of h hb hmb
    rw [cond_false, str_size]
    by_cases h2 : 2000 < other.length
    · rw [bif_t (by omega)]
    · rw [bif_f (by omega)]
      obtain ⟨w, hw1, hw2⟩ := hw hfew
      rw [hw1, callI_ok]
      by_cases h0 : w = 0
      · obtain ⟨a1, a2⟩ := hw2 h0
        obtain ⟨t1, t2⟩ := told_fulls h.kind h.name other a1 a2
        have hl := hfew.1
        have hlen : ∀ f ∈ fulls h.kind h.name, f.length ≤ 1000000 := by
          intro f hf
          unfold fulls at hf
          split at hf
          · split at hf
            · rw [List.mem_singleton.1 hf, List.length_append, List.length_singleton]; omega
            · rcases List.mem_cons.1 hf with rfl | hf
              · omega
              · rw [List.mem_singleton.1 hf, List.length_append, List.length_singleton]; omega
          · rw [List.mem_singleton.1 hf]; omega
        have hcount : 0 < (fulls h.kind h.name).length ∧ (fulls h.kind h.name).length ≤ 2 := by
          unfold fulls
          split
          · split <;> simp
          · simp
        rw [decide_eq_true h0, Bool.not_true, cond_false, hfu, callL_ok]
        have := fulls_loop (k := k) (kp E k (n + 4)) h other (fun f hf => told_k (n := n + 1) h.kind f (by omega)) (by omega) (fulls h.kind h.name) [] k false (by omega) (by simpa using (show (fulls h.kind h.name).length < 1000 by omega)) (by simpa using hcount.1) (fun f hf => ⟨hlen f hf, t1 f hf⟩)
        rw [List.nil_append] at this
        refine this.trans ?_
        rw [Bool.false_or]
        congr 2
        rw [beq_iff_eq, Bool.eq_iff_iff, decide_eq_true_eq, List.contains_iff_mem]
        exact t2
      · rw [decide_eq_false h0]; rfl
end Go.Proofs.YtilbahgfjfcikaaDoor.Eng.U
