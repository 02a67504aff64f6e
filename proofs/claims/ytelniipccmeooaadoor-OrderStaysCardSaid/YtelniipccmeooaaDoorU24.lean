/- The functions of the Path laws in plain words. -/
import Derived.Test.YtelniipccmeooaaDoorR24
import Derived.Test.YtelniipccmeooaaDoorE23
import Derived.Test.YtelniipccmeooaaDoorQ24
set_option linter.unusedVariables false
set_option linter.unusedSectionVars false
set_option linter.unusedSimpArgs false
namespace Go.Proofs.YtelniipccmeooaaDoor.Eng.U
open Go Go.Proofs Go.Proofs.YtelniipccmeooaaDoor.Eng Go.Proofs.YtelniipccmeooaaDoor.P24
variable {E : Ext} [Core E] {k n : Nat}

class HasParts (E : Ext) : Prop where
  parts : ∀ (k n : Nat) (s : List UInt8), s.length < 1000000 → kp E k n path_Parts [.str (str s)] = some (.list 1 (svs (partsL s)))
class HasJoin (E : Ext) : Prop where
  join : ∀ (k n : Nat) (l : List (List UInt8)) (sep : List UInt8), l.length ≤ 1000000 → (sep.intercalate l).length ≤ 1000000000 → kp E k n strings_Join [.list 1 (svs l), .str (str sep)] = some (.str (str (sep.intercalate l)))
theorem join_inter : ∀ l : List (List UInt8), ([47] : List UInt8).intercalate l = joinL l
  | [] => rfl
  | [p] => by simp [joinL, List.intercalate]
  | p :: q :: l => by
    have := join_inter (q :: l)
    simp only [joinL, List.intercalate, List.intersperse_cons_cons, List.flatten_cons] at this ⊢
    rw [this]
    simp

theorem prefix_k (s p : List UInt8) : kp E k (n + 1) stringslite_HasPrefix [.str (str s), .str (str p)] = some (.bool (decide (p <+: s))) := by
  rw [stringslite_HasPrefix_eq]
  rw [str_size, str_size, nge]
  by_cases h : p.length ≤ s.length
  · rw [dec0, Bool.true_and, decide_eq_true h, cond_true, cond_true, str_ext, str_dec]
    simp only [Int.toNat_natCast, List.drop_zero]
    congr 3
    rw [List.prefix_iff_eq_take]
    simp [eq_comm]
  · rw [decide_eq_false h, cond_false, decide_eq_false (fun hp => h hp.length_le)]
theorem hasPrefix_k (s p : List UInt8) : kp E k (n + 2) strings_HasPrefix [.str (str s), .str (str p)] = some (.bool (decide (p <+: s))) := by
  rw [strings_HasPrefix_eq, prefix_k, callB_ok]
theorem abs_prefix (s : List UInt8) : decide (([47] : List UInt8) <+: s) = isAbs s := by
  cases s with
  | nil => simp [isAbs]
  | cons c s =>
    simp only [isAbs, List.cons_prefix_cons, List.nil_prefix, and_true]
    rw [Bool.eq_iff_iff, decide_eq_true_eq, beq_iff_eq]
    exact eq_comm
theorem absolute_k (s : List UInt8) : kp E k (n + 3) path_absolute [.str (str s)] = some (.bool (isAbs s)) := by
  rw [path_absolute_eq, hasPrefix_k, callB_ok, abs_prefix]
theorem root_k (s : List UInt8) : kp E k (n + 1) ref24_Root [.str (str s)] = some (.bool (isAbs s)) := by
  rw [ref24_Root_eq, str_dec]
  cases s with
  | nil => rfl
  | cons c s =>
    rw [decide_eq_false (by simp), Bool.not_false, cond_true, str_size, decide_eq_true (by simp), cond_true, str_byte]
    simp only [List.getD_cons_zero, isAbs, Option.some.injEq, AV.bool.injEq]
    rw [Bool.eq_iff_iff]
    simp only [decide_eq_true_eq, beq_iff_eq]
    constructor
    · intro h; exact UInt8.toNat_inj.1 (show c.toNat = 47 by omega)
    · rintro rfl; rfl

/-! slices.Index, Contains, Equal; the law's own same. -/
theorem index_loop (kap : FuncId → List AV → Option AV) (x : List UInt8) : ∀ (suf pre : List (List UInt8)) (k0 : Nat), suf.length < k0 → (pre ++ suf).length < 1000000000 →
    slices_Index_string_L0 kap k k0 (svs (pre ++ suf)) (str x) (((pre ++ suf).length : Nat) : Int) ((pre.length : Nat) : Int) = some (.int .i64 (match suf.findIdx? (· == x) with | some i => ((pre.length + i : Nat) : Int) | none => -1))
  | [], pre, k0 + 1, h, hb => by
    rw [slices_Index_string_L0_s, nlt]
    simp
  | p :: suf, pre, k0 + 1, h, hb => by
    rw [slices_Index_string_L0_s, svs_len, mid_len, dec0, Bool.true_and, nlt, decide_eq_true (by omega), cond_true, cond_true, Int.toNat_natCast, svs_mid, str_dec]
    by_cases hx : p = x
    · subst hx
      rw [decide_eq_true rfl, cond_true, List.findIdx?_cons]
      simp
    · rw [decide_eq_false (fun e => hx e.symm), cond_false, wrap1 (by rw [mid_len] at hb; omega)]
      have := index_loop kap x suf (pre ++ [p]) k0 (by simpa using h) (by simpa using hb)
      simp only [List.append_assoc, List.cons_append, List.nil_append, List.length_append, List.length_cons, List.length_nil] at this
      rw [show pre.length + suf.length + 1 = pre.length + (suf.length + 1) from by omega, this, List.findIdx?_cons]
      simp only [beq_iff_eq, hx, if_false]
      cases suf.findIdx? (· == x) with
      | none => simp
      | some i => simp; omega
theorem index_k (l : List (List UInt8)) (x : List UInt8) (hb : l.length < 1000000000) (hk : l.length < k) : kp E k (n + 1) slices_Index_string [.list 1 (svs l), .str (str x)] = some (.int .i64 (match l.findIdx? (· == x) with | some i => (i : Int) | none => -1)) := by
  rw [slices_Index_string_eq, svs_len]
  have := index_loop (k := k) (kp E k n) x l [] k hk (by simpa using hb)
  simp only [List.nil_append, List.length_nil, Nat.zero_add] at this
  exact this
theorem contains_k (l : List (List UInt8)) (x : List UInt8) (hb : l.length < 1000000000) (hk : l.length < k) : kp E k (n + 2) slices_Contains_string [.list 1 (svs l), .str (str x)] = some (.bool (l.contains x)) := by
  rw [slices_Contains_string_eq, index_k l x hb hk, callI_ok]
  congr 2
  cases h : l.findIdx? (· == x) with
  | none =>
    rw [List.findIdx?_eq_none_iff] at h
    have : l.contains x = false := by
      rw [Bool.eq_false_iff]
      intro hc
      have := h x (List.contains_iff_mem.1 hc)
      simp at this
    rw [this]; simp
  | some i =>
    rw [List.findIdx?_eq_some_iff_getElem] at h
    obtain ⟨hi, hx, _⟩ := h
    have : l.contains x = true := List.contains_iff_mem.2 (by
      have : l[i] = x := by simpa using hx
      rw [← this]; exact List.getElem_mem hi)
    rw [this]; simp
theorem equal_loop (kap : FuncId → List AV → Option AV) (b pb : List (List UInt8)) : ∀ (suf pre sb pb : List (List UInt8)) (k0 : Nat), suf.length < k0 → (pre ++ suf).length < 1000000000 → suf.length = sb.length → pre.length = pb.length →
    slices_Equal_string_L0 kap k k0 (svs (pre ++ suf)) (svs (pb ++ sb)) (((pre ++ suf).length : Nat) : Int) ((pre.length : Nat) : Int) = some (.bool (decide (suf = sb)))
  | [], pre, [], pb, k0 + 1, h, hb, hl, hp => by
    rw [slices_Equal_string_L0_s, nlt]
    simp
  | p :: suf, pre, q :: sb, pb, k0 + 1, h, hb, hl, hp => by
    have hm := mid_len pre suf p
    have hm2 := mid_len pb sb q
    rw [slices_Equal_string_L0_s, svs_len, svs_len, hm, hm2, dec0, Bool.true_and, nlt, decide_eq_true (by omega), cond_true, cond_true, Bool.true_and, nlt, decide_eq_true (by omega), Int.toNat_natCast, svs_mid, cond_true, hp, svs_mid, str_dec, ← hp, ← hm]
    by_cases hx : p = q
    · subst hx
      rw [decide_eq_true rfl, Bool.not_true, cond_false, wrap1 (by omega)]
      have := equal_loop kap b pb suf (pre ++ [p]) sb (pb ++ [p]) k0 (by simpa using h) (by simpa using hb) (by simpa using hl) (by simp [hp])
      simp only [List.append_assoc, List.cons_append, List.nil_append] at this
      rw [show ((pre.length + 1 : Nat) : Int) = (((pre ++ [p]).length : Nat) : Int) from by simp, this]
      simp
    · rw [decide_eq_false hx, Bool.not_false, cond_true]
      simp [hx]
  | [], pre, q :: sb, pb, k0, h, hb, hl, hp => by simp at hl
  | p :: suf, pre, [], pb, k0, h, hb, hl, hp => by simp at hl
theorem equal_k (a b : List (List UInt8)) (hb : a.length < 1000000000) (hk : a.length < k) : kp E k (n + 1) slices_Equal_string [.list 1 (svs a), .list 1 (svs b)] = some (.bool (decide (a = b))) := by
  rw [slices_Equal_string_eq, svs_len, svs_len, neq_]
  by_cases h : a.length = b.length
  · rw [decide_eq_true h, Bool.not_true, cond_false]
    exact equal_loop (k := k) (kp E k n) [] [] a [] b [] k hk (by simpa using hb) h rfl
  · rw [decide_eq_false h, Bool.not_false, cond_true, decide_eq_false (fun e => h (by rw [e]))]
/-! The parts, as the reference gathers them. -/
def glue (p suf : List UInt8) : List (List UInt8) := match pieces suf with
  | [] => [p]
  | q :: qs => (p ++ q) :: qs
theorem glue_nil (suf : List UInt8) : glue [] suf = pieces suf := by
  unfold glue
  cases h : pieces suf with
  | nil => exact absurd h (pieces_ne _)
  | cons q qs => rfl
theorem glue_slash (p suf : List UInt8) : glue p (47 :: suf) = p :: glue [] suf := by
  rw [glue_nil]
  unfold glue
  rw [pieces_cons, if_pos rfl]
  simp
theorem glue_other (p suf : List UInt8) {c : UInt8} (h : c ≠ 47) : glue p (c :: suf) = glue (p ++ [c]) suf := by
  unfold glue
  rw [pieces_cons, if_neg h]
  cases hh : pieces suf with
  | nil => exact absurd hh (pieces_ne _)
  | cons q qs => simp
theorem flt_one (p : List UInt8) : flt [p] = if p = [] ∨ p = [46] then [] else [p] := by
  by_cases h1 : p = []
  · subst h1; rfl
  · by_cases h2 : p = [46]
    · subst h2; rfl
    · have hg : good p = true := by simp [good, h1, h2]
      simp [flt, hg, h1, h2]
theorem parts_loop (kap : FuncId → List AV → Option AV) : ∀ (suf pre p : List UInt8) (out : List (List UInt8)) (k0 : Nat), suf.length + 1 < k0 → (pre ++ suf).length < 1000000 → p.length ≤ pre.length → out.length ≤ pre.length →
    ref24_Parts_L0 kap k k0 (str (pre ++ suf)) (str p) ((pre.length : Nat) : Int) (svs out) = some (.list 1 (svs (out ++ flt (glue p suf))))
  | [], pre, p, out, k0 + 2, h, hb, hp, ho => by
    rw [List.append_nil] at hb ⊢
    have hend : ∀ x, ref24_Parts_L0 kap k (k0 + 1) (str pre) (str []) ((pre.length + 1 : Nat) : Int) x = some (.list 1 x) := by
      intro x
      rw [ref24_Parts_L0_s]
      simp (disch := first | omega | (simp only [List.length_append, List.length_cons, List.length_nil, List.length_take, List.length_drop]; done) | (simp only [List.length_append, List.length_cons, List.length_nil, List.length_take, List.length_drop]; omega) | fail) only [bif_t, bif_f, bif_n, bif_a, callB_ok, callI_ok, callS_ok, callL_ok, callF_ok, callT_ok, tupB_ok, tupI_ok, tupS_ok, tupL_ok, tupF_ok, atNil_ok, wrap1, wrapM, wrapP, Int.toNat_natCast, svs_len, ivs_len, bvs_len, str_size, svs_mid, ivs_mid, str_dec, str_ext, str_byte, mid_byte, mid_cut, List.length_nil, List.length_singleton, svs_snoc, ivs_snoc, svs_take, svs_drop, str_app, List.take_length, List.drop_zero, List.nil_append, cond_true, cond_false, Option.bind_some, Bool.not_true, Bool.not_false, Bool.true_and, Bool.and_true]
    rw [ref24_Parts_L0_s]
    simp (disch := first | omega | (simp only [List.length_append, List.length_cons, List.length_nil, List.length_take, List.length_drop]; done) | (simp only [List.length_append, List.length_cons, List.length_nil, List.length_take, List.length_drop]; omega) | fail) only [bif_t, bif_f, bif_n, bif_a, callB_ok, callI_ok, callS_ok, callL_ok, callF_ok, callT_ok, tupB_ok, tupI_ok, tupS_ok, tupL_ok, tupF_ok, atNil_ok, wrap1, wrapM, wrapP, Int.toNat_natCast, svs_len, ivs_len, bvs_len, str_size, svs_mid, ivs_mid, str_dec, str_ext, str_byte, mid_byte, mid_cut, List.length_nil, List.length_singleton, svs_snoc, ivs_snoc, svs_take, svs_drop, str_app, List.take_length, List.drop_zero, List.nil_append, cond_true, cond_false, Option.bind_some, Bool.not_true, Bool.not_false, Bool.true_and, Bool.and_true, hend]
    have : glue p [] = [p] := by simp [glue, pieces]
    rw [this, flt_one]
    by_cases h1 : p = []
    · simp [h1]
    · by_cases h2 : p = [46]
      · simp [h2]
      · simp [h1, h2]
  | c :: suf, pre, p, out, k0 + 1, h, hb, hp, ho => by
    have hm := mid_len pre suf c
    have go : ∀ (p' : List UInt8) (out' : List (List UInt8)), p'.length ≤ pre.length + 1 → out'.length ≤ pre.length + 1 →
        ref24_Parts_L0 kap k k0 (str (pre ++ c :: suf)) (str p') ((pre.length + 1 : Nat) : Int) (svs out') = some (.list 1 (svs (out' ++ flt (glue p' suf)))) := by
      intro p' out' h1 h2
      have := parts_loop kap suf (pre ++ [c]) p' out' k0 (by simpa using h) (by simpa using hb) (by simpa using h1) (by simpa using h2)
      simpa using this
    rw [ref24_Parts_L0_s]
    simp (disch := first | omega | (simp only [List.length_append, List.length_cons, List.length_nil, List.length_take, List.length_drop]; done) | (simp only [List.length_append, List.length_cons, List.length_nil, List.length_take, List.length_drop]; omega) | fail) only [bif_t, bif_f, bif_n, bif_a, callB_ok, callI_ok, callS_ok, callL_ok, callF_ok, callT_ok, tupB_ok, tupI_ok, tupS_ok, tupL_ok, tupF_ok, atNil_ok, wrap1, wrapM, wrapP, Int.toNat_natCast, svs_len, ivs_len, bvs_len, str_size, svs_mid, ivs_mid, str_dec, str_ext, str_byte, mid_byte, mid_cut, List.length_nil, List.length_singleton, svs_snoc, ivs_snoc, svs_take, svs_drop, str_app, List.take_length, List.drop_zero, List.nil_append, cond_true, cond_false, Option.bind_some, Bool.not_true, Bool.not_false, Bool.true_and, Bool.and_true, hm, go]
    rw [show ((47 : Int)) = ((47 : Nat) : Int) from rfl, byte_is c 47 (by omega)]
    by_cases hc : c = 47
    · subst hc
      rw [glue_slash, show p :: glue [] suf = [p] ++ glue [] suf from rfl, flt_app, flt_one]
      by_cases h1 : p = []
      · simp [h1]
      · by_cases h2 : p = [46]
        · simp [h2]
        · simp [h1, h2]
    · rw [glue_other p suf hc]
      simp [hc]
theorem ref_parts_k (s : List UInt8) (hb : s.length < 1000000) (hk : s.length + 1 < k) : kp E k (n + 1) ref24_Parts [.str (str s)] = some (.list 1 (svs (partsL s))) := by
  rw [ref24_Parts_eq]
  have := parts_loop (k := k) (kp E k n) s [] [] [] k hk (by simpa using hb) (by simp) (by simp)
  simp only [List.nil_append, List.length_nil, glue_nil] at this
  exact this

/-! The stack, as the program builds it. -/
theorem last_at (st : List (List UInt8)) (h : st ≠ []) {β : Type} (K : ByteArray → Option β) : (((svs st)[st.length - 1]?).bind fun y => cellS (AV.cells y) 0 K) = K (str (st.getLast h)) := by
  rw [svs_at st _ (by have := List.length_pos_iff.2 h; omega), List.getLast_eq_getElem]
theorem stack_loop [HasParts E] (s : List UInt8) : ∀ (suf pre st : List (List UInt8)) (k0 : Nat), suf.length < k0 → (pre ++ suf).length < 1000000 → st.length ≤ pre.length →
    path_stack_L0 (kp E k (n + 3)) k k0 (str s) (svs (pre ++ suf)) (((pre ++ suf).length : Nat) : Int) ((pre.length : Nat) : Int) (svs st) = some (.list 1 (svs (suf.foldl (push (isAbs s)) st)))
  | [], pre, st, k0 + 1, h, hb, hs => by
    rw [path_stack_L0_s]
    simp (disch := first | omega | (simp only [List.length_append, List.length_cons, List.length_nil, List.length_take, List.length_drop]; done) | (simp only [List.length_append, List.length_cons, List.length_nil, List.length_take, List.length_drop]; omega) | fail) only [bif_t, bif_f, bif_n, bif_a, callB_ok, callI_ok, callS_ok, callL_ok, callF_ok, callT_ok, tupB_ok, tupI_ok, tupS_ok, tupL_ok, tupF_ok, atNil_ok, wrap1, wrapM, wrapP, Int.toNat_natCast, svs_len, ivs_len, bvs_len, str_size, svs_mid, ivs_mid, str_dec, str_ext, str_byte, mid_byte, mid_cut, List.length_nil, List.length_singleton, svs_snoc, ivs_snoc, svs_take, svs_drop, str_app, List.take_length, List.drop_zero, List.nil_append, cond_true, cond_false, Option.bind_some, Bool.not_true, Bool.not_false, Bool.true_and, Bool.and_true, List.append_nil]
    rfl
  | p :: suf, pre, st, k0 + 1, h, hb, hs => by
    have hm := mid_len pre suf p
    have go : ∀ st' : List (List UInt8), st'.length ≤ pre.length + 1 → path_stack_L0 (kp E k (n + 3)) k k0 (str s) (svs (pre ++ p :: suf)) ((pre.length + suf.length + 1 : Nat) : Int) ((pre.length + 1 : Nat) : Int) (svs st') = some (.list 1 (svs (suf.foldl (push (isAbs s)) st'))) := by
      intro st' hs'
      have := stack_loop s suf (pre ++ [p]) st' k0 (by simpa using h) (by simpa using hb) (by simpa using hs')
      rw [← mid_snoc, hm] at this
      simpa using this
    rw [path_stack_L0_s]
    simp (disch := first | omega | (simp only [List.length_append, List.length_cons, List.length_nil, List.length_take, List.length_drop]; done) | (simp only [List.length_append, List.length_cons, List.length_nil, List.length_take, List.length_drop]; omega) | fail) only [bif_t, bif_f, bif_n, bif_a, callB_ok, callI_ok, callS_ok, callL_ok, callF_ok, callT_ok, tupB_ok, tupI_ok, tupS_ok, tupL_ok, tupF_ok, atNil_ok, wrap1, wrapM, wrapP, Int.toNat_natCast, svs_len, ivs_len, bvs_len, str_size, svs_mid, ivs_mid, str_dec, str_ext, str_byte, mid_byte, mid_cut, List.length_nil, List.length_singleton, svs_snoc, ivs_snoc, svs_take, svs_drop, str_app, List.take_length, List.drop_zero, List.nil_append, cond_true, cond_false, Option.bind_some, Bool.not_true, Bool.not_false, Bool.true_and, Bool.and_true, hm, absolute_k, go]
    rw [List.foldl_cons]
    unfold push
    by_cases hp : p = dd
    · rw [if_neg (by simp [hp]), decide_eq_true (show p = [46, 46] from hp), cond_true]
      by_cases hst : st = []
      · subst hst
        simp (disch := first | omega | (simp only [List.length_append, List.length_cons, List.length_nil, List.length_take, List.length_drop]; done) | (simp only [List.length_append, List.length_cons, List.length_nil, List.length_take, List.length_drop]; omega) | fail) only [bif_t, bif_f, bif_n, bif_a, callB_ok, callI_ok, callS_ok, callL_ok, callF_ok, callT_ok, tupB_ok, tupI_ok, tupS_ok, tupL_ok, tupF_ok, atNil_ok, wrap1, wrapM, wrapP, Int.toNat_natCast, svs_len, ivs_len, bvs_len, str_size, svs_mid, ivs_mid, str_dec, str_ext, str_byte, mid_byte, mid_cut, List.length_nil, List.length_singleton, svs_snoc, ivs_snoc, svs_take, svs_drop, str_app, List.take_length, List.drop_zero, List.nil_append, cond_true, cond_false, Option.bind_some, Bool.not_true, Bool.not_false, Bool.true_and, Bool.and_true]
        cases isAbs s <;> rfl
      · have hl := List.length_pos_iff.2 hst
        simp (disch := first | omega | (simp only [List.length_append, List.length_cons, List.length_nil, List.length_take, List.length_drop]; done) | (simp only [List.length_append, List.length_cons, List.length_nil, List.length_take, List.length_drop]; omega) | fail) only [bif_t, bif_f, bif_n, bif_a, callB_ok, callI_ok, callS_ok, callL_ok, callF_ok, callT_ok, tupB_ok, tupI_ok, tupS_ok, tupL_ok, tupF_ok, atNil_ok, wrap1, wrapM, wrapP, Int.toNat_natCast, svs_len, ivs_len, bvs_len, str_size, svs_mid, ivs_mid, str_dec, str_ext, str_byte, mid_byte, mid_cut, List.length_nil, List.length_singleton, svs_snoc, ivs_snoc, svs_take, svs_drop, str_app, List.take_length, List.drop_zero, List.nil_append, cond_true, cond_false, Option.bind_some, Bool.not_true, Bool.not_false, Bool.true_and, Bool.and_true, last_at st hst, hm, go]
        by_cases he : st.getLast hst = dd
        · rw [decide_eq_true (show st.getLast hst = [46, 46] from he), cond_true, if_neg (by rw [List.getLast?_eq_some_getLast hst, he]; simp)]
          cases isAbs s <;> rfl
        · rw [decide_eq_false (show ¬ st.getLast hst = [46, 46] from he), cond_false, if_pos ⟨hst, by rw [List.getLast?_eq_some_getLast hst]; simpa using he⟩, List.dropLast_eq_take]
    · rw [decide_eq_false (show ¬ p = [46, 46] from hp), cond_false, if_pos hp]
theorem stack_k [HasParts E] (s : List UInt8) (hb : s.length < 100000) (hk : s.length + 1 < k) : kp E k (n + 4) path_stack [.str (str s)] = some (.list 1 (svs (stk s))) := by
  rw [path_stack_eq, HasParts.parts _ _ _ (by omega), callL_ok, svs_len]
  have hl := parts_len s
  have := stack_loop (k := k) (n := n) (E := E) s (partsL s) [] [] k (by omega) (by simp; omega) (by simp)
  simp only [List.nil_append, List.length_nil] at this
  rw [stk_fold] at this
  exact this

/-! What is left, as the reference takes pairs off. -/
theorem left2 (s : List UInt8) : ∀ (l : List (List UInt8)) (k0 : Nat), l.length < k0 → l.length < 1000000 →
    ref24_Left_L2 (kp E k (n + 1)) k k0 (str s) (svs l) = some (.list 1 (svs (leftP (isAbs s) l)))
  | [], k0 + 1, h, hb => by
    rw [ref24_Left_L2_s]
    simp (disch := first | omega | (simp only [List.length_append, List.length_cons, List.length_nil, List.length_take, List.length_drop]; done) | (simp only [List.length_append, List.length_cons, List.length_nil, List.length_take, List.length_drop]; omega) | fail) only [bif_t, bif_f, bif_n, bif_a, callB_ok, callI_ok, callS_ok, callL_ok, callF_ok, callT_ok, tupB_ok, tupI_ok, tupS_ok, tupL_ok, tupF_ok, atNil_ok, wrap1, wrapM, wrapP, Int.toNat_natCast, svs_len, ivs_len, bvs_len, str_size, svs_mid, ivs_mid, str_dec, str_ext, str_byte, mid_byte, mid_cut, List.length_nil, List.length_singleton, svs_snoc, ivs_snoc, svs_take, svs_drop, str_app, List.take_length, List.drop_zero, List.nil_append, cond_true, cond_false, Option.bind_some, Bool.not_true, Bool.not_false, Bool.true_and, Bool.and_true, root_k]
    cases isAbs s <;> rfl
  | p :: l, k0 + 1, h, hb => by
    have ih := left2 s l k0 (by simpa using h) (by simp at hb; omega)
    have h0 : ∀ (K : ByteArray → Option AV), (((svs (p :: l))[0]?).bind fun y => cellS (AV.cells y) 0 K) = K (str p) := fun K => svs_at (p :: l) 0 (by simp) K
    rw [ref24_Left_L2_s]
    simp (disch := first | omega | (simp only [List.length_append, List.length_cons, List.length_nil, List.length_take, List.length_drop]; done) | (simp only [List.length_append, List.length_cons, List.length_nil, List.length_take, List.length_drop]; omega) | fail) only [bif_t, bif_f, bif_n, bif_a, callB_ok, callI_ok, callS_ok, callL_ok, callF_ok, callT_ok, tupB_ok, tupI_ok, tupS_ok, tupL_ok, tupF_ok, atNil_ok, wrap1, wrapM, wrapP, Int.toNat_natCast, svs_len, ivs_len, bvs_len, str_size, svs_mid, ivs_mid, str_dec, str_ext, str_byte, mid_byte, mid_cut, List.length_nil, List.length_singleton, svs_snoc, ivs_snoc, svs_take, svs_drop, str_app, List.take_length, List.drop_zero, List.nil_append, cond_true, cond_false, Option.bind_some, Bool.not_true, Bool.not_false, Bool.true_and, Bool.and_true, root_k, h0]
    cases ha : isAbs s with
    | false => simp [leftP]
    | true =>
      rw [ha] at ih
      by_cases hp : p = dd
      · subst hp
        simp only [cond_true, leftP, if_true, dd] at ih ⊢
        simp [ih]
      · rw [cond_true, decide_eq_false (show ¬ p = [46, 46] from hp)]
        simp [leftP, hp]
theorem left1 (s : List UInt8) (k0 : Nat) : ∀ (suf pre : List (List UInt8)) (k1 : Nat), suf.length + 2 < k1 → (pre ++ suf).length < 1000000 →
    ref24_Left_L1 (kp E k (n + 1)) k k0 k1 (str s) (svs (pre ++ suf)) (-1) ((pre.length : Nat) : Int) =
      match findPair suf with
      | none => ref24_Left_L2 (kp E k (n + 1)) k k (str s) (svs (pre ++ suf))
      | some j => ref24_Left_L0 (kp E k (n + 1)) k k0 (str s) (svs ((pre ++ suf).take (pre.length + j) ++ (pre ++ suf).drop (pre.length + j + 2)))
  | [], pre, k1 + 1, h, hb => by
    rw [List.append_nil] at hb ⊢
    rw [ref24_Left_L1_s]
    simp (disch := first | omega | (simp only [List.length_append, List.length_cons, List.length_nil, List.length_take, List.length_drop]; done) | (simp only [List.length_append, List.length_cons, List.length_nil, List.length_take, List.length_drop]; omega) | fail) only [bif_t, bif_f, bif_n, bif_a, callB_ok, callI_ok, callS_ok, callL_ok, callF_ok, callT_ok, tupB_ok, tupI_ok, tupS_ok, tupL_ok, tupF_ok, atNil_ok, wrap1, wrapM, wrapP, Int.toNat_natCast, svs_len, ivs_len, bvs_len, str_size, svs_mid, ivs_mid, str_dec, str_ext, str_byte, mid_byte, mid_cut, List.length_nil, List.length_singleton, svs_snoc, ivs_snoc, svs_take, svs_drop, str_app, List.take_length, List.drop_zero, List.nil_append, cond_true, cond_false, Option.bind_some, Bool.not_true, Bool.not_false, Bool.true_and, Bool.and_true]
    rfl
  | [p], pre, k1 + 1, h, hb => by
    have hm := mid_len pre [] p
    rw [ref24_Left_L1_s]
    simp (disch := first | omega | (simp only [List.length_append, List.length_cons, List.length_nil, List.length_take, List.length_drop]; done) | (simp only [List.length_append, List.length_cons, List.length_nil, List.length_take, List.length_drop]; omega) | fail) only [bif_t, bif_f, bif_n, bif_a, callB_ok, callI_ok, callS_ok, callL_ok, callF_ok, callT_ok, tupB_ok, tupI_ok, tupS_ok, tupL_ok, tupF_ok, atNil_ok, wrap1, wrapM, wrapP, Int.toNat_natCast, svs_len, ivs_len, bvs_len, str_size, svs_mid, ivs_mid, str_dec, str_ext, str_byte, mid_byte, mid_cut, List.length_nil, List.length_singleton, svs_snoc, ivs_snoc, svs_take, svs_drop, str_app, List.take_length, List.drop_zero, List.nil_append, cond_true, cond_false, Option.bind_some, Bool.not_true, Bool.not_false, Bool.true_and, Bool.and_true, hm]
    rfl
  | p :: q :: suf, pre, k1 + 2, h, hb => by
    have hm := mid_len pre (q :: suf) p
    have h1 : ∀ (K : ByteArray → Option AV), (((svs (pre ++ p :: q :: suf))[pre.length + 1]?).bind fun y => cellS (AV.cells y) 0 K) = K (str q) := fun K => by
      rw [svs_at _ _ (by rw [hm]; simp)]
      congr 2
      rw [List.getElem_append_right (by omega)]
      simp
    have ih := left1 s k0 (q :: suf) (pre ++ [p]) (k1 + 1) (by simp at h ⊢; omega) (by simpa using hb)
    rw [← mid_snoc, List.length_append, List.length_singleton] at ih
    have hl : (q :: suf).length = suf.length + 1 := rfl
    rw [ref24_Left_L1_s]
    simp (disch := first | omega | (simp only [List.length_append, List.length_cons, List.length_nil, List.length_take, List.length_drop]; done) | (simp only [List.length_append, List.length_cons, List.length_nil, List.length_take, List.length_drop]; omega) | fail) only [bif_t, bif_f, bif_n, bif_a, callB_ok, callI_ok, callS_ok, callL_ok, callF_ok, callT_ok, tupB_ok, tupI_ok, tupS_ok, tupL_ok, tupF_ok, atNil_ok, wrap1, wrapM, wrapP, Int.toNat_natCast, svs_len, ivs_len, bvs_len, str_size, svs_mid, ivs_mid, str_dec, str_ext, str_byte, mid_byte, mid_cut, List.length_nil, List.length_singleton, svs_snoc, ivs_snoc, svs_take, svs_drop, str_app, List.take_length, List.drop_zero, List.nil_append, cond_true, cond_false, Option.bind_some, Bool.not_true, Bool.not_false, Bool.true_and, Bool.and_true, hm, hl, h1, ih]
    have rest : (match findPair (q :: suf) with
        | none => ref24_Left_L2 (kp E k (n + 1)) k k (str s) (svs (pre ++ p :: q :: suf))
        | some j => ref24_Left_L0 (kp E k (n + 1)) k k0 (str s) (svs ((pre ++ p :: q :: suf).take (pre.length + 1 + j) ++ (pre ++ p :: q :: suf).drop (pre.length + 1 + j + 2)))) =
      (match (findPair (q :: suf)).map (· + 1) with
        | none => ref24_Left_L2 (kp E k (n + 1)) k k (str s) (svs (pre ++ p :: q :: suf))
        | some j => ref24_Left_L0 (kp E k (n + 1)) k k0 (str s) (svs ((pre ++ p :: q :: suf).take (pre.length + j) ++ (pre ++ p :: q :: suf).drop (pre.length + j + 2)))) := by
      cases findPair (q :: suf) with
      | none => rfl
      | some j =>
        simp only [Option.map_some]
        rw [show pre.length + 1 + j = pre.length + (j + 1) from by omega]
    rw [findPair_cons]
    by_cases hp : p = dd
    · rw [decide_eq_true (show p = [46, 46] from hp), cond_true, if_neg (by simp [hp]), rest]
    · rw [decide_eq_false (show ¬ p = [46, 46] from hp), cond_false]
      by_cases hq : q = dd
      · rw [decide_eq_true (show q = [46, 46] from hq), cond_true, if_pos ⟨hp, hq⟩, ref24_Left_L1_s]
        have w2 : IntKind.wrap .i64 (((pre.length : Nat) : Int) + 2) = ((pre.length + 2 : Nat) : Int) := by rw [i64w (by omega)]; omega
        have ht : (pre ++ p :: q :: suf).take (pre.length + (suf.length + 1) + 1) = pre ++ p :: q :: suf := List.take_of_length_le (by rw [hm]; simp)
        simp (disch := first | omega | (simp only [List.length_append, List.length_cons, List.length_nil, List.length_take, List.length_drop]; done) | (simp only [List.length_append, List.length_cons, List.length_nil, List.length_take, List.length_drop]; omega) | fail) only [bif_t, bif_f, bif_n, bif_a, callB_ok, callI_ok, callS_ok, callL_ok, callF_ok, callT_ok, tupB_ok, tupI_ok, tupS_ok, tupL_ok, tupF_ok, atNil_ok, wrap1, wrapM, wrapP, Int.toNat_natCast, svs_len, ivs_len, bvs_len, str_size, svs_mid, ivs_mid, str_dec, str_ext, str_byte, mid_byte, mid_cut, List.length_nil, List.length_singleton, svs_snoc, ivs_snoc, svs_take, svs_drop, str_app, List.take_length, List.drop_zero, List.nil_append, cond_true, cond_false, Option.bind_some, Bool.not_true, Bool.not_false, Bool.true_and, Bool.and_true, hm, hl, w2, svs_app, Nat.zero_add, Nat.add_zero, ht, Bool.cond_self]
      · rw [decide_eq_false (show ¬ q = [46, 46] from hq), cond_false, if_neg (by simp [hq]), rest]
theorem left0 (s : List UInt8) : ∀ (m : Nat) (l : List (List UInt8)) (k0 : Nat), l.length ≤ m → m < k0 → m + 3 < k → m < 1000000 →
    ref24_Left_L0 (kp E k (n + 1)) k k0 (str s) (svs l) = some (.list 1 (svs (leftP (isAbs s) (stOf false (nf l))))) := by
  intro m
  induction m with
  | zero =>
    intro l k0 hl hk hkk hb
    obtain ⟨k0, rfl⟩ : ∃ j, k0 = j + 1 := ⟨k0 - 1, by omega⟩
    obtain rfl : l = [] := List.eq_nil_of_length_eq_zero (by omega)
    rw [ref24_Left_L0_s]
    have := left1 (E := E) (k := k) (n := n) s k0 [] [] k (by simp; omega) (by simp)
    simp only [List.append_nil, List.length_nil] at this
    refine this.trans ?_
    exact left2 s [] k (by simp; omega) (by simp)
  | succ m ih =>
    intro l k0 hl hk hkk hb
    obtain ⟨k0, rfl⟩ : ∃ j, k0 = j + 1 := ⟨k0 - 1, by omega⟩
    rw [ref24_Left_L0_s]
    have := left1 (E := E) (k := k) (n := n) s k0 l [] k (by omega) (by simp; omega)
    simp only [List.nil_append, List.length_nil, Nat.zero_add] at this
    refine this.trans ?_
    cases hf : findPair l with
    | none => rw [← left_none _ hf]; exact left2 s l k (by omega) (by omega)
    | some j =>
      obtain ⟨a, x, b, e, ha, hx⟩ := findPair_some hf
      subst e
      subst ha
      simp only
      rw [cut_pair, ih (a ++ b) k0 (by simp at hl ⊢; omega) (by omega) (by omega) (by omega), left_pair _ a b hx]
theorem left_k (s : List UInt8) (hb : s.length < 100000) (hk : s.length + 10 < k) : kp E k (n + 2) ref24_Left [.str (str s)] = some (.list 1 (svs (stk s))) := by
  have hl := parts_len s
  rw [ref24_Left_eq, ref_parts_k s (by omega) (by omega), callL_ok, left0 s (s.length + 1) _ _ hl (by omega) (by omega) (by omega), left_stk]
  rfl

/-! Forms, and what is asked of names. -/
theorem form_k [HasJoin E] (root : Bool) (l : List (List UInt8)) (h1 : l.length ≤ 1000000) (h2 : l.flatten.length ≤ 1000000) : kp E k (n + 1) path_form [.bool root, .list 1 (svs l)] = some (.str (str (formL root l))) := by
  have hj := join_len l
  rw [path_form_eq, HasJoin.join _ _ _ _ h1 (by rw [join_inter]; omega), join_inter]
  simp (disch := first | omega | (simp only [List.length_append, List.length_cons, List.length_nil, List.length_take, List.length_drop]; done) | (simp only [List.length_append, List.length_cons, List.length_nil, List.length_take, List.length_drop]; omega) | fail) only [bif_t, bif_f, bif_n, bif_a, callB_ok, callI_ok, callS_ok, callL_ok, callF_ok, callT_ok, tupB_ok, tupI_ok, tupS_ok, tupL_ok, tupF_ok, atNil_ok, wrap1, wrapM, wrapP, Int.toNat_natCast, svs_len, ivs_len, bvs_len, str_size, svs_mid, ivs_mid, str_dec, str_ext, str_byte, mid_byte, mid_cut, List.length_nil, List.length_singleton, svs_snoc, ivs_snoc, svs_take, svs_drop, str_app, List.take_length, List.drop_zero, List.nil_append, cond_true, cond_false, Option.bind_some, Bool.not_true, Bool.not_false, Bool.true_and, Bool.and_true]
  unfold formL
  cases root with
  | true => rfl
  | false =>
    by_cases h : joinL l = []
    · rw [h]; rfl
    · rw [decide_eq_false h]; simp [h]
/-- A text of parts, gathered. -/
def gather (acc : List UInt8) (first : Bool) : List (List UInt8) → List UInt8
  | [] => acc
  | p :: l => gather (if first then acc ++ p else acc ++ [47] ++ p) false l
theorem gather_join : ∀ (l : List (List UInt8)) (acc : List UInt8), gather acc false l = (if l = [] then acc else acc ++ [47] ++ joinL l)
  | [], acc => rfl
  | [p], acc => by simp [gather, joinL]
  | p :: q :: l, acc => by
    rw [gather, if_neg (by simp), gather_join (q :: l)]
    simp [joinL]
theorem gather_all : ∀ (l : List (List UInt8)), gather [] true l = joinL l
  | [] => rfl
  | [p] => by simp [gather, joinL]
  | p :: q :: l => by
    rw [gather, if_pos rfl, gather_join]
    simp [joinL]
theorem form_loop (kap : FuncId → List AV → Option AV) (root : Bool) : ∀ (suf pre : List (List UInt8)) (acc : List UInt8) (k0 : Nat), suf.length < k0 → (pre ++ suf).length < 1000000 → acc.length + suf.flatten.length + suf.length < 1000000000 →
    ref24_Form_L0 kap k k0 root (svs (pre ++ suf)) (str acc) ((pre.length : Nat) : Int) =
      some (.str (str (if root then 47 :: gather acc (decide (pre = [])) suf else if gather acc (decide (pre = [])) suf = [] then [46] else gather acc (decide (pre = [])) suf)))
  | [], pre, acc, k0 + 1, h, hb, hc => by
    rw [List.append_nil] at hb ⊢
    rw [ref24_Form_L0_s]
    simp (disch := first | omega | (simp only [List.length_append, List.length_cons, List.length_nil, List.length_take, List.length_drop]; done) | (simp only [List.length_append, List.length_cons, List.length_nil, List.length_take, List.length_drop]; omega) | fail) only [bif_t, bif_f, bif_n, bif_a, callB_ok, callI_ok, callS_ok, callL_ok, callF_ok, callT_ok, tupB_ok, tupI_ok, tupS_ok, tupL_ok, tupF_ok, atNil_ok, wrap1, wrapM, wrapP, Int.toNat_natCast, svs_len, ivs_len, bvs_len, str_size, svs_mid, ivs_mid, str_dec, str_ext, str_byte, mid_byte, mid_cut, List.length_nil, List.length_singleton, svs_snoc, ivs_snoc, svs_take, svs_drop, str_app, List.take_length, List.drop_zero, List.nil_append, cond_true, cond_false, Option.bind_some, Bool.not_true, Bool.not_false, Bool.true_and, Bool.and_true]
    cases root with
    | true => rfl
    | false =>
      by_cases h : acc = []
      · subst h; rfl
      · rw [decide_eq_false h]; simp [gather, h]
  | p :: suf, pre, acc, k0 + 1, h, hb, hc => by
    have hm := mid_len pre suf p
    have hfl : (p :: suf).flatten.length = p.length + suf.flatten.length := by simp
    have hsl : (p :: suf).length = suf.length + 1 := rfl
    have go : ∀ acc' : List UInt8, acc'.length ≤ acc.length + p.length + 1 → ref24_Form_L0 kap k k0 root (svs (pre ++ p :: suf)) (str acc') ((pre.length + 1 : Nat) : Int) =
        some (.str (str (if root then 47 :: gather acc' false suf else if gather acc' false suf = [] then [46] else gather acc' false suf))) := by
      intro acc' ha
      have := form_loop kap root suf (pre ++ [p]) acc' k0 (by simpa using h) (by simpa using hb) (by omega)
      rw [← mid_snoc, List.length_append, List.length_singleton, decide_eq_false (by simp)] at this
      exact this
    rw [ref24_Form_L0_s]
    simp (disch := first | omega | (simp only [List.length_append, List.length_cons, List.length_nil, List.length_take, List.length_drop]; done) | (simp only [List.length_append, List.length_cons, List.length_nil, List.length_take, List.length_drop]; omega) | fail) only [bif_t, bif_f, bif_n, bif_a, callB_ok, callI_ok, callS_ok, callL_ok, callF_ok, callT_ok, tupB_ok, tupI_ok, tupS_ok, tupL_ok, tupF_ok, atNil_ok, wrap1, wrapM, wrapP, Int.toNat_natCast, svs_len, ivs_len, bvs_len, str_size, svs_mid, ivs_mid, str_dec, str_ext, str_byte, mid_byte, mid_cut, List.length_nil, List.length_singleton, svs_snoc, ivs_snoc, svs_take, svs_drop, str_app, List.take_length, List.drop_zero, List.nil_append, cond_true, cond_false, Option.bind_some, Bool.not_true, Bool.not_false, Bool.true_and, Bool.and_true, hm, go]
    cases pre with
    | nil => simp [gather]
    | cons q pre => simp [gather]
theorem ref_form_k (root : Bool) (l : List (List UInt8)) (h1 : l.length < 1000000) (h2 : l.flatten.length < 1000000) (hk : l.length < k) : kp E k (n + 1) ref24_Form [.bool root, .list 1 (svs l)] = some (.str (str (formL root l))) := by
  rw [ref24_Form_eq]
  have := form_loop (k := k) (kp E k n) root l [] [] k hk (by simpa using h1) (by simp only [List.length_nil]; omega)
  simp only [List.nil_append, List.length_nil, decide_true, gather_all] at this
  exact this
end Go.Proofs.YtelniipccmeooaaDoor.Eng.U
