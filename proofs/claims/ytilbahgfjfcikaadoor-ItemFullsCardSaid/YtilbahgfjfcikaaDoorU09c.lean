/- Is any field of a head wrong: some number answers, and 0 says what ItemFulls wants. -/
import Derived.Test.YtilbahgfjfcikaaDoorU09b
import Derived.Test.YtilbahgfjfcikaaDoorV04
import Derived.Test.YtilbahgfjfcikaaDoorRS
set_option linter.unusedVariables false
set_option linter.unusedSectionVars false
set_option linter.unusedSimpArgs false
namespace Go.Proofs.YtilbahgfjfcikaaDoor.Eng.U
open Go Go.Proofs Go.Proofs.YtilbahgfjfcikaaDoor.Eng Go.Proofs.YtilbahgfjfcikaaDoor.P04
variable {E : Ext} [Core E] [HasNum E] {k n : Nat}

class HasText (E : Ext) : Prop where
  dec : ∀ (k n : Nat) (s : List UInt8), ∃ r w : Int, kp E k n unicode_utf8_DecodeRuneInString [.str (str s)] = some (.tup [.int .i32 r, .int .i64 w])
  idx : ∀ (k n : Nat) (s : List UInt8), s.length ≤ 1000000 → ∃ i : Int, kp E k n strings_IndexAny [.str (str s), .str (str [61, 0])] = some (.int .i64 i)
theorem snoc_pairs (s : List Pair) : s = [] ∨ ∃ l c, s = l ++ [c] := by
  induction s with
  | nil => exact .inl rfl
  | cons x s ih =>
    rcases ih with rfl | ⟨l, c, rfl⟩
    · exact .inr ⟨[], x, rfl⟩
    · exact .inr ⟨x :: l, c, rfl⟩
def IsB (x : Option AV) : Prop := ∃ b : Bool, x = some (.bool b)
theorem isB_some (b : Bool) : IsB (some (.bool b)) := ⟨b, rfl⟩
theorem isB_bif {c : Bool} {a b : Option AV} (h1 : IsB a) (h2 : IsB b) : IsB (bif c then a else b) := by cases c <;> assumption
theorem isB_callB {x : Option AV} {K : Bool → Option AV} (h : IsB x) (hK : ∀ b, IsB (K b)) : IsB (callB x K) := by
  obtain ⟨b, rfl⟩ := h
  rw [callB_ok]
  exact hK b
theorem clean_B (s : List UInt8) : IsB (kp E k (n + 1) text_Clean [.str (str s)]) := by
  rw [text_Clean_eq, HasNum.indexB, callI_ok]
  exact isB_some _
theorem pclean_B (s : List UInt8) : IsB (kp E k (n + 1) pax_clean [.str (str s)]) := by
  rw [pax_clean_eq, HasNum.indexB, callI_ok]
  exact isB_some _
theorem named_B (s : List UInt8) : IsB (kp E k (n + 2) item_named [.str (str s)]) := by
  rw [item_named_eq]
  exact isB_bif (isB_bif (isB_callB (clean_B s) isB_some) (isB_some _)) (isB_some _)
theorem named_ne (s : List UInt8) (h : kp E k (n + 2) item_named [.str (str s)] = some (.bool true)) : s ≠ [] := by
  rintro rfl
  rw [item_named_eq] at h
  cases h
theorem plain_B (s : List UInt8) : IsB (kp E k (n + 2) item_plain [.str (str s)]) := by
  rw [item_plain_eq]
  exact isB_bif (isB_callB (clean_B s) isB_some) (isB_some _)
section
variable [HasText E]
theorem wrong_B (s : List UInt8) (i : Nat) (r : Int) (hi : i ≤ s.length) : IsB (kp E k (n + 1) utf_wrong [.str (str s), .int .i64 (i : Int), .int .i32 r]) := by
  rw [utf_wrong_eq, str_size, inbE hi, cond_true, Int.toNat_natCast, str_ext]
  obtain ⟨x, w, h⟩ := HasText.dec (E := E) k n ((s.take s.length).drop i)
  rw [h, callT_ok, tupI_ok, tupI_ok, atNil_ok]
  exact isB_bif (isB_some _) (isB_some _)
theorem width_pos (s : ByteArray) (i : Nat) : 1 ≤ (Utf8.decode s i).2 := by
  rw [Lib.decode_at]
  unfold Lib.decodeN
  (repeat' split) <;> simp
theorem first_I (s : List UInt8) : ∀ (m k0 i : Nat), s.length - i < m → m ≤ k0 → ∃ r : Int, utf_First_L0 (kp E k (n + 1)) k k0 (str s) (str s) i = some (.int .i64 r)
  | 0, k0, i, h, _ => by omega
  | m + 1, k0 + 1, i, h, hk => by
    rw [utf_First_L0_s, str_size]
    by_cases hi : i < s.length
    · rw [decide_eq_true hi, cond_true]
      obtain ⟨b, hb⟩ := wrong_B (E := E) (k := k) (n := n) s i (((Utf8.decode (str s) i).1 : Nat) : Int) (by omega)
      rw [hb, callB_ok]
      cases b with
      | true => exact ⟨_, rfl⟩
      | false =>
        have hw := width_pos (str s) i
        exact first_I s m k0 (i + (Utf8.decode (str s) i).2) (by omega) (by omega)
    · rw [decide_eq_false hi, cond_false]
      exact ⟨_, rfl⟩
theorem utf_B (s : List UInt8) (hk : s.length < k) : IsB (kp E k (n + 3) utf_Right [.str (str s)]) := by
  obtain ⟨r, hr⟩ := first_I (E := E) (k := k) (n := n) s k k 0 (by omega) (Nat.le_refl _)
  rw [utf_Right_eq, utf_First_eq, hr, callI_ok]
  exact isB_some _
theorem any_B (s : List UInt8) (hs : s.length ≤ 1000000) : IsB (kp E k (n + 1) strings_ContainsAny [.str (str s), .str (str [61, 0])]) := by
  obtain ⟨i, hi⟩ := HasText.idx (E := E) k n s hs
  rw [strings_ContainsAny_eq, hi, callI_ok]
  exact isB_some _
theorem num_B (s : List UInt8) (hs : s.length ≤ 1000000) (hk : s.length < k) : IsB (callT (kp E k (n + 3) dec_Number [(.str (str s))]) fun vt6 => (tupI .i64 vt6 fun vn7 vt8 => (tupI .u8 vt8 fun vn9 vt10 => (atNil vt10 (some (.bool (decide (vn9 = (0 : Int)))))))) ) := by
  rw [number_k (n := n) s (by omega) hk]
  cases natOk s && decide (valA 0 s ≤ 9223372036854775807)
  · rw [cond_false, callT_ok, tupI_ok, tupI_ok, atNil_ok]; exact isB_some _
  · rw [cond_true, callT_ok, tupI_ok, tupI_ok, atNil_ok]; exact isB_some _
theorem time_B (s : List UInt8) (hs : s.length ≤ 1000000) (hk : s.length < k) : IsB (callT (kp E k (n + 3) dec_Time [(.str (str s))]) fun vt12 => (tupG 2 vt12 fun vg13 vt14 => (cellI .i64 vg13 0 fun vn15 => (cellI .i64 vg13 1 fun vn16 => (tupI .u8 vt14 fun vn17 vt18 => (atNil vt18 (some (.bool (decide (vn17 = (0 : Int))))))))))) := by
  rw [time_k (n := n) s (by omega) hk]
  have e2 : ∀ (K : List AV → List AV → Option AV) (a b : AV) (t : List AV), tupG 2 (.agg [a, b] :: t) K = K [a, b] t := fun K a b t => by simp [tupG, atCons, atAgg, AV.isFresh]
  have c0 : ∀ (a b : Int) (K : Int → Option AV), cellI .i64 [.int .i64 a, .int .i64 b] 0 K = K a := fun a b K => cellI_0 _ _ _
  have c1 : ∀ (a b : Int) (K : Int → Option AV), cellI .i64 [.int .i64 a, .int .i64 b] 1 K = K b := fun a b K => by simp [cellI, cellAt, atInt]
  unfold timeAV
  cases timeL s with
  | none => rw [callT_ok, e2, c0, c1, tupI_ok, atNil_ok]; exact isB_some _
  | some x => rw [callT_ok, e2, c0, c1, tupI_ok, atNil_ok]; exact isB_some _
theorem value_B (key s : List UInt8) (hs : s.length ≤ 1000000) (hk : s.length < k) : IsB (kp E k (n + 4) pax_value [.str (str key), .str (str s)]) := by
  rw [pax_value_eq]
  refine isB_callB (utf_B (n := n) s hk) fun b => ?_
  have h1 := pclean_B (E := E) (k := k) (n := n + 2) s
  have h2 := num_B (E := E) (k := k) (n := n) s hs hk
  have h3 := time_B (E := E) (k := k) (n := n) s hs hk
  have h1' := isB_callB (K := fun b => some (.bool b)) h1 isB_some
  repeat' first | exact isB_some _ | exact h1' | exact h2 | exact h3 | refine isB_bif ?_ ?_
theorem paxRight_B (key s : List UInt8) (hkey : key.length ≤ 1000000) (hs : s.length ≤ 1000000) (hk : 1000000 < k) : IsB (kp E k (n + 5) pax_Right [.agg [.str (str key), .str (str s)]]) := by
  rw [pax_Right_eq]
  refine isB_bif (isB_callB (utf_B (n := n + 1) key (by omega)) fun b => isB_bif (isB_callB (any_B (n := n + 3) key hkey) fun c => isB_bif (isB_callB (value_B (n := n) key s hs (by omega)) isB_some) (isB_some _)) (isB_some _)) (isB_some _)
theorem over_B (hk : 1000000 < k) : ∀ (suf pre : List Pair) (k0 : Nat), suf.length < k0 → (pre ++ suf).length < 1000000 → (∀ p ∈ pre ++ suf, p.key.length ≤ 1000000 ∧ p.val.length ≤ 1000000) →
    IsB (over_Right_L0 (kp E k (n + 5)) k k0 (prs (pre ++ suf)) (prs (pre ++ suf)) (((pre ++ suf).length : Nat) : Int) ((pre.length : Nat) : Int))
  | [], pre, k0 + 1, h, hb, hp => by
    rw [over_Right_L0_s, nlt, decide_eq_false (by simp), cond_false]
    exact isB_some _
  | p :: suf, pre, k0 + 1, h, hb, hp => by
    have hb' := hb
    rw [mid_len] at hb'
    obtain ⟨g1, g2⟩ := hp p (by simp)
    have ih := over_B hk suf (pre ++ [p]) k0 (by simpa using h) (by simpa using hb) (fun q hq => hp q (by simpa using hq))
    have e1 : (pre ++ [p]).length = pre.length + 1 := by simp
    rw [List.append_assoc, List.singleton_append, e1] at ih
    rw [over_Right_L0_s, prs_len, mid_len, dec0, nlt, decide_eq_true (by omega), Bool.true_and, cond_true, cond_true, Int.toNat_natCast, prs_mid, cells_pair]
    rw [mid_len] at ih
    have c0 : ∀ (q : Pair) (K : ByteArray → Option AV), cellS (encPair q) 0 K = K (str q.key) := fun q K => rfl
    have c1 : ∀ (q : Pair) (K : ByteArray → Option AV), cellS (encPair q) 1 K = K (str q.val) := fun q K => rfl
    rw [c0, c1, wrap1 (by omega)]
    refine isB_bif (isB_some _) (isB_callB (paxRight_B p.key p.val g1 g2 hk) fun b => isB_bif (isB_some _) ?_)
    rcases snoc_pairs pre with rfl | ⟨l, q, rfl⟩
    · rw [bif_f (by simp)]
      exact ih
    · rw [List.length_append, List.length_singleton] at hb' ih ⊢
      rw [bif_t (by omega), wrapM (by omega) (by omega), show l.length + 1 - 1 = l.length from rfl, dec0, nlt, decide_eq_true (by omega), Bool.true_and, cond_true, Int.toNat_natCast, List.append_assoc, List.singleton_append, prs_mid, cells_pair, c0]
      rw [List.append_assoc, List.singleton_append] at ih
      exact isB_bif (isB_some _) ih
end
end Go.Proofs.YtilbahgfjfcikaaDoor.Eng.U
