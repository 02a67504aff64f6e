/- The functions of the Dec laws in plain words. -/
import Derived.Test.YtilbahgfjfcikaaDoorR04
import Derived.Test.YtilbahgfjfcikaaDoorE23
import Derived.Test.YtilbahgfjfcikaaDoorQ04
import Derived.Lib.Strings
import Derived.Lib.Repeat
import Derived.Lib.ItoaMem
import Derived.Lib.ItoaLen
set_option linter.unusedVariables false
set_option linter.unusedSectionVars false
set_option linter.unusedSimpArgs false
namespace Go.Proofs.YtilbahgfjfcikaaDoor.Eng.U
open Go Go.Proofs Go.Proofs.YtilbahgfjfcikaaDoor.Eng Go.Proofs.YtilbahgfjfcikaaDoor.P04
variable {E : Ext} [Core E] {k n : Nat}

def endI : Lib.NumEnd Int → Int → AV
  | .ok v, _ => .tup [.int .i64 v, .nili]
  | .syntax, _ => .tup [.int .i64 0, .ifc]
  | .range, d => .tup [.int .i64 d, .ifc]
def endU : Lib.NumEnd Nat → AV
  | .ok v => .tup [.int .u64 v, .nili]
  | .syntax => .tup [.int .u64 0, .ifc]
  | .range => .tup [.int .u64 18446744073709551615, .ifc]
class HasNum (E : Ext) : Prop where
  fmt : ∀ (k n : Nat) (v : Int), -9223372036854775808 ≤ v → v ≤ 9223372036854775807 → kp E k n strconv_FormatInt [.int .i64 v, .int .i64 10] = some (.str (str (Lib.itoa v)))
  itoa : ∀ (k n : Nat) (v : Int), -9223372036854775808 ≤ v → v ≤ 9223372036854775807 → kp E k n strconv_Itoa [.int .i64 v] = some (.str (str (Lib.itoa v)))
  cutP : ∀ (k n : Nat) (s p : List UInt8), kp E k n strings_CutPrefix [.str (str s), .str (str p)] = some (.tup [.str (str (Lib.trimPrefix s p)), .bool (Lib.hasPrefix s p)])
  trimR : ∀ (k n : Nat) (s : List UInt8) (x : UInt8), x.toNat < 128 → s.length ≤ 9223372036854775807 → kp E k n strings_TrimRight [.str (str s), .str (str [x])] = some (.str (str (Lib.trimRightB s x)))
  index : ∀ (k n : Nat) (s : List UInt8) (x : UInt8), kp E k n stringslite_Index [.str (str s), .str (str [x])] = some (.int .i64 (Lib.indexByte s x))
  indexB : ∀ (k n : Nat) (s : List UInt8) (c : Int), kp E k n strings_IndexByte [.str (str s), .int .u8 c] = some (.int .i64 (Lib.indexByte s c.toNat.toUInt8))
  rep : ∀ (k n : Nat) (s : List UInt8) (c : Nat), c ≤ 9223372036854775807 → s.length * c ≤ 140737488355328 → kp E k n strings_Repeat [.str (str s), .int .i64 c] = some (.str (str (Lib.repeatL s c)))
  pint : ∀ (k n : Nat) (s : List UInt8), s.length ≤ 281474976710656 → kp E k n strconv_ParseInt [.str (str s), .int .i64 10, .int .i64 64] = some (endI (Lib.parseIntB 64 s) (Lib.intSat 64 s))
  puint : ∀ (k n : Nat) (s : List UInt8), s.length ≤ 281474976710656 → kp E k n strconv_ParseUint [.str (str s), .int .i64 10, .int .i64 64] = some (endU (Lib.parseUintB 64 s))

theorem digits_loop (kap : FuncId → List AV → Option AV) : ∀ (suf pre : List UInt8) (k0 : Nat), suf.length < k0 → (pre ++ suf).length < 1000000000000000 →
    dec_digits_L0 kap k k0 (str (pre ++ suf)) (((pre ++ suf).length : Nat) : Int) ((pre.length : Nat) : Int) = some (.bool (suf.all isDig && !(pre ++ suf).isEmpty))
  | [], pre, k0 + 1, h, hb => by
    rw [dec_digits_L0_s, nlt, decide_eq_false (by simp), cond_false, str_dec]
    cases pre <;> simp
  | c :: suf, pre, k0 + 1, h, hb => by
    rw [dec_digits_L0_s]
    rw [mid_len] at hb
    have hg : (pre ++ c :: suf).getD pre.length 0 = c := mid_byte _ _ _
    rw [str_size, mid_len, dec0, nlt, decide_eq_true (by omega), Bool.true_and, cond_true, cond_true, cond_true, Int.toNat_natCast, str_byte, hg, List.all_cons]
    by_cases h1 : 48 ≤ c.toNat
    · rw [bif_f (by omega)]
      by_cases h2 : c.toNat ≤ 57
      · rw [bif_f (by omega), wrap1 (by omega)]
        have := digits_loop kap suf (pre ++ [c]) k0 (by simpa using h) (by simp; omega)
        rw [List.append_assoc, List.singleton_append, mid_len, List.length_append, List.length_singleton] at this
        rw [this, dig_iff.2 ⟨h1, h2⟩, Bool.true_and]
      · rw [bif_t (by omega), show isDig c = false from by simp [isDig]; omega]
        rfl
    · rw [bif_t (by omega), show isDig c = false from by simp [isDig]; omega]
      rfl
theorem digits_k (l : List UInt8) (hb : l.length < 1000000000000000) (hk : l.length < k) : kp E k (n + 1) dec_digits [.str (str l)] = some (.bool (digs l)) := by
  rw [dec_digits_eq, str_size]
  exact digits_loop _ l [] k hk hb
theorem only_loop (kap : FuncId → List AV → Option AV) : ∀ (suf pre : List UInt8) (k0 : Nat), suf.length < k0 → (pre ++ suf).length < 1000000000000000 →
    ref04_only_L0 kap k k0 (str (pre ++ suf)) ((pre.length : Nat) : Int) = some (.bool (suf.all isDig && !(pre ++ suf).isEmpty))
  | [], pre, k0 + 1, h, hb => by
    rw [ref04_only_L0_s, str_size, nlt, decide_eq_false (by simp), cond_false]
    cases pre with
    | nil => rfl
    | cons c l => rw [decide_eq_true (by simp)]; simp
  | c :: suf, pre, k0 + 1, h, hb => by
    rw [ref04_only_L0_s]
    rw [mid_len] at hb
    have hg : (pre ++ c :: suf).getD pre.length 0 = c := mid_byte _ _ _
    rw [str_size, mid_len, dec0, nlt, decide_eq_true (by omega), Bool.true_and, cond_true, cond_true, cond_true, Int.toNat_natCast, str_byte, hg, List.all_cons]
    by_cases h1 : 48 ≤ c.toNat
    · rw [bif_f (by omega)]
      by_cases h2 : c.toNat ≤ 57
      · rw [bif_f (by omega), wrap1 (by omega)]
        have := only_loop kap suf (pre ++ [c]) k0 (by simpa using h) (by simp; omega)
        rw [List.append_assoc, List.singleton_append, List.length_append, List.length_singleton] at this
        rw [this, dig_iff.2 ⟨h1, h2⟩, Bool.true_and]
      · rw [bif_t (by omega), show isDig c = false from by simp [isDig]; omega]
        rfl
    · rw [bif_t (by omega), show isDig c = false from by simp [isDig]; omega]
      rfl
theorem only_k (l : List UInt8) (hb : l.length < 1000000000000000) (hk : l.length < k) : kp E k (n + 1) ref04_only [.str (str l)] = some (.bool (digs l)) := by
  rw [ref04_only_eq]
  exact only_loop _ l [] k hk hb
theorem below_loop (kap : FuncId → List AV → Option AV) : ∀ (suf pre : List UInt8) (k0 acc : Nat), suf.length < k0 → (pre ++ suf).length < 1000000000000000 → suf.all isDig = true → acc ≤ 9223372036854775808 →
    ref04_Below_L0 kap k k0 (str (pre ++ suf)) (-(acc : Int)) ((pre.length : Nat) : Int) = some (if valA acc suf ≤ 9223372036854775808 then .tup [.int .i64 (-(valA acc suf : Int)), .bool true] else .tup [.int .i64 0, .bool false])
  | [], pre, k0 + 1, acc, h, hb, hd, ha => by
    rw [ref04_Below_L0_s, str_size, nlt, decide_eq_false (by simp), cond_false]
    have e : valA acc [] = acc := rfl
    rw [e, if_pos ha]
  | c :: suf, pre, k0 + 1, acc, h, hb, hd, ha => by
    rw [ref04_Below_L0_s]
    rw [mid_len] at hb
    rw [List.all_cons, Bool.and_eq_true] at hd
    have hc := dig_iff.1 hd.1
    have hg : (pre ++ c :: suf).getD pre.length 0 = c := mid_byte _ _ _
    rw [str_size, mid_len, dec0, nlt, decide_eq_true (by omega), Bool.true_and, cond_true, cond_true, Int.toNat_natCast, str_byte, hg, i64w (x := ((c.toNat : Nat) : Int)) (by omega), i64w (x := ((c.toNat : Nat) : Int) - 48) (by omega), valA_cons]
    have hge := valA_ge suf (acc * 10 + (c.toNat - 48))
    have next : acc * 10 + (c.toNat - 48) ≤ 9223372036854775808 → ref04_Below_L0 kap k k0 (str (pre ++ c :: suf)) (IntKind.wrap .i64 ((IntKind.wrap .i64 ((10 : Int) * -(acc : Int))) - (((c.toNat : Nat) : Int) - 48))) (IntKind.wrap .i64 (((pre.length : Nat) : Int) + 1)) = some (if valA (acc * 10 + (c.toNat - 48)) suf ≤ 9223372036854775808 then .tup [.int .i64 (-(valA (acc * 10 + (c.toNat - 48)) suf : Int)), .bool true] else .tup [.int .i64 0, .bool false]) := by
      intro hle
      have := below_loop kap suf (pre ++ [c]) k0 (acc * 10 + (c.toNat - 48)) (by simpa using h) (by simp; omega) hd.2 hle
      rw [List.append_assoc, List.singleton_append, List.length_append, List.length_singleton] at this
      rw [← this, wrap1 (by omega), i64w (x := 10 * -(acc : Int)) (by omega), i64w (by omega)]
      congr 1
      omega
    by_cases h1 : 922337203685477580 < acc
    · rw [bif_t (by omega), if_neg (by omega)]
    · rw [bif_f (by omega)]
      by_cases h2 : acc = 922337203685477580
      · rw [bif_t (by omega)]
        by_cases h3 : 8 < c.toNat - 48
        · rw [bif_t (by omega), if_neg (by omega)]
        · rw [bif_f (by omega)]
          exact next (by omega)
      · rw [bif_f (by omega)]
        exact next (by omega)
theorem head_lead (l : List UInt8) (hl : l ≠ []) : decide (l.getD 0 0 = 48) = decide (l.headD 0 = 48) := by cases l <;> simp at hl ⊢
theorem digs_ne {l : List UInt8} (h : digs l = true) : l ≠ [] := by
  intro e
  subst e
  simp [digs] at h
theorem digs_all {l : List UInt8} (h : digs l = true) : l.all isDig = true := by
  unfold digs at h
  rw [Bool.and_eq_true] at h
  exact h.1
theorem byte48 (c : UInt8) : decide (((c.toNat : Nat) : Int) = (48 : Int)) = decide (c = 48) := byte_is c 48 (by omega)
theorem below_k (l : List UInt8) (hb : l.length < 1000000000000000) (hk : l.length < k) : kp E k (n + 2) ref04_Below [.str (str l)] = some (.tup [.int .i64 (if natOk l then -(valA 0 l : Int) else 0), .bool (natOk l)]) := by
  rw [ref04_Below_eq, only_k l hb hk, callB_ok]
  unfold natOk
  cases hd : digs l with
  | false => rfl
  | true =>
    have hne := digs_ne hd
    have hpos : 0 < l.length := List.length_pos_iff.2 hne
    have hloop := below_loop (k := k) (kp E k (n + 1)) l [] k 0 hk hb (digs_all hd) (by omega)
    rw [List.nil_append] at hloop
    have e0 : (-((0 : Nat) : Int)) = 0 := rfl
    have e1 : ((([] : List UInt8).length : Nat) : Int) = 0 := rfl
    rw [e0, e1] at hloop
    rw [Bool.not_true, cond_false, str_size, bif_t (by omega), str_byte, byte48, head_lead l hne, hloop]
    unfold lead
    by_cases h1 : l.headD 0 = 48
    · rw [decide_eq_true h1, cond_true]
      by_cases h2 : 1 < l.length
      · rw [bif_t (by omega), decide_eq_true h2]
        rfl
      · rw [bif_f (by omega), decide_eq_false h2]
        simp only [Bool.and_false, Bool.not_false, Bool.and_true, Bool.true_and]
        by_cases h3 : valA 0 l ≤ 9223372036854775808
        · rw [if_pos h3, decide_eq_true h3]; rfl
        · rw [if_neg h3, decide_eq_false h3]; rfl
    · rw [decide_eq_false h1, cond_false]
      simp only [Bool.false_and, Bool.not_false, Bool.and_true, Bool.true_and]
      by_cases h3 : valA 0 l ≤ 9223372036854775808
      · rw [if_pos h3, decide_eq_true h3]; rfl
      · rw [if_neg h3, decide_eq_false h3]; rfl
theorem natural_k [HasNum E] (l : List UInt8) (hb : l.length < 100000000000000) (hk : l.length < k) : ∃ m : Int, kp E k (n + 2) dec_natural [.str (str l)] = some (.tup [.int .u64 m, .bool (natOk l)]) ∧ (natOk l = true → m = (valA 0 l : Int)) := by
  rw [dec_natural_eq, digits_k l (by omega) hk, callB_ok]
  unfold natOk
  cases hd : digs l with
  | false => exact ⟨0, rfl, fun h => by cases h⟩
  | true =>
    have hne := digs_ne hd
    have hpos : 0 < l.length := List.length_pos_iff.2 hne
    rw [Bool.not_true, cond_false, str_size, bif_t (by omega), str_byte, byte48, head_lead l hne, HasNum.puint k (n + 1) l (by omega), parseB_eq hd]
    have go : ∃ m : Int, (callT (β := AV) (some (endU (if valA 0 l ≤ 18446744073709551615 then Lib.NumEnd.ok (valA 0 l) else .range))) fun vt11 => (tupI .u64 vt11 fun vn12 vt13 => (tupV vt13 fun vr14 vt15 => (atNil vt15 (nilB vr14 fun q16 => (bif q16 then (some (.tup [(.int .u64 vn12), (.bool (decide (vn12 ≤ (9223372036854775808 : Int))))])) else (some (.tup [(.int .u64 vn12), (.bool false)])))))))) = some (.tup [.int .u64 m, .bool (decide (valA 0 l ≤ 9223372036854775808))]) ∧ (valA 0 l ≤ 9223372036854775808 → m = (valA 0 l : Int)) := by
      by_cases h3 : valA 0 l ≤ 18446744073709551615
      · rw [if_pos h3]
        refine ⟨(valA 0 l : Int), ?_, fun _ => rfl⟩
        have : decide (((valA 0 l : Nat) : Int) ≤ 9223372036854775808) = decide (valA 0 l ≤ 9223372036854775808) := by rw [decide_eq_decide]; omega
        rw [← this]
        rfl
      · rw [if_neg h3]
        refine ⟨18446744073709551615, ?_, fun h => by omega⟩
        rw [decide_eq_false (by omega)]
        rfl
    obtain ⟨m, g1, g2⟩ := go
    unfold lead
    by_cases h1 : l.headD 0 = 48
    · rw [decide_eq_true h1, cond_true]
      by_cases h2 : 1 < l.length
      · rw [bif_t (by omega), decide_eq_true h2]
        exact ⟨0, rfl, fun h => by simp at h⟩
      · rw [bif_f (by omega), decide_eq_false h2, g1]
        exact ⟨m, by simp, fun h => g2 (by simpa using h)⟩
    · rw [decide_eq_false h1, cond_false, g1]
      exact ⟨m, by simp, fun h => g2 (by simpa using h)⟩
theorem ofInt_u8 (d : Nat) (h : d < 10) : (IntKind.wrap .u8 (IntKind.wrap .i64 ((48 : Int) + (d : Int)))) = ((48 + d : Nat) : Int) := by
  rw [i64w (by omega)]
  match d, h with
  | 0, _ | 1, _ | 2, _ | 3, _ | 4, _ | 5, _ | 6, _ | 7, _ | 8, _ | 9, _ => rfl
theorem digits_ref (m : Nat) : ∀ (u : Nat), u < 10 ^ (m + 1) → u ≤ 9223372036854775807 → kp E k (n + m + 1) ref04_Digits [.int .i64 (u : Int)] = some (.str (str (Lib.decDigits u))) := by
  induction m with
  | zero =>
    intro u hu _
    rw [ref04_Digits_eq, bif_t (by omega), ofInt_u8 u (by omega), Lib.decDigits_one (by omega)]
    rfl
  | succ m ih =>
    intro u hu hm
    by_cases h : u < 10
    · rw [ref04_Digits_eq, bif_t (by omega), ofInt_u8 u (by omega), Lib.decDigits_one h]
      rfl
    · have hu' : u < 10 ^ (m + 1) * 10 := by rw [← Nat.pow_succ]; exact hu
      have e1 : Int.tdiv (u : Int) 10 = ((u / 10 : Nat) : Int) := rfl
      have e2 : Int.tmod (u : Int) 10 = ((u % 10 : Nat) : Int) := rfl
      rw [show n + (m + 1) + 1 = (n + m + 1) + 1 from rfl, ref04_Digits_eq, bif_f (by omega), e1, e2, i64w (x := ((u / 10 : Nat) : Int)) (by omega), ih (u / 10) (by omega) (by omega), callS_ok, ofInt_u8 _ (by omega)]
      have hlen : (Lib.decDigits (u / 10)).length ≤ 21 := by
        have := Lib.itoa_length_le ((u / 10 : Nat) : Int) (by omega) (by omega)
        rwa [Lib.itoa_nonneg] at this
      show (bif decide ((str (Lib.decDigits (u / 10))).size + (str [UInt8.ofNat (48 + u % 10)]).size ≤ 9223372036854775807) then _ else _) = _
      rw [str_size, str_size, bif_t (by simp; omega), decDigits_rec h]
      rw [str_app, Int.toNat_natCast]
end Go.Proofs.YtilbahgfjfcikaaDoor.Eng.U
