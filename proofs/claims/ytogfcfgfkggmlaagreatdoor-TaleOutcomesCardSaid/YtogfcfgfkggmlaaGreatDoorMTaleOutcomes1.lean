/- Several texts of this proof in one file: Q04, U04, U04b, U04c, V04, ApiR, B04, B02, U02, U02b, U02c, U09, U09b, RS, U09c, U09e, Z05a, Z05b, Z05c, U09f, U04d, U07, Q08, U08, U09d, U09g, U09h, U09i, U09j, V00, Q04b, V04b, U20, U20b, U20c, U20d, U07b, U07c, U07d, Q20, U21, U20e, U20f, U20g, Q08b, U08c, U08d, T14, V20, V09, B09, B20, B21, X20. -/
import Derived.Lib.ItoaNum
import Derived.Lib.ParseIntB
import Derived.Lib.Bytealg
import Derived.Lib.TrimByte
import Derived.Test.YtogfcfgfkggmlaaGreatDoorMTaleOutcomes0
import Derived.Test.YtogfcfgfkggmlaaGreatDoorMETaleOutcomes2
import Derived.Lib.Strings
import Derived.Lib.Repeat
import Derived.Lib.ItoaMem
import Derived.Lib.ItoaLen
import Derived.WalkSmall
import Derived.Lib.SmallJoins
import Derived.Lib.DecodeN
import Derived.IntWalk
import Derived.Lib.RuneCountTail
import Derived.Lib.IndexAny
/- Numbers as texts, in plain Lean. -/
set_option linter.unusedVariables false
set_option linter.unusedSimpArgs false
namespace Go.Proofs.YtogfcfgfkggmlaaGreatDoor.P04
open Go

def isDig (c : UInt8) : Bool := decide (48 ≤ c.toNat) && decide (c.toNat ≤ 57)
def digs (l : List UInt8) : Bool := l.all isDig && !l.isEmpty
def valA (acc : Nat) (l : List UInt8) : Nat := l.foldl (fun a c => a * 10 + (c.toNat - 48)) acc
def lead (l : List UInt8) : Bool := decide (l.headD 0 = 48) && decide (1 < l.length)
def natOk (l : List UInt8) : Bool := digs l && !lead l && decide (valA 0 l ≤ 9223372036854775808)
theorem valA_ge : ∀ (l : List UInt8) (acc : Nat), acc ≤ valA acc l
  | [], acc => Nat.le_refl _
  | c :: l, acc => by
    have := valA_ge l (acc * 10 + (c.toNat - 48))
    simp only [valA, List.foldl_cons] at this ⊢
    omega
theorem valA_cons (c : UInt8) (l : List UInt8) (acc : Nat) : valA acc (c :: l) = valA (acc * 10 + (c.toNat - 48)) l := by
  unfold valA
  rw [List.foldl_cons]
theorem dig_iff {c : UInt8} : isDig c = true ↔ 48 ≤ c.toNat ∧ c.toNat ≤ 57 := by simp [isDig]
theorem parse_eq {M : Nat} (hM : M = 18446744073709551615) (l : List UInt8) : ∀ (acc : Nat), l.all isDig = true → acc ≤ M → Lib.parseUintM M acc l = if valA acc l ≤ M then .ok (valA acc l) else .range := by
  induction l with
  | nil =>
    intro acc _ h
    have e : valA acc [] = acc := rfl
    rw [e, if_pos h]
    rfl
  | cons c l ih =>
    intro acc hd h
    rw [List.all_cons, Bool.and_eq_true] at hd
    have hc := dig_iff.1 hd.1
    have hg := valA_ge l (acc * 10 + (c.toNat - 48))
    have e : Lib.parseUintM M acc (c :: l) = if 48 ≤ c.toNat ∧ c.toNat ≤ 57 then (if 1844674407370955162 ≤ acc then .range else if M < acc * 10 + (c.toNat - 48) then .range else Lib.parseUintM M (acc * 10 + (c.toNat - 48)) l) else Lib.parseUintM M 0 [47] := rfl
    rw [e, if_pos hc, valA_cons]
    by_cases h1 : 1844674407370955162 ≤ acc
    · rw [if_pos h1, if_neg (by omega)]
    · rw [if_neg h1]
      by_cases h2 : M < acc * 10 + (c.toNat - 48)
      · rw [if_pos h2, if_neg (by omega)]
      · rw [if_neg h2, ih _ hd.2 (by omega)]
theorem parseB_eq {l : List UInt8} (hd : digs l = true) : Lib.parseUintB 64 l = if valA 0 l ≤ 18446744073709551615 then .ok (valA 0 l) else .range := by
  simp only [digs, Bool.and_eq_true, Bool.not_eq_true', List.isEmpty_eq_false_iff] at hd
  rw [Lib.parseUintB, if_neg hd.2]
  exact parse_eq (by decide) l 0 hd.1 (by omega)
/-- Where the first point stands; the length, where there is none. -/
def dot (l : List UInt8) : Nat := l.findIdx (· == 46)
theorem index_dot : ∀ l : List UInt8, Lib.indexByte l 46 = if dot l < l.length then (dot l : Int) else -1
  | [] => rfl
  | c :: l => by
    have ih := index_dot l
    unfold Lib.indexByte dot
    rw [List.findIdx_cons]
    by_cases hc : (c == 46) = true
    · simp [hc]
    · rw [if_neg hc, Bool.eq_false_iff.2 hc, cond_false, ih]
      unfold dot
      have : List.findIdx (· == 46) l ≤ l.length := List.findIdx_le_length
      simp only [List.length_cons]
      by_cases h : List.findIdx (· == 46) l < l.length
      · rw [if_pos h, if_pos (show List.findIdx (· == 46) l + 1 < l.length + 1 by omega)]
        rw [if_neg (by simp)]
        omega
      · rw [if_neg h, if_neg (show ¬ List.findIdx (· == 46) l + 1 < l.length + 1 by omega)]
        rfl
/-- The time that a text is, behind its sign. -/
def timeB (minus : Bool) (t : List UInt8) : Option (Int × Int) :=
  let a := t.take (dot t)
  let b := t.drop (dot t + 1)
  let nano := if dot t < t.length then valA 0 (b ++ List.replicate (9 - b.length) 48) else 0
  let v := valA 0 a
  if natOk a = false then none
  else if dot t < t.length ∧ ¬ (digs b = true ∧ b.length ≤ 9) then none
  else if minus = false then (if 9223372036854775807 < v then none else some ((v : Int), (nano : Int)))
  else if nano = 0 then some (-(v : Int), 0)
  else if 9223372036854775807 < v then none
  else some (-(v : Int) - 1, 1000000000 - (nano : Int))
def timeL (s : List UInt8) : Option (Int × Int) := timeB (decide (s.head? = some 45)) (if s.head? = some 45 then s.drop 1 else s)
theorem valA_lt : ∀ (l : List UInt8) (acc m : Nat), l.all isDig = true → acc < 10 ^ m → valA acc l < 10 ^ (m + l.length)
  | [], acc, m, _, h => h
  | c :: l, acc, m, hd, h => by
    rw [List.all_cons, Bool.and_eq_true] at hd
    have hc := dig_iff.1 hd.1
    have := valA_lt l (acc * 10 + (c.toNat - 48)) (m + 1) hd.2 (by rw [Nat.pow_succ]; omega)
    rw [valA_cons, List.length_cons, show m + (l.length + 1) = m + 1 + l.length from by omega]
    exact this
theorem valA_app (a b : List UInt8) (acc : Nat) : valA acc (a ++ b) = valA (valA acc a) b := by simp [valA, List.foldl_append]
/-! Printing. -/
theorem decDigits_rec {u : Nat} (h : ¬ u < 10) : Lib.decDigits u = Lib.decDigits (u / 10) ++ [UInt8.ofNat (48 + u % 10)] := by rw [Lib.decDigits, dif_neg h]
/-- k digits of a number below 10 ^ 9, the first ahead. -/
def frac : Nat → Nat → List UInt8
  | 0, _ => []
  | k + 1, n => UInt8.ofNat (48 + n / 100000000) :: frac k (n % 100000000 * 10)
/-- The digits of a number below 10 ^ 9 as long as some are left. -/
def loopP : Nat → Nat → List UInt8
  | 0, _ => []
  | k + 1, n => if n = 0 then [] else UInt8.ofNat (48 + n / 100000000) :: loopP k (n % 100000000 * 10)
theorem trim_cons (c : UInt8) (l : List UInt8) (x : UInt8) : Lib.trimRightB (c :: l) x = if Lib.trimRightB l x = [] then (if c = x then [] else [c]) else c :: Lib.trimRightB l x := by
  unfold Lib.trimRightB
  rw [List.reverse_cons, List.dropWhile_append]
  by_cases h : (l.reverse.dropWhile (· == x)).isEmpty = true
  · rw [if_pos h]
    have h' : l.reverse.dropWhile (· == x) = [] := by simpa using h
    rw [h', List.reverse_nil, if_pos rfl]
    by_cases hc : c = x
    · subst hc; simp
    · rw [if_neg hc]; simp [List.dropWhile_cons, hc]
  · rw [if_neg h]
    have h' : l.reverse.dropWhile (· == x) ≠ [] := by simpa using h
    rw [if_neg (by simpa using h')]
    simp
theorem frac_zero : ∀ k, Lib.trimRightB (frac k 0) 48 = []
  | 0 => rfl
  | k + 1 => by
    show Lib.trimRightB (UInt8.ofNat (48 + 0 / 100000000) :: frac k 0) 48 = []
    rw [trim_cons, frac_zero k, if_pos rfl, if_pos (by decide)]
theorem trim_frac : ∀ (k n : Nat), n < 1000000000 → n % 10 ^ (9 - k) = 0 → k ≤ 9 → Lib.trimRightB (frac k n) 48 = loopP k n
  | 0, n, h, hm, _ => rfl
  | k + 1, n, h, hm, hk => by
    unfold frac loopP
    by_cases hn : n = 0
    · rw [if_pos hn]
      subst hn
      exact frac_zero (k + 1)
    · rw [if_neg hn]
      have hm' : (n % 100000000 * 10) % 10 ^ (9 - k) = 0 := by
        have e : 10 ^ (9 - k) = 10 ^ (9 - (k + 1)) * 10 := by rw [← Nat.pow_succ]; congr 1; omega
        rw [e, Nat.mul_mod_mul_right]
        have hd : (10 : Nat) ^ (9 - (k + 1)) ∣ 100000000 := by
          have : (100000000 : Nat) = 10 ^ 8 := rfl
          rw [this]
          exact Nat.pow_dvd_pow 10 (by omega)
        rw [Nat.mod_mod_of_dvd _ hd, hm]
      have ih := trim_frac k (n % 100000000 * 10) (by omega) hm' (by omega)
      rw [trim_cons, ih]
      by_cases he : loopP k (n % 100000000 * 10) = []
      · rw [if_pos he, he]
        cases k with
        | zero =>
          have : n / 100000000 ≠ 0 := by
            simp at hm
            omega
          rw [if_neg]
          intro e
          have := congrArg UInt8.toNat e
          rw [UInt8.toNat_ofNat'] at this
          simp at this
          omega
        | succ k =>
          unfold loopP at he
          split at he
          · rename_i h0
            rw [if_neg]
            intro e
            have := congrArg UInt8.toNat e
            rw [UInt8.toNat_ofNat'] at this
            simp at this
            omega
          · cases he
      · rw [if_neg he]
theorem frac_eq (m : Nat) : ∀ (k j : Nat), k + j ≤ 9 → frac k (m * 10 ^ j % 1000000000) = (List.range k).map fun i => UInt8.ofNat (48 + m / 10 ^ (8 - (j + i)) % 10)
  | 0, j, _ => rfl
  | k + 1, j, h => by
    unfold frac
    have e1 : m * 10 ^ j % 1000000000 / 100000000 = m / 10 ^ (8 - j) % 10 := by
      rw [show (1000000000 : Nat) = 100000000 * 10 from rfl, Nat.mod_mul_right_div_self]
      congr 1
      rw [show (100000000 : Nat) = 10 ^ (8 - j) * 10 ^ j from by rw [← Nat.pow_add, show 8 - j + j = 8 from by omega]]
      exact Nat.mul_div_mul_right _ _ (Nat.pow_pos (by omega))
    have e2 : m * 10 ^ j % 1000000000 % 100000000 * 10 = m * 10 ^ (j + 1) % 1000000000 := by
      rw [Nat.mod_mod_of_dvd _ (by decide), show (1000000000 : Nat) = 100000000 * 10 from rfl, Nat.pow_succ, ← Nat.mul_assoc, Nat.mul_mod_mul_right]
    rw [e1, e2, frac_eq m k (j + 1) (by omega), List.range_succ_eq_map, List.map_cons, List.map_map]
    congr 1
    refine List.map_congr_left fun i _ => ?_
    show UInt8.ofNat (48 + m / 10 ^ (8 - (j + 1 + i)) % 10) = UInt8.ofNat (48 + m / 10 ^ (8 - (j + (i + 1))) % 10)
    rw [show j + 1 + i = j + (i + 1) from by omega]
theorem digits_frac (m : Nat) (h : m < 1000000000) : Lib.decDigits (1000000000 + m) = 49 :: frac 9 m := by
  have hf := frac_eq m 9 0 (by omega)
  rw [Nat.pow_zero, Nat.mul_one, Nat.mod_eq_of_lt h] at hf
  rw [hf, Lib.decDigits_eq, Lib.nDigits_unique 9 _ (by omega) (by omega), List.range_succ_eq_map, List.map_cons, List.map_map]
  congr 1
  · show Lib.dg (1000000000 + m) 9 = 49
    unfold Lib.dg
    rw [show (1000000000 + m) / 10 ^ 9 % 10 = 1 from by omega]
    rfl
  · refine List.map_congr_left fun i hi => ?_
    rw [List.mem_range] at hi
    show Lib.dg (1000000000 + m) (10 - 1 - (i + 1)) = _
    unfold Lib.dg
    rw [show 10 - 1 - (i + 1) = 8 - i from by omega, Nat.zero_add]
    congr 2
    have : (1000000000 : Nat) = 10 ^ (8 - i) * (10 ^ i * 10) := by rw [← Nat.pow_succ, ← Nat.pow_add, show 8 - i + (i + 1) = 9 from by omega]
    rw [this, Nat.mul_add_div (Nat.pow_pos (by omega)), Nat.add_mod, Nat.mul_mod_left, Nat.zero_add, Nat.mod_mod]
/-- The text of a time. -/
def printL (s t : Int) : List UInt8 :=
  if t = 0 then Lib.itoa s
  else if s < 0 then 45 :: Lib.decDigits (-(s + 1)).toNat ++ [46] ++ loopP 9 (1000000000 - t).toNat
  else Lib.decDigits s.toNat ++ [46] ++ loopP 9 t.toNat
end Go.Proofs.YtogfcfgfkggmlaaGreatDoor.P04


/- The functions of the Dec laws in plain words. -/
set_option linter.unusedVariables false
set_option linter.unusedSectionVars false
set_option linter.unusedSimpArgs false
namespace Go.Proofs.YtogfcfgfkggmlaaGreatDoor.Eng.U
open Go Go.Proofs Go.Proofs.YtogfcfgfkggmlaaGreatDoor.Eng Go.Proofs.YtogfcfgfkggmlaaGreatDoor.P04
variable {E : Ext} [Core E] {k n : Nat}

def endI : Lib.NumEnd Int → Int → AV
  | .ok v, _ => .tup [.int .i64 v, .nili]
  | .range, d => .tup [.int .i64 d, .ifc]
  | _, _ => .tup [.int .i64 0, .ifc]
def endU : Lib.NumEnd Nat → AV
  | .ok v => .tup [.int .u64 v, .nili]
  | .range => .tup [.int .u64 18446744073709551615, .ifc]
  | _ => .tup [.int .u64 0, .ifc]
class HasNum (E : Ext) : Prop where
  fmt : ∀ (k n : Nat) (v : Int), -9223372036854775808 ≤ v → v ≤ 9223372036854775807 → kp E k n strconv_FormatInt [.int .i64 v, .int .i64 10] = some (.str (str (Lib.itoa v)))
  itoa : ∀ (k n : Nat) (v : Int), -9223372036854775808 ≤ v → v ≤ 9223372036854775807 → kp E k n strconv_Itoa [.int .i64 v] = some (.str (str (Lib.itoa v)))
  cutP : ∀ (k n : Nat) (s p : List UInt8), kp E k n strings_CutPrefix [.str (str s), .str (str p)] = some (.tup [.str (str (Lib.trimPrefix s p)), .bool (Lib.hasPrefix s p)])
  trimR : ∀ (k n : Nat) (s : List UInt8) (x : UInt8), x.toNat < 128 → s.length ≤ 9223372036854775807 → kp E k n strings_TrimRight [.str (str s), .str (str [x])] = some (.str (str (Lib.trimRightB s x)))
  index : ∀ (k n : Nat) (s : List UInt8) (x : UInt8), kp E k n stringslite_Index [.str (str s), .str (str [x])] = some (.int .i64 (Lib.indexByte s x))
  indexB : ∀ (k n : Nat) (s : List UInt8) (c : Int), kp E k n strings_IndexByte [.str (str s), .int .u8 c] = some (.int .i64 (Lib.indexByte s c.toNat.toUInt8))
  rep : ∀ (k n : Nat) (s : List UInt8) (c : Nat), c ≤ 9223372036854775807 → s.length * c ≤ 140737488355328 → kp E k n strings_Repeat [.str (str s), .int .i64 c] = some (.str (str (Lib.repeatL s c)))
  pint : ∀ (k n : Nat) (s : List UInt8), s.length ≤ 281474976710656 → kp E k n strconv_ParseInt [.str (str s), .int .i64 10, .int .i64 64] = some (endI (Lib.parseIntB 64 s) (Lib.intSat 64 s))
  puint : ∀ (k n : Nat) (s : List UInt8), s.length ≤ 281474976710656 → kp E k n strconv_ParseUint [.str (str s), .int .i64 10, .int .i64 64] = some (endU (Lib.parseUintB 64 s))

theorem digits_loop (kap : FuncId → List AV → Option AV) : ∀ (suf pre : List UInt8) (k0 : Nat), suf.length < k0 → (pre ++ suf).length < 1000000000000000 →
    dec_digits_L0 kap k k0 (str (pre ++ suf)) (((pre ++ suf).length : Nat) : Int) ((pre.length : Nat) : Int) = some (.bool (suf.all isDig && !(pre ++ suf).isEmpty))
  | [], pre, k0 + 1, h, hb => by
    rw [dec_digits_L0_s, nlt, decide_eq_false (by simp), cond_false, str_dec]
    cases pre <;> simp
  | c :: suf, pre, k0 + 1, h, hb => by
    rw [dec_digits_L0_s]
    rw [mid_len] at hb
    have hg : (pre ++ c :: suf).getD pre.length 0 = c := mid_byte _ _ _
    rw [str_size, mid_len, dec0, nlt, decide_eq_true (by omega), Bool.true_and, cond_true, cond_true, cond_true, Int.toNat_natCast, str_byte, hg, List.all_cons]
    by_cases h1 : 48 ≤ c.toNat
    · rw [bif_f (by omega)]
      by_cases h2 : c.toNat ≤ 57
      · rw [bif_f (by omega), wrap1 (by omega)]
        have := digits_loop kap suf (pre ++ [c]) k0 (by simpa using h) (by simp; omega)
        rw [List.append_assoc, List.singleton_append, mid_len, List.length_append, List.length_singleton] at this
        rw [this, dig_iff.2 ⟨h1, h2⟩, Bool.true_and]
      · rw [bif_t (by omega), show isDig c = false from by simp [isDig]; omega]
        rfl
    · rw [bif_t (by omega), show isDig c = false from by simp [isDig]; omega]
      rfl
theorem digits_k (l : List UInt8) (hb : l.length < 1000000000000000) (hk : l.length < k) : kp E k (n + 1) dec_digits [.str (str l)] = some (.bool (digs l)) := by
  rw [dec_digits_eq, str_size]
  exact digits_loop _ l [] k hk hb
theorem head_lead (l : List UInt8) (hl : l ≠ []) : decide (l.getD 0 0 = 48) = decide (l.headD 0 = 48) := by cases l <;> simp at hl ⊢
theorem digs_ne {l : List UInt8} (h : digs l = true) : l ≠ [] := by
  intro e
  subst e
  simp [digs] at h
theorem digs_all {l : List UInt8} (h : digs l = true) : l.all isDig = true := by
  unfold digs at h
  rw [Bool.and_eq_true] at h
  exact h.1
theorem byte48 (c : UInt8) : decide (((c.toNat : Nat) : Int) = (48 : Int)) = decide (c = 48) := byte_is c 48 (by omega)
theorem natural_k [HasNum E] (l : List UInt8) (hb : l.length < 100000000000000) (hk : l.length < k) : ∃ m : Int, kp E k (n + 2) dec_natural [.str (str l)] = some (.tup [.int .u64 m, .bool (natOk l)]) ∧ (natOk l = true → m = (valA 0 l : Int)) := by
  rw [dec_natural_eq, digits_k l (by omega) hk, callB_ok]
  unfold natOk
  cases hd : digs l with
  | false => exact ⟨0, rfl, fun h => by cases h⟩
  | true =>
    have hne := digs_ne hd
    have hpos : 0 < l.length := List.length_pos_iff.2 hne
    rw [Bool.not_true, cond_false, str_size, bif_t (by omega), str_byte, byte48, head_lead l hne, HasNum.puint k (n + 1) l (by omega), parseB_eq hd]
    have go : ∃ m : Int, (callT (β := AV) (some (endU (if valA 0 l ≤ 18446744073709551615 then Lib.NumEnd.ok (valA 0 l) else .range))) fun vt11 => (tupI .u64 vt11 fun vn12 vt13 => (tupV vt13 fun vr14 vt15 => (atNil vt15 (nilB vr14 fun q16 => (bif q16 then (some (.tup [(.int .u64 vn12), (.bool (decide (vn12 ≤ (9223372036854775808 : Int))))])) else (some (.tup [(.int .u64 vn12), (.bool false)])))))))) = some (.tup [.int .u64 m, .bool (decide (valA 0 l ≤ 9223372036854775808))]) ∧ (valA 0 l ≤ 9223372036854775808 → m = (valA 0 l : Int)) := by
      by_cases h3 : valA 0 l ≤ 18446744073709551615
      · rw [if_pos h3]
        refine ⟨(valA 0 l : Int), ?_, fun _ => rfl⟩
        have : decide (((valA 0 l : Nat) : Int) ≤ 9223372036854775808) = decide (valA 0 l ≤ 9223372036854775808) := by rw [decide_eq_decide]; omega
        rw [← this]
        rfl
      · rw [if_neg h3]
        refine ⟨18446744073709551615, ?_, fun h => by omega⟩
        rw [decide_eq_false (by omega)]
        rfl
    obtain ⟨m, g1, g2⟩ := go
    unfold lead
    by_cases h1 : l.headD 0 = 48
    · rw [decide_eq_true h1, cond_true]
      by_cases h2 : 1 < l.length
      · rw [bif_t (by omega), decide_eq_true h2]
        exact ⟨0, rfl, fun h => by simp at h⟩
      · rw [bif_f (by omega), decide_eq_false h2, g1]
        exact ⟨m, by simp, fun h => g2 (by simpa using h)⟩
    · rw [decide_eq_false h1, cond_false, g1]
      exact ⟨m, by simp, fun h => g2 (by simpa using h)⟩
theorem ofInt_u8 (d : Nat) (h : d < 10) : (IntKind.wrap .u8 (IntKind.wrap .i64 ((48 : Int) + (d : Int)))) = ((48 + d : Nat) : Int) := by
  rw [i64w (by omega)]
  match d, h with
  | 0, _ | 1, _ | 2, _ | 3, _ | 4, _ | 5, _ | 6, _ | 7, _ | 8, _ | 9, _ => rfl
theorem digits_ref (m : Nat) : ∀ (u : Nat), u < 10 ^ (m + 1) → u ≤ 9223372036854775807 → kp E k (n + m + 1) ref04_Digits [.int .i64 (u : Int)] = some (.str (str (Lib.decDigits u))) := by
  induction m with
  | zero =>
    intro u hu _
    rw [ref04_Digits_eq, bif_t (by omega), ofInt_u8 u (by omega), Lib.decDigits_one (by omega)]
    rfl
  | succ m ih =>
    intro u hu hm
    by_cases h : u < 10
    · rw [ref04_Digits_eq, bif_t (by omega), ofInt_u8 u (by omega), Lib.decDigits_one h]
      rfl
    · have hu' : u < 10 ^ (m + 1) * 10 := by rw [← Nat.pow_succ]; exact hu
      have e1 : Int.tdiv (u : Int) 10 = ((u / 10 : Nat) : Int) := rfl
      have e2 : Int.tmod (u : Int) 10 = ((u % 10 : Nat) : Int) := rfl
      rw [show n + (m + 1) + 1 = (n + m + 1) + 1 from rfl, ref04_Digits_eq, bif_f (by omega), e1, e2, i64w (x := ((u / 10 : Nat) : Int)) (by omega), ih (u / 10) (by omega) (by omega), callS_ok, ofInt_u8 _ (by omega)]
      have hlen : (Lib.decDigits (u / 10)).length ≤ 21 := by
        have := Lib.itoa_length_le ((u / 10 : Nat) : Int) (by omega) (by omega)
        rwa [Lib.itoa_nonneg] at this
      show (bif decide ((str (Lib.decDigits (u / 10))).size + (str [UInt8.ofNat (48 + u % 10)]).size ≤ 9223372036854775807) then _ else _) = _
      rw [str_size, str_size, bif_t (by simp; omega), decDigits_rec h]
      rw [str_app, Int.toNat_natCast]
end Go.Proofs.YtogfcfgfkggmlaaGreatDoor.Eng.U


/- The functions of the Dec laws in plain words, part 2: printing. -/
set_option linter.unusedVariables false
set_option linter.unusedSectionVars false
set_option linter.unusedSimpArgs false
namespace Go.Proofs.YtogfcfgfkggmlaaGreatDoor.Eng.U
open Go Go.Proofs Go.Proofs.YtogfcfgfkggmlaaGreatDoor.Eng Go.Proofs.YtogfcfgfkggmlaaGreatDoor.P04
variable {E : Ext} [Core E] [HasNum E] {k n : Nat}

theorem text_k (v : Int) (h0 : -9223372036854775808 ≤ v) (h1 : v ≤ 9223372036854775807) : kp E k (n + 1) dec_Text [.int .i64 v] = some (.str (str (Lib.itoa v))) := by
  rw [dec_Text_eq, HasNum.fmt k n v h0 h1, callS_ok]
theorem dig_len (u : Nat) (h : u ≤ 9223372036854775808) : (Lib.decDigits u).length ≤ 21 := by
  rw [Lib.decDigits_length]
  cases u with
  | zero => rw [Lib.nDigits_small (by omega)]; omega
  | succ u =>
    by_cases h2 : u + 1 < 9223372036854775808
    · have := Lib.itoa_length_le ((u + 1 : Nat) : Int) (by omega) (by omega)
      rwa [Lib.itoa_nonneg, Lib.decDigits_length] at this
    · rw [Lib.nDigits_unique 18 (u + 1) (by omega) (by omega)]; omega
theorem digits20 (u : Nat) (hu : u ≤ 9223372036854775807) : kp E k (n + 19) ref04_Digits [.int .i64 (u : Int)] = some (.str (str (Lib.decDigits u))) :=
  digits_ref (n := n) 18 u (by omega) hu
theorem refText_k (v : Int) (h0 : -9223372036854775808 ≤ v) (h1 : v ≤ 9223372036854775807) : kp E k (n + 20) ref04_Text [.int .i64 v] = some (.str (str (Lib.itoa v))) := by
  rw [ref04_Text_eq]
  by_cases hv : 0 ≤ v
  · obtain ⟨u, rfl⟩ := Int.eq_ofNat_of_zero_le hv
    rw [bif_t (by omega), digits20 u (by omega), callS_ok, Lib.itoa_nonneg]
  · obtain ⟨u, rfl⟩ : ∃ u : Nat, v = -(u : Int) := ⟨v.natAbs, by omega⟩
    have e1 : Int.tdiv (-(u : Int)) 10 = -((u / 10 : Nat) : Int) := by rw [Int.neg_tdiv]; rfl
    have e2 : Int.tmod (-(u : Int)) 10 = -((u % 10 : Nat) : Int) := by rw [Int.neg_tmod]; rfl
    rw [bif_f (by omega), Lib.itoa_neg u (by omega)]
    by_cases hs : u < 10
    · have := dig_len u (by omega)
      rw [bif_t (by omega), i64w (by omega), show (0 : Int) - -(u : Int) = (u : Int) from by omega, digits20 u (by omega), callS_ok, str_size, bif_t (by omega), str_app]
      rfl
    · have g1 := dig_len (u / 10) (by omega)
      have g2 := dig_len (u % 10) (by omega)
      rw [bif_f (by omega), e1, e2, i64w (x := -((u / 10 : Nat) : Int)) (by omega), i64w (x := 0 - -((u / 10 : Nat) : Int)) (by omega), show (0 : Int) - -((u / 10 : Nat) : Int) = ((u / 10 : Nat) : Int) from by omega, digits20 (u / 10) (by omega), callS_ok, str_size, bif_t (by omega), i64w (by omega), show (0 : Int) - -((u % 10 : Nat) : Int) = ((u % 10 : Nat) : Int) from by omega, digits20 (u % 10) (by omega), callS_ok, str_app, str_size, str_size, bif_t (by simp; omega), str_app, decDigits_rec hs, Lib.decDigits_one (i := u % 10) (by omega)]
      rfl
def rightT (t : Int) : Bool := decide (0 ≤ t) && decide (t < 1000000000)
theorem right_k (s t : Int) : kp E k (n + 1) dec_Right [.agg [.int .i64 s, .int .i64 t]] = some (.bool (rightT t)) := by
  rw [dec_Right_eq]
  unfold rightT
  by_cases h : 0 ≤ t
  · rw [bif_t (by omega), decide_eq_true h, Bool.true_and]
  · rw [bif_f (by omega), decide_eq_false h, Bool.false_and]
theorem frac_len : ∀ k n, (frac k n).length = k
  | 0, _ => rfl
  | k + 1, n => by unfold frac; rw [List.length_cons, frac_len k]
theorem loopP_len : ∀ k n, (loopP k n).length ≤ k
  | 0, _ => Nat.le_refl _
  | k + 1, n => by
    unfold loopP
    split
    · simp
    · rw [List.length_cons]
      have := loopP_len k (n % 100000000 * 10)
      omega
theorem fmt_frac (m : Nat) (h : m < 1000000000) : kp E k n strconv_FormatInt [.int .i64 ((1000000000 + m : Nat) : Int), .int .i64 10] = some (.str (str (49 :: frac 9 m))) := by
  rw [HasNum.fmt k n _ (by omega) (by omega), Lib.itoa_nonneg, digits_frac m h]
theorem ext_one (c : UInt8) (l : List UInt8) : ByteArray.extract (str (c :: l)) 1 (l.length + 1) = str l := by
  rw [str_ext]
  simp
theorem print_k (s t : Int) (h0 : -9223372036854775808 ≤ s) (h1 : s ≤ 9223372036854775807) : kp E k (n + 3) dec_Print [.agg [.int .i64 s, .int .i64 t]] = some (bif rightT t then .tup [.str (str (printL s t)), .int .u8 0] else .tup [.str (str []), .int .u8 15]) := by
  rw [dec_Print_eq, right_k, callB_ok]
  cases hr : rightT t with
  | false => rfl
  | true =>
    unfold rightT at hr
    rw [Bool.and_eq_true, decide_eq_true_eq, decide_eq_true_eq] at hr
    rw [Bool.not_true, cond_false, cond_true]
    unfold printL
    by_cases ht : t = 0
    · rw [bif_t ht, if_pos ht, text_k s h0 h1, callS_ok]
    · rw [bif_f ht, if_neg ht]
      have tail : ∀ (pre u : List UInt8) (m : Nat), 0 < m → m < 1000000000 → u.length ≤ 21 → pre.length ≤ 1 → (bif (decide ((1 : Int) ≤ (((ByteArray.size (str (49 :: frac 9 m))) : Nat) : Int))) then (callS (some (.str (str u))) fun vs8 => (bif (decide (pre.length + (ByteArray.size vs8) ≤ 9223372036854775807)) then (bif (decide ((ByteArray.size ((str pre) ++ vs8)) + 1 ≤ 9223372036854775807)) then (callS (kp E k (n + 2) strings_TrimRight [(.str (ByteArray.extract (str (49 :: frac 9 m)) 1 (ByteArray.size (str (49 :: frac 9 m))))), (.str (str [48]))]) fun vs10 => (bif (decide ((ByteArray.size (((str pre) ++ vs8) ++ (str [46]))) + (ByteArray.size vs10) ≤ 9223372036854775807)) then (some (AV.tup [(.str ((((str pre) ++ vs8) ++ (str [46])) ++ vs10)), (.int .u8 (0 : Int))])) else none)) else none) else none)) else none)
          = some (.tup [.str (str (pre ++ u ++ [46] ++ loopP 9 m)), .int .u8 0]) := by
        intro pre u m hm0 hm hu hp
        have hf := frac_len 9 m
        have hl := loopP_len 9 m
        rw [str_size, List.length_cons, bif_t (by omega), callS_ok, str_size, bif_t (by omega), str_app, str_size, bif_t (by simp; omega), ext_one, HasNum.trimR k (n + 2) _ 48 (by decide) (by omega), callS_ok, trim_frac 9 m hm (by simp [Nat.mod_one]) (by omega), str_app, str_size, str_size, bif_t (by simp; omega), str_app]
      by_cases hs : s < 0
      · obtain ⟨m, hm⟩ := Int.eq_ofNat_of_zero_le (show 0 ≤ 1000000000 - t by omega)
        obtain ⟨u, hu⟩ := Int.eq_ofNat_of_zero_le (show 0 ≤ -(s + 1) by omega)
        rw [bif_t hs, if_pos hs, i64w (x := 1000000000 - t) (by omega), hm, i64w (by omega), show (1000000000 : Int) + (m : Int) = ((1000000000 + m : Nat) : Int) from by omega, fmt_frac m (by omega), callS_ok, i64w (x := s + 1) (by omega), i64w (x := 0 - (s + 1)) (by omega), show (0 : Int) - (s + 1) = (u : Int) from by omega, hu, text_k _ (by omega) (by omega), Lib.itoa_nonneg]
        exact tail [45] _ m (by omega) (by omega) (dig_len u (by omega)) (by simp)
      · obtain ⟨m, rfl⟩ := Int.eq_ofNat_of_zero_le hr.1
        obtain ⟨u, rfl⟩ := Int.eq_ofNat_of_zero_le (show 0 ≤ s by omega)
        rw [bif_f hs, if_neg hs, i64w (by omega), show (1000000000 : Int) + (m : Int) = ((1000000000 + m : Nat) : Int) from by omega, fmt_frac m (by omega), callS_ok, text_k _ (by omega) (by omega), Lib.itoa_nonneg]
        exact tail [] _ m (by omega) (by omega) (dig_len u (by omega)) (by simp)
end Go.Proofs.YtogfcfgfkggmlaaGreatDoor.Eng.U


/- The functions of the Dec laws in plain words, part 3: reading. -/
set_option linter.unusedVariables false
set_option linter.unusedSectionVars false
set_option linter.unusedSimpArgs false
namespace Go.Proofs.YtogfcfgfkggmlaaGreatDoor.Eng.U
open Go Go.Proofs Go.Proofs.YtogfcfgfkggmlaaGreatDoor.Eng Go.Proofs.YtogfcfgfkggmlaaGreatDoor.P04
variable {E : Ext} [Core E] [HasNum E] {k n : Nat}

theorem dot_le (t : List UInt8) : dot t ≤ t.length := List.findIdx_le_length
theorem cut_k (t : List UInt8) (ht : t.length < 1000000000000) : kp E k (n + 2) strings_Cut [.str (str t), .str (str [46])] = some (.tup [.str (str (t.take (dot t))), .str (str (t.drop (dot t + 1))), .bool (decide (dot t < t.length))]) := by
  have hd := dot_le t
  rw [strings_Cut_eq, stringslite_Cut_eq, HasNum.index k n t 46, callI_ok, index_dot]
  by_cases h : dot t < t.length
  · rw [if_pos h, decide_eq_true h, bif_t (by omega), str_size, str_size, List.length_singleton, wrapP (by omega) (by omega), bif_a, bif_t (by omega), bif_t (by omega), bif_a, bif_t (by omega), bif_t (by omega), Int.toNat_natCast, Int.toNat_natCast, str_ext, str_ext, List.take_length, List.drop_zero]
    rfl
  · rw [if_neg h, decide_eq_false h, bif_f (by omega), List.take_of_length_le (by omega), List.drop_of_length_le (by omega)]
    rfl
theorem trim_minus (s : List UInt8) : Lib.trimPrefix s [45] = (if s.head? = some 45 then s.drop 1 else s) ∧ Lib.hasPrefix s [45] = decide (s.head? = some 45) := by
  have h : Lib.hasPrefix s [45] = decide (s.head? = some 45) := by
    unfold Lib.hasPrefix
    cases s with
    | nil => rfl
    | cons c s =>
      simp only [List.isPrefixOf, List.head?_cons, Option.some.injEq, Bool.and_true]
      rw [Bool.eq_iff_iff, beq_iff_eq, decide_eq_true_eq]
      exact eq_comm
  refine ⟨?_, h⟩
  unfold Lib.trimPrefix
  rw [h]
  by_cases hs : s.head? = some 45
  · rw [if_pos hs, if_pos (decide_eq_true hs)]; rfl
  · rw [if_neg hs, if_neg (by simpa using hs)]
theorem repeat48 : ∀ c, Lib.repeatL [48] c = List.replicate c (48 : UInt8)
  | 0 => rfl
  | c + 1 => by rw [Lib.repeatL, repeat48 c]; rfl
theorem zeros_dig (c : Nat) : (List.replicate c (48 : UInt8)).all isDig = true := by
  rw [List.all_eq_true]
  intro x hx
  rw [List.eq_of_mem_replicate hx]
  rfl
theorem parseI_eq {l : List UInt8} (hd : digs l = true) (h9 : l.length ≤ 9) : Lib.parseIntB 64 l = .ok (valA 0 l : Int) ∧ valA 0 l < 1000000000 := by
  have hall := digs_all hd
  have hv : valA 0 l < 10 ^ (0 + l.length) := valA_lt l 0 0 hall (by omega)
  have hp : 10 ^ (0 + l.length) ≤ 10 ^ 9 := Nat.pow_le_pow_right (by omega) (by omega)
  have hlt : valA 0 l < 1000000000 := by omega
  refine ⟨?_, hlt⟩
  have hB := parseB_eq hd
  rw [if_pos (by omega)] at hB
  cases l with
  | nil => simp [digs] at hd
  | cons c r =>
    rw [List.all_cons, Bool.and_eq_true] at hall
    have hc := dig_iff.1 hall.1
    unfold Lib.parseIntB
    dsimp only
    rw [if_neg (show ¬ (c.toNat = 43 ∨ c.toNat = 45) by omega), hB]
    dsimp only
    have h1 : ¬ (2 : Nat) ^ (64 - 1) ≤ valA 0 (c :: r) := by
      have : (2 : Nat) ^ (64 - 1) = 9223372036854775808 := rfl
      omega
    rw [if_neg (fun h => h1 h.2), if_neg (fun h => by omega), if_neg (by omega)]
theorem nano_digs {b : List UInt8} (hd : digs b = true) (h9 : b.length ≤ 9) : digs (b ++ List.replicate (9 - b.length) 48) = true ∧ (b ++ List.replicate (9 - b.length) (48 : UInt8)).length = 9 := by
  constructor
  · unfold digs
    rw [List.all_append, digs_all hd, zeros_dig, Bool.true_and, Bool.true_and]
    have := digs_ne hd
    cases b with
    | nil => exact absurd rfl this
    | cons c b => rfl
  · rw [List.length_append, List.length_replicate]; omega
theorem half {v : Nat} : decide (Int.fdiv (v : Int) (2 ^ (min (Int.toNat (63 : Int)) (IntKind.bits .u64))) > (0 : Int)) = decide (9223372036854775807 < v) := by
  have e : ((2 : Int) ^ (min (Int.toNat (63 : Int)) (IntKind.bits .u64))) = 9223372036854775808 := rfl
  rw [e, decide_eq_decide, Int.fdiv_eq_ediv_of_nonneg _ (by omega)]
  omega
theorem negW {v : Nat} (h : v ≤ 9223372036854775808) : IntKind.wrap .i64 (IntKind.wrap .u64 (0 - (v : Int))) = -(v : Int) := by
  rw [IntKind.wrap_u64, IntKind.wrap_i64]
  omega
def timeAV : Option (Int × Int) → AV
  | some (a, b) => .tup [.agg [.int .i64 a, .int .i64 b], .int .u8 0]
  | none => .tup [.agg [.int .i64 0, .int .i64 0], .int .u8 15]
theorem number_k (l : List UInt8) (hb : l.length < 1000000000000) (hk : l.length < k) : kp E k (n + 3) dec_Number [.str (str l)] = some (bif natOk l && decide (valA 0 l ≤ 9223372036854775807) then .tup [.int .i64 (valA 0 l : Int), .int .u8 0] else .tup [.int .i64 0, .int .u8 15]) := by
  obtain ⟨m, h1, h2⟩ := natural_k (E := E) (k := k) (n := n) l (by omega) hk
  rw [dec_Number_eq, h1]
  simp (disch := first | omega | (simp only [List.length_append, List.length_cons, List.length_nil, List.length_take, List.length_drop]; done) | (simp only [List.length_append, List.length_cons, List.length_nil, List.length_take, List.length_drop]; omega) | fail) only [bif_t, bif_f, bif_n, bif_a, callB_ok, callI_ok, callS_ok, callL_ok, callF_ok, callT_ok, tupB_ok, tupI_ok, tupS_ok, tupL_ok, tupF_ok, atNil_ok, wrap1, wrapM, wrapP, Int.toNat_natCast, svs_len, ivs_len, bvs_len, str_size, svs_mid, ivs_mid, str_dec, str_ext, str_byte, mid_byte, mid_cut, List.length_nil, List.length_singleton, svs_snoc, ivs_snoc, svs_take, svs_drop, str_app, List.take_length, List.drop_zero, List.nil_append, cond_true, cond_false, Option.bind_some, Bool.not_true, Bool.not_false, Bool.true_and, Bool.and_true]
  cases ho : natOk l with
  | false => rfl
  | true =>
    rw [h2 ho]
    simp only [Bool.not_true, cond_false, Bool.true_and, half]
    by_cases hv : 9223372036854775807 < valA 0 l
    · rw [bif_t hv, decide_eq_false (by omega)]; rfl
    · rw [bif_f hv, decide_eq_true (by omega), i64w (by omega)]; rfl
theorem natOk_le {l : List UInt8} (ho : natOk l = true) : valA 0 l ≤ 9223372036854775808 := by
  unfold natOk at ho
  rw [Bool.and_eq_true, decide_eq_true_eq] at ho
  exact ho.2
theorem time_k (s : List UInt8) (hs : s.length < 100000000000) (hk : s.length < k) : kp E k (n + 3) dec_Time [.str (str s)] = some (timeAV (timeL s)) := by
  obtain ⟨t1, t2⟩ := trim_minus s
  rw [dec_Time_eq, HasNum.cutP, t1, t2]
  unfold timeL
  have hle : (if s.head? = some 45 then s.drop 1 else s).length ≤ s.length := by split <;> simp
  generalize (if s.head? = some 45 then s.drop 1 else s) = t at hle
  generalize decide (s.head? = some 45) = minus
  simp (disch := first | omega | (simp only [List.length_append, List.length_cons, List.length_nil, List.length_take, List.length_drop]; done) | (simp only [List.length_append, List.length_cons, List.length_nil, List.length_take, List.length_drop]; omega) | fail) only [bif_t, bif_f, bif_n, bif_a, callB_ok, callI_ok, callS_ok, callL_ok, callF_ok, callT_ok, tupB_ok, tupI_ok, tupS_ok, tupL_ok, tupF_ok, atNil_ok, wrap1, wrapM, wrapP, Int.toNat_natCast, svs_len, ivs_len, bvs_len, str_size, svs_mid, ivs_mid, str_dec, str_ext, str_byte, mid_byte, mid_cut, List.length_nil, List.length_singleton, svs_snoc, ivs_snoc, svs_take, svs_drop, str_app, List.take_length, List.drop_zero, List.nil_append, cond_true, cond_false, Option.bind_some, Bool.not_true, Bool.not_false, Bool.true_and, Bool.and_true]
  rw [cut_k t (by omega)]
  simp (disch := first | omega | (simp only [List.length_append, List.length_cons, List.length_nil, List.length_take, List.length_drop]; done) | (simp only [List.length_append, List.length_cons, List.length_nil, List.length_take, List.length_drop]; omega) | fail) only [bif_t, bif_f, bif_n, bif_a, callB_ok, callI_ok, callS_ok, callL_ok, callF_ok, callT_ok, tupB_ok, tupI_ok, tupS_ok, tupL_ok, tupF_ok, atNil_ok, wrap1, wrapM, wrapP, Int.toNat_natCast, svs_len, ivs_len, bvs_len, str_size, svs_mid, ivs_mid, str_dec, str_ext, str_byte, mid_byte, mid_cut, List.length_nil, List.length_singleton, svs_snoc, ivs_snoc, svs_take, svs_drop, str_app, List.take_length, List.drop_zero, List.nil_append, cond_true, cond_false, Option.bind_some, Bool.not_true, Bool.not_false, Bool.true_and, Bool.and_true]
  obtain ⟨m, h1, h2⟩ := natural_k (E := E) (k := k) (n := n) (t.take (dot t)) (by rw [List.length_take]; omega) (by rw [List.length_take]; omega)
  rw [h1]
  simp (disch := first | omega | (simp only [List.length_append, List.length_cons, List.length_nil, List.length_take, List.length_drop]; done) | (simp only [List.length_append, List.length_cons, List.length_nil, List.length_take, List.length_drop]; omega) | fail) only [bif_t, bif_f, bif_n, bif_a, callB_ok, callI_ok, callS_ok, callL_ok, callF_ok, callT_ok, tupB_ok, tupI_ok, tupS_ok, tupL_ok, tupF_ok, atNil_ok, wrap1, wrapM, wrapP, Int.toNat_natCast, svs_len, ivs_len, bvs_len, str_size, svs_mid, ivs_mid, str_dec, str_ext, str_byte, mid_byte, mid_cut, List.length_nil, List.length_singleton, svs_snoc, ivs_snoc, svs_take, svs_drop, str_app, List.take_length, List.drop_zero, List.nil_append, cond_true, cond_false, Option.bind_some, Bool.not_true, Bool.not_false, Bool.true_and, Bool.and_true]
  unfold timeB
  dsimp only
  cases ho : natOk (t.take (dot t)) with
  | false => rfl
  | true =>
    obtain rfl := h2 ho
    have hv := natOk_le ho
    generalize valA 0 (t.take (dot t)) = v at hv
    rw [if_neg (by simp)]
    simp only [half, cond_true, cond_false, Bool.not_true, Bool.not_false]
    by_cases hp : dot t < t.length
    · have hbl : (t.drop (dot t + 1)).length ≤ t.length := by rw [List.length_drop]; omega
      rw [decide_eq_true hp]
      generalize hbe : t.drop (dot t + 1) = b at hbl
      rw [if_pos hp]
      simp only [cond_true, cond_false, Bool.not_true, Bool.not_false]
      rw [digits_k b (by omega) (by omega)]
      simp (disch := first | omega | (simp only [List.length_append, List.length_cons, List.length_nil, List.length_take, List.length_drop]; done) | (simp only [List.length_append, List.length_cons, List.length_nil, List.length_take, List.length_drop]; omega) | fail) only [bif_t, bif_f, bif_n, bif_a, callB_ok, callI_ok, callS_ok, callL_ok, callF_ok, callT_ok, tupB_ok, tupI_ok, tupS_ok, tupL_ok, tupF_ok, atNil_ok, wrap1, wrapM, wrapP, Int.toNat_natCast, svs_len, ivs_len, bvs_len, str_size, svs_mid, ivs_mid, str_dec, str_ext, str_byte, mid_byte, mid_cut, List.length_nil, List.length_singleton, svs_snoc, ivs_snoc, svs_take, svs_drop, str_app, List.take_length, List.drop_zero, List.nil_append, cond_true, cond_false, Option.bind_some, Bool.not_true, Bool.not_false, Bool.true_and, Bool.and_true]
      cases hd : digs b with
      | false => rw [if_pos ⟨hp, fun h => by simp at h⟩]; rfl
      | true =>
        simp only [cond_true, cond_false, Bool.not_true, Bool.not_false]
        by_cases h9 : b.length ≤ 9
        · obtain ⟨q1, q2⟩ := nano_digs hd h9
          obtain ⟨q3, q4⟩ := parseI_eq q1 (by omega)
          rw [if_neg (fun h => h.2 ⟨trivial, h9⟩), bif_f (by omega), i64w (x := 9 - ((b.length : Nat) : Int)) (by omega), show (9 : Int) - ((b.length : Nat) : Int) = ((9 - b.length : Nat) : Int) from by omega, HasNum.rep k (n + 2) _ _ (by omega) (by rw [List.length_singleton]; omega), repeat48]
          simp (disch := first | omega | (simp only [List.length_append, List.length_cons, List.length_nil, List.length_take, List.length_drop]; done) | (simp only [List.length_append, List.length_cons, List.length_nil, List.length_take, List.length_drop]; omega) | fail) only [bif_t, bif_f, bif_n, bif_a, callB_ok, callI_ok, callS_ok, callL_ok, callF_ok, callT_ok, tupB_ok, tupI_ok, tupS_ok, tupL_ok, tupF_ok, atNil_ok, wrap1, wrapM, wrapP, Int.toNat_natCast, svs_len, ivs_len, bvs_len, str_size, svs_mid, ivs_mid, str_dec, str_ext, str_byte, mid_byte, mid_cut, List.length_nil, List.length_singleton, svs_snoc, ivs_snoc, svs_take, svs_drop, str_app, List.take_length, List.drop_zero, List.nil_append, cond_true, cond_false, Option.bind_some, Bool.not_true, Bool.not_false, Bool.true_and, Bool.and_true]
          rw [List.length_replicate, bif_t (by omega), HasNum.pint k (n + 2) _ (by omega), q3]
          generalize valA 0 (b ++ List.replicate (9 - b.length) 48) = w at q4
          unfold endI
          simp (disch := first | omega | (simp only [List.length_append, List.length_cons, List.length_nil, List.length_take, List.length_drop]; done) | (simp only [List.length_append, List.length_cons, List.length_nil, List.length_take, List.length_drop]; omega) | fail) only [bif_t, bif_f, bif_n, bif_a, callB_ok, callI_ok, callS_ok, callL_ok, callF_ok, callT_ok, tupB_ok, tupI_ok, tupS_ok, tupL_ok, tupF_ok, atNil_ok, wrap1, wrapM, wrapP, Int.toNat_natCast, svs_len, ivs_len, bvs_len, str_size, svs_mid, ivs_mid, str_dec, str_ext, str_byte, mid_byte, mid_cut, List.length_nil, List.length_singleton, svs_snoc, ivs_snoc, svs_take, svs_drop, str_app, List.take_length, List.drop_zero, List.nil_append, cond_true, cond_false, Option.bind_some, Bool.not_true, Bool.not_false, Bool.true_and, Bool.and_true]
          have e0 : ∀ K : AV → List AV → Option AV, tupV [AV.nili] K = K .nili [] := fun K => rfl
          rw [e0]
          simp (disch := first | omega | (simp only [List.length_append, List.length_cons, List.length_nil, List.length_take, List.length_drop]; done) | (simp only [List.length_append, List.length_cons, List.length_nil, List.length_take, List.length_drop]; omega) | fail) only [bif_t, bif_f, bif_n, bif_a, callB_ok, callI_ok, callS_ok, callL_ok, callF_ok, callT_ok, tupB_ok, tupI_ok, tupS_ok, tupL_ok, tupF_ok, atNil_ok, wrap1, wrapM, wrapP, Int.toNat_natCast, svs_len, ivs_len, bvs_len, str_size, svs_mid, ivs_mid, str_dec, str_ext, str_byte, mid_byte, mid_cut, List.length_nil, List.length_singleton, svs_snoc, ivs_snoc, svs_take, svs_drop, str_app, List.take_length, List.drop_zero, List.nil_append, cond_true, cond_false, Option.bind_some, Bool.not_true, Bool.not_false, Bool.true_and, Bool.and_true]
          cases minus with
          | false =>
            simp only [cond_true, cond_false, Bool.not_true, Bool.not_false, if_true]
            by_cases h3 : 9223372036854775807 < v
            · rw [bif_t h3, if_pos h3]; rfl
            · rw [bif_f h3, if_neg h3, i64w (by omega)]; rfl
          | true =>
            simp only [cond_true, cond_false, Bool.not_true, Bool.not_false, if_neg (show ¬ true = false by decide)]
            by_cases h4 : w = 0
            · subst h4
              rw [bif_t (by omega), if_pos rfl, negW (by omega)]; rfl
            · rw [bif_f (by omega), if_neg h4]
              by_cases h3 : 9223372036854775807 < v
              · rw [bif_t h3, if_pos h3]; rfl
              · rw [bif_f h3, if_neg h3, i64w (x := (v : Int)) (by omega), i64w (x := 0 - (v : Int)) (by omega), i64w (x := 0 - (v : Int) - 1) (by omega), i64w (by omega), show (0 : Int) - (v : Int) - 1 = -(v : Int) - 1 from by omega]; rfl
        · rw [if_pos ⟨hp, fun h => h9 h.2⟩, bif_t (by omega)]
          rfl
    · rw [decide_eq_false hp, if_neg (fun h => hp h.1), if_neg hp]
      simp only [cond_true, cond_false, Bool.not_true, Bool.not_false]
      cases minus with
      | false =>
        simp only [cond_true, cond_false, Bool.not_true, Bool.not_false, if_true]
        by_cases h3 : 9223372036854775807 < v
        · rw [bif_t h3, if_pos h3]; rfl
        · rw [bif_f h3, if_neg h3, i64w (by omega)]; rfl
      | true =>
        simp only [cond_true, cond_false, Bool.not_true, Bool.not_false, if_neg (show ¬ true = false by decide), if_true]
        rw [negW (by omega)]; rfl
end Go.Proofs.YtogfcfgfkggmlaaGreatDoor.Eng.U


/- The Dec laws answer true. -/
set_option linter.unusedVariables false
set_option linter.unusedSectionVars false
set_option linter.unusedSimpArgs false
namespace Go.Proofs.YtogfcfgfkggmlaaGreatDoor.Eng.U
open Go Go.Proofs Go.Proofs.YtogfcfgfkggmlaaGreatDoor.Eng Go.Proofs.YtogfcfgfkggmlaaGreatDoor.P04
variable {E : Ext} [Core E] [HasNum E] {k n : Nat}

end Go.Proofs.YtogfcfgfkggmlaaGreatDoor.Eng.U


/- The program's own data as a row hands them in: what is read is some item, with bounds. -/
set_option linter.unusedVariables false
set_option linter.unusedSimpArgs false
namespace Go.Proofs.YtogfcfgfkggmlaaGreatDoor.Eng.U
open Go Go.Proofs Go.Proofs.YtogfcfgfkggmlaaGreatDoor.Eng Go.Proofs.YtogfcfgfkggmlaaGreatDoor.Eng.Rdv

def InR (n : Int) : Prop := -9223372036854775808 ≤ n ∧ n ≤ 9223372036854775807
structure G_apiPair (p : Pair) : Prop where
  key : p.key.length ≤ 140737488351232
  val : p.val.length ≤ 140737488351232
structure G_apiTime (t : Time) : Prop where
  sec : InR t.sec
  nano : InR t.nano
structure G_apiHead (h : Head) : Prop where
  kind : InR h.kind
  name : h.name.length ≤ 140737488351232
  link : h.link.length ≤ 140737488351232
  mode : InR h.mode
  uid : InR h.uid
  gid : InR h.gid
  size : InR h.size
  sec : InR h.sec
  nano : InR h.nano
  user : h.user.length ≤ 140737488351232
  group : h.group.length ≤ 140737488351232
  major : InR h.major
  minor : InR h.minor
  extra : h.extra.length * 32 ≤ 140737488351232
  pairs : ∀ p ∈ h.extra, G_apiPair p
structure G_apiItem (x : Item) : Prop where
  head : G_apiHead x.head
  data : x.data.length ≤ 140737488351232
theorem rdi {t : TypeId} (hu : Tryz.prog.underlying t = some (.int .i64)) (hc : Tryz.prog.cellsOf t = 1) : Rd Tryz.prog t (fun n : Int => [.int .i64 n]) InR := int hu hc
end Go.Proofs.YtogfcfgfkggmlaaGreatDoor.Eng.U


/- The library's functions that the Dec laws call, in pieces: numbers to text and back, texts cut. -/
set_option linter.unusedVariables false
set_option linter.unusedSectionVars false
set_option linter.unusedSimpArgs false
namespace Go.Proofs.YtogfcfgfkggmlaaGreatDoor.Eng.U
open Go Go.Proofs Go.Proofs.YtogfcfgfkggmlaaGreatDoor.Eng Go.RowKit

theorem str_self (s : ByteArray) : str s.data.toList = s := by cases s; simp [str]
theorem ok_tup {f : FuncId} {args rs : List AV} (hr : rs.all (fun r => !r.isFresh && r.leaf) = true) (h : ∀ (S : Stab) (w : World) (vals : List Value), Agree S w → GlobOk glob S w → VL S args vals → Calls Tryz.prog f vals.toArray w fun e w' => ∃ vs : List Value, e = .returned (.tuple vs.toArray) ∧ rs.length = vs.length ∧ (∀ (S' : Stab) (j : Nat) (c : AV) (u : Value), rs[j]? = some c → vs[j]? = some u → V S' c u) ∧ Below w.heap.size w w') (hr2 : (args.all fun c => !c.isRes) = true := by rfl) : Ok Tryz.prog glob f args (.tup rs) := by
  refine Ok.of_plain (fun c hc => by simpa using List.all_eq_true.1 hr2 c hc) fun S w vals hag hG hV => ?_
  have key : ∀ (j : Nat) (c : AV), rs[j]? = some c → c.isFresh = false ∧ c.leaf = true := by
    intro j c hc
    have := List.all_eq_true.1 hr c (List.mem_of_getElem? hc)
    simpa using this
  refine (h S w vals hag hG hV).mono ?_
  rintro e w' ⟨vs, rfl, hl, hv, hb⟩
  refine ⟨_, S, rfl, fun _ _ h => h, agree_below hag hb, fun _ _ h => .inl h, hb, vs, rfl, hl, fun j c u hc hu => ?_, fun i j c d u v g hc hd hf => ?_⟩
  · have h1 := hv S j c u hc hu
    obtain ⟨h2, h3⟩ := key j c hc
    cases c <;> first | (cases h2; done) | (cases h3; done) | exact h1
  · rw [(key i c hc).1] at hf; cases hf
theorem V2 {S : Stab} {a b : AV} {u v : Value} (ha : V S a u) (hb : V S b v) : ∀ (j : Nat) (c : AV) (x : Value), [a, b][j]? = some c → [u, v][j]? = some x → V S c x := by
  intro j c x hc hx
  match j with
  | 0 => cases hc; cases hx; exact ha
  | 1 => cases hc; cases hx; exact hb
  | j + 2 => simp at hc
theorem eptr_inv {S : Stab} {cs : List AV} {off : Nat} {p : Value} (h : V S (.eptr cs off) p) : ∃ (a : Addr) (f : Nat → Value), p = .pointer (some (a.add off)) ∧ (∀ (j : Nat) (c : AV), cs[j]? = some c → S (a.add j) = some (f j)) ∧ (∀ (j : Nat) (c : AV), cs[j]? = some c → V S c (f j)) := by
  cases h with
  | eptr cs off a f g2 g3 g4 => exact ⟨a, f, rfl, g3, g4⟩
theorem glob_cell {S : Stab} {w : World} {g : Nat} {cs : List AV} (hag : Agree S w) (hG : GlobOk glob S w) (hg : glob g = some cs) (j : Nat) (c : AV) (hj : cs[j]? = some c) : ∃ u, w.cell? ⟨g, j, none⟩ = some u ∧ V S c u := by
  obtain ⟨h1, arr, t, f, h2, h3⟩ := hG g _ hg
  obtain ⟨a, fv, he, g3, g4⟩ := eptr_inv h1
  have ha : a.add j = ⟨g, j, none⟩ := by
    have he' : (⟨g, 0, none⟩ : Addr) = a.add 0 := by injection he with e; injection e
    obtain ⟨b, o, s⟩ := a
    cases s with
    | none => rw [add_lit', Nat.add_zero] at he'; cases he'; rw [add_lit', Nat.zero_add]
    | some s => simp [Addr.add] at he'
  have := hag _ _ (g3 j c hj)
  rw [ha] at this
  exact ⟨_, this, g4 j c hj⟩
theorem tab_of {S : Stab} {w : World} {g : Nat} {name : String} {k : IntKind} {zs : List Int} (hag : Agree S w) (hG : GlobOk glob S w) (hg : glob g = some (zs.map fun z => .int k z)) (hn : Tryz.prog.globalNamed name = some g) : Lib.TabIs Tryz.prog w name k zs := by
  obtain ⟨h1, arr, t, f, h2, h3⟩ := hG g _ hg
  unfold Lib.TabIs World.var?
  rw [hn]
  simp only [Option.bind_some, h2, Option.some.injEq]
  rw [List.length_map] at h3
  refine Array.ext' ?_
  refine List.ext_getElem? fun j => ?_
  by_cases hj : j < zs.length
  · obtain ⟨u, hu, hv⟩ := glob_cell hag hG hg j (.int k zs[j]) (by rw [List.getElem?_map, List.getElem?_eq_getElem hj]; rfl)
    rw [V_int hv] at hu
    have e : w.cell? ⟨g, j, none⟩ = arr[j]? := by simp [World.cell?, h2]
    rw [e] at hu
    rw [List.toList_toArray, List.getElem?_map, List.getElem?_eq_getElem hj]
    simpa using hu
  · rw [List.toList_toArray, List.getElem?_eq_none (by simp; omega), List.getElem?_eq_none (by simp; omega)]
theorem iface_of {S : Stab} {w : World} {g : Nat} (hag : Agree S w) (hG : GlobOk glob S w) (hg : glob g = some [.ifc]) : ∃ t v, w.cell? ⟨g, 0, none⟩ = some (.iface t v) := by
  obtain ⟨u, hu, hv⟩ := glob_cell hag hG hg 0 .ifc rfl
  cases hv
  exact ⟨_, _, hu⟩
theorem below_grow (w : World) (n : Nat) (os : Array Obj) : Below w.heap.size w (Sort.grow (w.drewN n) os) :=
  ⟨rfl, rfl, rfl, by simp [Sort.grow, World.drewN], fun k hk => by
    show (w.heap ++ os)[k]? = _
    rw [Array.getElem?_append_left hk]⟩

def pFmt : Piece := { f := strconv_FormatInt, ans := fun args => match args with
  | [.int .i64 n, .int .i64 b] => bif decide (b = 10) && decide (-9223372036854775808 ≤ n) && decide (n ≤ 9223372036854775807) then some (.str (str (Lib.itoa n))) else none
  | _ => none }
def pItoa : Piece := { f := strconv_Itoa, ans := fun args => match args with
  | [.int .i64 n] => bif decide (-9223372036854775808 ≤ n) && decide (n ≤ 9223372036854775807) then some (.str (str (Lib.itoa n))) else none
  | _ => none }
def pCutP : Piece := { f := strings_CutPrefix, ans := fun args => match args with
  | [.str s, .str p] => some (.tup [.str (str (Lib.trimPrefix s.data.toList p.data.toList)), .bool (Lib.hasPrefix s.data.toList p.data.toList)])
  | _ => none }
def one (c : ByteArray) : Option UInt8 := match c.data.toList with | [x] => some x | _ => none
theorem one_some {c : ByteArray} {x : UInt8} (h : one c = some x) : c = ⟨#[x]⟩ := by
  unfold one at h
  split at h
  · rename_i y e
    cases h
    obtain ⟨⟨l⟩⟩ := c
    simp at e
    rw [e]
  · cases h
def pTrimR : Piece := { f := strings_TrimRight, ans := fun args => match args with
  | [.str s, .str c] => (one c).bind fun x => bif decide (x.toNat < 128) && decide (s.size ≤ 9223372036854775807) then some (.str (str (Lib.trimRightB s.data.toList x))) else none
  | _ => none }
def pIndex : Piece := { f := stringslite_Index, ans := fun args => match args with
  | [.str s, .str c] => (one c).bind fun x => some (.int .i64 (Lib.indexByte s.data.toList x))
  | _ => none }
def pIndexByte : Piece := { f := strings_IndexByte, ans := fun args => match args with
  | [.str s, .int .u8 c] => some (.int .i64 (Lib.indexByte s.data.toList c.toNat.toUInt8))
  | _ => none }
def pRepeat : Piece := { f := strings_Repeat, ans := fun args => match args with
  | [.str s, .int .i64 c] => bif decide (0 ≤ c) && decide (c ≤ 9223372036854775807) && decide (s.size * c.toNat ≤ 140737488355328) then some (.str (str (Lib.repeatL s.data.toList c.toNat))) else none
  | _ => none }
def pPInt : Piece := { f := strconv_ParseInt, ans := fun args => match args with
  | [.str s, .int .i64 b, .int .i64 z] => bif decide (b = 10) && decide (z = 64) && decide (s.size ≤ 281474976710656) then some (endI (Lib.parseIntB 64 s.data.toList) (Lib.intSat 64 s.data.toList)) else none
  | _ => none }
def pPUint : Piece := { f := strconv_ParseUint, ans := fun args => match args with
  | [.str s, .int .i64 b, .int .i64 z] => bif decide (b = 10) && decide (z = 64) && decide (s.size ≤ 281474976710656) then some (endU (Lib.parseUintB 64 s.data.toList)) else none
  | _ => none }
theorem fmt_right : pFmt.Right := by
  refine ⟨⟨Tryz.f182, Tryz.func182, by kernel_rfl, by kernel_rfl⟩, fun args res h => ?_⟩
  unfold pFmt at h
  dsimp only at h
  split at h
  · rename_i n b
    obtain ⟨hc, h'⟩ := some_of_bif h
    clear h
    simp only [Bool.and_eq_true, decide_eq_true_eq] at hc
    obtain ⟨⟨rfl, h1⟩, h2⟩ := hc
    obtain rfl := Option.some.inj h'
    refine ok_pure ⟨rfl, rfl⟩ fun S w vals hag hG hV => ?_
    obtain ⟨v, u, rfl, hv, hu⟩ := VL_2 hV
    obtain rfl := V_int hv
    obtain rfl := V_int hu
    refine (Tryz.strconv_FormatInt_10 n h1 h2 w (tab_of hag hG (g := 4) (zs := Lib.pow10Tab) rfl (by kernel_rfl))).mono ?_
    rintro e w' ⟨rfl, k, os, rfl⟩
    exact ⟨_, rfl, fun S' => V.str _, below_grow _ _ _⟩
  · cases h
theorem itoa_right : pItoa.Right := by
  refine ⟨⟨Tryz.f114, Tryz.func114, by kernel_rfl, by kernel_rfl⟩, fun args res h => ?_⟩
  unfold pItoa at h
  dsimp only at h
  split at h
  · rename_i n
    obtain ⟨hc, h'⟩ := some_of_bif h
    clear h
    simp only [Bool.and_eq_true, decide_eq_true_eq] at hc
    obtain ⟨h1, h2⟩ := hc
    obtain rfl := Option.some.inj h'
    refine ok_pure ⟨rfl, rfl⟩ fun S w vals hag hG hV => ?_
    obtain ⟨v, rfl, hv⟩ := VL_1 hV
    obtain rfl := V_int hv
    refine (Tryz.strconv_Itoa n h1 h2 w (tab_of hag hG (g := 4) (zs := Lib.pow10Tab) rfl (by kernel_rfl))).mono ?_
    rintro e w' ⟨rfl, k, os, rfl⟩
    exact ⟨_, rfl, fun S' => V.str _, below_grow _ _ _⟩
  · cases h
theorem cutP_right : pCutP.Right := by
  refine ⟨⟨Tryz.f167, Tryz.func167, by kernel_rfl, by kernel_rfl⟩, fun args res h => ?_⟩
  unfold pCutP at h
  dsimp only at h
  split at h
  · rename_i s p
    obtain rfl := Option.some.inj h
    refine ok_tup rfl fun S w vals hag hG hV => ?_
    obtain ⟨v, u, rfl, hv, hu⟩ := VL_2 hV
    obtain rfl := V_str hv
    obtain rfl := V_str hu
    refine (Tryz.strings_CutPrefix s p w).mono ?_
    rintro e w' ⟨rfl, rfl⟩
    exact ⟨[_, _], rfl, rfl, fun S' => V2 (V.str _) (V.bool _), Below.refl _ _⟩
  · cases h
theorem trimR_right : pTrimR.Right := by
  refine ⟨⟨Tryz.f183, Tryz.func183, by kernel_rfl, by kernel_rfl⟩, fun args res h => ?_⟩
  unfold pTrimR at h
  dsimp only at h
  split at h
  · rename_i s c
    obtain ⟨x, hx, h⟩ := Option.bind_eq_some_iff.1 h
    obtain rfl := one_some hx
    obtain ⟨hc, h'⟩ := some_of_bif h
    clear h
    simp only [Bool.and_eq_true, decide_eq_true_eq] at hc
    obtain rfl := Option.some.inj h'
    refine ok_pure ⟨rfl, rfl⟩ fun S w vals hag hG hV => ?_
    obtain ⟨v, u, rfl, hv, hu⟩ := VL_2 hV
    obtain rfl := V_str hv
    obtain rfl := V_str hu
    refine (Tryz.strings_TrimRight_one s x hc.1 w hc.2).mono ?_
    rintro e w' ⟨rfl, rfl⟩
    exact ⟨_, rfl, fun S' => V.str _, Below.refl _ _⟩
  · cases h
theorem index_right : pIndex.Right := by
  refine ⟨⟨Tryz.f273, Tryz.func273, by kernel_rfl, by kernel_rfl⟩, fun args res h => ?_⟩
  unfold pIndex at h
  dsimp only at h
  split at h
  · rename_i s c
    obtain ⟨x, hx, h⟩ := Option.bind_eq_some_iff.1 h
    obtain rfl := one_some hx
    obtain rfl := Option.some.inj h
    refine ok_pure ⟨rfl, rfl⟩ fun S w vals hag hG hV => ?_
    obtain ⟨v, u, rfl, hv, hu⟩ := VL_2 hV
    obtain rfl := V_str hv
    obtain rfl := V_str hu
    refine (Tryz.stringslite_Index_one s x w).mono ?_
    rintro e w' ⟨rfl, rfl⟩
    exact ⟨_, rfl, fun S' => V.int _ _, Below.refl _ _⟩
  · cases h
theorem indexByte_right : pIndexByte.Right := by
  refine ⟨⟨Tryz.f258, Tryz.func258, by kernel_rfl, by kernel_rfl⟩, fun args res h => ?_⟩
  unfold pIndexByte at h
  dsimp only at h
  split at h
  · rename_i s c
    obtain rfl := Option.some.inj h
    refine ok_pure ⟨rfl, rfl⟩ fun S w vals hag hG hV => ?_
    obtain ⟨v, u, rfl, hv, hu⟩ := VL_2 hV
    obtain rfl := V_str hv
    obtain rfl := V_int hu
    refine (Tryz.strings_IndexByte s c w).mono ?_
    rintro e w' ⟨rfl, rfl⟩
    exact ⟨_, rfl, fun S' => V.int _ _, Below.refl _ _⟩
  · cases h
theorem repeat_right : pRepeat.Right := by
  refine ⟨⟨Tryz.f172, Tryz.func172, by kernel_rfl, by kernel_rfl⟩, fun args res h => ?_⟩
  unfold pRepeat at h
  dsimp only at h
  split at h
  · rename_i s c
    obtain ⟨hc, h'⟩ := some_of_bif h
    clear h
    simp only [Bool.and_eq_true, decide_eq_true_eq] at hc
    obtain ⟨⟨h1, h2⟩, h3⟩ := hc
    obtain rfl := Option.some.inj h'
    refine ok_pure ⟨rfl, rfl⟩ fun S w vals hag hG hV => ?_
    obtain ⟨v, u, rfl, hv, hu⟩ := VL_2 hV
    obtain rfl := V_str hv
    obtain rfl := V_int hu
    obtain ⟨n, rfl⟩ := Int.eq_ofNat_of_zero_le h1
    rw [Int.toNat_natCast] at h3 ⊢
    refine (Tryz.strings_Repeat s n w (by omega) h3).mono ?_
    rintro e w' ⟨rfl, hb⟩
    exact ⟨_, rfl, fun S' => V.str _, hb⟩
  · cases h
theorem pInt_right : pPInt.Right := by
  refine ⟨⟨Tryz.f171, Tryz.func171, by kernel_rfl, by kernel_rfl⟩, fun args res h => ?_⟩
  unfold pPInt at h
  dsimp only at h
  split at h
  · rename_i s b z
    obtain ⟨hc, h'⟩ := some_of_bif h
    clear h
    simp only [Bool.and_eq_true, decide_eq_true_eq] at hc
    obtain ⟨⟨rfl, rfl⟩, h3⟩ := hc
    obtain rfl := Option.some.inj h'
    cases he : Lib.parseIntB 64 s.data.toList with
    | ok v =>
      refine ok_tup rfl fun S w vals hag hG hV => ?_
      obtain ⟨v1, v2, v3, rfl, g1, g2, g3⟩ := VL_3 hV
      obtain rfl := V_str g1
      obtain rfl := V_int g2
      obtain rfl := V_int g3
      refine (Tryz.strconv_ParseInt_10_at64_ok s (by omega) v he w).mono ?_
      rintro e w' ⟨rfl, hw⟩
      refine ⟨[_, _], rfl, rfl, fun S' => V2 (V.int _ _) V.nili, ?_⟩
      rcases hw with rfl | ⟨t, rfl⟩
      · exact Below.refl _ _
      · exact Lib.bytesWorld_below _ _ _
    | range =>
      refine ok_tup rfl fun S w vals hag hG hV => ?_
      obtain ⟨v1, v2, v3, rfl, g1, g2, g3⟩ := VL_3 hV
      obtain rfl := V_str g1
      obtain rfl := V_int g2
      obtain rfl := V_int g3
      obtain ⟨t, v, hi⟩ := iface_of (g := 3) hag hG rfl
      refine (Tryz.strconv_ParseInt_10_at64_range s h3 he _ w hi (.inr ⟨_, _, rfl⟩)).mono ?_
      rintro e w' ⟨N, rfl, _, _, hb⟩
      exact ⟨[_, _], rfl, rfl, fun S' => V2 (V.int _ _) (V.ifc _ _), hb⟩
    | _ =>
      refine ok_tup rfl fun S w vals hag hG hV => ?_
      obtain ⟨v1, v2, v3, rfl, g1, g2, g3⟩ := VL_3 hV
      obtain rfl := V_str g1
      obtain rfl := V_int g2
      obtain rfl := V_int g3
      obtain ⟨t, v, hi⟩ := iface_of (g := 2) hag hG rfl
      refine (Tryz.strconv_ParseInt_10_at64_syntax s h3 he _ w hi (.inr ⟨_, _, rfl⟩)).mono ?_
      rintro e w' ⟨N, rfl, _, _, hb⟩
      exact ⟨[_, _], rfl, rfl, fun S' => V2 (V.int _ _) (V.ifc _ _), hb⟩
  · cases h
theorem pUint_right : pPUint.Right := by
  refine ⟨⟨Tryz.f146, Tryz.func146, by kernel_rfl, by kernel_rfl⟩, fun args res h => ?_⟩
  unfold pPUint at h
  dsimp only at h
  split at h
  · rename_i s b z
    obtain ⟨hc, h'⟩ := some_of_bif h
    clear h
    simp only [Bool.and_eq_true, decide_eq_true_eq] at hc
    obtain ⟨⟨rfl, rfl⟩, h3⟩ := hc
    obtain rfl := Option.some.inj h'
    cases he : Lib.parseUintB 64 s.data.toList with
    | ok v =>
      refine ok_tup rfl fun S w vals hag hG hV => ?_
      obtain ⟨v1, v2, v3, rfl, g1, g2, g3⟩ := VL_3 hV
      obtain rfl := V_str g1
      obtain rfl := V_int g2
      obtain rfl := V_int g3
      refine (Tryz.strconv_ParseUint_10_at64_ok s (by omega) v he w).mono ?_
      rintro e w' ⟨rfl, hw⟩
      refine ⟨[_, _], rfl, rfl, fun S' => V2 (V.int _ _) V.nili, ?_⟩
      rcases hw with rfl | rfl
      · exact Below.refl _ _
      · exact Lib.bytesWorld_below _ _ _
    | range =>
      refine ok_tup rfl fun S w vals hag hG hV => ?_
      obtain ⟨v1, v2, v3, rfl, g1, g2, g3⟩ := VL_3 hV
      obtain rfl := V_str g1
      obtain rfl := V_int g2
      obtain rfl := V_int g3
      obtain ⟨t, v, hi⟩ := iface_of (g := 3) hag hG rfl
      refine (Tryz.strconv_ParseUint_10_at64_range s h3 he _ w hi (.inr ⟨_, _, rfl⟩)).mono ?_
      rintro e w' ⟨N, rfl, _, _, hb⟩
      exact ⟨[_, _], rfl, rfl, fun S' => V2 (V.int _ _) (V.ifc _ _), hb⟩
    | _ =>
      refine ok_tup rfl fun S w vals hag hG hV => ?_
      obtain ⟨v1, v2, v3, rfl, g1, g2, g3⟩ := VL_3 hV
      obtain rfl := V_str g1
      obtain rfl := V_int g2
      obtain rfl := V_int g3
      obtain ⟨t, v, hi⟩ := iface_of (g := 2) hag hG rfl
      refine (Tryz.strconv_ParseUint_10_at64_syntax s h3 he _ w hi (.inr ⟨_, _, rfl⟩)).mono ?_
      rintro e w' ⟨N, rfl, _, _, hb⟩
      exact ⟨[_, _], rfl, rfl, fun S' => V2 (V.int _ _) (V.ifc _ _), hb⟩
  · cases h
def ps04 : List Piece := [pFmt, pItoa, pCutP, pTrimR, pIndex, pIndexByte, pRepeat, pPInt, pPUint]
def ext04 : Ext := extOf ps04
instance core04 : Core ext04 := core_of (by kernel_rfl)
theorem num_of {ps : List Piece} (h1 : ps.find? (fun q => q.f == pFmt.f) = some pFmt) (h2 : ps.find? (fun q => q.f == pItoa.f) = some pItoa) (h3 : ps.find? (fun q => q.f == pCutP.f) = some pCutP) (h4 : ps.find? (fun q => q.f == pTrimR.f) = some pTrimR) (h5 : ps.find? (fun q => q.f == pIndex.f) = some pIndex) (h6 : ps.find? (fun q => q.f == pIndexByte.f) = some pIndexByte) (h7 : ps.find? (fun q => q.f == pRepeat.f) = some pRepeat) (h8 : ps.find? (fun q => q.f == pPInt.f) = some pPInt) (h9 : ps.find? (fun q => q.f == pPUint.f) = some pPUint) : HasNum (extOf ps) where
  fmt k n v g0 g1 := (kp_piece (k := k) (n := n) h1).trans (by
    show (bif decide ((10 : Int) = 10) && decide (-9223372036854775808 ≤ v) && decide (v ≤ 9223372036854775807) then _ else none) = _
    rw [decide_eq_true g0, decide_eq_true g1]
    rfl)
  itoa k n v g0 g1 := (kp_piece (k := k) (n := n) h2).trans (by
    show (bif decide (-9223372036854775808 ≤ v) && decide (v ≤ 9223372036854775807) then _ else none) = _
    rw [decide_eq_true g0, decide_eq_true g1]
    rfl)
  cutP k n s p := (kp_piece (k := k) (n := n) h3).trans rfl
  trimR k n s x g0 g1 := (kp_piece (k := k) (n := n) h4).trans (by
    show (bif decide (x.toNat < 128) && decide ((str s).size ≤ 9223372036854775807) then _ else none) = _
    rw [str_size, decide_eq_true g0, decide_eq_true g1]
    rfl)
  index k n s x := (kp_piece (k := k) (n := n) h5).trans rfl
  indexB k n s c := (kp_piece (k := k) (n := n) h6).trans rfl
  rep k n s c g0 g1 := (kp_piece (k := k) (n := n) h7).trans (by
    show (bif decide ((0 : Int) ≤ (c : Int)) && decide ((c : Int) ≤ 9223372036854775807) && decide ((str s).size * (Int.toNat (c : Int)) ≤ 140737488355328) then some (AV.str (str (Lib.repeatL s (Int.toNat (c : Int))))) else none) = _
    rw [str_size, Int.toNat_natCast, decide_eq_true (show (0 : Int) ≤ (c : Int) by omega), decide_eq_true (show (c : Int) ≤ 9223372036854775807 by omega), decide_eq_true g1]
    rfl)
  pint k n s g0 := (kp_piece (k := k) (n := n) h8).trans (by
    show (bif decide ((10 : Int) = 10) && decide ((64 : Int) = 64) && decide ((str s).size ≤ 281474976710656) then _ else none) = _
    rw [str_size, decide_eq_true g0]
    rfl)
  puint k n s g0 := (kp_piece (k := k) (n := n) h9).trans (by
    show (bif decide ((10 : Int) = 10) && decide ((64 : Int) = 64) && decide ((str s).size ≤ 281474976710656) then _ else none) = _
    rw [str_size, decide_eq_true g0]
    rfl)
instance num04 : HasNum ext04 := num_of rfl rfl rfl rfl rfl rfl rfl rfl rfl
end Go.Proofs.YtogfcfgfkggmlaaGreatDoor.Eng.U


/- text.Quote as a given function. -/
set_option linter.unusedVariables false
set_option linter.unusedSectionVars false
set_option linter.unusedSimpArgs false
namespace Go.Proofs.YtogfcfgfkggmlaaGreatDoor.Eng.U
open Go Go.RowKit Go.Proofs Go.Proofs.YtogfcfgfkggmlaaGreatDoor.Eng Go.Proofs.YtogfcfgfkggmlaaGreatDoor.S02

noncomputable def pQuote : Piece := { f := text_Quote, ans := fun args => match args with
  | [.str s] => bif decide (s.size ≤ 1000000000) then some (.str (str (quoteL s.data.toList))) else none
  | _ => none }
theorem quote_right : pQuote.Right := by
  refine ⟨⟨Tryz.f144, Tryz.func144, by kernel_rfl, by kernel_rfl⟩, fun args res h => ?_⟩
  unfold pQuote at h
  dsimp only at h
  split at h
  · rename_i s
    obtain ⟨hs, h2⟩ := some_of_bif h
    obtain rfl := Option.some.inj h2
    have hs : s.size ≤ 1000000000 := by simpa using hs
    refine ok_pure ⟨rfl, rfl⟩ fun S w vals hag hG hV => ?_
    obtain ⟨v, rfl, h1⟩ := VL_1 hV
    obtain rfl := V_str h1
    have e : str s.data.toList = s := str_self s
    have hw := Quote_walk s.data.toList w (by rw [← str_size, e]; exact hs)
    rw [e] at hw
    refine hw.mono ?_
    rintro e w' ⟨rfl, hb⟩
    exact ⟨_, rfl, fun S' => V.str _, hb⟩
  · cases h
class HasQuote (E : Ext) : Prop where
  quote : ∀ (k n : Nat) (s : List UInt8), s.length ≤ 1000000000 → kp E k n text_Quote [.str (str s)] = some (.str (str (quoteL s)))
end Go.Proofs.YtogfcfgfkggmlaaGreatDoor.Eng.U


/- Texts quoted: by the definition, in plain words. -/
set_option linter.unusedVariables false
set_option linter.unusedSectionVars false
set_option linter.unusedSimpArgs false
namespace Go.Proofs.YtogfcfgfkggmlaaGreatDoor.Eng.U
open Go Go.Proofs Go.Proofs.YtogfcfgfkggmlaaGreatDoor.Eng
variable {E : Ext} [Core E] {k n : Nat}

theorem open_k (c : UInt8) : kp E k (n + 1) text_open [.int .u8 ((c.toNat : Nat) : Int)] = some (.bool (openB c)) := by
  rw [text_open_eq]
  have e : decide (((c.toNat : Nat) : Int) = (92 : Int)) = decide (c = 92) := byte_is c 92 (by omega)
  unfold openB
  by_cases h1 : 32 < c.toNat
  · by_cases h2 : c.toNat < 127
    · rw [bif_t (by omega), bif_t (by omega), e, decide_eq_true h1, decide_eq_true h2, Bool.true_and, Bool.true_and, decide_not]
    · rw [bif_t (by omega), bif_f (by omega), decide_eq_true h1, decide_eq_false h2]; rfl
  · rw [bif_f (by omega), decide_eq_false h1]; rfl
theorem digit_k (c : UInt8) : kp E k (n + 1) text_digit [.int .u8 ((c.toNat : Nat) : Int)] = some (.bool (octB c)) := by
  rw [text_digit_eq]
  unfold octB
  by_cases h1 : 48 ≤ c.toNat
  · rw [bif_t (by omega), decide_eq_true h1, Bool.true_and]
    congr 2
    rw [decide_eq_decide]; omega
  · rw [bif_f (by omega), decide_eq_false h1]; rfl
theorem word_k [HasQuote E] (l : List UInt8) (hl : l.length ≤ 1000000000) : kp E k (n + 1) tale_word [.str (str l)] = some (.str (str (61 :: quoteL l))) := by
  have := quote_len l
  rw [tale_word_eq, HasQuote.quote _ _ _ hl, callS_ok, str_size, bif_t (by omega), str_app]
  rfl
end Go.Proofs.YtogfcfgfkggmlaaGreatDoor.Eng.U


/- Texts unquoted: by the program and by the definition, in plain words. -/
set_option linter.unusedVariables false
set_option linter.unusedSectionVars false
set_option linter.unusedSimpArgs false
namespace Go.Proofs.YtogfcfgfkggmlaaGreatDoor.Eng.U
open Go Go.Proofs Go.Proofs.YtogfcfgfkggmlaaGreatDoor.Eng
variable {E : Ext} [Core E] {k n : Nat}

theorem val_all : ∀ (i : _root_.Fin 4) (j l : _root_.Fin 8), (IntKind.wrap .u8 ((BitVec.ofInt (IntKind.bits .u8) (IntKind.wrap .u8 ((BitVec.ofInt (IntKind.bits .u8) (IntKind.wrap .u8 ((IntKind.wrap .u8 ((BitVec.ofInt (IntKind.bits .u8) (((48 + i.val : Nat) : Nat) : Int) &&& BitVec.ofInt (IntKind.bits .u8) (7 : Int)).toNat : Int)) * 2 ^ (min (Int.toNat (6 : Int)) (IntKind.bits .u8)))) ||| BitVec.ofInt (IntKind.bits .u8) (IntKind.wrap .u8 ((IntKind.wrap .u8 ((BitVec.ofInt (IntKind.bits .u8) ((((48 + j.val : Nat) : Nat) : Int)) &&& BitVec.ofInt (IntKind.bits .u8) (7 : Int)).toNat : Int)) * 2 ^ (min (Int.toNat (3 : Int)) (IntKind.bits .u8))))).toNat : Int)) ||| BitVec.ofInt (IntKind.bits .u8) (IntKind.wrap .u8 ((BitVec.ofInt (IntKind.bits .u8) ((((48 + l.val : Nat) : Nat) : Int)) &&& BitVec.ofInt (IntKind.bits .u8) (7 : Int)).toNat : Int))).toNat : Int)) = (((i.val * 64 + j.val * 8 + l.val : Nat) : Nat) : Int) := by decide +kernel
theorem val_eq {a b d : UInt8} (ha : octB a = true) (ha2 : a.toNat ≤ 51) (hb : octB b = true) (hd : octB d = true) : (IntKind.wrap .u8 ((BitVec.ofInt (IntKind.bits .u8) (IntKind.wrap .u8 ((BitVec.ofInt (IntKind.bits .u8) (IntKind.wrap .u8 ((IntKind.wrap .u8 ((BitVec.ofInt (IntKind.bits .u8) ((a.toNat : Nat) : Int) &&& BitVec.ofInt (IntKind.bits .u8) (7 : Int)).toNat : Int)) * 2 ^ (min (Int.toNat (6 : Int)) (IntKind.bits .u8)))) ||| BitVec.ofInt (IntKind.bits .u8) (IntKind.wrap .u8 ((IntKind.wrap .u8 ((BitVec.ofInt (IntKind.bits .u8) (((b.toNat : Nat) : Int)) &&& BitVec.ofInt (IntKind.bits .u8) (7 : Int)).toNat : Int)) * 2 ^ (min (Int.toNat (3 : Int)) (IntKind.bits .u8))))).toNat : Int)) ||| BitVec.ofInt (IntKind.bits .u8) (IntKind.wrap .u8 ((BitVec.ofInt (IntKind.bits .u8) (((d.toNat : Nat) : Int)) &&& BitVec.ofInt (IntKind.bits .u8) (7 : Int)).toNat : Int))).toNat : Int)) = (((UInt8.ofNat (octV a b d)).toNat : Nat) : Int) := by
  simp only [octB, Bool.and_eq_true, decide_eq_true_eq] at ha hb hd
  have h := val_all ⟨a.toNat - 48, by omega⟩ ⟨b.toNat - 48, by omega⟩ ⟨d.toNat - 48, by omega⟩
  dsimp only at h
  rw [show 48 + (a.toNat - 48) = a.toNat by omega, show 48 + (b.toNat - 48) = b.toNat by omega, show 48 + (d.toNat - 48) = d.toNat by omega] at h
  rw [h, UInt8.toNat_ofNat']
  unfold octV
  omega
theorem bytes_snoc (l : List UInt8) (c : UInt8) : l.map byteAV ++ [.int .u8 ((c.toNat : Nat) : Int)] = (l ++ [c]).map byteAV := by simp [byteAV]
def ansU (acc : List UInt8) : Option (List UInt8) → AV
  | some r => .tup [.str (str (acc ++ r)), .int .u8 0]
  | none => .tup [.str (str []), .int .u8 15]
theorem ansU_map (acc : List UInt8) (c : UInt8) (o : Option (List UInt8)) : ansU acc (o.map (c :: ·)) = ansU (acc ++ [c]) o := by cases o <;> simp [ansU]
theorem tail_ext (c : UInt8) (r : List UInt8) (m : Nat) : (str (c :: r)).extract (m + 1) ((c :: r).length) = str (r.drop m) := by
  rw [str_ext, List.take_length]; rfl
theorem roomB {m : Nat} (h : m ≤ 1000000000) : (decide (m * 1 ≤ 140737488355328) && decide (m ≤ 9223372036854775807)) = true := by simp; omega
theorem unq_loop : ∀ (f : Nat) (s acc : List UInt8) (k0 : Nat), s.length < k0 → s.length ≤ f → acc.length + s.length < 1000000000 →
    text_Unquote_L0 (kp E k (n + 1)) k k0 (str s) (acc.map byteAV) = some (ansU acc (unqL f s))
  | f, [], acc, k0 + 1, h, hf, hb => by
    rw [text_Unquote_L0_s, str_size, bif_f (by simp), toBytes_map]
    cases f <;> simp [unqL, ansU]
  | f + 1, c :: r, acc, k0 + 1, h, hf, hb => by
    have hz : (str (c :: r)).size = r.length + 1 := rfl
    have b0 : byteAt (str (c :: r)) 0 = ((c.toNat : Nat) : Int) := rfl
    simp only [List.length_cons] at h hf hb
    rw [text_Unquote_L0_s, hz, bif_t (by omega), bif_t (by omega), b0, open_k, callB_ok]
    unfold unqL
    cases ho : openB c with
    | true =>
      rw [cond_true, bif_t (by omega), List.length_map, roomB (by omega), cond_true, bif_t (by omega), if_pos rfl, ansU_map, bytes_snoc]
      rw [show (str (c :: r)).extract 1 (r.length + 1) = str r from tail_ext c r 0]
      exact unq_loop f r (acc ++ [c]) k0 (by omega) (by omega) (by rw [List.length_append, List.length_singleton]; omega)
    | false =>
      have e92 : decide (((c.toNat : Nat) : Int) = (92 : Int)) = decide (c = 92) := byte_is c 92 (by omega)
      rw [cond_false, bif_t (by omega), e92, if_neg (by simp)]
      by_cases hc : c = 92
      · subst hc
        rw [show decide ((92 : UInt8) = 92) = true from rfl, Bool.not_true, cond_false]
        rcases r with _ | ⟨a, _ | ⟨b, _ | ⟨d, r⟩⟩⟩
        · rfl
        · rfl
        · rfl
        simp only [List.length_cons] at h hf hb hz ⊢
        have b1 : byteAt (str (92 :: a :: b :: d :: r)) 1 = ((a.toNat : Nat) : Int) := rfl
        have b2 : byteAt (str (92 :: a :: b :: d :: r)) 2 = ((b.toNat : Nat) : Int) := rfl
        have b3 : byteAt (str (92 :: a :: b :: d :: r)) 3 = ((d.toNat : Nat) : Int) := rfl
        rw [bif_f (by omega), bif_t (by omega), b1, b2, b3]
        show _ = some (ansU acc (match octQ a b d with | none => none | some x => (unqL f r).map (x :: ·)))
        rcases Nat.lt_or_ge 51 a.toNat with h1 | h1
        · rw [bif_t (by omega), show octQ a b d = none from by unfold octQ; rw [decide_eq_false (by omega : ¬ a.toNat ≤ 51)]; rfl]; rfl
        rw [bif_f (by omega), bif_t (by omega), digit_k, callB_ok]
        cases h2 : octB a with
        | false => rw [Bool.not_false, cond_true, show octQ a b d = none from by unfold octQ; rw [h2, Bool.and_false]; rfl]; rfl
        | true =>
        rw [Bool.not_true, cond_false, bif_t (by omega), digit_k, callB_ok]
        cases h3 : octB b with
        | false => rw [Bool.not_false, cond_true, show octQ a b d = none from by unfold octQ; rw [h3, Bool.and_false]; rfl]; rfl
        | true =>
        rw [Bool.not_true, cond_false, bif_t (by omega), digit_k, callB_ok]
        cases h4 : octB d with
        | false => rw [Bool.not_false, cond_true, show octQ a b d = none from by unfold octQ; rw [h4, Bool.and_false]; rfl]; rfl
        | true =>
        rw [Bool.not_true, cond_false, bif_t (by omega), bif_t (by omega), bif_t (by omega), val_eq h2 h1 h3 h4, open_k, callB_ok]
        have hq : octQ a b d = if (!openB (UInt8.ofNat (octV a b d))) = true then some (UInt8.ofNat (octV a b d)) else none := by
          unfold octQ; rw [decide_eq_true h1, h2, h3, h4]; rfl
        rw [hq]
        cases h5 : openB (UInt8.ofNat (octV a b d)) with
        | true => rfl
        | false =>
          rw [cond_false, List.length_map, roomB (by omega), cond_true, bif_t (by omega), Bool.not_false, if_pos rfl]
          rw [show (str (92 :: a :: b :: d :: r)).extract 4 (r.length + 1 + 1 + 1 + 1) = str r from tail_ext 92 (a :: b :: d :: r) 3, bytes_snoc]
          show _ = some (ansU acc ((unqL f r).map (_ :: ·)))
          rw [ansU_map]
          exact unq_loop f r _ k0 (by omega) (by omega) (by rw [List.length_append, List.length_singleton]; omega)
      · rw [decide_eq_false hc, Bool.not_false, cond_true]
        have : unq1 (c :: r) = none := by
          match r with
          | [] => rfl
          | [a] => rfl
          | [a, b] => rfl
          | a :: b :: d :: r => exact if_neg hc
        rw [this]; rfl
theorem unq_k (l : List UInt8) (hl : l.length < 1000000000) (hk : l.length < k) : kp E k (n + 2) text_Unquote [.str (str l)] = some (ansU [] (unqL l.length l)) := by
  rw [text_Unquote_eq]
  exact unq_loop l.length l [] k hk (Nat.le_refl _) (by simpa using hl)
end Go.Proofs.YtogfcfgfkggmlaaGreatDoor.Eng.U


/- Texts unquoted by the definition (it tries all codes), in plain words. -/
set_option linter.unusedVariables false
set_option linter.unusedSectionVars false
set_option linter.unusedSimpArgs false
namespace Go.Proofs.YtogfcfgfkggmlaaGreatDoor.Eng.U
open Go Go.Proofs Go.Proofs.YtogfcfgfkggmlaaGreatDoor.Eng
variable {E : Ext} [Core E] {k n : Nat}

noncomputable def after (pre w acc : List UInt8) (k k0 n : Nat) (E : Ext) : Option AV := match unq1 w with
  | none => some (.tup [.str (str []), .bool false])
  | some x => ref02_Unquote_L0 (kp E k (n + 1)) k k0 (str (pre ++ w)) (((pre.length + 4 : Nat) : Nat) : Int) ((acc ++ [x]).map byteAV)
end Go.Proofs.YtogfcfgfkggmlaaGreatDoor.Eng.U


/- Items' names in plain words: what a full name tells, a head's full names, how much a head is. -/
set_option linter.unusedVariables false
set_option linter.unusedSectionVars false
set_option linter.unusedSimpArgs false
namespace Go.Proofs.YtogfcfgfkggmlaaGreatDoor.Eng.U
open Go Go.Proofs Go.Proofs.YtogfcfgfkggmlaaGreatDoor.Eng
variable {E : Ext} [Core E] {k n : Nat}

theorem snoc_cases (s : List UInt8) : s = [] ∨ ∃ l c, s = l ++ [c] := by
  induction s with
  | nil => exact .inl rfl
  | cons x s ih =>
    rcases ih with rfl | ⟨l, c, rfl⟩
    · exact .inr ⟨[], x, rfl⟩
    · exact .inr ⟨x :: l, c, rfl⟩
/-- Does a text end in a slash? -/
def sl (s : List UInt8) : Bool := decide (s.getLast? = some 47)
theorem suffix_k (s : List UInt8) (h : s.length ≤ 1000000000000000) : kp E k (n + 2) strings_HasSuffix [.str (str s), .str (str [47])] = some (.bool (sl s)) := by
  rw [strings_HasSuffix_eq, stringslite_HasSuffix_eq, str_size, str_size, List.length_singleton]
  rcases snoc_cases s with rfl | ⟨l, c, rfl⟩
  · rfl
  · rw [List.length_append, List.length_singleton] at h ⊢
    have hd : (l ++ [c]).drop l.length = [c] := by simp
    rw [bif_t (by omega), i64w (by omega), bif_a, bif_t (by omega), bif_t (by omega), show (((l.length + 1 : Nat) : Int) - ((1 : Nat) : Int)).toNat = l.length from by omega, str_ext, List.take_of_length_le (by simp), hd, callB_ok, str_dec]
    unfold sl
    simp
def told (kind : Int) (s : List UInt8) : Int × List UInt8 :=
  if kind = 1 ∧ sl s = true then (if 1 < s.length then (6, s.dropLast) else (6, s))
  else if kind = 6 ∧ sl s = true ∧ 1 < s.length then (6, s.dropLast) else (kind, s)
end Go.Proofs.YtogfcfgfkggmlaaGreatDoor.Eng.U


/- ItemFulls, but for whether any field is wrong. -/
set_option linter.unusedVariables false
set_option linter.unusedSectionVars false
set_option linter.unusedSimpArgs false
namespace Go.Proofs.YtogfcfgfkggmlaaGreatDoor.Eng.U
open Go Go.Proofs Go.Proofs.YtogfcfgfkggmlaaGreatDoor.Eng
variable {E : Ext} [Core E] {k n : Nat}

end Go.Proofs.YtogfcfgfkggmlaaGreatDoor.Eng.U


/- What functions answer, as the engine evaluates their code. Printed by gen2.py. -/
set_option linter.unusedVariables false
namespace Go.Proofs.YtogfcfgfkggmlaaGreatDoor.Eng.U
open Go Go.Proofs Go.Proofs.YtogfcfgfkggmlaaGreatDoor.Eng
/- strings.ContainsAny -/
theorem strings_ContainsAny_eq {E : Ext} [Core E] (k n : Nat) (a0 : ByteArray) (a1 : ByteArray) : kp E k (n + 1) strings_ContainsAny [(.str a0), (.str a1)] =
  (callI .i64 (kp E k n strings_IndexAny [(.str a0), (.str a1)]) fun vn2 => (some (.bool (decide (vn2 ≥ (0 : Int)))))) := (kp_at (by kernel_rfl)).trans (by kernel_rfl)
/- strings.IndexAny -/
noncomputable def strings_IndexAny_bd : Code := Tryz.f210.body.getD .skip
noncomputable def strings_IndexAny_L0 (kap : FuncId → List AV → Option AV) (k : Nat) (k0 : Nat) (s1 : ByteArray) (i45s : ByteArray) (i45p : Nat) : Option AV :=
  loop (fun fr K => code ((bs E0 k).cfg kap strings_IndexAny) (sel strings_IndexAny_bd [1, 1, 1, 1, 0, 1, 0, 0]) fr K) (canon ((bs E0 k).cfg kap strings_IndexAny) (firstReg (sel strings_IndexAny_bd [1, 1, 1, 1, 0, 1, 0, 0]))) k0 (mkFr 55 [(1, (.str s1)), (45, (.itr 45))] [(45, (.it i45s i45p))]) (plug ((bs E0 k).cfg kap strings_IndexAny) (retK ((bs E0 k).cfg kap strings_IndexAny) [] Tryz.f210 [] some) [.blk 2, .seqR (sel strings_IndexAny_bd [1, 1, 1, 1, 1])])
theorem strings_IndexAny_L0_s (kap : FuncId → List AV → Option AV) (k : Nat) (k0 : Nat) (s1 : ByteArray) (i45s : ByteArray) (i45p : Nat) : strings_IndexAny_L0 kap k (k0 + 1) s1 i45s i45p =
  (bif (decide (i45p < (ByteArray.size i45s))) then (callI .i64 (kap strings_IndexRune [(.str s1), (.int .i32 (((Utf8.decode i45s i45p).1 : Nat) : Int))]) fun vn8 => (bif (decide (vn8 ≥ (0 : Int))) then (some (.int .i64 ((i45p : Nat) : Int))) else (strings_IndexAny_L0 kap k k0 s1 i45s (i45p + (Utf8.decode i45s i45p).2)))) else (some (.int .i64 (-1 : Int)))) := by kernel_rfl
theorem strings_IndexAny_eq {E : Ext} [Core E] (hB : E.isBase strings_IndexAny = false) (hF : E.fs.contains strings_IndexAny = true) (k n : Nat) (a0 : ByteArray) (a1 : ByteArray) : kp E k (n + 1) strings_IndexAny [(.str a0), (.str a1)] =
  (bif (decide (a1 = (str []))) then (some (.int .i64 (-1 : Int))) else (bif (decide ((((ByteArray.size a1) : Nat) : Int) = (1 : Int))) then (bif (decide ((0 : Int) < (((ByteArray.size a1) : Nat) : Int))) then (bif (decide ((IntKind.wrap .i32 (byteAt a1 0)) ≥ (128 : Int))) then (callI .i64 (kp E k n strings_IndexRune [(.str a0), (.int .i32 (65533 : Int))]) fun vn2 => (some (.int .i64 vn2))) else (callI .i64 (kp E k n strings_IndexRune [(.str a0), (.int .i32 (IntKind.wrap .i32 (byteAt a1 0)))]) fun vn4 => (some (.int .i64 vn4)))) else none) else (callB (kp E k n strings_shouldUseASCIISet [(.int .i64 (((ByteArray.size a0) : Nat) : Int))]) fun vq6 => (bif vq6 then (code ((bs E0 k).cfg (kp E k n) strings_IndexAny) (sel strings_IndexAny_bd [1, 1, 1, 0, 1, 0]) (mkFr 55 [(0, (.str a0)), (1, (.str a1)), (4, (.int .i64 (0 : Int))), (11, (.str a1)), (12, (.bool (decide (a1 = (str []))))), (13, (.str a1)), (14, (.int .i64 (((ByteArray.size a1) : Nat) : Int))), (15, (.bool (decide ((((ByteArray.size a1) : Nat) : Int) = (1 : Int))))), (24, (.str a0)), (25, (.int .i64 (((ByteArray.size a0) : Nat) : Int))), (26, (.bool vq6))] []) (plug ((bs E0 k).cfg (kp E k n) strings_IndexAny) (retK ((bs E0 k).cfg (kp E k n) strings_IndexAny) [] Tryz.f210 [] some) [.seqR (sel strings_IndexAny_bd [1, 1, 1, 1])])) else (strings_IndexAny_L0 (kp E k n) k k a1 a0 0))))) := (Base.kap_at (B := bs E k) hB hF _).trans (by kernel_rfl)
/- strings.IndexRune -/
noncomputable def strings_IndexRune_bd : Code := Tryz.f255.body.getD .skip
noncomputable def strings_IndexRune_L0 (kap : FuncId → List AV → Option AV) (k : Nat) (k0 : Nat) (i175s : ByteArray) (i175p : Nat) : Option AV :=
  loop (fun fr K => code ((bs E0 k).cfg kap strings_IndexRune) (sel strings_IndexRune_bd [1, 0, 1, 1, 1, 0, 0, 1, 0, 0]) fr K) (canon ((bs E0 k).cfg kap strings_IndexRune) (firstReg (sel strings_IndexRune_bd [1, 0, 1, 1, 1, 0, 0, 1, 0, 0]))) k0 (mkFr 187 [(175, (.itr 175))] [(175, (.it i175s i175p))]) (plug ((bs E0 k).cfg kap strings_IndexRune) (retK ((bs E0 k).cfg kap strings_IndexRune) [] Tryz.f255 [] some) [.blk 9, .seqR (sel strings_IndexRune_bd [1, 0, 1, 1, 1, 0, 1]), .blk 0])
noncomputable def strings_IndexRune_L1 (kap : FuncId → List AV → Option AV) (k : Nat) (k1 : Nat) (s0 : ByteArray) (s7 : ByteArray) (s8 : Int) (s9 : Int) : Option AV :=
  loop (fun fr K => code ((bs E0 k).cfg kap strings_IndexRune) (sel strings_IndexRune_bd [1, 0, 1, 1, 1, 1, 1, 1, 0, 1, 1, 1, 1, 0, 0, 0]) fr K) (canon ((bs E0 k).cfg kap strings_IndexRune) (firstReg (sel strings_IndexRune_bd [1, 0, 1, 1, 1, 1, 1, 1, 0, 1, 1, 1, 1, 0, 0, 0]))) k1 (mkFr 187 [(0, (.str s0)), (7, (.str s7)), (8, (.int .i64 s8)), (9, (.int .i64 s9))] []) (plug ((bs E0 k).cfg kap strings_IndexRune) (retK ((bs E0 k).cfg kap strings_IndexRune) [] Tryz.f255 [] some) [.blk 1, .seqR (sel strings_IndexRune_bd [1, 0, 1, 1, 1, 1, 1, 1, 0, 1, 1, 1, 1, 1]), .blk 0])
noncomputable def strings_IndexRune_L2 (kap : FuncId → List AV → Option AV) (k : Nat) (k1 : Nat) (k2 : Nat) (s0 : ByteArray) (s7 : ByteArray) (s8 : Int) (s9 : Int) (s12 : Int) : Option AV :=
  loop (fun fr K => code ((bs E0 k).cfg kap strings_IndexRune) (sel strings_IndexRune_bd [1, 0, 1, 1, 1, 1, 1, 1, 0, 1, 1, 1, 1, 0, 0, 0, 1, 0, 0, 1, 0, 1, 0, 0]) fr K) (canon ((bs E0 k).cfg kap strings_IndexRune) (firstReg (sel strings_IndexRune_bd [1, 0, 1, 1, 1, 1, 1, 1, 0, 1, 1, 1, 1, 0, 0, 0, 1, 0, 0, 1, 0, 1, 0, 0]))) k2 (mkFr 187 [(0, (.str s0)), (7, (.str s7)), (8, (.int .i64 s8)), (9, (.int .i64 s9)), (12, (.int .i64 s12))] []) (plug ((bs E0 k).cfg kap strings_IndexRune) (retK ((bs E0 k).cfg kap strings_IndexRune) [] Tryz.f255 [] some) [.blk 3, .seqR (sel strings_IndexRune_bd [1, 0, 1, 1, 1, 1, 1, 1, 0, 1, 1, 1, 1, 0, 0, 0, 1, 0, 0, 1, 1]), .blk 2, .lp (sel strings_IndexRune_bd [1, 0, 1, 1, 1, 1, 1, 1, 0, 1, 1, 1, 1, 0, 0, 0]) k1, .blk 1, .seqR (sel strings_IndexRune_bd [1, 0, 1, 1, 1, 1, 1, 1, 0, 1, 1, 1, 1, 1]), .blk 0])
theorem strings_IndexRune_L0_s (kap : FuncId → List AV → Option AV) (k : Nat) (k0 : Nat) (i175s : ByteArray) (i175p : Nat) : strings_IndexRune_L0 kap k (k0 + 1) i175s i175p =
  (bif (decide (i175p < (ByteArray.size i175s))) then (bif (decide ((((Utf8.decode i175s i175p).1 : Nat) : Int) = (65533 : Int))) then (some (.int .i64 ((i175p : Nat) : Int))) else (strings_IndexRune_L0 kap k k0 i175s (i175p + (Utf8.decode i175s i175p).2))) else (some (.int .i64 (-1 : Int)))) := by kernel_rfl
theorem strings_IndexRune_L1_s (kap : FuncId → List AV → Option AV) (k : Nat) (k1 : Nat) (s0 : ByteArray) (s7 : ByteArray) (s8 : Int) (s9 : Int) : strings_IndexRune_L1 kap k (k1 + 1) s0 s7 s8 s9 =
  (bif (decide (s9 < (((ByteArray.size s0) : Nat) : Int))) then (bif ((decide ((0 : Int) ≤ s9)) && (decide (s9 < (((ByteArray.size s0) : Nat) : Int)))) then (bif ((decide ((0 : Int) ≤ s8)) && (decide (s8 < (((ByteArray.size s7) : Nat) : Int)))) then (bif (!(decide ((byteAt s0 (Int.toNat s9)) = (byteAt s7 (Int.toNat s8))))) then (bif ((decide ((0 : Int) ≤ (IntKind.wrap .i64 (s9 + (1 : Int))))) && (decide ((IntKind.wrap .i64 (s9 + (1 : Int))) ≤ (((ByteArray.size s0) : Nat) : Int)))) then (bif ((decide ((0 : Int) ≤ s8)) && (decide (s8 < (((ByteArray.size s7) : Nat) : Int)))) then (callI .i64 (kap strings_IndexByte [(.str (ByteArray.extract s0 (Int.toNat (IntKind.wrap .i64 (s9 + (1 : Int)))) (ByteArray.size s0))), (.int .u8 (byteAt s7 (Int.toNat s8)))]) fun vn6 => (bif (decide (vn6 < (0 : Int))) then (some (.int .i64 (-1 : Int))) else (strings_IndexRune_L2 kap k k1 k s0 s7 s8 (IntKind.wrap .i64 (s9 + (IntKind.wrap .i64 (vn6 + (1 : Int))))) (1 : Int)))) else none) else none) else (strings_IndexRune_L2 kap k k1 k s0 s7 s8 s9 (1 : Int))) else none) else none) else (some (.int .i64 (-1 : Int)))) := by kernel_rfl
theorem strings_IndexRune_eq {E : Ext} [Core E] (k n : Nat) (a0 : ByteArray) (a1 : Int) : kp E k (n + 1) strings_IndexRune [(.str a0), (.int .i32 a1)] =
  (bif (decide ((0 : Int) ≤ a1)) then (bif (decide (a1 < (128 : Int))) then (callI .i64 (kp E k n strings_IndexByte [(.str a0), (.int .u8 (IntKind.wrap .u8 a1))]) fun vn2 => (some (.int .i64 vn2))) else (bif (decide (a1 = (65533 : Int))) then (strings_IndexRune_L0 (kp E k n) k k a0 0) else (callB (kp E k n unicode_utf8_ValidRune [(.int .i32 a1)]) fun vq4 => (bif (!vq4) then (some (.int .i64 (-1 : Int))) else (strings_IndexRune_L1 (kp E k n) k k a0 (Utf8.encode a1) (IntKind.wrap .i64 ((((ByteArray.size (Utf8.encode a1)) : Nat) : Int) - (1 : Int))) (IntKind.wrap .i64 ((((ByteArray.size (Utf8.encode a1)) : Nat) : Int) - (1 : Int)))))))) else (bif (decide (a1 = (65533 : Int))) then (strings_IndexRune_L0 (kp E k n) k k a0 0) else (callB (kp E k n unicode_utf8_ValidRune [(.int .i32 a1)]) fun vq8 => (bif (!vq8) then (some (.int .i64 (-1 : Int))) else (strings_IndexRune_L1 (kp E k n) k k a0 (Utf8.encode a1) (IntKind.wrap .i64 ((((ByteArray.size (Utf8.encode a1)) : Nat) : Int) - (1 : Int))) (IntKind.wrap .i64 ((((ByteArray.size (Utf8.encode a1)) : Nat) : Int) - (1 : Int)))))))) := (kp_at (by kernel_rfl)).trans (by kernel_rfl)
/- strings.shouldUseASCIISet -/
theorem strings_shouldUseASCIISet_eq {E : Ext} [Core E] (k n : Nat) (a0 : Int) : kp E k (n + 1) strings_shouldUseASCIISet [(.int .i64 a0)] =
  (some (.bool (decide (a0 > (8 : Int))))) := (kp_at (by kernel_rfl)).trans (by kernel_rfl)
/- unicode/utf8.ValidRune -/
theorem unicode_utf8_ValidRune_eq {E : Ext} [Core E] (k n : Nat) (a0 : Int) : kp E k (n + 1) unicode_utf8_ValidRune [(.int .i32 a0)] =
  (bif (decide ((0 : Int) ≤ a0)) then (bif (decide (a0 < (55296 : Int))) then (some (.bool true)) else (bif (decide ((57343 : Int) < a0)) then (bif (decide (a0 ≤ (1114111 : Int))) then (some (.bool true)) else (some (.bool false))) else (some (.bool false)))) else (bif (decide ((57343 : Int) < a0)) then (bif (decide (a0 ≤ (1114111 : Int))) then (some (.bool true)) else (some (.bool false))) else (some (.bool false)))) := (kp_at (by kernel_rfl)).trans (by kernel_rfl)
end Go.Proofs.YtogfcfgfkggmlaaGreatDoor.Eng.U


/- Is any field of a head wrong: some number answers, and 0 says what ItemFulls wants. -/
set_option linter.unusedVariables false
set_option linter.unusedSectionVars false
set_option linter.unusedSimpArgs false
namespace Go.Proofs.YtogfcfgfkggmlaaGreatDoor.Eng.U
open Go Go.Proofs Go.Proofs.YtogfcfgfkggmlaaGreatDoor.Eng Go.Proofs.YtogfcfgfkggmlaaGreatDoor.P04
variable {E : Ext} [Core E] [HasNum E] {k n : Nat}

class HasText (E : Ext) : Prop where
  dec : ∀ (k n : Nat) (s : List UInt8), ∃ r w : Int, kp E k n unicode_utf8_DecodeRuneInString [.str (str s)] = some (.tup [.int .i32 r, .int .i64 w])
  idx : ∀ (k n : Nat) (s : List UInt8), s.length ≤ 1000000 → ∃ i : Int, kp E k n strings_IndexAny [.str (str s), .str (str [61, 0])] = some (.int .i64 i)
theorem snoc_pairs (s : List Pair) : s = [] ∨ ∃ l c, s = l ++ [c] := by
  induction s with
  | nil => exact .inl rfl
  | cons x s ih =>
    rcases ih with rfl | ⟨l, c, rfl⟩
    · exact .inr ⟨[], x, rfl⟩
    · exact .inr ⟨x :: l, c, rfl⟩
def IsB (x : Option AV) : Prop := ∃ b : Bool, x = some (.bool b)
theorem isB_some (b : Bool) : IsB (some (.bool b)) := ⟨b, rfl⟩
theorem isB_bif {c : Bool} {a b : Option AV} (h1 : IsB a) (h2 : IsB b) : IsB (bif c then a else b) := by cases c <;> assumption
section
variable [HasText E]
theorem width_pos (s : ByteArray) (i : Nat) : 1 ≤ (Utf8.decode s i).2 := by
  rw [Lib.decode_at]
  unfold Lib.decodeN
  (repeat' split) <;> simp
end
end Go.Proofs.YtogfcfgfkggmlaaGreatDoor.Eng.U


/- strings.IndexAny at "=\x00" and a text of at most 8 bytes: some place. -/
set_option linter.unusedVariables false
set_option linter.unusedSectionVars false
set_option linter.unusedSimpArgs false
namespace Go.Proofs.YtogfcfgfkggmlaaGreatDoor.Eng.U
open Go Go.Proofs Go.Proofs.YtogfcfgfkggmlaaGreatDoor.Eng
variable {E : Ext} [Core E] {k n : Nat}

class HasIB (E : Ext) : Prop where
  indexB : ∀ (k n : Nat) (s : List UInt8) (c : Int), kp E k n strings_IndexByte [.str (str s), .int .u8 c] = some (.int .i64 (Lib.indexByte s c.toNat.toUInt8))
theorem valid_B (r : Int) : IsB (kp E k (n + 1) unicode_utf8_ValidRune [.int .i32 r]) := by
  rw [unicode_utf8_ValidRune_eq]
  repeat' first | exact isB_some _ | refine isB_bif ?_ ?_
theorem enc_facts (r : Nat) (h : 128 ≤ r) : (Utf8.encode (r : Int)).size = 2 ∧ 128 ≤ byteAt (Utf8.encode (r : Int)) 1 ∨ (Utf8.encode (r : Int)).size = 3 ∨ (Utf8.encode (r : Int)).size = 4 := by
  unfold Utf8.encode
  dsimp only
  have hc : 128 ≤ (if Utf8.valid (r : Int) = true then Int.toNat (r : Int) else Utf8.runeError) := by
    split
    · omega
    · decide
  generalize (if Utf8.valid (r : Int) = true then Int.toNat (r : Int) else Utf8.runeError) = c at hc
  rw [if_neg (show ¬ c < 128 by omega)]
  split
  · refine .inl ⟨rfl, ?_⟩
    show (128 : Int) ≤ (((UInt8.ofNat (128 + c % 64)).toNat : Nat) : Int)
    rw [UInt8.toNat_ofNat']
    omega
  · split
    · exact .inr (.inl rfl)
    · exact .inr (.inr rfl)
theorem rune_I [HasIB E] (r : Nat) (hk : 10 < k) : ∃ i : Int, kp E k (n + 2) strings_IndexRune [.str (str [61, 0]), .int .i32 (r : Int)] = some (.int .i64 i) := by
  obtain ⟨k, rfl⟩ : ∃ j, k = j + 3 := ⟨k - 3, by omega⟩
  rw [strings_IndexRune_eq, bif_t (by omega)]
  by_cases h1 : r < 128
  · rw [bif_t (by omega), HasIB.indexB, callI_ok]; exact ⟨_, rfl⟩
  · rw [bif_f (by omega)]
    by_cases h2 : (r : Int) = 65533
    · rw [bif_t h2]
      have d0 : Utf8.decode (str [61, 0]) 0 = (61, 1) := by decide +kernel
      have d1 : Utf8.decode (str [61, 0]) 1 = (0, 1) := by decide +kernel
      have sz : (str [61, 0]).size = 2 := rfl
      have z1 : 0 + ((61, 1) : Nat × Nat).2 = 1 := rfl
      have z2 : 1 + ((0, 1) : Nat × Nat).2 = 2 := rfl
      rw [strings_IndexRune_L0_s, sz, d0, z1, bif_t (by omega), bif_f (by decide), strings_IndexRune_L0_s, sz, d1, z2, bif_t (by omega), bif_f (by decide), strings_IndexRune_L0_s, sz, bif_f (by omega)]
      exact ⟨_, rfl⟩
    · rw [bif_f h2]
      obtain ⟨b, hb⟩ := valid_B (E := E) (k := k + 3) (n := n) (r : Int)
      rw [hb, callB_ok]
      cases b with
      | false => exact ⟨_, rfl⟩
      | true =>
        rw [Bool.not_true, cond_false]
        have sz : (str [61, 0]).size = 2 := rfl
        rcases enc_facts r (by omega) with ⟨e1, e2⟩ | e1 | e1
        · rw [e1, i64w (by omega), strings_IndexRune_L1_s, sz, e1]
          have hb1 : byteAt (str [61, 0]) 1 = 0 := rfl
          have e3 : Int.toNat (((2 : Nat) : Int) - 1) = 1 := rfl
          rw [bif_t (by omega), bif_a, bif_t (by omega), bif_t (by omega), bif_a, bif_t (by omega), bif_t (by omega), e3, hb1, decide_eq_false (by omega), Bool.not_false, cond_true, i64w (by omega), bif_a, bif_t (by omega), bif_t (by omega), bif_a, bif_t (by omega), bif_t (by omega)]
          have e4 : Int.toNat (((2 : Nat) : Int) - 1 + 1) = 2 := rfl
          have e5 : ByteArray.extract (str [61, 0]) 2 2 = str [] := by decide +kernel
          rw [e4, e5, HasIB.indexB, callI_ok]
          have e6 : Lib.indexByte [] (byteAt (Utf8.encode (r : Int)) 1).toNat.toUInt8 = -1 := rfl
          rw [e6, bif_t (by omega)]
          exact ⟨_, rfl⟩
        · rw [e1, i64w (by omega), strings_IndexRune_L1_s, sz, bif_f (by omega)]; exact ⟨_, rfl⟩
        · rw [e1, i64w (by omega), strings_IndexRune_L1_s, sz, bif_f (by omega)]; exact ⟨_, rfl⟩
theorem any_loop [HasIB E] (hk : 10 < k) (s : List UInt8) : ∀ (m k0 i : Nat), s.length - i < m → m ≤ k0 → ∃ r : Int, strings_IndexAny_L0 (kp E k (n + 2)) k k0 (str [61, 0]) (str s) i = some (.int .i64 r)
  | 0, k0, i, h, _ => by omega
  | m + 1, k0 + 1, i, h, hkk => by
    rw [strings_IndexAny_L0_s, str_size]
    by_cases hi : i < s.length
    · rw [decide_eq_true hi, cond_true]
      obtain ⟨x, hx⟩ := rune_I (E := E) (k := k) (n := n) (Utf8.decode (str s) i).1 hk
      rw [hx, callI_ok]
      by_cases h0 : x ≥ 0
      · rw [bif_t h0]; exact ⟨_, rfl⟩
      · rw [bif_f h0]
        have hw := width_pos (str s) i
        exact any_loop hk s m k0 (i + (Utf8.decode (str s) i).2) (by omega) (by omega)
    · rw [decide_eq_false hi, cond_false]
      exact ⟨_, rfl⟩
theorem any_short [HasIB E] (hB : E.isBase strings_IndexAny = false) (hF : E.fs.contains strings_IndexAny = true) (hk : 10 < k) (s : List UInt8) (hs : s.length ≤ 8) : ∃ r : Int, kp E k (n + 3) strings_IndexAny [.str (str s), .str (str [61, 0])] = some (.int .i64 r) := by
  have sz : (str [61, 0]).size = 2 := rfl
  rw [strings_IndexAny_eq hB hF, sz, str_size, bif_f (by decide), bif_f (by omega), strings_shouldUseASCIISet_eq, callB_ok, bif_f (by omega)]
  exact any_loop hk s k k 0 (by omega) (Nat.le_refl _)
end Go.Proofs.YtogfcfgfkggmlaaGreatDoor.Eng.U


/- The Utf laws in plain words, part 1: how many bytes stand for a code point. -/
set_option linter.unusedVariables false
set_option linter.unusedSimpArgs false
namespace Go.Proofs.YtogfcfgfkggmlaaGreatDoor.Eng.U
open Go Go.Proofs Go.Proofs.YtogfcfgfkggmlaaGreatDoor.Eng Go.Lib
variable {kap : FuncId → List AV → Option AV} {E : Ext} [Core E] {n : Nat}
def goDec (s : ByteArray) : Nat × Nat := if s.size = 0 then (65533, 0) else Utf8.decode s 0

def by_ (s : ByteArray) (i : Nat) : Nat := (s.data.toList.getD i 0).toNat
theorem get_by (s : ByteArray) (i : Nat) : (s.get! i).toNat = by_ s i := by
  unfold by_
  congr 1
  simp [ByteArray.get!, List.getD_eq_getElem?_getD, Array.getElem!_eq_getD, Array.getD_eq_getD_getElem?]
  rfl
theorem i64w {x : Int} (h : -9223372036854775808 ≤ x ∧ x ≤ 9223372036854775807) : IntKind.wrap .i64 x = x := IntWalk.i64_in x h

end Go.Proofs.YtogfcfgfkggmlaaGreatDoor.Eng.U


/- The Utf laws in plain words, part 2: the size of a code point is what the decoder says. -/
set_option linter.unusedVariables false
set_option linter.unusedSimpArgs false
namespace Go.Proofs.YtogfcfgfkggmlaaGreatDoor.Eng.U
open Go Go.Proofs Go.Proofs.YtogfcfgfkggmlaaGreatDoor.Eng Go.Lib
variable {kap : FuncId → List AV → Option AV} {E : Ext} [Core E] {n : Nat}

end Go.Proofs.YtogfcfgfkggmlaaGreatDoor.Eng.U


/- The Utf laws in plain words, part 3: the functions that go through a text. -/
set_option linter.unusedVariables false
set_option linter.unusedSimpArgs false
namespace Go.Proofs.YtogfcfgfkggmlaaGreatDoor.Eng.U
open Go Go.Proofs Go.Proofs.YtogfcfgfkggmlaaGreatDoor.Eng Go.Lib
variable {kap : FuncId → List AV → Option AV} {E : Ext} [Core E] {n : Nat}

/-- Is the byte at a place no part of a code point? -/
def bad (s : ByteArray) (i : Nat) : Prop := Utf8.decode s i = (65533, 1)
instance (s : ByteArray) (i : Nat) : Decidable (bad s i) := inferInstanceAs (Decidable (_ = _))
/-- The place behind what stands at a place. -/
def nx (s : ByteArray) (i : Nat) : Nat := i + (Utf8.decode s i).2
theorem width_le (s : ByteArray) (i : Nat) : 1 ≤ (Utf8.decode s i).2 ∧ (Utf8.decode s i).2 ≤ 4 := by
  rw [decode_at]
  unfold decodeN
  repeat' split
  all_goals simp
theorem nx_gt (s : ByteArray) (i : Nat) : i < nx s i ∧ nx s i ≤ i + 4 := by have := width_le s i; unfold nx; omega
/-- The ends of all that stands in a text, from a place on: below zero where a byte is no part of a code point. -/
def endsL (s : ByteArray) : Nat → Nat → List Int
  | 0, _ => []
  | n + 1, pos => if pos < s.size then (if bad s pos then -(nx s pos : Int) else (nx s pos : Int)) :: endsL s n (nx s pos) else []
def ends (s : ByteArray) : List Int := endsL s s.size 0
/-- The place of the first byte that is no part of a code point; -1: there is none. -/
def firstL (s : ByteArray) : Nat → Nat → Int
  | 0, _ => -1
  | n + 1, pos => if pos < s.size then (if bad s pos then (pos : Int) else firstL s n (nx s pos)) else -1
def first (s : ByteArray) : Int := firstL s s.size 0
theorem utf_wrong_spec {K : Nat} {s : ByteArray} {i : Nat} (hi : i < s.size) (h69 : ∀ t, kp E K n unicode_utf8_DecodeRuneInString [.str t] = some (.tup [.int .i32 ((goDec t).1 : Int), .int .i64 ((goDec t).2 : Int)])) :
    kp E K (n + 1) utf_wrong [.str s, .int .i64 (i : Int), .int .i32 ((Utf8.decode s i).1 : Int)] = some (.bool (decide (bad s i))) := by
  rw [utf_wrong_eq]
  by_cases h : (Utf8.decode s i).1 = 65533
  · rw [show decide ((((Utf8.decode s i).1 : Nat) : Int) = 65533) = true from by simp; omega, show (decide ((0 : Int) ≤ (i : Int)) && decide ((i : Int) ≤ (s.size : Int))) = true from by simp; omega]
    simp only [Bool.not_true, cond_false, cond_true, h69, callT_ok, tupI_ok, atNil_ok]
    have e : goDec (s.extract ((i : Int)).toNat s.size) = Utf8.decode s i := by
      rw [show ((i : Int)).toNat = i from by omega]
      unfold goDec
      rw [if_neg (by rw [tail_size]; omega), decode_at, decode_at, tail_size, Nat.sub_zero]
      simp only [tail_get!, Nat.add_zero, Nat.zero_add]
    rw [e]
    congr 2
    refine decide_eq_decide.2 ?_
    unfold bad
    rw [Prod.ext_iff]
    simp only [h, true_and]
    omega
  · rw [show decide ((((Utf8.decode s i).1 : Nat) : Int) = 65533) = false from by simp; omega]
    simp only [Bool.not_false, cond_true]
    rw [show decide (bad s i) = false from by simp only [decide_eq_false_iff_not]; intro hb; exact h (by rw [show Utf8.decode s i = _ from hb])]
theorem L13 {K : Nat} {s : ByteArray} (h50 : ∀ i, i < s.size → kap utf_wrong [.str s, .int .i64 (i : Int), .int .i32 ((Utf8.decode s i).1 : Int)] = some (.bool (decide (bad s i)))) :
    ∀ (n m pos : Nat), s.size ≤ pos + n → n < m → utf_First_L0 kap K m s s pos = some (.int .i64 (firstL s n pos)) := by
  intro n
  induction n with
  | zero =>
    intro m pos hn hm
    obtain ⟨m, rfl⟩ : ∃ m', m = m' + 1 := ⟨m - 1, by omega⟩
    rw [utf_First_L0_s, show decide (pos < s.size) = false from by simp; omega]
    rfl
  | succ n ih =>
    intro m pos hn hm
    obtain ⟨m, rfl⟩ : ∃ m', m = m' + 1 := ⟨m - 1, by omega⟩
    unfold firstL
    by_cases hlt : pos < s.size
    · have hw := nx_gt s pos
      rw [utf_First_L0_s, show decide (pos < s.size) = true from by simpa using hlt, h50 pos hlt, if_pos hlt]
      simp only [cond_true, callB_ok]
      by_cases hb : bad s pos
      · rw [if_pos hb, decide_eq_true hb]; rfl
      · rw [if_neg hb, decide_eq_false hb]
        exact ih m (nx s pos) (by omega) (by omega)
    · rw [utf_First_L0_s, show decide (pos < s.size) = false from by simpa using hlt, if_neg hlt]
      rfl
theorem utf_First_spec {K : Nat} {s : ByteArray} (hK : s.size < K) (h50 : ∀ i, i < s.size → kp E K n utf_wrong [.str s, .int .i64 (i : Int), .int .i32 ((Utf8.decode s i).1 : Int)] = some (.bool (decide (bad s i)))) : kp E K (n + 1) utf_First [.str s] = some (.int .i64 (first s)) := by
  rw [utf_First_eq]
  exact L13 h50 s.size K 0 (by omega) hK
theorem utf_Right_spec {K : Nat} {s : ByteArray} (h13 : kp E K n utf_First [.str s] = some (.int .i64 (first s))) : kp E K (n + 1) utf_Right [.str s] = some (.bool (decide (first s < 0))) := by
  rw [utf_Right_eq, h13]
  rfl
end Go.Proofs.YtogfcfgfkggmlaaGreatDoor.Eng.U


/- Which texts hold = or a nought, told exactly. -/
set_option linter.unusedVariables false
set_option linter.unusedSectionVars false
set_option linter.unusedSimpArgs false
namespace Go.Proofs.YtogfcfgfkggmlaaGreatDoor.Eng.U
open Go Go.Proofs Go.Proofs.YtogfcfgfkggmlaaGreatDoor.Eng
variable {E : Ext} [Core E] {k n : Nat}

def noEq (s : List UInt8) : Bool := s.all fun c => decide (c ≠ 61) && decide (c ≠ 0)
theorem idx_rune (r : Nat) (h : r < 128) : (0 : Int) ≤ Lib.indexByte [61, 0] (IntKind.wrap .u8 (r : Int)).toNat.toUInt8 ↔ r = 61 ∨ r = 0 := by
  have : ∀ r : _root_.Fin 128, ((0 : Int) ≤ Lib.indexByte [61, 0] (IntKind.wrap .u8 ((r.1 : Nat) : Int)).toNat.toUInt8 ↔ r.1 = 61 ∨ r.1 = 0) := by decide +kernel
  exact this ⟨r, h⟩
theorem rune_V [HasIB E] (r : Nat) (hk : 10 < k) : ∃ i : Int, kp E k (n + 2) strings_IndexRune [.str (str [61, 0]), .int .i32 (r : Int)] = some (.int .i64 i) ∧ (0 ≤ i ↔ r = 61 ∨ r = 0) := by
  obtain ⟨k, rfl⟩ : ∃ j, k = j + 3 := ⟨k - 3, by omega⟩
  rw [strings_IndexRune_eq, bif_t (by omega)]
  by_cases h1 : r < 128
  · rw [bif_t (by omega), HasIB.indexB, callI_ok]; exact ⟨_, rfl, idx_rune r h1⟩
  · rw [bif_f (by omega)]
    by_cases h2 : (r : Int) = 65533
    · rw [bif_t h2]
      have d0 : Utf8.decode (str [61, 0]) 0 = (61, 1) := by decide +kernel
      have d1 : Utf8.decode (str [61, 0]) 1 = (0, 1) := by decide +kernel
      have sz : (str [61, 0]).size = 2 := rfl
      have z1 : 0 + ((61, 1) : Nat × Nat).2 = 1 := rfl
      have z2 : 1 + ((0, 1) : Nat × Nat).2 = 2 := rfl
      rw [strings_IndexRune_L0_s, sz, d0, z1, bif_t (by omega), bif_f (by decide), strings_IndexRune_L0_s, sz, d1, z2, bif_t (by omega), bif_f (by decide), strings_IndexRune_L0_s, sz, bif_f (by omega)]
      exact ⟨_, rfl, by omega⟩
    · rw [bif_f h2]
      obtain ⟨b, hb⟩ := valid_B (E := E) (k := k + 3) (n := n) (r : Int)
      rw [hb, callB_ok]
      cases b with
      | false => exact ⟨_, rfl, by omega⟩
      | true =>
        rw [Bool.not_true, cond_false]
        have sz : (str [61, 0]).size = 2 := rfl
        rcases enc_facts r (by omega) with ⟨e1, e2⟩ | e1 | e1
        · rw [e1, i64w (by omega), strings_IndexRune_L1_s, sz, e1]
          have hb1 : byteAt (str [61, 0]) 1 = 0 := rfl
          have e3 : Int.toNat (((2 : Nat) : Int) - 1) = 1 := rfl
          rw [bif_t (by omega), bif_a, bif_t (by omega), bif_t (by omega), bif_a, bif_t (by omega), bif_t (by omega), e3, hb1, decide_eq_false (by omega), Bool.not_false, cond_true, i64w (by omega), bif_a, bif_t (by omega), bif_t (by omega), bif_a, bif_t (by omega), bif_t (by omega)]
          have e4 : Int.toNat (((2 : Nat) : Int) - 1 + 1) = 2 := rfl
          have e5 : ByteArray.extract (str [61, 0]) 2 2 = str [] := by decide +kernel
          rw [e4, e5, HasIB.indexB, callI_ok]
          have e6 : Lib.indexByte [] (byteAt (Utf8.encode (r : Int)) 1).toNat.toUInt8 = -1 := rfl
          rw [e6, bif_t (by omega)]
          exact ⟨_, rfl, by omega⟩
        · rw [e1, i64w (by omega), strings_IndexRune_L1_s, sz, bif_f (by omega)]; exact ⟨_, rfl, by omega⟩
        · rw [e1, i64w (by omega), strings_IndexRune_L1_s, sz, bif_f (by omega)]; exact ⟨_, rfl, by omega⟩
theorem dec_low (s : ByteArray) (i : Nat) (h : by_ s i < 128) : Utf8.decode s i = (by_ s i, 1) := by
  rw [Lib.decode_at, get_by, get_by, get_by, get_by]
  unfold Lib.decodeN
  rw [if_pos h]
theorem dec_wide (s : ByteArray) (i : Nat) (h : 128 ≤ by_ s i) : 128 ≤ (Utf8.decode s i).1 ∧ ∀ j, j < (Utf8.decode s i).2 → 128 ≤ by_ s (i + j) := by
  rw [Lib.decode_at, get_by, get_by, get_by, get_by]
  unfold Lib.decodeN
  rw [if_neg (by omega)]
  have key : ∀ (c w : Nat), 128 ≤ c → (w ≤ 4) → (1 < w → 128 ≤ by_ s (i + 1)) → (2 < w → 128 ≤ by_ s (i + 2)) → (3 < w → 128 ≤ by_ s (i + 3)) → 128 ≤ ((c, w) : Nat × Nat).1 ∧ ∀ j, j < ((c, w) : Nat × Nat).2 → 128 ≤ by_ s (i + j) := by
    intro c w hc hw h1 h2 h3
    refine ⟨hc, fun j hj => ?_⟩
    have hj : j < w := hj
    have : j = 0 ∨ j = 1 ∨ j = 2 ∨ j = 3 := by omega
    rcases this with rfl | rfl | rfl | rfl
    · exact h
    · exact h1 (by omega)
    · exact h2 (by omega)
    · exact h3 (by omega)
  repeat' split
  all_goals exact key _ _ (by omega) (by omega) (by omega) (by omega) (by omega)
theorem any_lv [HasIB E] (hk : 10 < k) (s : List UInt8) : ∀ (m k0 i : Nat), s.length - i < m → m ≤ k0 → ∃ r : Int, strings_IndexAny_L0 (kp E k (n + 2)) k k0 (str [61, 0]) (str s) i = some (.int .i64 r) ∧ (0 ≤ r ↔ ∃ j, i ≤ j ∧ j < s.length ∧ (by_ (str s) j = 61 ∨ by_ (str s) j = 0))
  | 0, k0, i, h, _ => by omega
  | m + 1, k0 + 1, i, h, hkk => by
    rw [strings_IndexAny_L0_s, str_size]
    by_cases hi : i < s.length
    · rw [decide_eq_true hi, cond_true]
      obtain ⟨x, hx, hxi⟩ := rune_V (E := E) (k := k) (n := n) (Utf8.decode (str s) i).1 hk
      rw [hx, callI_ok]
      have hw := width_pos (str s) i
      by_cases h0 : x ≥ 0
      · rw [bif_t h0]
        refine ⟨_, rfl, by
          constructor
          · intro _
            refine ⟨i, by omega, hi, ?_⟩
            by_cases hb : by_ (str s) i < 128
            · have := dec_low (str s) i hb
              have h1 := hxi.1 h0
              rw [this] at h1
              exact h1
            · have := (dec_wide (str s) i (by omega)).1
              have h1 := hxi.1 h0
              omega
          · intro _; omega⟩
      · rw [bif_f h0]
        obtain ⟨r, hr, hri⟩ := any_lv hk s m k0 (i + (Utf8.decode (str s) i).2) (by omega) (by omega)
        refine ⟨r, hr, hri.trans ⟨fun ⟨j, a, b, c⟩ => ⟨j, by omega, b, c⟩, fun ⟨j, a, b, c⟩ => ⟨j, ?_, b, c⟩⟩⟩
        have hn : ¬ ((Utf8.decode (str s) i).1 = 61 ∨ (Utf8.decode (str s) i).1 = 0) := fun h => h0 (hxi.2 h)
        by_cases hb : by_ (str s) i < 128
        · rw [dec_low (str s) i hb] at hn ⊢
          have hn : ¬ (by_ (str s) i = 61 ∨ by_ (str s) i = 0) := hn
          show i + 1 ≤ j
          by_cases e : i = j
          · subst e; exact absurd c hn
          · omega
        · have hall := (dec_wide (str s) i (by omega)).2
          by_cases e : i + (Utf8.decode (str s) i).2 ≤ j
          · exact e
          · have := hall (j - i) (by omega)
            rw [show i + (j - i) = j by omega] at this
            omega
    · rw [decide_eq_false hi, cond_false]
      exact ⟨_, rfl, ⟨fun h => by omega, fun ⟨j, a, b, _⟩ => by omega⟩⟩
theorem noEq_iff (s : List UInt8) : noEq s = false ↔ ∃ j, 0 ≤ j ∧ j < s.length ∧ (by_ (str s) j = 61 ∨ by_ (str s) j = 0) := by
  rw [noEq, List.all_eq_false]
  constructor
  · rintro ⟨c, hc, h⟩
    obtain ⟨j, hj, rfl⟩ := List.mem_iff_getElem.1 hc
    refine ⟨j, by omega, hj, ?_⟩
    have e : by_ (str s) j = (s[j]).toNat := by
      show ((str s).data.toList.getD j 0).toNat = _
      rw [show (str s).data.toList = s from rfl, List.getD_eq_getElem?_getD, List.getElem?_eq_getElem hj]; rfl
    rw [e]
    simp only [ne_eq, Bool.and_eq_true, decide_eq_true_eq] at h
    by_cases h6 : s[j] = 61
    · left; rw [h6]; rfl
    · by_cases h7 : s[j] = 0
      · right; rw [h7]; rfl
      · exact absurd ⟨h6, h7⟩ h
  · rintro ⟨j, _, hj, h⟩
    refine ⟨s[j], List.getElem_mem hj, ?_⟩
    have e : by_ (str s) j = (s[j]).toNat := by
      show ((str s).data.toList.getD j 0).toNat = _
      rw [show (str s).data.toList = s from rfl, List.getD_eq_getElem?_getD, List.getElem?_eq_getElem hj]; rfl
    rw [e] at h
    simp only [ne_eq, Bool.and_eq_true, decide_eq_true_eq]
    rintro ⟨h6, h7⟩
    rcases h with h | h
    · exact h6 (UInt8.toNat_inj.1 h)
    · exact h7 (UInt8.toNat_inj.1 h)
theorem any_short_v [HasIB E] (hB : E.isBase strings_IndexAny = false) (hF : E.fs.contains strings_IndexAny = true) (hk : 10 < k) (s : List UInt8) (hs : s.length ≤ 8) : ∃ r : Int, kp E k (n + 3) strings_IndexAny [.str (str s), .str (str [61, 0])] = some (.int .i64 r) ∧ decide (r ≥ 0) = !noEq s := by
  have sz : (str [61, 0]).size = 2 := rfl
  rw [strings_IndexAny_eq hB hF, sz, str_size, bif_f (by decide), bif_f (by omega), strings_shouldUseASCIISet_eq, callB_ok, bif_f (by omega)]
  obtain ⟨r, hr, h⟩ := any_lv (E := E) (n := n) hk s k k 0 (by omega) (Nat.le_refl _)
  refine ⟨r, hr, ?_⟩
  rw [← noEq_iff] at h
  cases hq : noEq s with
  | true => rw [hq] at h; simp only [Bool.true_eq_false, iff_false] at h; rw [decide_eq_false h]; rfl
  | false => rw [hq] at h; simp only [iff_true] at h; rw [decide_eq_true h]; rfl
theorem any_long_v (s : List UInt8) : decide (Lib.indexAny s [61, 0] ≥ 0) = !noEq s := by
  induction s with
  | nil => rfl
  | cons b l ih =>
    have hg := Lib.indexAny_ge [61, 0] l
    unfold Lib.indexAny noEq
    rw [List.all_cons]
    by_cases hb : b = 61 ∨ b = 0
    · have e : List.contains [61, 0] b = true := by rcases hb with rfl | rfl <;> rfl
      rw [if_pos e]
      rcases hb with rfl | rfl <;> rfl
    · have e : List.contains [61, 0] b = false := by
        simp only [not_or] at hb
        simp [List.contains_cons, hb.1, hb.2]
      rw [e]
      simp only [not_or] at hb
      rw [decide_eq_true hb.1, decide_eq_true hb.2, Bool.and_self, Bool.true_and]
      rw [show (l.all fun c => decide (c ≠ 61) && decide (c ≠ 0)) = noEq l from rfl, ← ih]
      by_cases h1 : Lib.indexAny l [61, 0] = -1
      · rw [h1]; rfl
      · have h2 : (Lib.indexAny l [61, 0] == -1) = false := by simpa using h1
        rw [h2]
        simp only [Bool.false_eq_true, if_false]
        rw [decide_eq_decide]
        omega
class HasTextV (E : Ext) : Prop where
  dec : ∀ (k n : Nat) (s : ByteArray), kp E k n unicode_utf8_DecodeRuneInString [.str s] = some (.tup [.int .i32 ((goDec s).1 : Int), .int .i64 ((goDec s).2 : Int)])
  idx : ∀ (k n : Nat) (s : List UInt8), s.length ≤ 1000000 → ∃ i : Int, kp E k n strings_IndexAny [.str (str s), .str (str [61, 0])] = some (.int .i64 i) ∧ decide (i ≥ 0) = !noEq s
end Go.Proofs.YtogfcfgfkggmlaaGreatDoor.Eng.U


/- The functions of the Dec laws in plain words, part 4: the document's own reading of a time. -/
set_option linter.unusedVariables false
set_option linter.unusedSectionVars false
set_option linter.unusedSimpArgs false
namespace Go.Proofs.YtogfcfgfkggmlaaGreatDoor.Eng.U
open Go Go.Proofs Go.Proofs.YtogfcfgfkggmlaaGreatDoor.Eng Go.Proofs.YtogfcfgfkggmlaaGreatDoor.P04
variable {E : Ext} [Core E] {k n : Nat}

end Go.Proofs.YtogfcfgfkggmlaaGreatDoor.Eng.U


/- What a pair of a record is: both sides in plain words. -/
set_option linter.unusedVariables false
set_option linter.unusedSectionVars false
set_option linter.unusedSimpArgs false
namespace Go.Proofs.YtogfcfgfkggmlaaGreatDoor.Eng.U
open Go Go.Proofs Go.Proofs.YtogfcfgfkggmlaaGreatDoor.Eng Go.Proofs.YtogfcfgfkggmlaaGreatDoor.P04
variable {E : Ext} [Core E] [HasNum E] {k n : Nat}

def utfOk (l : List UInt8) : Bool := decide (first (str l) < 0)
section
variable [HasTextV E]
theorem utf_k (l : List UInt8) (hk : l.length < k) : kp E k (n + 3) utf_Right [.str (str l)] = some (.bool (utfOk l)) := by
  have h1 : ∀ i, i < (str l).size → kp E k (n + 1) utf_wrong [.str (str l), .int .i64 (i : Int), .int .i32 ((Utf8.decode (str l) i).1 : Int)] = some (.bool (decide (bad (str l) i))) := fun i hi => utf_wrong_spec hi (HasTextV.dec k n)
  exact utf_Right_spec (utf_First_spec (by rw [str_size]; omega) h1)
theorem contains_k (s : List UInt8) (hs : s.length ≤ 1000000) : kp E k (n + 1) strings_ContainsAny [.str (str s), .str (str [61, 0])] = some (.bool (!noEq s)) := by
  obtain ⟨i, hi, h⟩ := HasTextV.idx (E := E) k n s hs
  rw [strings_ContainsAny_eq, hi, callI_ok, h]
end
def clean (s : List UInt8) : Bool := s.all fun c => decide (c ≠ 0)
theorem index0 (s : List UInt8) : decide (Lib.indexByte s 0 < 0) = clean s := by
  induction s with
  | nil => rfl
  | cons b l ih =>
    have hg := Lib.indexByte_ge l 0
    unfold Lib.indexByte clean
    rw [List.all_cons]
    by_cases hb : b = 0
    · subst hb; rfl
    · have h1 : (b == 0) = false := by simpa using hb
      rw [h1, decide_eq_true hb, Bool.true_and, show (l.all fun c => decide (c ≠ 0)) = clean l from rfl, ← ih]
      simp only [Bool.false_eq_true, if_false, beq_iff_eq]
      split
      · rename_i h; rw [h]
      · rename_i h
        rw [decide_eq_decide]
        omega
theorem index0_k (s : List UInt8) : kp E k n strings_IndexByte [.str (str s), .int .u8 0] = some (.int .i64 (Lib.indexByte s 0)) := HasNum.indexB k n s 0
theorem textClean_k (s : List UInt8) : kp E k (n + 1) text_Clean [.str (str s)] = some (.bool (clean s)) := by
  rw [text_Clean_eq, index0_k, callI_ok, index0]
theorem paxClean_k (s : List UInt8) : kp E k (n + 1) pax_clean [.str (str s)] = some (.bool (clean s)) := by
  rw [pax_clean_eq, index0_k, callI_ok, index0]
def whichL (key : List UInt8) : Int :=
  if key = [112, 97, 116, 104] then 0 else if key = [108, 105, 110, 107, 112, 97, 116, 104] then 1 else if key = [117, 110, 97, 109, 101] then 2 else if key = [103, 110, 97, 109, 101] then 3 else if key = [117, 105, 100] then 4 else if key = [103, 105, 100] then 5 else if key = [115, 105, 122, 101] then 6 else if key = [109, 116, 105, 109, 101] then 7 else -1
theorem is_path (key : List UInt8) : decide (str key = str [112, 97, 116, 104]) = decide (whichL key = 0) := by
  rw [str_dec, decide_eq_decide]
  constructor
  · rintro rfl; rfl
  · intro h
    unfold whichL at h
    repeat' split at h
    all_goals first | assumption | (exfalso; revert h; decide)
theorem is_linkpath (key : List UInt8) : decide (str key = str [108, 105, 110, 107, 112, 97, 116, 104]) = decide (whichL key = 1) := by
  rw [str_dec, decide_eq_decide]
  constructor
  · rintro rfl; rfl
  · intro h
    unfold whichL at h
    repeat' split at h
    all_goals first | assumption | (exfalso; revert h; decide)
theorem is_uname (key : List UInt8) : decide (str key = str [117, 110, 97, 109, 101]) = decide (whichL key = 2) := by
  rw [str_dec, decide_eq_decide]
  constructor
  · rintro rfl; rfl
  · intro h
    unfold whichL at h
    repeat' split at h
    all_goals first | assumption | (exfalso; revert h; decide)
theorem is_gname (key : List UInt8) : decide (str key = str [103, 110, 97, 109, 101]) = decide (whichL key = 3) := by
  rw [str_dec, decide_eq_decide]
  constructor
  · rintro rfl; rfl
  · intro h
    unfold whichL at h
    repeat' split at h
    all_goals first | assumption | (exfalso; revert h; decide)
theorem is_uid (key : List UInt8) : decide (str key = str [117, 105, 100]) = decide (whichL key = 4) := by
  rw [str_dec, decide_eq_decide]
  constructor
  · rintro rfl; rfl
  · intro h
    unfold whichL at h
    repeat' split at h
    all_goals first | assumption | (exfalso; revert h; decide)
theorem is_gid (key : List UInt8) : decide (str key = str [103, 105, 100]) = decide (whichL key = 5) := by
  rw [str_dec, decide_eq_decide]
  constructor
  · rintro rfl; rfl
  · intro h
    unfold whichL at h
    repeat' split at h
    all_goals first | assumption | (exfalso; revert h; decide)
theorem is_size (key : List UInt8) : decide (str key = str [115, 105, 122, 101]) = decide (whichL key = 6) := by
  rw [str_dec, decide_eq_decide]
  constructor
  · rintro rfl; rfl
  · intro h
    unfold whichL at h
    repeat' split at h
    all_goals first | assumption | (exfalso; revert h; decide)
theorem is_mtime (key : List UInt8) : decide (str key = str [109, 116, 105, 109, 101]) = decide (whichL key = 7) := by
  rw [str_dec, decide_eq_decide]
  constructor
  · rintro rfl; rfl
  · intro h
    unfold whichL at h
    repeat' split at h
    all_goals first | assumption | (exfalso; revert h; decide)
theorem which_lt (key : List UInt8) : -1 ≤ whichL key ∧ whichL key ≤ 7 := by
  unfold whichL
  repeat' split
  all_goals decide
theorem known_k (key : List UInt8) : kp E k (n + 1) pax_Known [.str (str key)] = some (.bool (decide (0 ≤ whichL key))) := by
  have hw := which_lt key
  rw [pax_Known_eq, is_path, is_linkpath, is_uname, is_gname, is_uid, is_gid, is_size, is_mtime]
  generalize whichL key = w at hw
  have : w = -1 ∨ w = 0 ∨ w = 1 ∨ w = 2 ∨ w = 3 ∨ w = 4 ∨ w = 5 ∨ w = 6 ∨ w = 7 := by omega
  rcases this with rfl | rfl | rfl | rfl | rfl | rfl | rfl | rfl | rfl <;> rfl
def numOk (s : List UInt8) : Bool := natOk s && decide (valA 0 s ≤ 9223372036854775807)
def valR (key s : List UInt8) : Bool :=
  if s = [] then true else if whichL key < 0 then true else if whichL key < 4 then clean s else if whichL key < 7 then numOk s else (timeL s).isSome
theorem value_k [HasTextV E] (key s : List UInt8) (hs : s.length ≤ 1000000) (hk : s.length < k) : kp E k (n + 4) pax_value [.str (str key), .str (str s)] = some (.bool (utfOk s && valR key s)) := by
  have hN : (callT (kp E k (n + 3) dec_Number [(.str (str s))]) fun vt6 => (tupI .i64 vt6 fun vn7 vt8 => (tupI .u8 vt8 fun vn9 vt10 => (atNil vt10 (some (.bool (decide (vn9 = (0 : Int)))))))) : Option AV) = some (.bool (numOk s)) := by
    rw [number_k s (by omega) hk]
    unfold numOk
    cases natOk s && decide (valA 0 s ≤ 9223372036854775807) <;> rfl
  have hT : (callT (kp E k (n + 3) dec_Time [(.str (str s))]) fun vt12 => (tupG 2 vt12 fun vg13 vt14 => (cellI .i64 vg13 0 fun vn15 => (cellI .i64 vg13 1 fun vn16 => (tupI .u8 vt14 fun vn17 vt18 => (atNil vt18 (some (.bool (decide (vn17 = (0 : Int)))))))))) : Option AV) = some (.bool (timeL s).isSome) := by
    rw [time_k s (by omega) hk]
    cases timeL s <;> rfl
  have hC : (callB (kp E k (n + 3) pax_clean [(.str (str s))]) fun vq4 => (some (.bool vq4)) : Option AV) = some (.bool (clean s)) := by rw [paxClean_k, callB_ok]
  rw [pax_value_eq, utf_k s hk, callB_ok, is_path, is_linkpath, is_uname, is_gname, is_uid, is_gid, is_size, is_mtime]
  simp only [hN, hT, hC]
  unfold valR
  have hw := which_lt key
  generalize whichL key = w at hw
  cases utfOk s with
  | false => rfl
  | true =>
    rw [Bool.not_true, cond_false, Bool.true_and, show (str [] : ByteArray) = str [] from rfl, str_dec]
    by_cases h0 : s = []
    · rw [decide_eq_true h0, if_pos h0]; rfl
    · rw [decide_eq_false h0, if_neg h0, cond_false]
      have : w = -1 ∨ w = 0 ∨ w = 1 ∨ w = 2 ∨ w = 3 ∨ w = 4 ∨ w = 5 ∨ w = 6 ∨ w = 7 := by omega
      rcases this with rfl | rfl | rfl | rfl | rfl | rfl | rfl | rfl | rfl <;> rfl
def pairOk (p : Pair) : Bool := decide (p.key ≠ []) && (utfOk p.key && (noEq p.key && (utfOk p.val && valR p.key p.val)))
theorem paxRight_k [HasTextV E] (p : Pair) (h1 : p.key.length ≤ 1000000) (h2 : p.val.length ≤ 1000000) (hk : 1000000 < k) : kp E k (n + 5) pax_Right [.agg [.str (str p.key), .str (str p.val)]] = some (.bool (pairOk p)) := by
  rw [pax_Right_eq, utf_k p.key (by omega), contains_k p.key h1, value_k p.key p.val h2 (by omega), str_dec]
  simp only [callB_ok]
  unfold pairOk
  by_cases h : p.key = []
  · rw [decide_eq_true h]
    simp [h]
  · rw [decide_eq_false h, decide_eq_true h]
    cases utfOk p.key <;> cases noEq p.key <;> cases utfOk p.val <;> rfl
end Go.Proofs.YtogfcfgfkggmlaaGreatDoor.Eng.U


/- Overlays in plain words: the order of keys, what is laid. No program. -/
set_option linter.unusedVariables false
set_option linter.unusedSimpArgs false
namespace Go.Proofs.YtogfcfgfkggmlaaGreatDoor.Eng.U
open Go Go.Proofs Go.Proofs.YtogfcfgfkggmlaaGreatDoor.Eng

theorem u8_lt_irrefl (a : UInt8) : ¬ a < a := fun h => by rw [UInt8.lt_iff_toNat_lt] at h; omega
theorem lt_irr : ∀ a : Tx, Op.bytesLess a a = false
  | [] => rfl
  | a :: x => by
    unfold Op.bytesLess
    rw [lt_irr x, decide_eq_false (u8_lt_irrefl a), Bool.and_false, Bool.or_false]
theorem lt_cons (a b : UInt8) (x y : Tx) : Op.bytesLess (a :: x) (b :: y) = true ↔ a.toNat < b.toNat ∨ a = b ∧ Op.bytesLess x y = true := by
  rw [Op.bytesLess, Bool.or_eq_true, Bool.and_eq_true, decide_eq_true_eq, beq_iff_eq, UInt8.lt_iff_toNat_lt]
theorem lt_tr : ∀ {a b c : Tx}, Op.bytesLess a b = true → Op.bytesLess b c = true → Op.bytesLess a c = true
  | _, _, [], _, h => by cases ‹Tx› <;> simp [Op.bytesLess] at h
  | [], _, _ :: _, _, _ => rfl
  | a :: x, [], c :: z, h, _ => by simp [Op.bytesLess] at h
  | a :: x, b :: y, c :: z, h1, h2 => by
    rw [lt_cons] at *
    rcases h1 with h1 | ⟨rfl, h1⟩
    · rcases h2 with h2 | ⟨rfl, h2⟩
      · left; omega
      · left; exact h1
    · rcases h2 with h2 | ⟨rfl, h2⟩
      · left; exact h2
      · right; exact ⟨rfl, lt_tr h1 h2⟩
theorem lt_tot : ∀ {a b : Tx}, Op.bytesLess a b = false → a ≠ b → Op.bytesLess b a = true
  | [], [], _, h => absurd rfl h
  | [], _ :: _, h, _ => by simp [Op.bytesLess] at h
  | _ :: _, [], _, _ => rfl
  | a :: x, b :: y, h, hn => by
    rw [lt_cons]
    have h' : ¬ (a.toNat < b.toNat ∨ a = b ∧ Op.bytesLess x y = true) := by rw [← lt_cons, h]; simp
    by_cases e : a = b
    · subst e
      right
      refine ⟨rfl, lt_tot ?_ fun e => hn (by rw [e])⟩
      cases hq : Op.bytesLess x y with
      | false => rfl
      | true => exact absurd (.inr ⟨rfl, hq⟩) h'
    · left
      have : a.toNat ≠ b.toNat := fun h => e (UInt8.toNat_inj.1 h)
      omega
theorem lt_asym {a b : Tx} (h : Op.bytesLess a b = true) : Op.bytesLess b a = false := by
  cases hq : Op.bytesLess b a with
  | false => rfl
  | true => have := lt_tr h hq; rw [lt_irr] at this; cases this
theorem not_le (a b : Tx) : (!(Op.bytesLess a b || decide (a = b))) = Op.bytesLess b a := by
  by_cases e : a = b
  · subst e; rw [decide_eq_true rfl, Bool.or_true, lt_irr]; rfl
  · rw [decide_eq_false e, Bool.or_false]
    cases h : Op.bytesLess a b with
    | true => rw [lt_asym h]; rfl
    | false => rw [lt_tot h e]; rfl

/-- Above what was ahead. -/
def gtO (a : Option Tx) (x : Tx) : Bool := match a with | none => true | some y => Op.bytesLess y x
def okSt : Option Tx → List Pair → Bool
  | _, [] => true
  | a, p :: l => gtO a p.key && decide (p.val ≠ []) && okSt (some p.key) l
end Go.Proofs.YtogfcfgfkggmlaaGreatDoor.Eng.U


/- Overlays: what both sides answer, in plain words. -/
set_option linter.unusedVariables false
set_option linter.unusedSectionVars false
set_option linter.unusedSimpArgs false
namespace Go.Proofs.YtogfcfgfkggmlaaGreatDoor.Eng.U
open Go Go.Proofs Go.Proofs.YtogfcfgfkggmlaaGreatDoor.Eng Go.Proofs.YtogfcfgfkggmlaaGreatDoor.P04
variable {E : Ext} [Core E] [HasNum E] {k n : Nat}

theorem snoc_len (pre : List Pair) (p : Pair) : ((pre.length : Nat) : Int) + 1 = (((pre ++ [p]).length : Nat) : Int) := by simp
theorem str_tl (l : Tx) : ByteArray.toList (str l) = l := str_list l
theorem overRight_loop (kap : FuncId → List AV → Option AV) (hR : ∀ p : Pair, p.key.length ≤ 1000000 → p.val.length ≤ 1000000 → kap pax_Right [.agg [.str (str p.key), .str (str p.val)]] = some (.bool (pairOk p))) (suf : List Pair) :
    ∀ (pre : List Pair) (k0 : Nat), suf.length < k0 → (pre ++ suf).length < 1000000000 → (∀ p ∈ suf, p.key.length ≤ 1000000 ∧ p.val.length ≤ 1000000) →
    over_Right_L0 kap k k0 (prs (pre ++ suf)) (prs (pre ++ suf)) (((pre ++ suf).length : Nat) : Int) ((pre.length : Nat) : Int) = some (.bool (okSt (pre.getLast?.map (·.key)) suf && suf.all pairOk)) := by
  induction suf with
  | nil =>
    intro pre k0 h hb hs
    obtain ⟨m, rfl⟩ : ∃ m, k0 = m + 1 := ⟨k0 - 1, by simp only [List.length_nil] at h; omega⟩
    rw [over_Right_L0_s, bif_f (by simp)]
    rfl
  | cons p suf ih =>
    intro pre k0 h hb hs
    obtain ⟨m, rfl⟩ : ∃ m, k0 = m + 1 := ⟨k0 - 1, by simp only [List.length_cons] at h; omega⟩
    have h' : suf.length < m := by simp only [List.length_cons] at h; omega
    have hb' : pre.length + (suf.length + 1) < 1000000000 := by simp only [List.length_append, List.length_cons] at hb; exact hb
    obtain ⟨g1, g2⟩ := hs p (.head _)
    have ih' := ih (pre ++ [p]) m h' (by simp only [List.length_append, List.length_cons, List.length_nil]; omega) fun q hq => hs q (.tail _ hq)
    rw [List.append_assoc, List.singleton_append, ← snoc_len] at ih'
    rw [over_Right_L0_s, prs_len, mid_len, bif_t (by omega), bif_a, bif_t (by omega), bif_t (by omega), Int.toNat_natCast, prs_mid, cells_pair, p_0, p_1, hR p g1 g2, callB_ok, str_dec]
    rw [mid_len] at ih'
    simp only [okSt, List.all_cons]
    by_cases hv : p.val = []
    · rw [decide_eq_true hv, cond_true, decide_eq_false (by simp [hv])]
      simp
    rw [decide_eq_false hv, cond_false, decide_eq_true hv]
    cases hq : pairOk p with
    | false => simp
    | true =>
      rw [Bool.not_true, cond_false, i64w (by omega), i64w (by omega), ih', List.getLast?_append, List.getLast?_singleton]
      rcases snoc_pairs pre with rfl | ⟨l, q, rfl⟩
      · rw [bif_f (by simp)]
        simp [gtO]
      · have hl1 : (l ++ [q]).length = l.length + 1 := by simp
        rw [bif_t (by omega), bif_a, bif_t (by omega), bif_t (by omega)]
        have e : Int.toNat ((((l ++ [q]).length : Nat) : Int) - 1) = l.length := by simp
        rw [e, show l ++ [q] ++ p :: suf = l ++ q :: (p :: suf) by simp, prs_mid, cells_pair, p_0, str_tl, str_tl, List.getLast?_append, List.getLast?_singleton]
        show (bif !Op.bytesLess q.key p.key then _ else _) = some (AV.bool ((Op.bytesLess q.key p.key && true && okSt (some p.key) suf) && (true && suf.all pairOk)))
        cases Op.bytesLess q.key p.key <;> simp
def overOk (l : List Pair) : Bool := okSt none l && l.all pairOk
theorem overRight_k [HasTextV E] (l : List Pair) (hl : l.length ≤ 1000000) (hp : ∀ p ∈ l, p.key.length ≤ 1000000 ∧ p.val.length ≤ 1000000) (hk : 1000000 < k) : kp E k (n + 6) over_Right [.list 2 (prs l)] = some (.bool (overOk l)) := by
  have h := overRight_loop (k := k) (kp E k (n + 5)) (fun p h1 h2 => paxRight_k p h1 h2 hk) l [] k (by omega) (by simp; omega) hp
  rw [List.nil_append] at h
  rw [over_Right_eq, prs_len]
  exact h
end Go.Proofs.YtogfcfgfkggmlaaGreatDoor.Eng.U


/- ItemFulls answers true. -/
set_option linter.unusedVariables false
set_option linter.unusedSectionVars false
set_option linter.unusedSimpArgs false
namespace Go.Proofs.YtogfcfgfkggmlaaGreatDoor.Eng.U
open Go Go.Proofs Go.Proofs.YtogfcfgfkggmlaaGreatDoor.Eng Go.Proofs.YtogfcfgfkggmlaaGreatDoor.P04
variable {E : Ext} [Core E] [HasNum E] [HasText E] {k n : Nat}

end Go.Proofs.YtogfcfgfkggmlaaGreatDoor.Eng.U


/- Which field of a head is the first that isn't right: both sides. -/
set_option linter.unusedVariables false
set_option linter.unusedSectionVars false
set_option linter.unusedSimpArgs false
namespace Go.Proofs.YtogfcfgfkggmlaaGreatDoor.Eng.U
open Go Go.Proofs Go.Proofs.YtogfcfgfkggmlaaGreatDoor.Eng Go.Proofs.YtogfcfgfkggmlaaGreatDoor.P04
variable {E : Ext} [Core E] [HasNum E] {k n k0 : Nat}

def nameOk (s : List UInt8) : Bool := decide (s ≠ []) && (decide (s.length ≤ 65536) && clean s)
def plainOk (s : List UInt8) : Bool := decide (s.length ≤ 65536) && clean s
def links (h : Head) : Bool := decide (h.kind = 2) || decide (h.kind = 3)
def devs (h : Head) : Bool := decide (h.kind = 4) || decide (h.kind = 5)
def f1 (h : Head) : Bool := decide (h.kind ≥ 1) && decide (h.kind ≤ 7)
def f2 (h : Head) : Bool := nameOk h.name && !(decide (h.kind = 1) && sl h.name)
def f3 (h : Head) : Bool := bif links h then nameOk h.link else decide (h.link = [])
def f4 (h : Head) : Bool := decide (h.mode ≥ 0)
def f5 (h : Head) : Bool := decide (h.uid ≥ 0)
def f6 (h : Head) : Bool := decide (h.gid ≥ 0)
def f7 (h : Head) : Bool := decide (h.size = 0) || (decide (h.size > 0) && decide (h.kind = 1))
def f8 (h : Head) : Bool := rightT h.nano
def f9 (h : Head) : Bool := plainOk h.user
def f10 (h : Head) : Bool := plainOk h.group
def devOk (h : Head) (v : Int) : Bool := decide (v = 0) || (decide (v > 0) && devs h)
def f11 (h : Head) : Bool := devOk h h.major
def f12 (h : Head) : Bool := devOk h h.minor
def f13 (h : Head) : Bool := overOk h.extra && h.extra.all fun p => decide (whichL p.key < 0)
def wrongH (h : Head) : Int :=
  bif !f1 h then 1 else bif !f2 h then 2 else bif !f3 h then 3 else bif !f4 h then 4 else bif !f5 h then 5 else bif !f6 h then 6 else bif !f7 h then 7 else bif !f8 h then 8 else
  bif !f9 h then 9 else bif !f10 h then 10 else bif !f11 h then 11 else bif !f12 h then 12 else bif !f13 h then 13 else 0
theorem len_le (s : List UInt8) : decide (((s.length : Nat) : Int) ≤ 65536) = decide (s.length ≤ 65536) := by rw [decide_eq_decide]; omega
theorem named_k (s : List UInt8) : kp E k (n + 2) item_named [.str (str s)] = some (.bool (nameOk s)) := by
  rw [item_named_eq, textClean_k, callB_ok, str_dec, str_size, len_le]
  unfold nameOk
  rw [decide_not]
  cases decide (s = []) <;> cases decide (s.length ≤ 65536) <;> rfl
theorem plain_k (s : List UInt8) : kp E k (n + 2) item_plain [.str (str s)] = some (.bool (plainOk s)) := by
  rw [item_plain_eq, textClean_k, callB_ok, str_size, len_le]
  unfold plainOk
  cases decide (s.length ≤ 65536) <;> rfl
theorem link_k (h : Head) : kp E k (n + 3) item_link [.agg (encHead h)] = some (.bool (f3 h)) := by
  unfold encHead f3 links
  rw [item_link_eq, named_k, callB_ok, str_dec]
  cases decide (h.kind = 2) <;> cases decide (h.kind = 3) <;> rfl
theorem device_k (h : Head) (v : Int) : kp E k (n + 1) item_device [.agg (encHead h), .int .i64 v] = some (.bool (devOk h v)) := by
  unfold encHead devOk devs
  rw [item_device_eq]
  cases decide (v = 0) <;> cases decide (v > 0) <;> cases decide (h.kind = 4) <;> rfl
theorem extra1_k (p : Pair) : kp E k (n + 2) item_extra_1 [.agg [.str (str p.key), .str (str p.val)]] = some (.bool (decide (0 ≤ whichL p.key))) := by
  rw [item_extra_1_eq, known_k, callB_ok]
theorem index_loop (kap : FuncId → List AV → Option AV) (hK : ∀ p : Pair, kap item_extra_1 [.agg [.str (str p.key), .str (str p.val)]] = some (.bool (decide (0 ≤ whichL p.key)))) (suf : List Pair) : ∀ (pre : List Pair) (k0 : Nat), suf.length < k0 → (pre ++ suf).length < 1000000 →
    ∃ i : Int, slices_IndexFunc_api_Pair_L0 kap k k0 (prs (pre ++ suf)) (((pre ++ suf).length : Nat) : Int) ((pre.length : Nat) : Int) = some (.int .i64 i) ∧ decide (i ≥ 0) = !(suf.all fun p => decide (whichL p.key < 0)) := by
  induction suf with
  | nil =>
    intro pre k0 h hb
    obtain ⟨m, rfl⟩ : ∃ m, k0 = m + 1 := ⟨k0 - 1, by simp only [List.length_nil] at h; omega⟩
    rw [slices_IndexFunc_api_Pair_L0_s, bif_f (by simp)]
    exact ⟨_, rfl, rfl⟩
  | cons p suf ih =>
    intro pre k0 h hb
    obtain ⟨m, rfl⟩ : ∃ m, k0 = m + 1 := ⟨k0 - 1, by simp only [List.length_cons] at h; omega⟩
    have h' : suf.length < m := by simp only [List.length_cons] at h; omega
    have hb' : pre.length + (suf.length + 1) < 1000000 := by simp only [List.length_append, List.length_cons] at hb; exact hb
    obtain ⟨i, hi, he⟩ := ih (pre ++ [p]) m h' (by simp only [List.length_append, List.length_cons, List.length_nil]; omega)
    rw [List.append_assoc, List.singleton_append, ← snoc_len, mid_len] at hi
    rw [slices_IndexFunc_api_Pair_L0_s, prs_len, mid_len, bif_t (by omega), bif_a, bif_t (by omega), bif_t (by omega), Int.toNat_natCast, prs_mid, cells_pair, p_0, p_1, hK, callB_ok, i64w (by omega), List.all_cons]
    by_cases hw : 0 ≤ whichL p.key
    · rw [decide_eq_true hw, cond_true, decide_eq_false (show ¬ whichL p.key < 0 by omega)]
      exact ⟨_, rfl, by rw [decide_eq_true (by omega)]; rfl⟩
    · rw [decide_eq_false hw, cond_false, decide_eq_true (show whichL p.key < 0 by omega), Bool.true_and]
      exact ⟨i, hi, he⟩
theorem extra_k [HasTextV E] (h : Head) (hl : h.extra.length ≤ 100000) (hp : ∀ p ∈ h.extra, p.key.length ≤ 1000000 ∧ p.val.length ≤ 1000000) (hk : 1000000 < k) : kp E k (n + 7) item_extra [.list 2 (prs h.extra)] = some (.bool (f13 h)) := by
  obtain ⟨i, hi, he⟩ := index_loop (k := k) (kp E k (n + 4)) (fun p => extra1_k p) h.extra [] k (by omega) (by simpa using (show h.extra.length < 1000000 by omega))
  simp only [List.nil_append, List.length_nil] at hi
  rw [item_extra_eq, overRight_k h.extra (by omega) hp hk, callB_ok, slices_ContainsFunc_api_Pair_eq, slices_IndexFunc_api_Pair_eq, prs_len]
  rw [show ((0 : Nat) : Int) = 0 from rfl] at hi
  rw [hi, callI_ok, he, callB_ok, Bool.not_not]
  unfold f13
  cases overOk h.extra <;> rfl
def BdF (h : Head) : Prop := h.name.length ≤ 400000 ∧ h.link.length ≤ 400000 ∧ h.user.length ≤ 400000 ∧ h.group.length ≤ 400000 ∧ h.extra.length ≤ 100000 ∧ ∀ p ∈ h.extra, p.key.length ≤ 1000000 ∧ p.val.length ≤ 1000000
theorem flag_k (v : Int) : ∃ f : Int, kp E k (n + 1) item_Flag [.int .i64 v] = some (.int .u8 f) ∧ decide (f = 0) = !(decide (v ≥ 1) && decide (v ≤ 7)) := by
  rw [item_Flag_eq]
  by_cases h1 : v < 1
  · rw [bif_t h1]; exact ⟨_, rfl, by rw [decide_eq_false (show ¬ v ≥ 1 by omega)]; rfl⟩
  · rw [bif_f h1]
    by_cases h2 : v > 7
    · rw [bif_t h2]; exact ⟨_, rfl, by rw [decide_eq_true (show v ≥ 1 by omega), decide_eq_false (show ¬ v ≤ 7 by omega)]; rfl⟩
    · rw [bif_f h2]
      have : v = 1 ∨ v = 2 ∨ v = 3 ∨ v = 4 ∨ v = 5 ∨ v = 6 ∨ v = 7 := by omega
      rcases this with rfl | rfl | rfl | rfl | rfl | rfl | rfl <;> exact ⟨_, rfl, by decide⟩
theorem wrong_kv [HasTextV E] (h : Head) (hb : BdF h) (hk : 1000000 < k) : kp E k (n + 8) item_Wrong [.agg (encHead h)] = some (.int .i64 (wrongH h)) := by
  have hlink := link_k (E := E) (k := k) (n := n + 4) h
  have hdev : ∀ v : Int, kp E k (n + 7) item_device [.agg (encHead h), .int .i64 v] = _ := fun v => device_k (n := n + 6) h v
  have hext := extra_k (E := E) (k := k) (n := n) h hb.2.2.2.2.1 hb.2.2.2.2.2 hk
  have hright : ∀ s t : Int, kp E k (n + 7) dec_Right [.agg [.int .i64 s, .int .i64 t]] = _ := fun s t => right_k (n := n + 6) s t
  have hplain : ∀ s : List UInt8, kp E k (n + 7) item_plain [.str (str s)] = _ := fun s => plain_k (n := n + 5) s
  have hname : kp E k (n + 7) item_named [.str (str h.name)] = _ := named_k (n := n + 5) h.name
  obtain ⟨f, hfl, hf1⟩ := flag_k (E := E) (k := k) (n := n + 6) h.kind
  have hsuf := suffix_k (E := E) (k := k) (n := n + 5) h.name (by have := hb.1; omega)
  have e1 : decide (f = 0) = !f1 h := hf1
  unfold encHead at hlink hdev ⊢
  rw [item_Wrong_eq]
  simp only [hfl, callI_ok, e1, hname, hsuf, hlink, hdev, hright, hplain, hext, callB_ok]
  unfold wrongH
  have e2 : f2 h = (nameOk h.name && !(decide (h.kind = 1) && sl h.name)) := rfl
  have e4 : decide (h.mode < 0) = !f4 h := by unfold f4; rw [← decide_not, decide_eq_decide]; omega
  have e5 : decide (h.uid < 0) = !f5 h := by unfold f5; rw [← decide_not, decide_eq_decide]; omega
  have e6 : decide (h.gid < 0) = !f6 h := by unfold f6; rw [← decide_not, decide_eq_decide]; omega
  have e7 : f7 h = (decide (h.size = 0) || (decide (h.size > 0) && decide (h.kind = 1))) := rfl
  have e8 : rightT h.nano = f8 h := rfl
  have e9 : plainOk h.user = f9 h := rfl
  have e10 : plainOk h.group = f10 h := rfl
  have e11 : devOk h h.major = f11 h := rfl
  have e12 : devOk h h.minor = f12 h := rfl
  rw [e2, e4, e5, e6, e7, e8, e9, e10, e11, e12]
  have s3 : (h.size < 0 ∧ ¬ h.size = 0 ∧ ¬ h.size > 0) ∨ (¬ h.size < 0 ∧ h.size = 0 ∧ ¬ h.size > 0) ∨ (¬ h.size < 0 ∧ ¬ h.size = 0 ∧ h.size > 0) := by omega
  generalize nameOk h.name = b2
  generalize sl h.name = bs
  generalize f1 h = b1
  generalize f3 h = b3
  generalize f4 h = b4
  generalize f5 h = b5
  generalize f6 h = b6
  generalize f8 h = b8
  generalize f9 h = b9
  generalize f10 h = b10
  generalize f11 h = b11
  generalize f12 h = b12
  generalize f13 h = b13
  generalize decide (h.kind = 1) = bk
  cases b1
  · rfl
  cases b2
  · rfl
  have tail : ∀ a8 a9 a10 a11 a12 a13 : Bool, (bif !a8 then some (AV.int .i64 8) else bif !a9 then some (AV.int .i64 9) else bif !a10 then some (AV.int .i64 10) else bif !a11 then some (AV.int .i64 11) else bif !a12 then some (AV.int .i64 12) else bif !a13 then some (AV.int .i64 13) else some (AV.int .i64 0)) =
      some (AV.int .i64 (bif !a8 then 8 else bif !a9 then 9 else bif !a10 then 10 else bif !a11 then 11 else bif !a12 then 12 else bif !a13 then 13 else 0)) := by
    intro a8 a9 a10 a11 a12 a13
    cases a8 <;> cases a9 <;> cases a10 <;> cases a11 <;> cases a12 <;> cases a13 <;> rfl
  rcases s3 with ⟨x1, x2, x3⟩ | ⟨x1, x2, x3⟩ | ⟨x1, x2, x3⟩
  · rw [decide_eq_true x1, decide_eq_false x2, decide_eq_false x3]
    cases bk <;> cases bs <;> cases b3 <;> cases b4 <;> cases b5 <;> cases b6 <;> rfl
  · rw [decide_eq_false x1, decide_eq_true x2, decide_eq_false x3]
    cases bk <;> cases bs <;> cases b3 <;> cases b4 <;> cases b5 <;> cases b6 <;> first | rfl | exact tail _ _ _ _ _ _
  · rw [decide_eq_false x1, decide_eq_false x2, decide_eq_true x3]
    cases bk <;> cases bs <;> cases b3 <;> cases b4 <;> cases b5 <;> cases b6 <;> first | rfl | exact tail _ _ _ _ _ _
end Go.Proofs.YtogfcfgfkggmlaaGreatDoor.Eng.U


/- Which field of a head is the first that isn't right: the reference's side. -/
set_option linter.unusedVariables false
set_option linter.unusedSectionVars false
set_option linter.unusedSimpArgs false
namespace Go.Proofs.YtogfcfgfkggmlaaGreatDoor.Eng.U
open Go Go.Proofs Go.Proofs.YtogfcfgfkggmlaaGreatDoor.Eng Go.Proofs.YtogfcfgfkggmlaaGreatDoor.P04
variable {E : Ext} [Core E] [HasNum E] {k n k0 : Nat}

end Go.Proofs.YtogfcfgfkggmlaaGreatDoor.Eng.U


/- Which field of a head is the first that isn't right: the reference's side. -/
set_option linter.unusedVariables false
set_option linter.unusedSectionVars false
set_option linter.unusedSimpArgs false
namespace Go.Proofs.YtogfcfgfkggmlaaGreatDoor.Eng.U
open Go Go.Proofs Go.Proofs.YtogfcfgfkggmlaaGreatDoor.Eng Go.Proofs.YtogfcfgfkggmlaaGreatDoor.P04
variable {E : Ext} [Core E] [HasNum E] {k n k0 : Nat}

end Go.Proofs.YtogfcfgfkggmlaaGreatDoor.Eng.U


/- Which field of a head is the first that isn't right: the reference's side. -/
set_option linter.unusedVariables false
set_option linter.unusedSectionVars false
set_option linter.unusedSimpArgs false
namespace Go.Proofs.YtogfcfgfkggmlaaGreatDoor.Eng.U
open Go Go.Proofs Go.Proofs.YtogfcfgfkggmlaaGreatDoor.Eng Go.Proofs.YtogfcfgfkggmlaaGreatDoor.P04
variable {E : Ext} [Core E] [HasNum E] {k n k0 : Nat}

end Go.Proofs.YtogfcfgfkggmlaaGreatDoor.Eng.U


/- How many bytes pairs have together; a pair that is right. -/
set_option linter.unusedVariables false
set_option linter.unusedSimpArgs false
namespace Go.Proofs.YtogfcfgfkggmlaaGreatDoor.Eng.U
open Go Go.Proofs Go.Proofs.YtogfcfgfkggmlaaGreatDoor.Eng

def sumP : List Pair → Nat
  | [] => 0
  | p :: l => p.key.length + p.val.length + sumP l
end Go.Proofs.YtogfcfgfkggmlaaGreatDoor.Eng.U


/- What is printed is read, in plain Lean. -/
set_option linter.unusedVariables false
set_option linter.unusedSimpArgs false
namespace Go.Proofs.YtogfcfgfkggmlaaGreatDoor.P04
open Go

theorem ofNat_dig {d : Nat} (h : d < 10) : (UInt8.ofNat (48 + d)).toNat = 48 + d := by rw [UInt8.toNat_ofNat']; omega
theorem isDig_of {d : Nat} (h : d < 10) : isDig (UInt8.ofNat (48 + d)) = true := by rw [dig_iff, ofNat_dig h]; omega
theorem dec_facts (u : Nat) : (Lib.decDigits u).all isDig = true ∧ valA 0 (Lib.decDigits u) = u ∧ Lib.decDigits u ≠ [] ∧ ((Lib.decDigits u).headD 0 = 48 → u = 0) := by
  induction u using Nat.strongRecOn with
  | ind u ih =>
    by_cases h : u < 10
    · rw [Lib.decDigits_one h]
      refine ⟨by rw [List.all_cons, isDig_of h]; rfl, ?_, by simp, fun e => ?_⟩
      · show 0 * 10 + ((UInt8.ofNat (48 + u)).toNat - 48) = u
        rw [ofNat_dig h]; omega
      · have : (UInt8.ofNat (48 + u)).toNat = 48 := congrArg UInt8.toNat e
        rw [ofNat_dig h] at this; omega
    · obtain ⟨h1, h2, h3, h4⟩ := ih (u / 10) (by omega)
      rw [decDigits_rec h]
      refine ⟨by rw [List.all_append, h1, List.all_cons, isDig_of (by omega)]; rfl, ?_, by simp, fun e => ?_⟩
      · rw [valA_app, h2]
        show u / 10 * 10 + ((UInt8.ofNat (48 + u % 10)).toNat - 48) = u
        rw [ofNat_dig (by omega)]; omega
      · cases hl : Lib.decDigits (u / 10) with
        | nil => exact absurd hl h3
        | cons c l =>
          rw [hl] at e h4
          have := h4 e
          omega
theorem dec_digs (u : Nat) : digs (Lib.decDigits u) = true := by
  obtain ⟨h1, _, h3, _⟩ := dec_facts u
  unfold digs
  rw [h1, Bool.true_and, Bool.not_eq_true', List.isEmpty_eq_false_iff]
  exact h3
theorem dec_natOk (u : Nat) (h : u ≤ 9223372036854775808) : natOk (Lib.decDigits u) = true := by
  obtain ⟨h1, h2, h3, h4⟩ := dec_facts u
  unfold natOk
  rw [dec_digs, h2, decide_eq_true h, Bool.and_true, Bool.true_and, Bool.not_eq_true']
  unfold lead
  by_cases e : (Lib.decDigits u).headD 0 = 48
  · have := h4 e
    subst this
    rw [Lib.decDigits_one (by omega)]
    rfl
  · rw [decide_eq_false e]; rfl
theorem valA_acc : ∀ (l : List UInt8) (a : Nat), valA a l = a * 10 ^ l.length + valA 0 l
  | [], a => by show a = a * 1 + 0; omega
  | c :: l, a => by
    rw [valA_cons, valA_cons, valA_acc l (a * 10 + (c.toNat - 48)), valA_acc l (0 * 10 + (c.toNat - 48)), List.length_cons, Nat.pow_succ]
    rw [Nat.zero_mul, Nat.zero_add, Nat.add_mul, Nat.mul_assoc, Nat.mul_comm 10, Nat.add_assoc]
theorem frac_length : ∀ k n, (frac k n).length = k
  | 0, _ => rfl
  | k + 1, n => by unfold frac; rw [List.length_cons, frac_length k]
theorem frac_val (m : Nat) (h : m < 1000000000) : valA 0 (frac 9 m) = m ∧ (frac 9 m).all isDig = true := by
  have hd := digits_frac m h
  obtain ⟨h1, h2, _, _⟩ := dec_facts (1000000000 + m)
  rw [hd] at h1 h2
  rw [List.all_cons, Bool.and_eq_true] at h1
  refine ⟨?_, h1.2⟩
  rw [valA_cons, valA_acc, frac_length] at h2
  have e : 0 * 10 + (UInt8.toNat 49 - 48) = 1 := rfl
  rw [e] at h2
  omega
theorem dropW_rep (c : UInt8) : ∀ l : List UInt8, l = List.replicate (l.length - (l.dropWhile (· == c)).length) c ++ l.dropWhile (· == c)
  | [] => rfl
  | x :: l => by
    rw [List.dropWhile_cons]
    by_cases h : x = c
    · subst h
      have ih := dropW_rep x l
      have hle : (l.dropWhile (· == x)).length ≤ l.length := (List.dropWhile_sublist _).length_le
      rw [if_pos (beq_self_eq_true x), List.length_cons, show l.length + 1 - (l.dropWhile (· == x)).length = (l.length - (l.dropWhile (· == x)).length) + 1 from by omega, List.replicate_succ, List.cons_append, ← ih]
    · rw [if_neg (by simpa using h), Nat.sub_self]
      rfl
theorem trim_rep (l : List UInt8) (c : UInt8) : l = Lib.trimRightB l c ++ List.replicate (l.length - (Lib.trimRightB l c).length) c := by
  have h := dropW_rep c l.reverse
  have h2 := congrArg List.reverse h
  rw [List.reverse_reverse, List.reverse_append, List.reverse_replicate, List.length_reverse] at h2
  unfold Lib.trimRightB
  rw [List.length_reverse]
  exact h2
theorem loopP_length : ∀ k n, (loopP k n).length ≤ k
  | 0, _ => Nat.le_refl _
  | k + 1, n => by
    unfold loopP
    split
    · simp
    · rw [List.length_cons]
      have := loopP_length k (n % 100000000 * 10)
      omega
theorem loop_facts (m : Nat) (h0 : 0 < m) (h : m < 1000000000) : digs (loopP 9 m) = true ∧ (loopP 9 m).length ≤ 9 ∧ valA 0 (loopP 9 m ++ List.replicate (9 - (loopP 9 m).length) 48) = m := by
  obtain ⟨h1, h2⟩ := frac_val m h
  have ht := trim_frac 9 m h (by simp [Nat.mod_one]) (by omega)
  have hr := trim_rep (frac 9 m) 48
  rw [ht, frac_length] at hr
  refine ⟨?_, loopP_length 9 m, by rw [← hr, h1]⟩
  unfold digs
  rw [hr, List.all_append, Bool.and_eq_true] at h2
  rw [h2.1, Bool.true_and, Bool.not_eq_true', List.isEmpty_eq_false_iff]
  unfold loopP
  rw [if_neg (by omega)]
  simp
/-- No point among digits. -/
theorem dot_digs : ∀ (a : List UInt8), a.all isDig = true → dot a = a.length
  | [], _ => rfl
  | c :: a, h => by
    rw [List.all_cons, Bool.and_eq_true] at h
    have hc := dig_iff.1 h.1
    have ih := dot_digs a h.2
    unfold dot at ih ⊢
    rw [List.findIdx_cons, beq_eq_false_iff_ne.2 (by rintro rfl; exact absurd hc.1 (by decide)), cond_false, ih, List.length_cons]
theorem dot_point : ∀ (a b : List UInt8), a.all isDig = true → dot (a ++ 46 :: b) = a.length
  | [], b, _ => rfl
  | c :: a, b, h => by
    rw [List.all_cons, Bool.and_eq_true] at h
    have hc := dig_iff.1 h.1
    have ih := dot_point a b h.2
    unfold dot at ih ⊢
    rw [List.cons_append, List.findIdx_cons, beq_eq_false_iff_ne.2 (by rintro rfl; exact absurd hc.1 (by decide)), cond_false, ih, List.length_cons]
theorem timeB_whole (q : Bool) (u : Nat) (hu : u ≤ 9223372036854775808) : timeB q (Lib.decDigits u) = if q = false then (if 9223372036854775807 < u then none else some ((u : Int), 0)) else some (-(u : Int), 0) := by
  obtain ⟨h1, h2, h3, h4⟩ := dec_facts u
  unfold timeB
  dsimp only
  rw [dot_digs _ h1, List.take_length, dec_natOk u hu, h2, if_neg (by simp), if_neg (fun h => by omega), if_neg (Nat.lt_irrefl _)]
  rfl
theorem timeB_parts (q : Bool) (u m : Nat) (hu : u ≤ 9223372036854775807) (hm0 : 0 < m) (hm : m < 1000000000) : timeB q (Lib.decDigits u ++ [46] ++ loopP 9 m) = if q = false then some ((u : Int), (m : Int)) else some (-(u : Int) - 1, 1000000000 - (m : Int)) := by
  obtain ⟨h1, h2, h3, h4⟩ := dec_facts u
  obtain ⟨g1, g2, g3⟩ := loop_facts m hm0 hm
  have hd := dot_point (Lib.decDigits u) (loopP 9 m) h1
  unfold timeB
  dsimp only
  rw [List.append_assoc, List.singleton_append, hd]
  have e1 : (Lib.decDigits u ++ 46 :: loopP 9 m).take (Lib.decDigits u).length = Lib.decDigits u := by simp
  have e2 : (Lib.decDigits u ++ 46 :: loopP 9 m).drop ((Lib.decDigits u).length + 1) = loopP 9 m := by
    rw [List.drop_append]
    simp
  rw [e1, e2, dec_natOk u (by omega), h2, if_neg (by simp), if_neg (fun h => h.2 ⟨g1, g2⟩), if_pos (show (Lib.decDigits u).length < (Lib.decDigits u ++ 46 :: loopP 9 m).length by simp), g3, if_neg (show ¬ m = 0 by omega), if_neg (show ¬ 9223372036854775807 < u by omega), if_neg (show ¬ 9223372036854775807 < u by omega)]
theorem dec_head (u : Nat) (l : List UInt8) : (Lib.decDigits u ++ l).head? ≠ some 45 := by
  obtain ⟨h1, _, h3, _⟩ := dec_facts u
  cases hl : Lib.decDigits u with
  | nil => exact absurd hl h3
  | cons c r =>
    rw [hl, List.all_cons, Bool.and_eq_true] at h1
    have hc := dig_iff.1 h1.1
    intro e
    rw [List.cons_append, List.head?_cons, Option.some.injEq] at e
    subst e
    exact absurd hc.1 (by decide)
theorem time_print (s t : Int) (hs : -9223372036854775808 ≤ s ∧ s ≤ 9223372036854775807) (ht : 0 ≤ t ∧ t < 1000000000) : timeL (printL s t) = some (s, t) := by
  unfold printL timeL
  by_cases h0 : t = 0
  · subst h0
    rw [if_pos rfl]
    unfold Lib.itoa
    by_cases h : s < 0
    · have hh : (45 :: Lib.decDigits s.natAbs).head? = some 45 := rfl
      rw [if_pos h, if_pos hh, decide_eq_true hh, List.drop_one, List.tail_cons, timeB_whole true _ (by omega), if_neg (by simp), show -((s.natAbs : Nat) : Int) = s from by omega]
    · have hh := dec_head s.toNat []
      rw [List.append_nil] at hh
      rw [if_neg h, if_neg hh, decide_eq_false hh, timeB_whole false _ (by omega), if_pos rfl, if_neg (by omega), show ((s.toNat : Nat) : Int) = s from by omega]
  · rw [if_neg h0]
    by_cases h : s < 0
    · have hh : (45 :: (Lib.decDigits (-(s + 1)).toNat ++ [46] ++ loopP 9 (1000000000 - t).toNat)).head? = some 45 := rfl
      rw [if_pos h, List.cons_append, List.cons_append, if_pos hh, decide_eq_true hh, List.drop_one, List.tail_cons, timeB_parts true _ _ (by omega) (by omega) (by omega), if_neg (by simp)]
      rw [show -(((-(s + 1)).toNat : Nat) : Int) - 1 = s from by omega, show (1000000000 : Int) - (((1000000000 - t).toNat : Nat) : Int) = t from by omega]
    · have hh := dec_head s.toNat ([46] ++ loopP 9 t.toNat)
      rw [← List.append_assoc] at hh
      rw [if_neg h, if_neg hh, decide_eq_false hh, timeB_parts false _ _ (by omega) (by omega) (by omega), if_pos rfl, show ((s.toNat : Nat) : Int) = s from by omega, show ((t.toNat : Nat) : Int) = t from by omega]
/-! No fewer bytes. -/
theorem printL_parts (s t : Int) : (printL s t).length = (if t = 0 then (Lib.itoa s).length else if s < 0 then 1 + (Lib.decDigits (-(s + 1)).toNat).length + 1 + (loopP 9 (1000000000 - t).toNat).length else (Lib.decDigits s.toNat).length + 1 + (loopP 9 t.toNat).length) := by
  unfold printL
  split
  · rfl
  · split
    · simp; omega
    · simp; omega
end Go.Proofs.YtogfcfgfkggmlaaGreatDoor.P04


/- The Dec laws answer true, part 2: reading, and back again. -/
set_option linter.unusedVariables false
set_option linter.unusedSectionVars false
set_option linter.unusedSimpArgs false
namespace Go.Proofs.YtogfcfgfkggmlaaGreatDoor.Eng.U
open Go Go.Proofs Go.Proofs.YtogfcfgfkggmlaaGreatDoor.Eng Go.Proofs.YtogfcfgfkggmlaaGreatDoor.P04
variable {E : Ext} [Core E] [HasNum E] {k n : Nat}

theorem w0 : IntKind.wrap .i64 0 = 0 := i64w (by omega)
theorem printL_len (s t : Int) (hs : -9223372036854775808 ≤ s ∧ s ≤ 9223372036854775807) (ht : 0 ≤ t ∧ t < 1000000000) : (printL s t).length ≤ 100 := by
  rw [printL_parts]
  have h1 := Lib.itoa_length_le s hs.1 hs.2
  have h2 := loopP_len 9 (1000000000 - t).toNat
  have h3 := loopP_len 9 t.toNat
  split
  · omega
  · split
    · have := dig_len (-(s + 1)).toNat (by omega)
      omega
    · have := dig_len s.toNat (by omega)
      omega
end Go.Proofs.YtogfcfgfkggmlaaGreatDoor.Eng.U


/- A head's line: by the program and by the definition, in plain words. -/
set_option linter.unusedVariables false
set_option linter.unusedSectionVars false
set_option linter.unusedSimpArgs false
namespace Go.Proofs.YtogfcfgfkggmlaaGreatDoor.Eng.U
open Go Go.Proofs Go.Proofs.YtogfcfgfkggmlaaGreatDoor.Eng Go.Proofs.YtogfcfgfkggmlaaGreatDoor.P04
variable {E : Ext} [Core E] [HasNum E] {k n k0 : Nat}

class HasJn (E : Ext) : Prop where
  join : ∀ (k n : Nat) (l : List (List UInt8)) (sep : List UInt8), l.length ≤ 1000000 → (sep.intercalate l).length ≤ 1000000000 → kp E k n strings_Join [.list 1 (svs l), .str (str sep)] = some (.str (str (sep.intercalate l)))
def kindsL : List Tx := [[102, 105, 108, 101], [108, 105, 110, 107], [115, 121, 109], [99, 104, 97, 114], [98, 108, 111, 99, 107], [100, 105, 114], [102, 105, 102, 111]]
def kindT (v : Int) : Tx := kindsL.getD (v - 1).toNat []
def wordT (s : Tx) : Tx := 61 :: quoteL s
def pairW (l : List Pair) : List Tx := l.flatMap fun p => [wordT p.key, wordT p.val]
def headW (h : Head) : List Tx := [kindT h.kind, Lib.itoa h.mode, Lib.itoa h.uid, Lib.itoa h.gid, Lib.itoa h.size, printL h.sec h.nano, wordT h.user, wordT h.group, Lib.itoa h.major, Lib.itoa h.minor, wordT h.name, wordT h.link]
def wordsH (h : Head) : List Tx := headW h ++ pairW h.extra
def lineL (h : Head) : Tx := ([32] : Tx).intercalate (wordsH h)
theorem pairW_cons (p : Pair) (l : List Pair) : pairW (p :: l) = [wordT p.key, wordT p.val] ++ pairW l := rfl
theorem pairW_snoc (l : List Pair) (p : Pair) : pairW (l ++ [p]) = pairW l ++ [wordT p.key, wordT p.val] := by unfold pairW; rw [List.flatMap_append]; simp
theorem pairW_len (l : List Pair) : (pairW l).length = 2 * l.length := by
  induction l with
  | nil => rfl
  | cons p l ih => rw [pairW_cons, List.length_append, ih]; simp only [List.length_cons, List.length_nil]; omega
theorem inter_cons (w : Tx) (l : List Tx) : ([32] : Tx).intercalate (w :: l) = w ++ l.flatMap fun x => 32 :: x := by
  induction l generalizing w with
  | nil => simp [List.intercalate]
  | cons y l ih =>
    have h : ([32] : Tx).intercalate (w :: y :: l) = w ++ ([32] ++ ([32] : Tx).intercalate (y :: l)) := by simp [List.intercalate, List.intersperse]
    rw [h, ih y]; simp
theorem word_len (s : Tx) : (wordT s).length ≤ 4 * s.length + 1 := by have := quote_len s; unfold wordT; rw [List.length_cons]; omega
theorem pairF_len : ∀ l : List Pair, ((pairW l).flatMap fun x => 32 :: x).length ≤ 4 * sumP l + 4 * l.length
  | [] => Nat.zero_le _
  | p :: l => by
    have ih := pairF_len l
    have h1 := word_len p.key
    have h2 := word_len p.val
    rw [pairW_cons, List.flatMap_append, List.length_append]
    simp only [List.flatMap_cons, List.flatMap_nil, List.length_append, List.length_cons, List.length_nil, sumP] at ih ⊢
    omega
theorem itoa_le (v : Int) (h0 : -9223372036854775808 ≤ v) (h1 : v ≤ 9223372036854775807) : (Lib.itoa v).length ≤ 22 := by
  by_cases hv : 0 ≤ v
  · obtain ⟨u, rfl⟩ := Int.eq_ofNat_of_zero_le hv
    rw [Lib.itoa_nonneg]
    have := dig_len u (by omega)
    omega
  · obtain ⟨u, rfl⟩ : ∃ u : Nat, v = -(u : Int) := ⟨v.natAbs, by omega⟩
    have := dig_len u (by omega)
    rw [Lib.itoa_neg u (by omega), List.length_cons]
    omega
structure Bd20 (h : Head) : Prop where
  f : BdF h
  mode : -9223372036854775808 ≤ h.mode ∧ h.mode ≤ 9223372036854775807
  uid : -9223372036854775808 ≤ h.uid ∧ h.uid ≤ 9223372036854775807
  gid : -9223372036854775808 ≤ h.gid ∧ h.gid ≤ 9223372036854775807
  size : -9223372036854775808 ≤ h.size ∧ h.size ≤ 9223372036854775807
  sec : -9223372036854775808 ≤ h.sec ∧ h.sec ≤ 9223372036854775807
  major : -9223372036854775808 ≤ h.major ∧ h.major ≤ 9223372036854775807
  minor : -9223372036854775808 ≤ h.minor ∧ h.minor ≤ 9223372036854775807
  few : h.extra.length ≤ 2000
  sum : sumP h.extra ≤ 400000
theorem kind_some {h : Head} (hw : wrongH h = 0) : 1 ≤ h.kind ∧ h.kind ≤ 7 ∧ rightT h.nano = true := by
  unfold wrongH at hw
  have a1 : f1 h = true := by
    cases hf : f1 h with
    | true => rfl
    | false => rw [hf] at hw; simp at hw
  have a8 : f8 h = true := by
    cases hf : f8 h with
    | true => rfl
    | false =>
      rw [hf] at hw
      revert hw
      cases f1 h <;> cases f2 h <;> cases f3 h <;> cases f4 h <;> cases f5 h <;> cases f6 h <;> cases f7 h <;> simp
  unfold f1 at a1
  rw [Bool.and_eq_true, decide_eq_true_eq, decide_eq_true_eq] at a1
  exact ⟨a1.1, a1.2, a8⟩
theorem kindT_len (v : Int) : (kindT v).length ≤ 5 := by
  unfold kindT kindsL
  generalize (v - 1).toNat = i
  rcases i with _ | _ | _ | _ | _ | _ | _ | i <;> simp
theorem line_len {h : Head} (hb : Bd20 h) (hw : wrongH h = 0) : (lineL h).length ≤ 10000000 := by
  obtain ⟨k1, k2, k3⟩ := kind_some hw
  unfold rightT at k3
  rw [Bool.and_eq_true, decide_eq_true_eq, decide_eq_true_eq] at k3
  have l0 := kindT_len h.kind
  have l1 := itoa_le h.mode hb.mode.1 hb.mode.2
  have l2 := itoa_le h.uid hb.uid.1 hb.uid.2
  have l3 := itoa_le h.gid hb.gid.1 hb.gid.2
  have l4 := itoa_le h.size hb.size.1 hb.size.2
  have l5 := printL_len h.sec h.nano hb.sec k3
  have l6 := word_len h.user
  have l7 := word_len h.group
  have l8 := itoa_le h.major hb.major.1 hb.major.2
  have l9 := itoa_le h.minor hb.minor.1 hb.minor.2
  have l10 := word_len h.name
  have l11 := word_len h.link
  have l12 := pairF_len h.extra
  obtain ⟨b1, b2, b3, b4, _⟩ := hb.f
  have b5 := hb.few
  have b6 := hb.sum
  unfold lineL wordsH headW
  rw [List.cons_append, inter_cons]
  simp only [List.cons_append, List.nil_append, List.flatMap_cons, List.length_append, List.length_cons] at l12 ⊢
  omega
theorem line_loop [HasQuote E] [HasJn E] (all : List Pair) (hall : ∀ p ∈ all, p.key.length ≤ 1000000 ∧ p.val.length ≤ 1000000) (hW : List Tx) (hlen : hW.length = 12) (hfew : all.length ≤ 2000) (hj : (([32] : Tx).intercalate (hW ++ pairW all)).length ≤ 1000000000) :
    ∀ (suf pre : List Pair) (k0 : Nat), suf.length < k0 → pre ++ suf = all →
    tale_Line_L0 (kp E k (n + 1)) k k0 (prs all) ((all.length : Nat) : Int) ((pre.length : Nat) : Int) (svs (hW ++ pairW pre)) = some (.tup [.str (str (([32] : Tx).intercalate (hW ++ pairW all))), .int .u8 0])
  | [], pre, k0 + 1, h, he => by
    rw [List.append_nil] at he
    subst he
    rw [tale_Line_L0_s, bif_f (by omega), HasJn.join _ _ _ _ (by rw [List.length_append, pairW_len]; omega) hj, callS_ok]
  | p :: suf, pre, k0 + 1, h, he => by
    have hm := hall p (by rw [← he]; simp)
    have hl : all.length = pre.length + suf.length + 1 := by rw [← he, mid_len]
    have ih := line_loop all hall hW hlen hfew hj suf (pre ++ [p]) k0 (by simpa using h) (by simpa using he)
    rw [pairW_snoc, ← List.append_assoc, List.length_append, List.length_singleton] at ih
    rw [tale_Line_L0_s, bif_t (by omega), prs_len, inb (by omega), cond_true, Int.toNat_natCast]
    conv => lhs; rw [← he]
    rw [prs_mid, cells_pair, p_0, p_1, word_k _ (by omega), callS_ok, word_k _ (by omega), callS_ok, svs_len, List.length_append, pairW_len, room16 (by omega), cond_true, wrap1 (by omega), he]
    rw [← ih]
    congr 1
    unfold svs
    simp [sv, wordT]
theorem bif_t_kind {v : Int} (h1 : 1 ≤ v) (h2 : v ≤ 7) {β : Type} (K : ByteArray → Option β) :
    (bif (decide ((0 : Int) ≤ v)) && (decide (v < (((List.length ([(.str (str [])), (.str (str [102, 105, 108, 101])), (.str (str [108, 105, 110, 107])), (.str (str [115, 121, 109])), (.str (str [99, 104, 97, 114])), (.str (str [98, 108, 111, 99, 107])), (.str (str [100, 105, 114])), (.str (str [102, 105, 102, 111]))] : List AV)) : Nat) : Int))) then ((([(.str (str [])), (.str (str [102, 105, 108, 101])), (.str (str [108, 105, 110, 107])), (.str (str [115, 121, 109])), (.str (str [99, 104, 97, 114])), (.str (str [98, 108, 111, 99, 107])), (.str (str [100, 105, 114])), (.str (str [102, 105, 102, 111]))] : List AV)[(Int.toNat v)]?).bind fun vy11 => cellS (AV.cells vy11) 0 K) else none) = K (str (kindT v)) := by
  have : v = 1 ∨ v = 2 ∨ v = 3 ∨ v = 4 ∨ v = 5 ∨ v = 6 ∨ v = 7 := by omega
  rcases this with rfl | rfl | rfl | rfl | rfl | rfl | rfl <;> rfl
theorem line_k [HasTextV E] [HasQuote E] [HasJn E] (h : Head) (hb : Bd20 h) (hk : 1000000 < k) : kp E k (n + 9) tale_Line [.agg (encHead h)] = some (if wrongH h = 0 then .tup [.str (str (lineL h)), .int .u8 0] else .tup [.str (str []), .int .u8 15]) := by
  have hw := wrong_kv (E := E) (k := k) (n := n) h hb.f hk
  obtain ⟨b1, b2, b3, b4, b5, b6⟩ := hb.f
  unfold encHead at hw ⊢
  rw [tale_Line_eq, hw, callI_ok]
  by_cases h0 : wrongH h = 0
  case neg => rw [if_neg h0, decide_eq_false h0]; rfl
  obtain ⟨k1, k2, k3⟩ := kind_some h0
  rw [if_pos h0, decide_eq_true h0, Bool.not_true, cond_false, print_k _ _ hb.sec.1 hb.sec.2, k3, cond_true, callT_ok, tupS_ok, tupI_ok, atNil_ok, tale_kinds_eq, callL_ok]
  rw [bif_t_kind k1 k2]
  rw [text_k _ hb.mode.1 hb.mode.2, callS_ok, text_k _ hb.uid.1 hb.uid.2, callS_ok, text_k _ hb.gid.1 hb.gid.2, callS_ok, text_k _ hb.size.1 hb.size.2, callS_ok, word_k _ (by omega), callS_ok, word_k _ (by omega), callS_ok, text_k _ hb.major.1 hb.major.2, callS_ok, text_k _ hb.minor.1 hb.minor.2, callS_ok, word_k _ (by omega), callS_ok, word_k _ (by omega), callS_ok, prs_len]
  have hl := line_len hb h0
  have := line_loop (E := E) (k := k) (n := n + 7) h.extra b6 (headW h) rfl hb.few (by unfold lineL wordsH at hl; omega) h.extra [] k (by have := hb.few; omega) rfl
  exact this
end Go.Proofs.YtogfcfgfkggmlaaGreatDoor.Eng.U


/- A head's line by the definition, in plain words. -/
set_option linter.unusedVariables false
set_option linter.unusedSectionVars false
set_option linter.unusedSimpArgs false
namespace Go.Proofs.YtogfcfgfkggmlaaGreatDoor.Eng.U
open Go Go.Proofs Go.Proofs.YtogfcfgfkggmlaaGreatDoor.Eng Go.Proofs.YtogfcfgfkggmlaaGreatDoor.P04
variable {E : Ext} [Core E] [HasNum E] {k n k0 : Nat}

theorem refNum_k (v : Int) (h0 : -9223372036854775808 ≤ v) (h1 : v ≤ 9223372036854775807) : kp E k (n + 21) ref20_num [.int .i64 v] = some (.str (str (Lib.itoa v))) := by
  rw [ref20_num_eq, refText_k v h0 h1, callS_ok]
end Go.Proofs.YtogfcfgfkggmlaaGreatDoor.Eng.U


/- The lines of items; whether there are many: in plain words. -/
set_option linter.unusedVariables false
set_option linter.unusedSectionVars false
set_option linter.unusedSimpArgs false
namespace Go.Proofs.YtogfcfgfkggmlaaGreatDoor.Eng.U
open Go Go.Proofs Go.Proofs.YtogfcfgfkggmlaaGreatDoor.Eng Go.Proofs.YtogfcfgfkggmlaaGreatDoor.P04
variable {E : Ext} [Core E] [HasNum E] {k n k0 : Nat}

end Go.Proofs.YtogfcfgfkggmlaaGreatDoor.Eng.U


/- Whether there are many items: in plain words. -/
set_option linter.unusedVariables false
set_option linter.unusedSectionVars false
set_option linter.unusedSimpArgs false
namespace Go.Proofs.YtogfcfgfkggmlaaGreatDoor.Eng.U
open Go Go.Proofs Go.Proofs.YtogfcfgfkggmlaaGreatDoor.Eng Go.Proofs.YtogfcfgfkggmlaaGreatDoor.P04
variable {E : Ext} [Core E] {k n k0 : Nat}

end Go.Proofs.YtogfcfgfkggmlaaGreatDoor.Eng.U


/- How many bytes a record has: both sides. -/
set_option linter.unusedVariables false
set_option linter.unusedSectionVars false
set_option linter.unusedSimpArgs false
namespace Go.Proofs.YtogfcfgfkggmlaaGreatDoor.Eng.U
open Go Go.Proofs Go.Proofs.YtogfcfgfkggmlaaGreatDoor.Eng Go.Proofs.YtogfcfgfkggmlaaGreatDoor.P04
variable {E : Ext} [Core E] [HasNum E] {k n : Nat}

end Go.Proofs.YtogfcfgfkggmlaaGreatDoor.Eng.U


/- Which bytes are records: in plain words. -/
set_option linter.unusedVariables false
set_option linter.unusedSectionVars false
set_option linter.unusedSimpArgs false
namespace Go.Proofs.YtogfcfgfkggmlaaGreatDoor.Eng.U
open Go Go.Proofs Go.Proofs.YtogfcfgfkggmlaaGreatDoor.Eng Go.Proofs.YtogfcfgfkggmlaaGreatDoor.P04

def upto (c : UInt8) (l : Tx) : Tx := l.takeWhile fun x => decide (x ≠ c)
theorem upto_hit (c : UInt8) (l : Tx) : upto c (c :: l) = [] := by simp [upto]
theorem upto_cons {c x : UInt8} (h : x ≠ c) (l : Tx) : upto c (x :: l) = x :: upto c l := by simp [upto, h]
theorem upto_le (c : UInt8) : ∀ l : Tx, (upto c l).length ≤ l.length
  | [] => Nat.le_refl _
  | x :: l => by
    have := upto_le c l
    by_cases h : x = c
    · subst h; rw [upto_hit]; simp
    · rw [upto_cons h]; simp only [List.length_cons]; omega
theorem upto_take (c : UInt8) : ∀ l : Tx, l.take (upto c l).length = upto c l
  | [] => rfl
  | x :: l => by
    by_cases h : x = c
    · subst h; rw [upto_hit]; rfl
    · rw [upto_cons h, List.length_cons, List.take_succ_cons, upto_take c l]
end Go.Proofs.YtogfcfgfkggmlaaGreatDoor.Eng.U


/- Records, both sides: printed and parsed. -/
set_option linter.unusedVariables false
set_option linter.unusedSectionVars false
set_option linter.unusedSimpArgs false
namespace Go.Proofs.YtogfcfgfkggmlaaGreatDoor.Eng.U
open Go Go.Proofs Go.Proofs.YtogfcfgfkggmlaaGreatDoor.Eng Go.Proofs.YtogfcfgfkggmlaaGreatDoor.P04
variable {E : Ext} [Core E] [HasNum E] {k n : Nat}

def lenAV : Option (Nat × Nat) → AV
  | none => .tup [.int .i64 0, .int .i64 0, .bool false]
  | some x => .tup [.int .i64 (x.1 : Int), .int .i64 (x.2 : Int), .bool true]
theorem index_upto (x : UInt8) : ∀ l : Tx, Lib.indexByte l x = if (upto x l).length < l.length then ((upto x l).length : Int) else -1
  | [] => rfl
  | c :: l => by
    have ih := index_upto x l
    unfold Lib.indexByte
    by_cases hc : c = x
    · subst hc
      rw [upto_hit, if_pos (by simp)]
      simp
    · have h1 : (c == x) = false := by simpa using hc
      have hl := upto_le x l
      rw [upto_cons hc, List.length_cons, List.length_cons, h1]
      simp only [Bool.false_eq_true, if_false]
      rw [ih]
      by_cases h : (upto x l).length < l.length
      · rw [if_pos h, if_pos (show (upto x l).length + 1 < l.length + 1 by omega)]
        rw [if_neg (by simp)]
        omega
      · rw [if_neg h, if_neg (show ¬ (upto x l).length + 1 < l.length + 1 by omega)]
        rfl
end Go.Proofs.YtogfcfgfkggmlaaGreatDoor.Eng.U


/- Words between a byte: plain. -/
set_option linter.unusedVariables false
namespace Go.Proofs.YtogfcfgfkggmlaaGreatDoor.Eng.U
open Go Go.Proofs Go.Proofs.YtogfcfgfkggmlaaGreatDoor.Eng

/-- The parts of a text between a byte. -/
def splitL (c : UInt8) : Tx → List Tx
  | [] => [[]]
  | b :: l => if b = c then [] :: splitL c l else (b :: (splitL c l).headD []) :: (splitL c l).tail
def countL (c : UInt8) : Tx → Nat
  | [] => 0
  | b :: l => if b = c then countL c l + 1 else countL c l
theorem split_cons (c b : UInt8) (l : Tx) : splitL c (b :: l) = if b = c then [] :: splitL c l else (b :: (splitL c l).headD []) :: (splitL c l).tail := rfl
theorem count_cons (c b : UInt8) (l : Tx) : countL c (b :: l) = if b = c then countL c l + 1 else countL c l := rfl
theorem split_len (c : UInt8) : ∀ l : Tx, (splitL c l).length = countL c l + 1
  | [] => rfl
  | b :: l => by
    have ih := split_len c l
    rw [split_cons, count_cons]
    by_cases h : b = c
    · rw [if_pos h, if_pos h, List.length_cons, ih]
    · rw [if_neg h, if_neg h, List.length_cons, List.length_tail, ih]
      omega
theorem count_le (c : UInt8) : ∀ l : Tx, countL c l ≤ l.length
  | [] => Nat.le_refl _
  | b :: l => by
    have ih := count_le c l
    rw [count_cons, List.length_cons]
    split <;> omega
/-- The first part, and those behind it. -/
theorem split_upto (c : UInt8) : ∀ l : Tx, splitL c l = if (upto c l).length < l.length then upto c l :: splitL c (l.drop ((upto c l).length + 1)) else [l]
  | [] => rfl
  | b :: l => by
    have ih := split_upto c l
    rw [split_cons]
    by_cases h : b = c
    · subst h
      rw [if_pos rfl, upto_hit, if_pos (by simp)]
      simp
    · rw [if_neg h, upto_cons h, List.length_cons, List.length_cons, ih]
      by_cases hu : (upto c l).length < l.length
      · rw [if_pos hu, if_pos (by omega)]
        simp
      · rw [if_neg hu, if_neg (by omega)]
        simp
theorem count_upto (c : UInt8) (l : Tx) : countL c l = if (upto c l).length < l.length then countL c (l.drop ((upto c l).length + 1)) + 1 else 0 := by
  have h1 := split_len c l
  have h2 := split_upto c l
  by_cases hu : (upto c l).length < l.length
  · rw [if_pos hu] at h2 ⊢
    have h3 := split_len c (l.drop ((upto c l).length + 1))
    rw [h2, List.length_cons] at h1
    omega
  · rw [if_neg hu] at h2 ⊢
    rw [h2] at h1
    simpa using h1.symm
/-- Parts without the byte, put together, are those parts. -/
theorem join_split (c : UInt8) : ∀ (ws : List Tx), ws ≠ [] → (∀ w ∈ ws, c ∉ w) → splitL c ([c].intercalate ws) = ws
  | [], h, _ => absurd rfl h
  | [w], _, hf => by
    have e : [c].intercalate [w] = w := by simp [List.intercalate]
    rw [e]
    have : ∀ v : Tx, c ∉ v → splitL c v = [v] := by
      intro v
      induction v with
      | nil => intro _; rfl
      | cons b v ih =>
        intro hv
        simp only [List.mem_cons, not_or] at hv
        rw [split_cons, if_neg (fun e => hv.1 e.symm), ih hv.2]
        rfl
    exact this w (hf w (by simp))
  | w :: v :: ws, _, hf => by
    have ih := join_split c (v :: ws) (by simp) (fun x hx => hf x (by simp at hx ⊢; exact Or.inr hx))
    have e : [c].intercalate (w :: v :: ws) = w ++ c :: [c].intercalate (v :: ws) := by simp [List.intercalate, List.intersperse]
    rw [e]
    have : ∀ u t : Tx, c ∉ u → splitL c (u ++ c :: t) = u :: splitL c t := by
      intro u t
      induction u with
      | nil => intro _; rw [List.nil_append, split_cons, if_pos rfl]
      | cons b u ihu =>
        intro hu
        simp only [List.mem_cons, not_or] at hu
        rw [List.cons_append, split_cons, if_neg (fun e => hu.1 e.symm), ihu hu.2]
        rfl
    rw [this w _ (hf w (by simp)), ih]
/-- Text that is quoted has no blank. -/
theorem qByte_free (c : UInt8) : (32 : UInt8) ∉ qByte c := by
  unfold qByte
  split
  · rename_i h
    unfold openB at h
    simp only [Bool.and_eq_true, decide_eq_true_eq] at h
    intro hm
    rw [List.mem_singleton] at hm
    subst hm
    exact absurd h.1.1 (by decide)
  · have e : ∀ d : Nat, d < 8 → UInt8.ofNat (48 + d) ≠ 32 := fun d hd e => by
      have := congrArg UInt8.toNat e
      rw [ofNat_oct d hd] at this
      simp at this
      omega
    have hc : c.toNat < 256 := c.toNat_lt
    intro hm
    simp only [List.mem_cons, List.not_mem_nil, or_false] at hm
    rcases hm with h | h | h | h
    · cases h
    · exact e _ (by omega) h.symm
    · exact e _ (by omega) h.symm
    · exact e _ (by omega) h.symm
theorem quote_free (l : Tx) : (32 : UInt8) ∉ quoteL l := by
  unfold quoteL
  rw [List.mem_flatMap]
  rintro ⟨c, _, h⟩
  exact qByte_free c h
end Go.Proofs.YtogfcfgfkggmlaaGreatDoor.Eng.U


/- strings.Split at a text of one byte, in plain words. -/
set_option linter.unusedVariables false
set_option linter.unusedSectionVars false
set_option linter.unusedSimpArgs false
namespace Go.Proofs.YtogfcfgfkggmlaaGreatDoor.Eng.U
open Go Go.Proofs Go.Proofs.YtogfcfgfkggmlaaGreatDoor.Eng
variable {E : Ext} [Core E] {k n k0 : Nat}

class HasCount (E : Ext) : Prop where
  count : ∀ (k n : Nat) (s : List UInt8) (x : UInt8), kp E k n strings_Count [.str (str s), .str (str [x])] = some (.int .i64 ((Lib.countByte s x : Nat) : Int))
theorem countL_byte (x : UInt8) : ∀ l : Tx, Lib.countByte l x = countL x l
  | [] => rfl
  | b :: l => by
    have ih := countL_byte x l
    unfold Lib.countByte at ih ⊢
    rw [count_cons, List.count_cons, ih]
    by_cases h : b = x
    · subst h; simp
    · rw [if_neg h, if_neg (by simpa using h), Nat.add_zero]
theorem pad_len (done : List Tx) (r : Nat) : (svs done ++ List.replicate r (AV.str (str []))).length = done.length + r := by rw [List.length_append, svs_len, List.length_replicate]
theorem pad_get {β : Type} (done : List Tx) (r : Nat) (K : AV → Option β) : ((svs done ++ List.replicate (r + 1) (AV.str (str [])))[done.length]?).bind K = K (AV.str (str [])) := by
  rw [List.getElem?_append_right (by rw [svs_len]; exact Nat.le_refl _), svs_len, Nat.sub_self]
  rfl
theorem pad_set (done : List Tx) (r : Nat) (w : Tx) : (svs done ++ List.replicate (r + 1) (AV.str (str []))).set done.length (AV.str (str w)) = svs (done ++ [w]) ++ List.replicate r (AV.str (str [])) := by
  rw [List.set_append_right _ _ (by rw [svs_len]; exact Nat.le_refl _), svs_len, Nat.sub_self]
  have e : svs (done ++ [w]) = svs done ++ [AV.str (str w)] := by unfold svs; rw [List.map_append]; rfl
  rw [e, List.append_assoc]
  rfl
theorem genSplit_loop (x : UInt8) (kap : FuncId → List AV → Option AV) (hidx : ∀ t : Tx, kap strings_Index [.str (str t), .str (str [x])] = some (.int .i64 (Lib.indexByte t x))) (N : Nat) (hN : N < 1000000000) :
    ∀ (m : Nat) (suf : Tx) (done : List Tx) (k0 : Nat), countL x suf = m → m < k0 → done.length + m = N → suf.length < 1000000000000 →
    strings_genSplit_L0 kap k k0 (str suf) (str [x]) 0 ((N : Nat) : Int) ((done.length : Nat) : Int) (svs done ++ List.replicate (m + 1) (AV.str (str []))) = some (.list 1 (svs (done ++ splitL x suf)))
  | 0, suf, done, k0 + 1, hc, h, hd, hs => by
    have hu := count_upto x suf
    have hsp := split_upto x suf
    have hlt : ¬ (upto x suf).length < suf.length := fun hh => by rw [if_pos hh] at hu; omega
    rw [if_neg hlt] at hsp
    have hl : (svs done ++ List.replicate (0 + 1) (AV.str (str []))).length = done.length + 1 := pad_len done 1
    rw [strings_genSplit_L0_s, bif_f (by omega), hl, inb (by omega), cond_true, Int.toNat_natCast, pad_get]
    have e : mkElem 1 (splice (AV.cells (AV.str (str []))) 0 [.str (str suf)]) (AV.str (str [])) = .str (str suf) := rfl
    rw [e, pad_set]
    have e2 : (decide (0 + 1 ≤ (AV.cells (AV.str (str []))).length) && true) = true := rfl
    rw [e2, cond_true, wrap1 (by omega)]
    have hl2 : (svs (done ++ [suf]) ++ List.replicate 0 (AV.str (str []))).length = done.length + 1 := by rw [pad_len]; simp
    rw [hl2, bif_a, bif_t (by omega), bif_t (by omega), Int.toNat_natCast, hsp]
    have e3 : List.take (done.length + 1) (svs (done ++ [suf]) ++ List.replicate 0 (AV.str (str []))) = svs (done ++ [suf]) := by
      rw [List.replicate_zero, List.append_nil, List.take_of_length_le (by rw [svs_len]; simp)]
    rw [e3]
  | m + 1, suf, done, k0 + 1, hc, h, hd, hs => by
    have hu := count_upto x suf
    have hsp := split_upto x suf
    have hlt : (upto x suf).length < suf.length := by
      apply Classical.byContradiction
      intro hh
      rw [if_neg hh] at hu
      omega
    rw [if_pos hlt] at hu hsp
    have hi : Lib.indexByte suf x = ((upto x suf).length : Int) := by rw [index_upto, if_pos hlt]
    have hl : (svs done ++ List.replicate (m + 1 + 1) (AV.str (str []))).length = done.length + (m + 2) := pad_len done (m + 2)
    have ih := genSplit_loop x kap hidx N hN m (suf.drop ((upto x suf).length + 1)) (done ++ [upto x suf]) k0 (by omega) (by omega) (by rw [List.length_append, List.length_singleton]; omega) (by rw [List.length_drop]; omega)
    rw [strings_genSplit_L0_s, bif_t (by omega), hidx, callI_ok, hi, bif_f (by omega), Int.add_zero, i64w (x := ((upto x suf).length : Int)) (by omega), str_size, bif_a, bif_t (by omega), bif_t (by omega), hl, inb (by omega), cond_true, Int.toNat_natCast, pad_get]
    have e2 : (decide (0 + 1 ≤ (AV.cells (AV.str (str []))).length) && true) = true := rfl
    rw [e2, cond_true, str_size, List.length_singleton, wrapP (by omega) (by omega), bif_a, bif_t (by omega), bif_t (by omega), Int.toNat_natCast, Int.toNat_natCast, str_ext, str_ext, List.take_length, List.drop_zero, upto_take]
    have e : mkElem 1 (splice (AV.cells (AV.str (str []))) 0 [.str (str (upto x suf))]) (AV.str (str [])) = .str (str (upto x suf)) := rfl
    rw [e, pad_set, wrap1 (by omega)]
    rw [List.length_append, List.length_singleton] at ih
    rw [hsp]
    refine ih.trans ?_
    rw [List.append_assoc]
    rfl
theorem index_k [HasNum E] (t : Tx) (x : UInt8) : kp E k (n + 1) strings_Index [.str (str t), .str (str [x])] = some (.int .i64 (Lib.indexByte t x)) := by
  rw [strings_Index_eq, HasNum.index k n t x, callI_ok]
theorem split_k [HasNum E] [HasCount E] (s : Tx) (x : UInt8) (hs : s.length < 100000000) (hk : s.length < k) : kp E k (n + 3) strings_Split [.str (str s), .str (str [x])] = some (.list 1 (svs (splitL x s))) := by
  have hc := count_le x s
  have h := genSplit_loop (k := k) x (kp E k (n + 1)) (fun t => index_k t x) (countL x s) (by omega) (countL x s) s [] k rfl (by omega) (by simp) (by omega)
  have hne : ¬ str [x] = str [] := fun e => by rw [str_inj] at e; simp at e
  have e1 : (if (((s.length : Nat) : Int) + 1) < (((countL x s : Nat) : Int) + 1) then (((s.length : Nat) : Int) + 1) else (((countL x s : Nat) : Int) + 1)) = ((countL x s + 1 : Nat) : Int) := by rw [if_neg (by omega)]; omega
  rw [strings_Split_eq, strings_genSplit_eq, decide_eq_false (by omega), cond_false, decide_eq_false hne, cond_false, decide_eq_true (by omega), cond_true, HasCount.count, callI_ok, countL_byte, str_size, i64w (x := ((s.length : Nat) : Int) + 1) (by omega), i64w (x := ((countL x s : Nat) : Int) + 1) (by omega), e1]
  have e2 : ((((decide ((0 : Int) ≤ ((countL x s + 1 : Nat) : Int)) && decide (((countL x s + 1 : Nat) : Int) ≤ ((countL x s + 1 : Nat) : Int)) && decide (((countL x s + 1 : Nat) : Int) * 16 ≤ 140737488355328)) && decide (((countL x s + 1 : Nat) : Int) ≤ (9223372036854775807 : Int)))) && true && true) = true := by
    simp only [Bool.and_true, Bool.and_eq_true, decide_eq_true_eq]
    omega
  have e3 : IntKind.wrap .i64 (((countL x s + 1 : Nat) : Int) - 1) = ((countL x s : Nat) : Int) := by rw [i64w (by omega)]; omega
  rw [e3, Int.toNat_natCast]
  have h' : strings_genSplit_L0 (kp E k (n + 1)) k k (str s) (str [x]) 0 ((countL x s : Nat) : Int) 0 (List.replicate (countL x s + 1) (AV.str (str []))) = some (.list 1 (svs (splitL x s))) := h
  rw [h']
  simp only [e2, cond_true]
  rw [callL_ok]
end Go.Proofs.YtogfcfgfkggmlaaGreatDoor.Eng.U


/- A head out of words, by the program: in plain words. -/
set_option linter.unusedVariables false
set_option linter.unusedSectionVars false
set_option linter.unusedSimpArgs false
namespace Go.Proofs.YtogfcfgfkggmlaaGreatDoor.Eng.U
open Go Go.Proofs Go.Proofs.YtogfcfgfkggmlaaGreatDoor.Eng Go.Proofs.YtogfcfgfkggmlaaGreatDoor.P04
variable {E : Ext} [Core E] [HasNum E] {k n k0 : Nat}

theorem room32 {m : Nat} (h : m ≤ 1000000000) : (decide (m * 32 ≤ 140737488355328) && decide (m ≤ 9223372036854775807)) = true := by simp; omega
def numO (w : Tx) : Option Int := if (natOk w && decide (valA 0 w ≤ 9223372036854775807)) = true then some (valA 0 w : Int) else none
def cutT (w : Tx) : Tx := Lib.trimPrefix w [61]
def textO (w : Tx) : Option Tx := if Lib.hasPrefix w [61] = true then unqL (cutT w).length (cutT w) else none
def textV (w : Tx) : Tx := (unqL (cutT w).length (cutT w)).getD []
def badW (l : List Tx) (b : Bool) : Bool := b || l.isEmpty
def badN (l : List Tx) (b : Bool) : Bool := badW l b || (numO (l.headD [])).isNone
def badT (l : List Tx) (b : Bool) : Bool := badW l b || (textO (l.headD [])).isNone
theorem head_mem (l : List Tx) (M : Nat) (hl : ∀ w ∈ l, w.length ≤ M) : (l.headD []).length ≤ M := by
  cases l with
  | nil => exact Nat.zero_le _
  | cons w l => exact hl w (by simp)
theorem tail_mem (l : List Tx) (M : Nat) (hl : ∀ w ∈ l, w.length ≤ M) : ∀ w ∈ l.tail, w.length ≤ M := fun w hw => hl w (List.mem_of_mem_tail hw)
theorem next_k (l : List Tx) (b : Bool) (hl : l.length ≤ 1000000) : kp E k (n + 1) tale_reader_next [.lent [.list 1 (svs l), .bool b]] = some (.lback (.str (str (l.headD []))) [.lent [.list 1 (svs l.tail), .bool (badW l b)]]) := by
  rw [tale_reader_next_eq, svs_len]
  cases l with
  | nil => rw [decide_eq_true (by simp), cond_true]; cases b <;> rfl
  | cons w l =>
    rw [decide_eq_false (by simp only [List.length_cons]; omega), cond_false, bif_t (by simp only [List.length_cons]; omega)]
    have e : ∀ K : ByteArray → Option AV, (((svs (w :: l))[0]?).bind fun vy => cellS (AV.cells vy) 0 K) = K (str w) := fun K => rfl
    rw [e, bif_t (by simp only [List.length_cons]; omega)]
    have e2 : List.drop 1 (List.take (w :: l).length (svs (w :: l))) = svs l := by rw [← svs_len (w :: l), List.take_length]; rfl
    rw [e2]
    unfold badW
    cases b <;> rfl
theorem num_ans (w : Tx) (hw : w.length ≤ 10000000) (hk : 100000000 < k) : kp E k (n + 3) dec_Number [.str (str w)] = some (.tup [.int .i64 ((numO w).getD 0), .int .u8 (if (numO w).isNone = true then 15 else 0)]) := by
  rw [number_k w (by omega) (by omega)]
  unfold numO
  cases natOk w && decide (valA 0 w ≤ 9223372036854775807) <;> rfl
theorem stepW (l : List Tx) (b : Bool) (hl : l.length ≤ 1000000) (F : ByteArray → List AV → Bool → Option AV) :
    (callX (kp E k (n + 1) tale_reader_next [(.lent [(.list 1 (svs l)), (.bool b)])]) fun vb vz => nxX vz fun vx vz' => nxL 1 vx fun vl vx' => nxB vx' fun vq vx'' => atNil vx'' (atNil vz' (callS (some vb) fun vn => F vn vl vq))) = F (str (l.headD [])) (svs l.tail) (badW l b) := by
  rw [next_k l b hl, callX_ok, nxX_ok, nxL_ok, nxB_ok, atNil_ok, atNil_ok, callS_ok]
theorem stepN (l : List Tx) (b : Bool) (hl : l.length ≤ 1000000) (hw : ∀ w ∈ l, w.length ≤ 10000000) (hk : 100000000 < k) (F : Int → List AV → Bool → Option AV) :
    (callX (kp E k (n + 4) tale_reader_number [(.lent [(.list 1 (svs l)), (.bool b)])]) fun vb vz => nxX vz fun vx vz' => nxL 1 vx fun vl vx' => nxB vx' fun vq vx'' => atNil vx'' (atNil vz' (callI .i64 (some vb) fun vn => F vn vl vq))) = F ((numO (l.headD [])).getD 0) (svs l.tail) (badN l b) := by
  have h : kp E k (n + 4) tale_reader_number [(.lent [(.list 1 (svs l)), (.bool b)])] = some (.lback (.int .i64 ((numO (l.headD [])).getD 0)) [.lent [.list 1 (svs l.tail), .bool (badN l b)]]) := by
    rw [tale_reader_number_eq, stepW (n := n + 2) l b hl (F := fun vs9 vl6 vq8 => callT (kp E k (n + 3) dec_Number [(.str vs9)]) fun vt11 => (tupI .i64 vt11 fun vn12 vt13 => (tupI .u8 vt13 fun vn14 vt15 => (atNil vt15 (bif vq8 then (some (.lback (.int .i64 vn12) [(.lent [(.list 1 vl6), (.bool true)])])) else (some (.lback (.int .i64 vn12) [(.lent [(.list 1 vl6), (.bool (!(decide (vn14 = (0 : Int)))))])])))))))]
    rw [num_ans _ (head_mem l _ hw) hk, callT_ok, tupI_ok, tupI_ok, atNil_ok]
    unfold badN
    cases badW l b <;> cases (numO (l.headD [])).isNone <;> rfl
  rw [h, callX_ok, nxX_ok, nxL_ok, nxB_ok, atNil_ok, atNil_ok, callI_ok]
theorem cutT_len (w : Tx) : (cutT w).length ≤ w.length := by
  unfold cutT Lib.trimPrefix
  split
  · rw [List.length_drop]; omega
  · exact Nat.le_refl _
theorem unq_ans (t : Tx) : ansU [] (unqL t.length t) = .tup [.str (str ((unqL t.length t).getD [])), .int .u8 (if (unqL t.length t).isNone = true then 15 else 0)] := by
  cases unqL t.length t <;> rfl
theorem stepT (l : List Tx) (b : Bool) (hl : l.length ≤ 1000000) (hw : ∀ w ∈ l, w.length ≤ 10000000) (hk : 100000000 < k) (F : ByteArray → List AV → Bool → Option AV) :
    (callX (kp E k (n + 4) tale_reader_text [(.lent [(.list 1 (svs l)), (.bool b)])]) fun vb vz => nxX vz fun vx vz' => nxL 1 vx fun vl vx' => nxB vx' fun vq vx'' => atNil vx'' (atNil vz' (callS (some vb) fun vn => F vn vl vq))) = F (str (textV (l.headD []))) (svs l.tail) (badT l b) := by
  have hh := head_mem l _ hw
  have h : kp E k (n + 4) tale_reader_text [(.lent [(.list 1 (svs l)), (.bool b)])] = some (.lback (.str (str (textV (l.headD [])))) [.lent [.list 1 (svs l.tail), .bool (badT l b)]]) := by
    have hc := cutT_len (l.headD [])
    rw [tale_reader_text_eq, next_k (n := n + 2) l b hl, callX_ok, nxX_ok, nxL_ok, nxB_ok, atNil_ok, atNil_ok, callS_ok, HasNum.cutP, callT_ok, tupS_ok, tupB_ok, atNil_ok]
    show (callT (kp E k (n + 3) text_Unquote [.str (str (cutT (l.headD [])))]) _) = _
    rw [unq_k (n := n + 1) _ (by omega) (by omega), unq_ans, callT_ok, tupS_ok, tupI_ok, atNil_ok]
    unfold badT textO textV
    cases badW l b <;> cases Lib.hasPrefix (l.headD []) [61] <;> cases (unqL (cutT (l.headD [])).length (cutT (l.headD []))) <;> rfl
  rw [h, callX_ok, nxX_ok, nxL_ok, nxB_ok, atNil_ok, atNil_ok, callS_ok]
/-- The pairs out of what is left of the words, and whether they are wrong. -/
def pairsP : List Tx → List Pair
  | [] => []
  | [w] => [⟨textV w, textV []⟩]
  | w :: v :: l => ⟨textV w, textV v⟩ :: pairsP l
def pairsB : List Tx → Bool → Bool
  | [], b => b
  | [w], b => badT [] (badT [w] b)
  | w :: v :: l, b => pairsB l (badT (v :: l) (badT (w :: v :: l) b))
def noHead : Head := ⟨0, [], [], 0, 0, 0, 0, 0, 0, [], [], 0, 0, []⟩
def endH (line : Tx) (h : Head) (b : Bool) : AV := if b = false ∧ wrongH h = 0 ∧ lineL h = line then .tup [.agg (encHead h), .int .u8 0] else .tup [.agg (encHead noHead), .int .u8 15]
theorem endH_no {line : Tx} {h : Head} {b : Bool} (hn : ¬ (b = false ∧ wrongH h = 0 ∧ lineL h = line)) : endH line h b = .tup [.agg (encHead noHead), .int .u8 15] := if_neg hn
theorem endH_yes {line : Tx} {h : Head} (h0 : wrongH h = 0) (hl : lineL h = line) : endH line h false = .tup [.agg (encHead h), .int .u8 0] := if_pos ⟨rfl, h0, hl⟩
theorem head_loop [HasTextV E] [HasQuote E] [HasJn E] (line : Tx) (kk : Nat) (hkk : 100000000 < kk) (b2_0 : Int) (b2_1 b2_2 : ByteArray) (b2_3 b2_4 b2_5 b2_6 b2_7 b2_8 : Int) (b2_9 b2_10 : ByteArray) (b2_11 b2_12 : Int) (x178 : List AV) (h : Head) (N : Nat) (hN : N ≤ 1000) :
    ∀ (m : Nat) (l : List Tx) (acc : List Pair) (b : Bool) (k0 : Nat), l.length ≤ m → m < k0 → acc.length + m ≤ 1000000 → (∀ w ∈ l, w.length ≤ 10000000) → Bd20 { h with extra := acc ++ pairsP l } →
    tale_Head_L0 (kp E (kk + 6) (n + 9)) (kk + 6) k0 (str line) b2_0 b2_1 b2_2 b2_3 b2_4 b2_5 b2_6 b2_7 b2_8 b2_9 b2_10 b2_11 b2_12 (svs l) b h.kind (str h.name) (str h.link) h.mode h.uid h.gid h.size h.sec h.nano (str h.user) (str h.group) h.major h.minor x178 (prs acc) = some (endH line { h with extra := acc ++ pairsP l } (pairsB l b))
  | m, [], acc, b, k0 + 1, hm, hk, ha, hw, hb => by
    have hl := line_k (E := E) (k := kk + 6) (n := n) { h with extra := acc ++ pairsP [] } hb (by omega)
    have e : acc ++ pairsP [] = acc := by simp [pairsP]
    rw [e] at hl ⊢
    unfold encHead at hl
    rw [tale_Head_L0_s, svs_len, bif_f (by simp), hl]
    show _ = some (endH line { h with extra := acc } b)
    by_cases h0 : wrongH { h with extra := acc } = 0
    · rw [if_pos h0, callT_ok, tupS_ok, tupI_ok, atNil_ok]
      cases b with
      | true => rw [endH_no (fun hh => by cases hh.1)]; rfl
      | false =>
        by_cases hln : lineL { h with extra := acc } = line
        · rw [endH_yes h0 hln, hln, str_dec, decide_eq_true rfl, decide_eq_true rfl]; rfl
        · rw [endH_no (fun hh => hln hh.2.2), str_dec, decide_eq_false hln, decide_eq_true rfl]; rfl
    · rw [if_neg h0, callT_ok, tupS_ok, tupI_ok, atNil_ok, endH_no (fun hh => h0 hh.2.1), decide_eq_false (by omega)]
      cases b <;> rfl
  | m, [w], acc, b, k0 + 1, hm, hk, ha, hw, hb => by
    have hm1 : 1 ≤ m := hm
    have ih := head_loop line kk hkk b2_0 b2_1 b2_2 b2_3 b2_4 b2_5 b2_6 b2_7 b2_8 b2_9 b2_10 b2_11 b2_12 x178 h N hN (m - 1) [] (acc ++ [⟨textV w, textV []⟩]) (badT [] (badT [w] b)) k0 (by simp) (by omega) (by rw [List.length_append, List.length_singleton]; omega) (by simp) (by simpa [pairsP] using hb)
    rw [tale_Head_L0_s, svs_len, bif_t (by simp), stepT (n := n + 5) [w] b (by simp) hw (by omega), stepT (n := n + 5) [w].tail _ (by simp) (by simp) (by omega), prs_len, room32 (by omega), cond_true]
    have e : prs acc ++ [AV.agg [.str (str (textV ([w].headD []))), .str (str (textV ([w].tail.headD [])))]] = prs (acc ++ [⟨textV w, textV []⟩]) := by simp [prs, elPair, encPair]
    rw [e]
    refine ih.trans ?_
    simp [pairsP, pairsB]
  | m, w :: v :: l, acc, b, k0 + 1, hm, hk, ha, hw, hb => by
    have hm1 : l.length + 2 ≤ m := hm
    have ih := head_loop line kk hkk b2_0 b2_1 b2_2 b2_3 b2_4 b2_5 b2_6 b2_7 b2_8 b2_9 b2_10 b2_11 b2_12 x178 h N hN (m - 1) l (acc ++ [⟨textV w, textV v⟩]) (badT (v :: l) (badT (w :: v :: l) b)) k0 (by omega) (by omega) (by rw [List.length_append, List.length_singleton]; omega) (fun x hx => hw x (by simp [hx])) (by simpa [pairsP] using hb)
    rw [tale_Head_L0_s, svs_len, bif_t (by simp; omega), stepT (n := n + 5) (w :: v :: l) b (by simp; omega) hw (by omega), stepT (n := n + 5) (w :: v :: l).tail _ (by simp; omega) (tail_mem _ _ hw) (by omega), prs_len, room32 (by omega), cond_true]
    have e : prs acc ++ [AV.agg [.str (str (textV ((w :: v :: l).headD []))), .str (str (textV ((w :: v :: l).tail.headD [])))]] = prs (acc ++ [⟨textV w, textV v⟩]) := by simp [prs, elPair, encPair]
    rw [e]
    refine ih.trans ?_
    simp [pairsP, pairsB]
end Go.Proofs.YtogfcfgfkggmlaaGreatDoor.Eng.U


/- A line's head, by the program: in plain words. -/
set_option linter.unusedVariables false
set_option linter.unusedSectionVars false
set_option linter.unusedSimpArgs false
namespace Go.Proofs.YtogfcfgfkggmlaaGreatDoor.Eng.U
open Go Go.Proofs Go.Proofs.YtogfcfgfkggmlaaGreatDoor.Eng Go.Proofs.YtogfcfgfkggmlaaGreatDoor.P04
variable {E : Ext} [Core E] [HasNum E] {k n k0 : Nat}

def tl : Nat → List Tx → List Tx
  | 0, l => l
  | i + 1, l => (tl i l).tail
def W (i : Nat) (l : List Tx) : Tx := (tl i l).headD []
def idxL : List Tx → Tx → Nat → Int
  | [], _, _ => -1
  | v :: l, w, i => if w = v then (i : Int) else idxL l w (i + 1)
def kindO (w : Tx) : Int := if idxL ([] :: kindsL) w 0 > 0 then idxL ([] :: kindsL) w 0 else 0
def numW (w : Tx) : Int := (numO w).getD 0
def timeV (w : Tx) : Int × Int := (timeL w).getD (0, 0)
def headP (ws : List Tx) : Head := ⟨kindO (W 0 ws), textV (W 10 ws), textV (W 11 ws), numW (W 1 ws), numW (W 2 ws), numW (W 3 ws), numW (W 4 ws), (timeV (W 5 ws)).1, (timeV (W 5 ws)).2, textV (W 6 ws), textV (W 7 ws), numW (W 8 ws), numW (W 9 ws), pairsP (tl 12 ws)⟩
def badM (w : Tx) (b : Bool) : Bool := b || (timeL w).isNone
def bad5 (ws : List Tx) : Bool := badW (tl 5 ws) (badN (tl 4 ws) (badN (tl 3 ws) (badN (tl 2 ws) (badN (tl 1 ws) (badW ws false)))))
def badP (ws : List Tx) : Bool := pairsB (tl 12 ws) (badT (tl 11 ws) (badT (tl 10 ws) (badN (tl 9 ws) (badN (tl 8 ws) (badT (tl 7 ws) (badT (tl 6 ws) (badM (W 5 ws) (bad5 ws))))))))
theorem tl_mem {M : Nat} {l : List Tx} (hl : ∀ w ∈ l, w.length ≤ M) : ∀ i, ∀ w ∈ tl i l, w.length ≤ M
  | 0 => hl
  | i + 1 => tail_mem _ _ (tl_mem hl i)
theorem tl_len {M : Nat} {l : List Tx} (hl : l.length ≤ M) : ∀ i, (tl i l).length ≤ M
  | 0 => hl
  | i + 1 => by have := tl_len hl i; show (tl i l).tail.length ≤ M; rw [List.length_tail]; omega
theorem tl_drop (l : List Tx) : ∀ i, tl i l = l.drop i
  | 0 => rfl
  | i + 1 => by show (tl i l).tail = _; rw [tl_drop l i, List.tail_drop]
theorem idx_loop (kap : FuncId → List AV → Option AV) (all : List Tx) (w : Tx) (ha : all.length ≤ 1000000) : ∀ (suf pre : List Tx) (k0 : Nat), suf.length < k0 → pre ++ suf = all →
    slices_Index_string_L0 kap k k0 (svs all) (str w) ((all.length : Nat) : Int) ((pre.length : Nat) : Int) = some (.int .i64 (idxL suf w pre.length))
  | [], pre, k0 + 1, h, he => by
    rw [List.append_nil] at he
    subst he
    rw [slices_Index_string_L0_s, bif_f (by omega)]
    rfl
  | v :: suf, pre, k0 + 1, h, he => by
    have hl : all.length = pre.length + suf.length + 1 := by rw [← he, mid_len]
    have ih := idx_loop kap all w ha suf (pre ++ [v]) k0 (by simpa using h) (by simpa using he)
    rw [List.length_append, List.length_singleton] at ih
    rw [slices_Index_string_L0_s, bif_t (by omega), svs_len, inb (by omega), cond_true, Int.toNat_natCast]
    conv => lhs; rw [← he]
    rw [svs_mid, str_dec]
    unfold idxL
    by_cases hw : w = v
    · rw [if_pos hw, decide_eq_true hw, cond_true]
    · rw [if_neg hw, decide_eq_false hw, cond_false, he, wrap1 (by omega)]
      exact ih
theorem index_words (l : List Tx) (w : Tx) (hl : l.length ≤ 1000000) (hk : l.length < k) : kp E k (n + 1) slices_Index_string [.list 1 (svs l), .str (str w)] = some (.int .i64 (idxL l w 0)) := by
  rw [slices_Index_string_eq, svs_len]
  exact idx_loop _ l w hl l [] k hk rfl
theorem sW0 (ws : List Tx) (b : Bool) (hl : ws.length ≤ 1000000) (F : ByteArray → List AV → Bool → Option AV) :
    (callX (kp E k (n + 1) tale_reader_next [(.lent [(.list 1 (svs ws)), (.bool b)])]) fun vb vz => nxX vz fun vx vz' => nxL 1 vx fun vl vx' => nxB vx' fun vq vx'' => atNil vx'' (atNil vz' (callS (some vb) fun vn => F vn vl vq))) = F (str (W 0 ws)) (svs (tl 1 ws)) (badW ws b) := stepW ws b hl F
theorem sW (i : Nat) (ws : List Tx) (b : Bool) (hl : (tl i ws).length ≤ 1000000) (F : ByteArray → List AV → Bool → Option AV) :
    (callX (kp E k (n + 1) tale_reader_next [(.lent [(.list 1 (svs (tl i ws))), (.bool b)])]) fun vb vz => nxX vz fun vx vz' => nxL 1 vx fun vl vx' => nxB vx' fun vq vx'' => atNil vx'' (atNil vz' (callS (some vb) fun vn => F vn vl vq))) = F (str (W i ws)) (svs (tl (i + 1) ws)) (badW (tl i ws) b) := stepW (tl i ws) b hl F
theorem sN (i : Nat) (ws : List Tx) (b : Bool) (hl : (tl i ws).length ≤ 1000000) (hw : ∀ w ∈ tl i ws, w.length ≤ 10000000) (hk : 100000000 < k) (F : Int → List AV → Bool → Option AV) :
    (callX (kp E k (n + 4) tale_reader_number [(.lent [(.list 1 (svs (tl i ws))), (.bool b)])]) fun vb vz => nxX vz fun vx vz' => nxL 1 vx fun vl vx' => nxB vx' fun vq vx'' => atNil vx'' (atNil vz' (callI .i64 (some vb) fun vn => F vn vl vq))) = F (numW (W i ws)) (svs (tl (i + 1) ws)) (badN (tl i ws) b) := stepN (tl i ws) b hl hw hk F
theorem sT (i : Nat) (ws : List Tx) (b : Bool) (hl : (tl i ws).length ≤ 1000000) (hw : ∀ w ∈ tl i ws, w.length ≤ 10000000) (hk : 100000000 < k) (F : ByteArray → List AV → Bool → Option AV) :
    (callX (kp E k (n + 4) tale_reader_text [(.lent [(.list 1 (svs (tl i ws))), (.bool b)])]) fun vb vz => nxX vz fun vx vz' => nxL 1 vx fun vl vx' => nxB vx' fun vq vx'' => atNil vx'' (atNil vz' (callS (some vb) fun vn => F vn vl vq))) = F (str (textV (W i ws))) (svs (tl (i + 1) ws)) (badT (tl i ws) b) := stepT (tl i ws) b hl hw hk F
theorem time_ans (w : Tx) (hw : w.length ≤ 10000000) (hk : 100000000 < k) : kp E k (n + 3) dec_Time [.str (str w)] = some (.tup [.agg [.int .i64 (timeV w).1, .int .i64 (timeV w).2], .int .u8 (if (timeL w).isNone = true then 15 else 0)]) := by
  rw [time_k w (by omega) (by omega)]
  unfold timeV
  cases timeL w <;> rfl
theorem head_k [HasTextV E] [HasQuote E] [HasJn E] [HasCount E] (line : Tx) (kk : Nat) (hkk : 200000000 < kk) (hline : line.length < 100000000) (hl : (splitL 32 line).length ≤ 900000) (hw : ∀ w ∈ splitL 32 line, w.length ≤ 10000000) (hb : Bd20 (headP (splitL 32 line))) :
    kp E (kk + 6) (n + 10) tale_Head [.str (str line)] = some (endH line (headP (splitL 32 line)) (badP (splitL 32 line))) := by
  generalize hws : splitL 32 line = ws at hl hw hb ⊢
  have m := fun i => tl_mem hw i
  have q := fun i => tl_len (M := 1000000) (l := ws) (by omega) i
  have fin := fun b => head_loop (E := E) (n := n) line kk (by omega) (0 : Int) (str []) (str []) (0 : Int) (0 : Int) (0 : Int) (0 : Int) (0 : Int) (0 : Int) (str []) (str []) (0 : Int) (0 : Int) [] { headP ws with extra := [] } 0 (by omega) ws.length (tl 12 ws) [] b (kk + 6) (by rw [tl_drop, List.length_drop]; omega) (by omega) (by simp; omega) (m 12) hb
  rw [tale_Head_eq, split_k (n := n + 6) line 32 (by omega) (by omega), callL_ok, hws]
  have hkinds : kp E (kk + 6) (n + 9) tale_kinds [] = some (.list 1 (svs ([] :: kindsL))) := tale_kinds_eq _ _
  rw [hkinds, callL_ok, sW0 (n := n + 8) ws false (by omega), index_words (n := n + 8) _ _ (by decide) (by show 8 < _; omega), callI_ok]
  rw [sN (n := n + 5) 1 ws _ (q 1) (m 1) (by omega), sN (n := n + 5) 2 ws _ (q 2) (m 2) (by omega), sN (n := n + 5) 3 ws _ (q 3) (m 3) (by omega), sN (n := n + 5) 4 ws _ (q 4) (m 4) (by omega)]
  rw [sW (n := n + 8) 5 ws _ (q 5), time_ans (n := n + 6) (W 5 ws) (head_mem _ _ (m 5)) (by omega), callT_ok]
  have e5 : badW (tl 5 ws) (badN (tl 4 ws) (badN (tl 3 ws) (badN (tl 2 ws) (badN (tl 1 ws) (badW ws false))))) = bad5 ws := rfl
  have tupT : ∀ (p : Int × Int) (t : List AV) (K : Int → Int → List AV → Option AV), (tupG 2 (.agg [.int .i64 p.1, .int .i64 p.2] :: t) fun vg vt => cellI .i64 vg 0 fun a => cellI .i64 vg 1 fun b => K a b vt) = K p.1 p.2 t := fun p t K => rfl
  rw [tupT, tupI_ok, atNil_ok]
  have rest : ∀ b : Bool, (callX (kp E (kk + 6) (n + 9) tale_reader_text [(.lent [(.list 1 (svs (tl 6 ws))), (.bool b)])]) fun vb69 vz70 => (nxX vz70 fun vx72 vz71 => (nxL 1 vx72 fun vl74 vx73 => (nxB vx73 fun vq76 vx75 => (atNil vx75 (atNil vz71 (callS (some vb69) fun vs77 => (callX (kp E (kk + 6) (n + 9) tale_reader_text [(.lent [(.list 1 vl74), (.bool vq76)])]) fun vb78 vz79 => (nxX vz79 fun vx81 vz80 => (nxL 1 vx81 fun vl83 vx82 => (nxB vx82 fun vq85 vx84 => (atNil vx84 (atNil vz80 (callS (some vb78) fun vs86 => (callX (kp E (kk + 6) (n + 9) tale_reader_number [(.lent [(.list 1 vl83), (.bool vq85)])]) fun vb87 vz88 => (nxX vz88 fun vx90 vz89 => (nxL 1 vx90 fun vl92 vx91 => (nxB vx91 fun vq94 vx93 => (atNil vx93 (atNil vz89 (callI .i64 (some vb87) fun vn95 => (callX (kp E (kk + 6) (n + 9) tale_reader_number [(.lent [(.list 1 vl92), (.bool vq94)])]) fun vb96 vz97 => (nxX vz97 fun vx99 vz98 => (nxL 1 vx99 fun vl101 vx100 => (nxB vx100 fun vq103 vx102 => (atNil vx102 (atNil vz98 (callI .i64 (some vb96) fun vn104 => (callX (kp E (kk + 6) (n + 9) tale_reader_text [(.lent [(.list 1 vl101), (.bool vq103)])]) fun vb105 vz106 => (nxX vz106 fun vx108 vz107 => (nxL 1 vx108 fun vl110 vx109 => (nxB vx109 fun vq112 vx111 => (atNil vx111 (atNil vz107 (callS (some vb105) fun vs113 => (callX (kp E (kk + 6) (n + 9) tale_reader_text [(.lent [(.list 1 vl110), (.bool vq112)])]) fun vb114 vz115 => (nxX vz115 fun vx117 vz116 => (nxL 1 vx117 fun vl119 vx118 => (nxB vx118 fun vq121 vx120 => (atNil vx120 (atNil vz116 (callS (some vb114) fun vs122 => (tale_Head_L0 (kp E (kk + 6) (n + 9)) (kk + 6) (kk + 6) (str line) (0 : Int) (str []) (str []) (0 : Int) (0 : Int) (0 : Int) (0 : Int) (0 : Int) (0 : Int) (str []) (str []) (0 : Int) (0 : Int) vl119 vq121 (kindO (W 0 ws)) vs113 vs122 (numW (W 1 ws)) (numW (W 2 ws)) (numW (W 3 ws)) (numW (W 4 ws)) (timeV (W 5 ws)).1 (timeV (W 5 ws)).2 vs77 vs86 vn95 vn104 [] []))))))))))))))))))))))))))))))))))))))))))) = some (endH line (headP ws) (pairsB (tl 12 ws) (badT (tl 11 ws) (badT (tl 10 ws) (badN (tl 9 ws) (badN (tl 8 ws) (badT (tl 7 ws) (badT (tl 6 ws) b)))))))) := by
    intro b
    rw [sT (n := n + 5) 6 ws _ (q 6) (m 6) (by omega), sT (n := n + 5) 7 ws _ (q 7) (m 7) (by omega), sN (n := n + 5) 8 ws _ (q 8) (m 8) (by omega), sN (n := n + 5) 9 ws _ (q 9) (m 9) (by omega), sT (n := n + 5) 10 ws _ (q 10) (m 10) (by omega), sT (n := n + 5) 11 ws _ (q 11) (m 11) (by omega)]
    exact fin _
  have hM : ∀ b : Bool, badM (W 5 ws) b = (b || (timeL (W 5 ws)).isNone) := fun _ => rfl
  unfold badP
  have e5' : badW (tl 5 ws) (badN (tl 4 ws) (badN (tl 3 ws) (badN (tl 2 ws) (badN (tl 1 ws) (badW ws false))))) = bad5 ws := rfl
  rw [hM]
  rw [e5']
  cases hb5 : bad5 ws with
  | true =>
    rw [cond_true, Bool.true_or]
    exact rest true
  | false =>
    rw [cond_false, Bool.false_or]
    have r := rest (timeL (W 5 ws)).isNone
    cases ht : (timeL (W 5 ws)).isNone with
    | true =>
      rw [ht] at r
      exact r
    | false =>
      rw [ht] at r
      exact r
end Go.Proofs.YtogfcfgfkggmlaaGreatDoor.Eng.U


/- What a line's words are, and that they tell the head again. -/
set_option linter.unusedVariables false
set_option linter.unusedSectionVars false
set_option linter.unusedSimpArgs false
namespace Go.Proofs.YtogfcfgfkggmlaaGreatDoor.Eng.U
open Go Go.Proofs Go.Proofs.YtogfcfgfkggmlaaGreatDoor.Eng Go.Proofs.YtogfcfgfkggmlaaGreatDoor.P04

theorem wrong_all {h : Head} (hw : wrongH h = 0) : f1 h = true ∧ f2 h = true ∧ f3 h = true ∧ f4 h = true ∧ f5 h = true ∧ f6 h = true ∧ f7 h = true ∧ f8 h = true ∧ f9 h = true ∧ f10 h = true ∧ f11 h = true ∧ f12 h = true ∧ f13 h = true := by
  have st : ∀ (b : Bool) (i : Int) (x : Int), i ≠ 0 → (bif !b then i else x) = 0 → b = true ∧ x = 0 := by
    intro b i x hi hx
    cases b with
    | true => exact ⟨rfl, hx⟩
    | false => exact absurd hx hi
  unfold wrongH at hw
  obtain ⟨h1, hw⟩ := st _ _ _ (by decide) hw
  obtain ⟨h2, hw⟩ := st _ _ _ (by decide) hw
  obtain ⟨h3, hw⟩ := st _ _ _ (by decide) hw
  obtain ⟨h4, hw⟩ := st _ _ _ (by decide) hw
  obtain ⟨h5, hw⟩ := st _ _ _ (by decide) hw
  obtain ⟨h6, hw⟩ := st _ _ _ (by decide) hw
  obtain ⟨h7, hw⟩ := st _ _ _ (by decide) hw
  obtain ⟨h8, hw⟩ := st _ _ _ (by decide) hw
  obtain ⟨h9, hw⟩ := st _ _ _ (by decide) hw
  obtain ⟨h10, hw⟩ := st _ _ _ (by decide) hw
  obtain ⟨h11, hw⟩ := st _ _ _ (by decide) hw
  obtain ⟨h12, hw⟩ := st _ _ _ (by decide) hw
  obtain ⟨h13, hw⟩ := st _ _ _ (by decide) hw
  exact ⟨h1, h2, h3, h4, h5, h6, h7, h8, h9, h10, h11, h12, h13⟩
theorem wrong_nums {h : Head} (hw : wrongH h = 0) : 0 ≤ h.mode ∧ 0 ≤ h.uid ∧ 0 ≤ h.gid ∧ 0 ≤ h.size ∧ 0 ≤ h.major ∧ 0 ≤ h.minor ∧ (0 ≤ h.nano ∧ h.nano < 1000000000) := by
  obtain ⟨h1, h2, h3, h4, h5, h6, h7, h8, h9, h10, h11, h12, h13⟩ := wrong_all hw
  unfold f4 at h4; unfold f5 at h5; unfold f6 at h6; unfold f7 at h7; unfold f8 rightT at h8; unfold f11 devOk at h11; unfold f12 devOk at h12
  simp only [Bool.or_eq_true, Bool.and_eq_true, decide_eq_true_eq] at h4 h5 h6 h7 h8 h11 h12
  omega
theorem digs_free {l : Tx} (h : l.all isDig = true) : (32 : UInt8) ∉ l := fun hm => by
  have := List.all_eq_true.1 h 32 hm
  revert this
  decide
theorem itoa_free (v : Int) : (32 : UInt8) ∉ Lib.itoa v := by
  by_cases hv : 0 ≤ v
  · obtain ⟨u, rfl⟩ := Int.eq_ofNat_of_zero_le hv
    rw [Lib.itoa_nonneg]
    exact digs_free (dec_facts u).1
  · obtain ⟨u, rfl⟩ : ∃ u : Nat, v = -(u : Int) := ⟨v.natAbs, by omega⟩
    rw [Lib.itoa_neg u (by omega), List.mem_cons, not_or]
    exact ⟨by decide, digs_free (dec_facts u).1⟩
theorem loop_free (m : Nat) (h : m < 1000000000) : (32 : UInt8) ∉ loopP 9 m := by
  by_cases h0 : 0 < m
  · have := (loop_facts m h0 h).1
    unfold digs at this
    rw [Bool.and_eq_true] at this
    exact digs_free this.1
  · obtain rfl : m = 0 := by omega
    unfold loopP
    simp
theorem print_free (s t : Int) (ht : 0 ≤ t ∧ t < 1000000000) : (32 : UInt8) ∉ printL s t := by
  unfold printL
  split
  · exact itoa_free s
  · split
    · simp only [List.mem_append, List.mem_cons, List.not_mem_nil, or_false, not_or]
      refine ⟨?_, loop_free _ (by omega)⟩
      first
        | exact ⟨⟨by decide, digs_free (dec_facts _).1⟩, by decide⟩
        | exact ⟨digs_free (dec_facts _).1, by decide⟩
        | exact ⟨by decide, digs_free (dec_facts _).1⟩
    · simp only [List.mem_append, List.mem_cons, List.not_mem_nil, or_false, not_or]
      first
        | exact ⟨⟨digs_free (dec_facts _).1, by decide⟩, loop_free _ (by omega)⟩
        | exact ⟨⟨⟨by decide, digs_free (dec_facts _).1⟩, by decide⟩, loop_free _ (by omega)⟩
theorem word_free (s : Tx) : (32 : UInt8) ∉ wordT s := by
  unfold wordT
  rw [List.mem_cons, not_or]
  exact ⟨by decide, quote_free s⟩
theorem kind_free {v : Int} (h1 : 1 ≤ v) (h2 : v ≤ 7) : (32 : UInt8) ∉ kindT v := by
  have : v = 1 ∨ v = 2 ∨ v = 3 ∨ v = 4 ∨ v = 5 ∨ v = 6 ∨ v = 7 := by omega
  rcases this with rfl | rfl | rfl | rfl | rfl | rfl | rfl <;> decide
theorem kind_back {v : Int} (h1 : 1 ≤ v) (h2 : v ≤ 7) : kindO (kindT v) = v := by
  have : v = 1 ∨ v = 2 ∨ v = 3 ∨ v = 4 ∨ v = 5 ∨ v = 6 ∨ v = 7 := by omega
  rcases this with rfl | rfl | rfl | rfl | rfl | rfl | rfl <;> decide
theorem words_free {h : Head} (hw : wrongH h = 0) : ∀ w ∈ wordsH h, (32 : UInt8) ∉ w := by
  obtain ⟨k1, k2, k3⟩ := kind_some hw
  obtain ⟨m1, m2, m3, m4, m5, m6, m7⟩ := wrong_nums hw
  intro w hm
  unfold wordsH headW at hm
  rw [List.mem_append] at hm
  rcases hm with hm | hm
  · simp only [List.mem_cons, List.not_mem_nil, or_false] at hm
    rcases hm with rfl | rfl | rfl | rfl | rfl | rfl | rfl | rfl | rfl | rfl | rfl | rfl
    · exact kind_free k1 k2
    · exact itoa_free _
    · exact itoa_free _
    · exact itoa_free _
    · exact itoa_free _
    · exact print_free _ _ m7
    · exact word_free _
    · exact word_free _
    · exact itoa_free _
    · exact itoa_free _
    · exact word_free _
    · exact word_free _
  · unfold pairW at hm
    rw [List.mem_flatMap] at hm
    obtain ⟨p, _, hm⟩ := hm
    simp only [List.mem_cons, List.not_mem_nil, or_false] at hm
    rcases hm with rfl | rfl <;> exact word_free _
theorem line_words {h : Head} (hw : wrongH h = 0) : splitL 32 (lineL h) = wordsH h := join_split 32 (wordsH h) (by unfold wordsH headW; simp) (words_free hw)
theorem num_back {v : Int} (h0 : 0 ≤ v) (h1 : v ≤ 9223372036854775807) : numO (Lib.itoa v) = some v := by
  obtain ⟨u, rfl⟩ := Int.eq_ofNat_of_zero_le h0
  unfold numO
  rw [Lib.itoa_nonneg, dec_natOk u (by omega), (dec_facts u).2.1, decide_eq_true (by omega)]
  rfl
theorem numW_back {v : Int} (h0 : 0 ≤ v) (h1 : v ≤ 9223372036854775807) : numW (Lib.itoa v) = v := by unfold numW; rw [num_back h0 h1]; rfl
theorem quote_ge : ∀ l : Tx, l.length ≤ (quoteL l).length
  | [] => Nat.le_refl _
  | c :: l => by
    have ih := quote_ge l
    have : 1 ≤ (qByte c).length := by unfold qByte; split <;> simp
    rw [quote_cons, List.length_append, List.length_cons]
    omega
theorem cut_word (s : Tx) : cutT (wordT s) = quoteL s := by unfold cutT wordT Lib.trimPrefix Lib.hasPrefix; simp [List.isPrefixOf]
theorem pre_word (s : Tx) : Lib.hasPrefix (wordT s) [61] = true := by unfold wordT Lib.hasPrefix; simp [List.isPrefixOf]
theorem text_back (s : Tx) : textO (wordT s) = some s ∧ textV (wordT s) = s := by
  have h := unq_quote s (quoteL s).length (quote_ge s)
  unfold textO textV
  rw [pre_word, if_pos rfl, cut_word, h]
  exact ⟨rfl, rfl⟩
theorem badN_no {w : Tx} {l : List Tx} {v : Int} (h : numO w = some v) : badN (w :: l) false = false := by unfold badN badW; rw [List.headD_cons, h]; rfl
theorem badT_no {s : Tx} {l : List Tx} : badT (wordT s :: l) false = false := by unfold badT badW; rw [List.headD_cons, (text_back s).1]; rfl
theorem pairs_back : ∀ l : List Pair, pairsP (pairW l) = l ∧ pairsB (pairW l) false = false
  | [] => ⟨rfl, rfl⟩
  | p :: l => by
    obtain ⟨h1, h2⟩ := pairs_back l
    rw [pairW_cons]
    constructor
    · show ⟨textV (wordT p.key), textV (wordT p.val)⟩ :: pairsP (pairW l) = _
      rw [h1, (text_back p.key).2, (text_back p.val).2]
    · show pairsB (pairW l) (badT (wordT p.val :: pairW l) (badT (wordT p.key :: wordT p.val :: pairW l) false)) = false
      rw [badT_no, badT_no, h2]
theorem head_back {h : Head} (hw : wrongH h = 0) (hb : Bd20 h) : headP (wordsH h) = h ∧ badP (wordsH h) = false := by
  obtain ⟨k1, k2, k3⟩ := kind_some hw
  obtain ⟨m1, m2, m3, m4, m5, m6, m7⟩ := wrong_nums hw
  have ht := time_print h.sec h.nano hb.sec m7
  obtain ⟨p1, p2⟩ := pairs_back h.extra
  have n1 := num_back m1 hb.mode.2
  have n2 := num_back m2 hb.uid.2
  have n3 := num_back m3 hb.gid.2
  have n4 := num_back m4 hb.size.2
  have n5 := num_back m5 hb.major.2
  have n6 := num_back m6 hb.minor.2
  constructor
  · unfold headP
    have e0 : W 0 (wordsH h) = kindT h.kind := rfl
    have e1 : W 1 (wordsH h) = Lib.itoa h.mode := rfl
    have e2 : W 2 (wordsH h) = Lib.itoa h.uid := rfl
    have e3 : W 3 (wordsH h) = Lib.itoa h.gid := rfl
    have e4 : W 4 (wordsH h) = Lib.itoa h.size := rfl
    have e5 : W 5 (wordsH h) = printL h.sec h.nano := rfl
    have e6 : W 6 (wordsH h) = wordT h.user := rfl
    have e7 : W 7 (wordsH h) = wordT h.group := rfl
    have e8 : W 8 (wordsH h) = Lib.itoa h.major := rfl
    have e9 : W 9 (wordsH h) = Lib.itoa h.minor := rfl
    have e10 : W 10 (wordsH h) = wordT h.name := rfl
    have e11 : W 11 (wordsH h) = wordT h.link := rfl
    have e12 : tl 12 (wordsH h) = pairW h.extra := rfl
    have et : timeV (printL h.sec h.nano) = (h.sec, h.nano) := by unfold timeV; rw [ht]; rfl
    rw [e0, e1, e2, e3, e4, e5, e6, e7, e8, e9, e10, e11, e12, kind_back k1 k2, numW_back m1 hb.mode.2, numW_back m2 hb.uid.2, numW_back m3 hb.gid.2, numW_back m4 hb.size.2, numW_back m5 hb.major.2, numW_back m6 hb.minor.2, et, (text_back _).2, (text_back _).2, (text_back _).2, (text_back _).2, p1]
  · unfold badP bad5
    have e1 : tl 1 (wordsH h) = Lib.itoa h.mode :: tl 2 (wordsH h) := rfl
    have e2 : tl 2 (wordsH h) = Lib.itoa h.uid :: tl 3 (wordsH h) := rfl
    have e3 : tl 3 (wordsH h) = Lib.itoa h.gid :: tl 4 (wordsH h) := rfl
    have e4 : tl 4 (wordsH h) = Lib.itoa h.size :: tl 5 (wordsH h) := rfl
    have e5 : W 5 (wordsH h) = printL h.sec h.nano := rfl
    have e6 : tl 6 (wordsH h) = wordT h.user :: tl 7 (wordsH h) := rfl
    have e7 : tl 7 (wordsH h) = wordT h.group :: tl 8 (wordsH h) := rfl
    have e8 : tl 8 (wordsH h) = Lib.itoa h.major :: tl 9 (wordsH h) := rfl
    have e9 : tl 9 (wordsH h) = Lib.itoa h.minor :: tl 10 (wordsH h) := rfl
    have e10 : tl 10 (wordsH h) = wordT h.name :: tl 11 (wordsH h) := rfl
    have e11 : tl 11 (wordsH h) = wordT h.link :: tl 12 (wordsH h) := rfl
    have e12 : tl 12 (wordsH h) = pairW h.extra := rfl
    have b0 : badW (wordsH h) false = false := rfl
    have b1 : badN (tl 1 (wordsH h)) false = false := by rw [e1]; exact badN_no n1
    have b2 : badN (tl 2 (wordsH h)) false = false := by rw [e2]; exact badN_no n2
    have b3 : badN (tl 3 (wordsH h)) false = false := by rw [e3]; exact badN_no n3
    have b4 : badN (tl 4 (wordsH h)) false = false := by rw [e4]; exact badN_no n4
    have b5 : badW (tl 5 (wordsH h)) false = false := rfl
    have b5' : badM (W 5 (wordsH h)) false = false := by rw [e5]; unfold badM; rw [ht]; rfl
    have b6 : badT (tl 6 (wordsH h)) false = false := by rw [e6]; exact badT_no
    have b7 : badT (tl 7 (wordsH h)) false = false := by rw [e7]; exact badT_no
    have b8 : badN (tl 8 (wordsH h)) false = false := by rw [e8]; exact badN_no n5
    have b9 : badN (tl 9 (wordsH h)) false = false := by rw [e9]; exact badN_no n6
    have b10 : badT (tl 10 (wordsH h)) false = false := by rw [e10]; exact badT_no
    have b11 : badT (tl 11 (wordsH h)) false = false := by rw [e11]; exact badT_no
    rw [b0, b1, b2, b3, b4, b5, b5', b6, b7, b8, b9, b10, b11, e12, p2]
/-- Whatever text it is: the head that its words tell is small. -/
def sumL : List Tx → Nat
  | [] => 0
  | w :: l => w.length + sumL l
theorem sum_split (c : UInt8) : ∀ l : Tx, sumL (splitL c l) ≤ l.length
  | [] => Nat.le_refl _
  | b :: l => by
    have ih := sum_split c l
    have hn := split_len c l
    rw [split_cons]
    cases hs : splitL c l with
    | nil => rw [hs] at hn; simp at hn
    | cons w ws =>
      rw [hs] at ih
      split
      · simp only [sumL, List.length_cons, List.length_nil] at ih ⊢; omega
      · simp only [sumL, List.headD_cons, List.tail_cons, List.length_cons] at ih ⊢; omega
theorem sumL_mem : ∀ (l : List Tx) (w : Tx), w ∈ l → w.length ≤ sumL l
  | x :: l, w, h => by
    simp only [sumL]
    rcases List.mem_cons.1 h with rfl | h
    · omega
    · have := sumL_mem l w h; omega
end Go.Proofs.YtogfcfgfkggmlaaGreatDoor.Eng.U


/- Overlays in plain words, part 2: laid one by one. No program. -/
set_option linter.unusedVariables false
set_option linter.unusedSimpArgs false
namespace Go.Proofs.YtogfcfgfkggmlaaGreatDoor.Eng.U
open Go Go.Proofs Go.Proofs.YtogfcfgfkggmlaaGreatDoor.Eng

end Go.Proofs.YtogfcfgfkggmlaaGreatDoor.Eng.U


/- Overlays, the program's side: laid one by one; what is said of a head, both sides. -/
set_option linter.unusedVariables false
set_option linter.unusedSectionVars false
set_option linter.unusedSimpArgs false
namespace Go.Proofs.YtogfcfgfkggmlaaGreatDoor.Eng.U
open Go Go.Proofs Go.Proofs.YtogfcfgfkggmlaaGreatDoor.Eng Go.Proofs.YtogfcfgfkggmlaaGreatDoor.P04
variable {E : Ext} [Core E] {k n : Nat}

class HasIns (E : Ext) : Prop where
  ins : ∀ (k n : Nat) (xs : List Pair) (i : Nat) (p : Pair), i ≤ xs.length → xs.length ≤ 1000000 → kp E k n slices_Insert_api_Pair [.fresh 29 (prs xs), .int .i64 (i : Int), .fresh 29 [elPair p]] = some (.lback (.fresh 29 (prs (xs.take i ++ p :: xs.drop i))) [])
  del : ∀ (k n : Nat) (xs : List Pair) (i : Nat), i < xs.length → xs.length ≤ 1000000 → kp E k n slices_Delete_api_Pair [.fresh 29 (prs xs), .int .i64 (i : Int), .int .i64 ((i + 1 : Nat) : Int)] = some (.lback (.fresh 29 (prs (xs.take i ++ xs.drop (i + 1)))) [])
  cmp : ∀ (k n : Nat) (a b : Tx), kp E k n strings_Compare [.str (str a), .str (str b)] = some (.int .i64 (Lib.compareBytes a b))
section
variable [HasIns E]
end
/-! What pairs say of a head. -/
end Go.Proofs.YtogfcfgfkggmlaaGreatDoor.Eng.U


/- What pairs say of a head: the whole, both sides; two heads that are the same. -/
set_option linter.unusedVariables false
set_option linter.unusedSectionVars false
set_option linter.unusedSimpArgs false
namespace Go.Proofs.YtogfcfgfkggmlaaGreatDoor.Eng.U
open Go Go.Proofs Go.Proofs.YtogfcfgfkggmlaaGreatDoor.Eng Go.Proofs.YtogfcfgfkggmlaaGreatDoor.P04
variable {E : Ext} [Core E] [HasNum E] {k n : Nat}

end Go.Proofs.YtogfcfgfkggmlaaGreatDoor.Eng.U


/- A head's fourteen cells, taken out of an answer. -/
set_option linter.unusedVariables false
namespace Go.Proofs.YtogfcfgfkggmlaaGreatDoor.Eng.U
open Go Go.Proofs Go.Proofs.YtogfcfgfkggmlaaGreatDoor.Eng

end Go.Proofs.YtogfcfgfkggmlaaGreatDoor.Eng.U


/- The laws of lines in plain words: TaleLines, TaleBack. -/
set_option linter.unusedVariables false
set_option linter.unusedSectionVars false
set_option linter.unusedSimpArgs false
namespace Go.Proofs.YtogfcfgfkggmlaaGreatDoor.Eng.U
open Go Go.Proofs Go.Proofs.YtogfcfgfkggmlaaGreatDoor.Eng Go.Proofs.YtogfcfgfkggmlaaGreatDoor.P04
variable {E : Ext} [Core E] [HasNum E] [HasTextV E] [HasQuote E] [HasJn E] [HasCount E] {k n k0 kk : Nat}

def headA : Head := ⟨1, [97], [], 420, 0, 0, 3, 0, 0, [], [], 0, 0, []⟩
def lineA : Tx := [102, 105, 108, 101, 32, 52, 50, 48, 32, 48, 32, 48, 32, 51, 32, 48, 32, 61, 32, 61, 32, 48, 32, 48, 32, 61, 97, 32, 61]
theorem dec_one {u : Nat} (h : u < 10) : Lib.decDigits u = [UInt8.ofNat (48 + u)] := by rw [Lib.decDigits, dif_pos h]
theorem lineA_eq : lineL headA = lineA := by
  have h0 : Lib.itoa 0 = [48] := by rw [show (0 : Int) = ((0 : Nat) : Int) from rfl, Lib.itoa_nonneg, dec_one (by omega)]; rfl
  have h3 : Lib.itoa 3 = [51] := by rw [show (3 : Int) = ((3 : Nat) : Int) from rfl, Lib.itoa_nonneg, dec_one (by omega)]; rfl
  have h420 : Lib.itoa 420 = [52, 50, 48] := by rw [show (420 : Int) = ((420 : Nat) : Int) from rfl, Lib.itoa_nonneg, decDigits_rec (by omega), decDigits_rec (by omega), dec_one (by omega)]; rfl
  unfold lineL wordsH headW headA
  dsimp only
  have hp : printL 0 0 = [48] := by unfold printL; rw [if_pos rfl, h0]
  rw [h0, h3, h420, hp]
  rfl
theorem wrongA : wrongH headA = 0 := by decide
theorem bdA : Bd20 headA := ⟨⟨by decide, by decide, by decide, by decide, by decide, by simp [headA]⟩, by decide, by decide, by decide, by decide, by decide, by decide, by decide, by decide, by decide⟩
theorem words_len {h : Head} (hb : Bd20 h) (hw : wrongH h = 0) : (wordsH h).length ≤ 900000 ∧ ∀ w ∈ wordsH h, w.length ≤ 10000000 := by
  have h1 := line_len hb hw
  have h2 := sum_split 32 (lineL h)
  rw [line_words hw] at h2
  refine ⟨?_, fun w hm => by have := sumL_mem _ w hm; omega⟩
  unfold wordsH headW
  rw [List.length_append, pairW_len]
  have := hb.few
  simp only [List.length_cons, List.length_nil]
  omega
theorem head_line {h : Head} (hb : Bd20 h) (hw : wrongH h = 0) (hkk : 200000000 < kk) : kp E (kk + 6) (n + 10) tale_Head [.str (str (lineL h))] = some (.tup [.agg (encHead h), .int .u8 0]) := by
  have hl := line_len hb hw
  obtain ⟨b1, b2⟩ := words_len hb hw
  obtain ⟨e1, e2⟩ := head_back hw hb
  have hs := line_words hw
  have := head_k (E := E) (n := n) (lineL h) kk hkk (by omega) (by rw [hs]; exact b1) (by rw [hs]; exact b2) (by rw [hs, e1]; exact hb)
  rw [hs, e1, e2, endH_yes hw rfl] at this
  exact this
theorem alive20 (hkk : 200000000 < kk) : kp E (kk + 6) (n + 11) law20_alive [] = some (.bool true) := by
  have h1 := line_k (E := E) (k := kk + 6) (n := n + 1) headA bdA (by omega)
  have h2 := head_line (E := E) (n := n) (kk := kk) bdA wrongA hkk
  rw [if_pos wrongA] at h1
  rw [lineA_eq] at h1 h2
  have h1' : kp E (kk + 6) (n + 10) tale_Line [(.agg [(.int .i64 (1 : Int)), (.str (str [97])), (.str (str [])), (.int .i64 (420 : Int)), (.int .i64 (0 : Int)), (.int .i64 (0 : Int)), (.int .i64 (3 : Int)), (.int .i64 (0 : Int)), (.int .i64 (0 : Int)), (.str (str [])), (.str (str [])), (.int .i64 (0 : Int)), (.int .i64 (0 : Int)), (.list 2 [])])] = _ := h1
  have h2' : kp E (kk + 6) (n + 10) tale_Head [(.str (str [102, 105, 108, 101, 32, 52, 50, 48, 32, 48, 32, 48, 32, 51, 32, 48, 32, 61, 32, 61, 32, 48, 32, 48, 32, 61, 97, 32, 61]))] = _ := h2
  rw [law20_alive_eq, h1', callT_ok, tupS_ok, tupI_ok, atNil_ok, h2', callT_ok]
  rfl
end Go.Proofs.YtogfcfgfkggmlaaGreatDoor.Eng.U


/- ItemWrong in plain words: it answers true. -/
set_option linter.unusedVariables false
set_option linter.unusedSectionVars false
set_option linter.unusedSimpArgs false
namespace Go.Proofs.YtogfcfgfkggmlaaGreatDoor.Eng.U
open Go Go.Proofs Go.Proofs.YtogfcfgfkggmlaaGreatDoor.Eng Go.Proofs.YtogfcfgfkggmlaaGreatDoor.P04
variable {E : Ext} [Core E] [HasNum E] {k n : Nat}

end Go.Proofs.YtogfcfgfkggmlaaGreatDoor.Eng.U


/- ItemFulls over the library's pieces: strings.IndexAny at "=\\x00", decoding beside the numbers' own. -/
set_option linter.unusedVariables false
set_option linter.unusedSectionVars false
set_option linter.unusedSimpArgs false
namespace Go.Proofs.YtogfcfgfkggmlaaGreatDoor.Eng.U
open Go Go.Proofs Go.Proofs.YtogfcfgfkggmlaaGreatDoor.Eng Go.RowKit

/-- The tables of the decoder, off the variables. -/
theorem utf_tabs {S : Stab} {w : World} (hag : Agree S w) (hG : GlobOk glob S w) : Lib.Utf8Tabs 5 6 w := by
  refine ⟨fun c hc => ?_, fun i hi => ?_⟩
  · obtain ⟨u, hu, hv⟩ := glob_cell (g := 5) hag hG rfl c (.int .u8 (Lib.firstT c : Int)) (by rw [List.getElem?_map, List.getElem?_range hc]; rfl)
    rw [V_int hv] at hu
    exact hu
  · obtain ⟨u, hu, hv⟩ := glob_cell (g := 6) hag hG rfl (2 * i) (.int .u8 (Lib.accLo i : Int)) (by
      rw [List.getElem?_map, List.getElem?_range (by omega)]
      show some (AV.int .u8 (((if 2 * i % 2 = 0 then Lib.accLo (2 * i / 2) else Lib.accHi (2 * i / 2) : Nat) : Int))) = _
      rw [if_pos (by omega), show 2 * i / 2 = i from by omega])
    obtain ⟨u', hu', hv'⟩ := glob_cell (g := 6) hag hG rfl (2 * i + 1) (.int .u8 (Lib.accHi i : Int)) (by
      rw [List.getElem?_map, List.getElem?_range (by omega)]
      show some (AV.int .u8 (((if (2 * i + 1) % 2 = 0 then Lib.accLo ((2 * i + 1) / 2) else Lib.accHi ((2 * i + 1) / 2) : Nat) : Int))) = _
      rw [if_neg (by omega), show (2 * i + 1) / 2 = i from by omega])
    rw [V_int hv] at hu
    rw [V_int hv'] at hu'
    exact ⟨hu, hu'⟩
def pDec : Piece := { f := unicode_utf8_DecodeRuneInString, ans := fun args => match args with
  | [.str s] => some (.tup [.int .i32 (Lib.decodeGo s).1, .int .i64 (Lib.decodeGo s).2])
  | _ => none }
theorem dec_right : pDec.Right := by
  refine ⟨⟨Tryz.f271, Tryz.func271, by kernel_rfl, by kernel_rfl⟩, fun args res h => ?_⟩
  unfold pDec at h
  dsimp only at h
  split at h
  · rename_i s
    obtain rfl := Option.some.inj h
    refine ok_tup rfl fun S w vals hag hG hV => ?_
    obtain ⟨v, rfl, hv⟩ := VL_1 hV
    obtain rfl := V_str hv
    refine (Tryz.utf8_DecodeRuneInString s w (utf_tabs hag hG)).mono ?_
    rintro e w' ⟨rfl, hb⟩
    exact ⟨[_, _], rfl, rfl, fun S' => V2 (V.int _ _) (V.int _ _), hb⟩
  · cases h
def ps09a : List Piece := [pFmt, pItoa, pCutP, pTrimR, pIndex, pIndexByte, pRepeat, pPInt, pPUint, pDec]
def ext09a : Ext := { extOf ps09a with fs := strings_IndexAny :: coreFs }
theorem good09b (k : Nat) : (bs (extOf ps09a) k).Good := good_of (fun p hp => by
  simp only [ps09a, List.mem_cons, List.not_mem_nil, or_false] at hp
  rcases hp with rfl | rfl | rfl | rfl | rfl | rfl | rfl | rfl | rfl | rfl
  · exact fmt_right
  · exact itoa_right
  · exact cutP_right
  · exact trimR_right
  · exact index_right
  · exact indexByte_right
  · exact repeat_right
  · exact pInt_right
  · exact pUint_right
  · exact dec_right) names_ok k
theorem good09a (k : Nat) : (bs ext09a k).Good := { mixed := by kernel_rfl, names := by kernel_rfl, base := (good09b k).base }
instance core09a : Core ext09a where
  isB f hf := (core_of (ps := ps09a) (by kernel_rfl)).isB f hf
  has f hf := by
    show (strings_IndexAny :: coreFs).contains f = true
    rw [List.contains_cons, hf, Bool.or_true]
instance ib09a : HasIB ext09a := ⟨fun k n s c => (kp_base (E := ext09a) (by kernel_rfl)).trans rfl⟩
noncomputable def pAny : Piece := { f := strings_IndexAny, ans := fun args => match args with
  | [.str s, .str c] => bif decide (c = str [61, 0]) && decide (s.size ≤ 1000000) then (bif decide (8 < s.size) then some (.int .i64 (Lib.indexAny s.data.toList [61, 0])) else (bs ext09a 100).kap 3 strings_IndexAny [.str s, .str c]) else none
  | _ => none }
theorem any_right : pAny.Right := by
  refine ⟨⟨Tryz.f210, Tryz.func210, by kernel_rfl, by kernel_rfl⟩, fun args res h => ?_⟩
  unfold pAny at h
  dsimp only at h
  split at h
  · rename_i s c
    obtain ⟨hc, h'⟩ := some_of_bif h
    clear h
    simp only [Bool.and_eq_true, decide_eq_true_eq] at hc
    obtain ⟨rfl, h1⟩ := hc
    by_cases h8 : 8 < s.size
    · rw [decide_eq_true h8, cond_true] at h'
      obtain rfl := Option.some.inj h'
      refine ok_pure ⟨rfl, rfl⟩ fun S w vals hag hG hV => ?_
      obtain ⟨v, u, rfl, hv, hu⟩ := VL_2 hV
      obtain rfl := V_str hv
      obtain rfl := V_str hu
      have h2 : ∀ (j : Nat) b, (str [61, 0]).data.toList[j]? = some b → b.toNat < 128 := by
        intro j b hb
        match j, hb with
        | 0, hb => cases hb; decide
        | 1, hb => cases hb; decide
        | j + 2, hb => simp [str] at hb
      refine (Tryz.strings_IndexAny_long (fun w => by kernel_rfl) s (str [61, 0]) w (by decide) h8 (by omega) (by decide) h2).mono ?_
      rintro e w' ⟨rfl, rfl⟩
      exact ⟨_, rfl, fun S' => V.int _ _, ((Below.refl _ _).alloc (Nat.le_refl _) _).alloc (by simp) _⟩
    · rw [decide_eq_false h8, cond_false] at h'
      exact Base.ok (good09a 100) h'
  · cases h
noncomputable def ps09 : List Piece := [pFmt, pItoa, pCutP, pTrimR, pIndex, pIndexByte, pRepeat, pPInt, pPUint, pDec, pAny]
noncomputable def ext09 : Ext := extOf ps09
instance core09 : Core ext09 := core_of (by kernel_rfl)
instance num09 : HasNum ext09 := num_of rfl rfl rfl rfl rfl rfl rfl rfl rfl
instance text09 : HasText ext09 where
  dec k n s := ⟨_, _, (kp_piece (ps := ps09) (p := pDec) (k := k) (n := n) (args := [.str (str s)]) rfl).trans rfl⟩
  idx k n s hs := by
    have h := kp_piece (ps := ps09) (p := pAny) (k := k) (n := n) (args := [.str (str s), .str (str [61, 0])]) rfl
    have e : pAny.ans [.str (str s), .str (str [61, 0])] = (bif decide (str [61, 0] = str [61, 0]) && decide ((str s).size ≤ 1000000) then (bif decide (8 < (str s).size) then some (.int .i64 (Lib.indexAny (str s).data.toList [61, 0])) else (bs ext09a 100).kap 3 strings_IndexAny [.str (str s), .str (str [61, 0])]) else none) := rfl
    rw [e, str_size, decide_eq_true rfl, decide_eq_true hs, Bool.true_and, cond_true] at h
    by_cases h8 : 8 < s.length
    · rw [decide_eq_true h8, cond_true] at h
      exact ⟨_, h⟩
    · rw [decide_eq_false h8, cond_false] at h
      obtain ⟨r, hr⟩ := any_short (E := ext09a) (k := 100) (n := 0) (by kernel_rfl) (by kernel_rfl) (by omega) s (by omega)
      exact ⟨r, h.trans hr⟩
instance textV09 : HasTextV ext09 where
  dec k n s := (kp_piece (ps := ps09) (p := pDec) (k := k) (n := n) (args := [.str s]) rfl).trans rfl
  idx k n s hs := by
    have h := kp_piece (ps := ps09) (p := pAny) (k := k) (n := n) (args := [.str (str s), .str (str [61, 0])]) rfl
    have e : pAny.ans [.str (str s), .str (str [61, 0])] = (bif decide (str [61, 0] = str [61, 0]) && decide ((str s).size ≤ 1000000) then (bif decide (8 < (str s).size) then some (.int .i64 (Lib.indexAny (str s).data.toList [61, 0])) else (bs ext09a 100).kap 3 strings_IndexAny [.str (str s), .str (str [61, 0])]) else none) := rfl
    rw [e, str_size, decide_eq_true rfl, decide_eq_true hs, Bool.true_and, cond_true] at h
    by_cases h8 : 8 < s.length
    · rw [decide_eq_true h8, cond_true] at h
      exact ⟨_, h, any_long_v s⟩
    · rw [decide_eq_false h8, cond_false] at h
      obtain ⟨r, hr, hv⟩ := any_short_v (E := ext09a) (k := 100) (n := 0) (by kernel_rfl) (by kernel_rfl) (by omega) s (by omega)
      exact ⟨r, h.trans hr, hv⟩
end Go.Proofs.YtogfcfgfkggmlaaGreatDoor.Eng.U


/- strings.Join as a piece (for seats that have no paths). -/
set_option linter.unusedVariables false
set_option linter.unusedSectionVars false
set_option linter.unusedSimpArgs false
namespace Go.Proofs.YtogfcfgfkggmlaaGreatDoor.Eng.U
open Go Go.Proofs Go.Proofs.YtogfcfgfkggmlaaGreatDoor.Eng Go.RowKit

def pJoin : Piece := { f := strings_Join, ans := fun args => match args with
  | [.list sz xs, .str sep] => (toStrs xs).bind fun l => bif (sz == 1) && decide (l.length ≤ 1000000) && decide ((sep.data.toList.intercalate l).length ≤ 1000000000) then some (.str (str (sep.data.toList.intercalate l))) else none
  | _ => none }
theorem join_right : pJoin.Right := by
  refine ⟨⟨Tryz.f109, Tryz.func109, by kernel_rfl, by kernel_rfl⟩, fun args res h => ?_⟩
  unfold pJoin at h
  dsimp only at h
  split at h
  · rename_i sz xs sep
    obtain ⟨l, hl, h⟩ := Option.bind_eq_some_iff.1 h
    obtain ⟨hc, h'⟩ := some_of_bif h
    clear h
    simp only [Bool.and_eq_true, beq_iff_eq, decide_eq_true_eq] at hc
    obtain ⟨⟨rfl, h1⟩, h2⟩ := hc
    obtain rfl := Option.some.inj h'
    obtain rfl := toStrs_some hl
    refine ok_pure ⟨rfl, rfl⟩ fun S w vals hag hG hV => ?_
    obtain ⟨v, u, rfl, hv, hu⟩ := VL_2 hV
    obtain rfl := V_str hu
    have key : ∀ (l : List (List UInt8)), (l.map str).map (fun s => s.data.toList) = l := by
      intro l
      rw [List.map_map]
      conv => rhs; rw [← List.map_id l]
      rfl
    have none_case : ∀ (a : Option Addr) (c : Nat), Calls Tryz.prog strings_Join #[.slice a 0 c, .string sep] w fun e w' => ∃ v, e = .returned v ∧ (∀ S', V S' (.str (str (sep.data.toList.intercalate ([] : List (List UInt8))))) v) ∧ Below w.heap.size w w' := by
      intro a c
      refine (Tryz.strings_Join_none a c sep w).mono ?_
      rintro e w' ⟨rfl, rfl⟩
      exact ⟨_, rfl, fun S' => V.str _, Below.refl _ _⟩
    cases l with
    | nil =>
      cases hv with
      | list0 _ a c => exact none_case _ _
      | listn _ => exact none_case _ _
      | list _ _ a c f => exact none_case _ _
    | cons p l =>
      have hv : V S (.list 1 (svs (p :: l))) v := hv
      generalize hxs : svs (p :: l) = xs at hv
      cases hv with
      | list0 _ a c => simp [svs] at hxs
      | listn _ => simp [svs] at hxs
      | list _ _ a c f g0 g1 g2 g3 g4 =>
        subst hxs
        have hcell : ∀ (j : Nat) (x : List UInt8), (p :: l)[j]? = some x → w.cell? (a.add (j * 1 + 0)) = some (.string (str x)) := by
          intro j x hx
          have hsx : (svs (p :: l))[j]? = some (sv x) := by unfold svs; rw [List.getElem?_map, hx]; rfl
          have h3 := g3 j (sv x) 0 (.str (str x)) hsx rfl
          have h4 := g4 j (sv x) 0 (.str (str x)) hsx rfl
          rw [V_str h4] at h3
          exact hag _ _ h3
        have ha : a.spot = none := by
          have := hcell 0 p rfl
          apply Classical.byContradiction
          intro hs
          obtain ⟨b, o, s⟩ := a
          cases s with
          | none => exact hs rfl
          | some s =>
            simp [Addr.add, World.cell?] at this
            split at this <;> cases this
        obtain ⟨b, o, s⟩ := a
        obtain rfl : s = none := ha
        have hlen : ((p :: l).map str).length = (svs (p :: l)).length := by simp [svs]
        have hlt : b < w.heap.size := by
          have := World.block_lt_of_cell? w _ (hcell 0 p rfl)
          simpa [Addr.add] using this
        have := Tryz.strings_Join b o c ((p :: l).map str) sep w (fun j x hx => by
          rw [List.getElem?_map] at hx
          obtain ⟨y, hy, rfl⟩ := Option.map_eq_some_iff.1 hx
          have := hcell j y hy
          rwa [add_lit', show o + (j * 1 + 0) = o + j from by omega] at this) hlt (by rw [hlen, svs_len]; omega) (by rw [hlen]; exact g0) (by rw [key]; unfold Lib.join; omega)
        rw [hlen, key] at this
        refine this.mono ?_
        rintro e w' ⟨rfl, hb⟩
        exact ⟨_, rfl, fun S' => V.str _, hb⟩
  · cases h
end Go.Proofs.YtogfcfgfkggmlaaGreatDoor.Eng.U


/- strings.Count at a text of one byte, as a piece. -/
set_option linter.unusedVariables false
set_option linter.unusedSectionVars false
set_option linter.unusedSimpArgs false
namespace Go.Proofs.YtogfcfgfkggmlaaGreatDoor.Eng.U
open Go Go.RowKit Go.Proofs Go.Proofs.YtogfcfgfkggmlaaGreatDoor.Eng

def pCount : Piece := { f := strings_Count, ans := fun args => match args with
  | [.str s, .str c] => (one c).bind fun x => some (.int .i64 ((Lib.countByte s.data.toList x : Nat) : Int))
  | _ => none }
theorem count_right : pCount.Right := by
  refine ⟨⟨Tryz.f233, Tryz.func233, by kernel_rfl, by kernel_rfl⟩, fun args res h => ?_⟩
  unfold pCount at h
  dsimp only at h
  split at h
  · rename_i s c
    obtain ⟨x, hx, h⟩ := Option.bind_eq_some_iff.1 h
    obtain rfl := one_some hx
    obtain rfl := Option.some.inj h
    refine ok_pure ⟨rfl, rfl⟩ fun S w vals hag hG hV => ?_
    obtain ⟨v, u, rfl, hv, hu⟩ := VL_2 hV
    obtain rfl := V_str hv
    obtain rfl := V_str hu
    refine (Tryz.strings_Count_one s x w).mono ?_
    rintro e w' ⟨rfl, rfl⟩
    exact ⟨_, rfl, fun S' => V.int _ _, Below.refl _ _⟩
  · cases h
end Go.Proofs.YtogfcfgfkggmlaaGreatDoor.Eng.U


/- The library's functions, text.Quote and strings.Join, given together. -/
set_option linter.unusedVariables false
set_option linter.unusedSectionVars false
set_option linter.unusedSimpArgs false
namespace Go.Proofs.YtogfcfgfkggmlaaGreatDoor.Eng.U
open Go Go.RowKit Go.Proofs Go.Proofs.YtogfcfgfkggmlaaGreatDoor.Eng

noncomputable def ps20 : List Piece := [pFmt, pItoa, pCutP, pTrimR, pIndex, pIndexByte, pRepeat, pPInt, pPUint, pDec, pAny, pQuote, pJoin, pCount]
noncomputable def ext20 : Ext := extOf ps20
instance core20 : Core ext20 := core_of (by kernel_rfl)
instance num20 : HasNum ext20 := num_of rfl rfl rfl rfl rfl rfl rfl rfl rfl
instance text20 : HasText ext20 where
  dec k n s := ⟨_, _, (kp_piece (ps := ps20) (p := pDec) (k := k) (n := n) (args := [.str (str s)]) rfl).trans rfl⟩
  idx k n s hs := by
    have h := kp_piece (ps := ps20) (p := pAny) (k := k) (n := n) (args := [.str (str s), .str (str [61, 0])]) rfl
    have e : pAny.ans [.str (str s), .str (str [61, 0])] = (bif decide (str [61, 0] = str [61, 0]) && decide ((str s).size ≤ 1000000) then (bif decide (8 < (str s).size) then some (.int .i64 (Lib.indexAny (str s).data.toList [61, 0])) else (bs ext09a 100).kap 3 strings_IndexAny [.str (str s), .str (str [61, 0])]) else none) := rfl
    rw [e, str_size, decide_eq_true rfl, decide_eq_true hs, Bool.true_and, cond_true] at h
    by_cases h8 : 8 < s.length
    · rw [decide_eq_true h8, cond_true] at h
      exact ⟨_, h⟩
    · rw [decide_eq_false h8, cond_false] at h
      obtain ⟨r, hr⟩ := any_short (E := ext09a) (k := 100) (n := 0) (by kernel_rfl) (by kernel_rfl) (by omega) s (by omega)
      exact ⟨r, h.trans hr⟩
instance textV20 : HasTextV ext20 where
  dec k n s := (kp_piece (ps := ps20) (p := pDec) (k := k) (n := n) (args := [.str s]) rfl).trans rfl
  idx k n s hs := by
    have h := kp_piece (ps := ps20) (p := pAny) (k := k) (n := n) (args := [.str (str s), .str (str [61, 0])]) rfl
    have e : pAny.ans [.str (str s), .str (str [61, 0])] = (bif decide (str [61, 0] = str [61, 0]) && decide ((str s).size ≤ 1000000) then (bif decide (8 < (str s).size) then some (.int .i64 (Lib.indexAny (str s).data.toList [61, 0])) else (bs ext09a 100).kap 3 strings_IndexAny [.str (str s), .str (str [61, 0])]) else none) := rfl
    rw [e, str_size, decide_eq_true rfl, decide_eq_true hs, Bool.true_and, cond_true] at h
    by_cases h8 : 8 < s.length
    · rw [decide_eq_true h8, cond_true] at h
      exact ⟨_, h, any_long_v s⟩
    · rw [decide_eq_false h8, cond_false] at h
      obtain ⟨r, hr, hv⟩ := any_short_v (E := ext09a) (k := 100) (n := 0) (by kernel_rfl) (by kernel_rfl) (by omega) s (by omega)
      exact ⟨r, h.trans hr, hv⟩
instance quote20 : HasQuote ext20 where
  quote k n s hs := by
    have h := kp_piece (ps := ps20) (p := pQuote) (k := k) (n := n) (args := [.str (str s)]) rfl
    have e : pQuote.ans [.str (str s)] = (bif decide ((str s).size ≤ 1000000000) then some (.str (str (quoteL (str s).data.toList))) else none) := rfl
    rw [e, str_size, decide_eq_true hs, cond_true] at h
    exact h
instance join20 : HasJn ext20 := ⟨fun k n l sep h1 h2 => by
  have h := kp_piece (ps := ps20) (p := pJoin) (k := k) (n := n) (args := [.list 1 (svs l), .str (str sep)]) rfl
  refine h.trans ?_
  show (toStrs (svs l)).bind _ = _
  rw [toStrs_svs]
  show (bif (1 == 1) && decide (l.length ≤ 1000000) && decide ((sep.intercalate l).length ≤ 1000000000) then _ else none) = _
  rw [decide_eq_true h1, decide_eq_true h2]
  rfl⟩
instance count20 : HasCount ext20 := ⟨fun k n s x => (kp_piece (ps := ps20) (p := pCount) (k := k) (n := n) (args := [.str (str s), .str (str [x])]) rfl).trans rfl⟩
theorem good20 (k : Nat) : (bs ext20 k).Good := good_of (fun p hp => by
  simp only [ps20, List.mem_cons, List.not_mem_nil, or_false] at hp
  rcases hp with rfl | rfl | rfl | rfl | rfl | rfl | rfl | rfl | rfl | rfl | rfl | rfl | rfl | rfl
  · exact fmt_right
  · exact itoa_right
  · exact cutP_right
  · exact trimR_right
  · exact index_right
  · exact indexByte_right
  · exact repeat_right
  · exact pInt_right
  · exact pUint_right
  · exact dec_right
  · exact any_right
  · exact quote_right
  · exact join_right
  · exact count_right) names_ok k
end Go.Proofs.YtogfcfgfkggmlaaGreatDoor.Eng.U

