/- Numbers as texts, in plain Lean. -/
import Derived.Lib.ItoaNum
import Derived.Lib.ParseIntB
import Derived.Lib.Bytealg
import Derived.Lib.TrimByte
set_option linter.unusedVariables false
set_option linter.unusedSimpArgs false
namespace Go.Proofs.YtilbahgfjfcikaaDoor.P04
open Go

def isDig (c : UInt8) : Bool := decide (48 ≤ c.toNat) && decide (c.toNat ≤ 57)
def digs (l : List UInt8) : Bool := l.all isDig && !l.isEmpty
def valA (acc : Nat) (l : List UInt8) : Nat := l.foldl (fun a c => a * 10 + (c.toNat - 48)) acc
def lead (l : List UInt8) : Bool := decide (l.headD 0 = 48) && decide (1 < l.length)
def natOk (l : List UInt8) : Bool := digs l && !lead l && decide (valA 0 l ≤ 9223372036854775808)
theorem valA_ge : ∀ (l : List UInt8) (acc : Nat), acc ≤ valA acc l
  | [], acc => Nat.le_refl _
  | c :: l, acc => by
    have := valA_ge l (acc * 10 + (c.toNat - 48))
    simp only [valA, List.foldl_cons] at this ⊢
    omega
theorem valA_cons (c : UInt8) (l : List UInt8) (acc : Nat) : valA acc (c :: l) = valA (acc * 10 + (c.toNat - 48)) l := by
  unfold valA
  rw [List.foldl_cons]
theorem dig_iff {c : UInt8} : isDig c = true ↔ 48 ≤ c.toNat ∧ c.toNat ≤ 57 := by simp [isDig]
theorem parse_eq {M : Nat} (hM : M = 18446744073709551615) (l : List UInt8) : ∀ (acc : Nat), l.all isDig = true → acc ≤ M → Lib.parseUintM M acc l = if valA acc l ≤ M then .ok (valA acc l) else .range := by
  induction l with
  | nil =>
    intro acc _ h
    have e : valA acc [] = acc := rfl
    rw [e, if_pos h]
    rfl
  | cons c l ih =>
    intro acc hd h
    rw [List.all_cons, Bool.and_eq_true] at hd
    have hc := dig_iff.1 hd.1
    have hg := valA_ge l (acc * 10 + (c.toNat - 48))
    have e : Lib.parseUintM M acc (c :: l) = if 48 ≤ c.toNat ∧ c.toNat ≤ 57 then (if 1844674407370955162 ≤ acc then .range else if M < acc * 10 + (c.toNat - 48) then .range else Lib.parseUintM M (acc * 10 + (c.toNat - 48)) l) else .syntax := rfl
    rw [e, if_pos hc, valA_cons]
    by_cases h1 : 1844674407370955162 ≤ acc
    · rw [if_pos h1, if_neg (by omega)]
    · rw [if_neg h1]
      by_cases h2 : M < acc * 10 + (c.toNat - 48)
      · rw [if_pos h2, if_neg (by omega)]
      · rw [if_neg h2, ih _ hd.2 (by omega)]
theorem parseB_eq {l : List UInt8} (hd : digs l = true) : Lib.parseUintB 64 l = if valA 0 l ≤ 18446744073709551615 then .ok (valA 0 l) else .range := by
  simp only [digs, Bool.and_eq_true, Bool.not_eq_true', List.isEmpty_eq_false_iff] at hd
  rw [Lib.parseUintB, if_neg hd.2]
  exact parse_eq (by decide) l 0 hd.1 (by omega)
/-- Where the first point stands; the length, where there is none. -/
def dot (l : List UInt8) : Nat := l.findIdx (· == 46)
theorem index_dot : ∀ l : List UInt8, Lib.indexByte l 46 = if dot l < l.length then (dot l : Int) else -1
  | [] => rfl
  | c :: l => by
    have ih := index_dot l
    unfold Lib.indexByte dot
    rw [List.findIdx_cons]
    by_cases hc : (c == 46) = true
    · simp [hc]
    · rw [if_neg hc, Bool.eq_false_iff.2 hc, cond_false, ih]
      unfold dot
      have : List.findIdx (· == 46) l ≤ l.length := List.findIdx_le_length
      simp only [List.length_cons]
      by_cases h : List.findIdx (· == 46) l < l.length
      · rw [if_pos h, if_pos (show List.findIdx (· == 46) l + 1 < l.length + 1 by omega)]
        rw [if_neg (by simp)]
        omega
      · rw [if_neg h, if_neg (show ¬ List.findIdx (· == 46) l + 1 < l.length + 1 by omega)]
        rfl
/-- The time that a text is, behind its sign. -/
def timeB (minus : Bool) (t : List UInt8) : Option (Int × Int) :=
  let a := t.take (dot t)
  let b := t.drop (dot t + 1)
  let nano := if dot t < t.length then valA 0 (b ++ List.replicate (9 - b.length) 48) else 0
  let v := valA 0 a
  if natOk a = false then none
  else if dot t < t.length ∧ ¬ (digs b = true ∧ b.length ≤ 9) then none
  else if minus = false then (if 9223372036854775807 < v then none else some ((v : Int), (nano : Int)))
  else if nano = 0 then some (-(v : Int), 0)
  else if 9223372036854775807 < v then none
  else some (-(v : Int) - 1, 1000000000 - (nano : Int))
def timeL (s : List UInt8) : Option (Int × Int) := timeB (decide (s.head? = some 45)) (if s.head? = some 45 then s.drop 1 else s)
theorem valA_lt : ∀ (l : List UInt8) (acc m : Nat), l.all isDig = true → acc < 10 ^ m → valA acc l < 10 ^ (m + l.length)
  | [], acc, m, _, h => h
  | c :: l, acc, m, hd, h => by
    rw [List.all_cons, Bool.and_eq_true] at hd
    have hc := dig_iff.1 hd.1
    have := valA_lt l (acc * 10 + (c.toNat - 48)) (m + 1) hd.2 (by rw [Nat.pow_succ]; omega)
    rw [valA_cons, List.length_cons, show m + (l.length + 1) = m + 1 + l.length from by omega]
    exact this
theorem valA_app (a b : List UInt8) (acc : Nat) : valA acc (a ++ b) = valA (valA acc a) b := by simp [valA, List.foldl_append]
/-! Printing. -/
theorem decDigits_rec {u : Nat} (h : ¬ u < 10) : Lib.decDigits u = Lib.decDigits (u / 10) ++ [UInt8.ofNat (48 + u % 10)] := by rw [Lib.decDigits, dif_neg h]
/-- k digits of a number below 10 ^ 9, the first ahead. -/
def frac : Nat → Nat → List UInt8
  | 0, _ => []
  | k + 1, n => UInt8.ofNat (48 + n / 100000000) :: frac k (n % 100000000 * 10)
/-- The digits of a number below 10 ^ 9 as long as some are left. -/
def loopP : Nat → Nat → List UInt8
  | 0, _ => []
  | k + 1, n => if n = 0 then [] else UInt8.ofNat (48 + n / 100000000) :: loopP k (n % 100000000 * 10)
theorem trim_cons (c : UInt8) (l : List UInt8) (x : UInt8) : Lib.trimRightB (c :: l) x = if Lib.trimRightB l x = [] then (if c = x then [] else [c]) else c :: Lib.trimRightB l x := by
  unfold Lib.trimRightB
  rw [List.reverse_cons, List.dropWhile_append]
  by_cases h : (l.reverse.dropWhile (· == x)).isEmpty = true
  · rw [if_pos h]
    have h' : l.reverse.dropWhile (· == x) = [] := by simpa using h
    rw [h', List.reverse_nil, if_pos rfl]
    by_cases hc : c = x
    · subst hc; simp
    · rw [if_neg hc]; simp [List.dropWhile_cons, hc]
  · rw [if_neg h]
    have h' : l.reverse.dropWhile (· == x) ≠ [] := by simpa using h
    rw [if_neg (by simpa using h')]
    simp
theorem frac_zero : ∀ k, Lib.trimRightB (frac k 0) 48 = []
  | 0 => rfl
  | k + 1 => by
    show Lib.trimRightB (UInt8.ofNat (48 + 0 / 100000000) :: frac k 0) 48 = []
    rw [trim_cons, frac_zero k, if_pos rfl, if_pos (by decide)]
theorem trim_frac : ∀ (k n : Nat), n < 1000000000 → n % 10 ^ (9 - k) = 0 → k ≤ 9 → Lib.trimRightB (frac k n) 48 = loopP k n
  | 0, n, h, hm, _ => rfl
  | k + 1, n, h, hm, hk => by
    unfold frac loopP
    by_cases hn : n = 0
    · rw [if_pos hn]
      subst hn
      exact frac_zero (k + 1)
    · rw [if_neg hn]
      have hm' : (n % 100000000 * 10) % 10 ^ (9 - k) = 0 := by
        have e : 10 ^ (9 - k) = 10 ^ (9 - (k + 1)) * 10 := by rw [← Nat.pow_succ]; congr 1; omega
        rw [e, Nat.mul_mod_mul_right]
        have hd : (10 : Nat) ^ (9 - (k + 1)) ∣ 100000000 := by
          have : (100000000 : Nat) = 10 ^ 8 := rfl
          rw [this]
          exact Nat.pow_dvd_pow 10 (by omega)
        rw [Nat.mod_mod_of_dvd _ hd, hm]
      have ih := trim_frac k (n % 100000000 * 10) (by omega) hm' (by omega)
      rw [trim_cons, ih]
      by_cases he : loopP k (n % 100000000 * 10) = []
      · rw [if_pos he, he]
        cases k with
        | zero =>
          have : n / 100000000 ≠ 0 := by
            simp at hm
            omega
          rw [if_neg]
          intro e
          have := congrArg UInt8.toNat e
          rw [UInt8.toNat_ofNat'] at this
          simp at this
          omega
        | succ k =>
          unfold loopP at he
          split at he
          · rename_i h0
            rw [if_neg]
            intro e
            have := congrArg UInt8.toNat e
            rw [UInt8.toNat_ofNat'] at this
            simp at this
            omega
          · cases he
      · rw [if_neg he]
theorem frac_eq (m : Nat) : ∀ (k j : Nat), k + j ≤ 9 → frac k (m * 10 ^ j % 1000000000) = (List.range k).map fun i => UInt8.ofNat (48 + m / 10 ^ (8 - (j + i)) % 10)
  | 0, j, _ => rfl
  | k + 1, j, h => by
    unfold frac
    have e1 : m * 10 ^ j % 1000000000 / 100000000 = m / 10 ^ (8 - j) % 10 := by
      rw [show (1000000000 : Nat) = 100000000 * 10 from rfl, Nat.mod_mul_right_div_self]
      congr 1
      rw [show (100000000 : Nat) = 10 ^ (8 - j) * 10 ^ j from by rw [← Nat.pow_add, show 8 - j + j = 8 from by omega]]
      exact Nat.mul_div_mul_right _ _ (Nat.pow_pos (by omega))
    have e2 : m * 10 ^ j % 1000000000 % 100000000 * 10 = m * 10 ^ (j + 1) % 1000000000 := by
      rw [Nat.mod_mod_of_dvd _ (by decide), show (1000000000 : Nat) = 100000000 * 10 from rfl, Nat.pow_succ, ← Nat.mul_assoc, Nat.mul_mod_mul_right]
    rw [e1, e2, frac_eq m k (j + 1) (by omega), List.range_succ_eq_map, List.map_cons, List.map_map]
    congr 1
    refine List.map_congr_left fun i _ => ?_
    show UInt8.ofNat (48 + m / 10 ^ (8 - (j + 1 + i)) % 10) = UInt8.ofNat (48 + m / 10 ^ (8 - (j + (i + 1))) % 10)
    rw [show j + 1 + i = j + (i + 1) from by omega]
theorem digits_frac (m : Nat) (h : m < 1000000000) : Lib.decDigits (1000000000 + m) = 49 :: frac 9 m := by
  have hf := frac_eq m 9 0 (by omega)
  rw [Nat.pow_zero, Nat.mul_one, Nat.mod_eq_of_lt h] at hf
  rw [hf, Lib.decDigits_eq, Lib.nDigits_unique 9 _ (by omega) (by omega), List.range_succ_eq_map, List.map_cons, List.map_map]
  congr 1
  · show Lib.dg (1000000000 + m) 9 = 49
    unfold Lib.dg
    rw [show (1000000000 + m) / 10 ^ 9 % 10 = 1 from by omega]
    rfl
  · refine List.map_congr_left fun i hi => ?_
    rw [List.mem_range] at hi
    show Lib.dg (1000000000 + m) (10 - 1 - (i + 1)) = _
    unfold Lib.dg
    rw [show 10 - 1 - (i + 1) = 8 - i from by omega, Nat.zero_add]
    congr 2
    have : (1000000000 : Nat) = 10 ^ (8 - i) * (10 ^ i * 10) := by rw [← Nat.pow_succ, ← Nat.pow_add, show 8 - i + (i + 1) = 9 from by omega]
    rw [this, Nat.mul_add_div (Nat.pow_pos (by omega)), Nat.add_mod, Nat.mul_mod_left, Nat.zero_add, Nat.mod_mod]
/-- The text of a time. -/
def printL (s t : Int) : List UInt8 :=
  if t = 0 then Lib.itoa s
  else if s < 0 then 45 :: Lib.decDigits (-(s + 1)).toNat ++ [46] ++ loopP 9 (1000000000 - t).toNat
  else Lib.decDigits s.toNat ++ [46] ++ loopP 9 t.toNat
end Go.Proofs.YtilbahgfjfcikaaDoor.P04
