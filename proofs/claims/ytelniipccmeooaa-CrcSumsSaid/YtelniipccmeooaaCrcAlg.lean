/- The sum's algebra, on rows of 32 bits: a step is a linear map; what is made of steps commutes. No program in sight. -/
import Derived.Test.YtelniipccmeooaaBase
set_option linter.unusedVariables false
set_option linter.unusedSimpArgs false
namespace Go.Proofs.Ytelniipccmeooaa.CrcAlg
abbrev B := BitVec 32
def poly : B := 3988292384#32
def stp (x : B) : B := if x.getLsbD 0 then (x >>> 1) ^^^ poly else x >>> 1
def stps : Nat → B → B
  | 0, x => x
  | n + 1, x => stps n (stp x)
theorem xor_swap (a b c d : B) : (a ^^^ b) ^^^ (c ^^^ d) = (a ^^^ c) ^^^ (b ^^^ d) := by
  apply BitVec.eq_of_getLsbD_eq; intro i hi
  simp only [BitVec.getLsbD_xor]
  cases a.getLsbD i <;> cases b.getLsbD i <;> cases c.getLsbD i <;> cases d.getLsbD i <;> rfl
theorem xor_self_right (a b : B) : (a ^^^ b) ^^^ b = a := by
  rw [BitVec.xor_assoc, BitVec.xor_self, BitVec.xor_zero]
theorem step_xor (x y : B) : stp (x ^^^ y) = stp x ^^^ stp y := by
  unfold stp
  rw [BitVec.getLsbD_xor, BitVec.ushiftRight_xor_distrib]
  cases x.getLsbD 0 <;> cases y.getLsbD 0 <;> simp
  · rw [BitVec.xor_assoc]
  · rw [BitVec.xor_assoc, BitVec.xor_comm (y >>> 1), ← BitVec.xor_assoc]
  · rw [xor_swap, BitVec.xor_self, BitVec.xor_zero]
theorem step_zero : stp 0#32 = 0#32 := by decide
theorem steps_xor : ∀ (n : Nat) (x y : B), stps n (x ^^^ y) = stps n x ^^^ stps n y
  | 0, _, _ => rfl
  | n + 1, x, y => by simp only [stps]; rw [step_xor, steps_xor n]
theorem steps_zero : ∀ n, stps n 0#32 = 0#32
  | 0 => rfl
  | n + 1 => by simp only [stps]; rw [step_zero, steps_zero n]
theorem steps_add : ∀ (m n : Nat) (x : B), stps (m + n) x = stps n (stps m x)
  | 0, n, x => by simp [stps]
  | m + 1, n, x => by rw [Nat.add_right_comm]; simp only [stps]; rw [steps_add m n]
theorem step_steps (n : Nat) (x : B) : stp (stps n x) = stps n (stp x) := by
  have h1 := steps_add n 1 x
  have h2 := steps_add 1 n x
  simp only [stps] at h1 h2
  rw [← h1, ← h2, Nat.add_comm]

/-! ### a byte at a time -/
theorem step_low (y : B) (h : y.getLsbD 31 = false) : stp (y <<< 1) = y := by
  unfold stp
  have h0 : (y <<< 1).getLsbD 0 = false := by simp
  rw [h0]
  simp only [Bool.false_eq_true, if_false]
  apply BitVec.eq_of_getLsbD_eq; intro i hi
  rw [BitVec.getLsbD_ushiftRight, BitVec.getLsbD_shiftLeft]
  by_cases e : i = 31
  · subst e; simp; simpa [BitVec.getLsbD_eq_getElem] using h
  · have : 1 + i < 32 := by omega
    simp [this]
theorem steps_low : ∀ (n : Nat) (y : B), n ≤ 32 → (∀ i, 32 - n ≤ i → y.getLsbD i = false) → stps n (y <<< n) = y
  | 0, y, _, _ => by simp [stps]
  | n + 1, y, hn, h => by
    have e : y <<< (n + 1) = (y <<< n) <<< 1 := by rw [← BitVec.shiftLeft_add]
    simp only [stps]
    rw [e, step_low]
    · exact steps_low n y (by omega) (fun i hi => h i (by omega))
    · rw [BitVec.getLsbD_shiftLeft, h (31 - n) (by omega)]; simp
theorem parts (x : B) : x = (x &&& 255#32) ^^^ ((x >>> 8) <<< 8) := by
  apply BitVec.eq_of_getLsbD_eq; intro i hi
  rw [BitVec.getLsbD_xor, BitVec.getLsbD_and, BitVec.getLsbD_shiftLeft, BitVec.getLsbD_ushiftRight]
  have h255 : (255#32).getLsbD i = decide (i < 8) := by
    have : ∀ i : Fin 32, (255#32).getLsbD i.val = decide (i.val < 8) := by decide
    exact this ⟨i, hi⟩
  rw [h255]
  by_cases e : i < 8
  · simp [e, hi]
  · have : 8 + (i - 8) = i := by omega
    simp [e, hi, this]
/-- The table's way comes to eight steps. -/
theorem table_step (x c : B) : (x >>> 8) ^^^ stps 8 ((x &&& 255#32) ^^^ c) = stps 8 (x ^^^ c) := by
  have e : stps 8 ((x >>> 8) <<< 8) = x >>> 8 := steps_low 8 _ (by omega) (fun i hi => by
    rw [BitVec.getLsbD_ushiftRight]; exact BitVec.getLsbD_of_ge _ _ (by omega))
  have : x ^^^ c = ((x >>> 8) <<< 8) ^^^ ((x &&& 255#32) ^^^ c) := by
    rw [← BitVec.xor_assoc, BitVec.xor_comm ((x >>> 8) <<< 8), ← parts]
  rw [this, steps_xor 8 ((x >>> 8) <<< 8), e]

/-- All bytes, one behind the other. -/
def run (l : List B) (x : B) : B := l.foldl (fun x c => stps 8 (x ^^^ c)) x
theorem run_xor : ∀ (l : List B) (x v : B), run l (x ^^^ v) = run l x ^^^ stps (8 * l.length) v
  | [], x, v => by simp [run, stps]
  | c :: l, x, v => by
    have e : (x ^^^ v) ^^^ c = (x ^^^ c) ^^^ v := by rw [BitVec.xor_assoc, BitVec.xor_comm v, ← BitVec.xor_assoc]
    show run l (stps 8 ((x ^^^ v) ^^^ c)) = run l (stps 8 (x ^^^ c)) ^^^ _
    rw [e, steps_xor, run_xor l, ← steps_add, List.length_cons]
    congr 2; omega

/-! ### products -/
/-- The loop of a product: the bits of 'a' below m, from the highest on. -/
def tm (a : B) : Nat → B → B → B
  | 0, acc, _ => acc
  | m + 1, acc, b => tm a m (if a.getLsbD m then acc ^^^ b else acc) (stp b)
def mul (a b : B) : B := tm a 32 0#32 b
theorem tm_xor (a : B) : ∀ (m : Nat) (p q b c : B), tm a m (p ^^^ q) (b ^^^ c) = tm a m p b ^^^ tm a m q c
  | 0, _, _, _, _ => rfl
  | m + 1, p, q, b, c => by
    simp only [tm]
    rw [step_xor]
    cases a.getLsbD m
    · simp only [Bool.false_eq_true, if_false]; exact tm_xor a m p q _ _
    · simp only [if_true]; rw [xor_swap]; exact tm_xor a m _ _ _ _
theorem tm_step (a : B) : ∀ (m : Nat) (p b : B), stp (tm a m p b) = tm a m (stp p) (stp b)
  | 0, _, _ => rfl
  | m + 1, p, b => by
    simp only [tm]
    rw [tm_step a m]
    cases a.getLsbD m
    · rfl
    · simp only [if_true]; rw [step_xor]
theorem mul_xor (a b c : B) : mul a (b ^^^ c) = mul a b ^^^ mul a c := by
  have := tm_xor a 32 0#32 0#32 b c
  rwa [BitVec.xor_self] at this
theorem mul_step (a b : B) : stp (mul a b) = mul a (stp b) := by
  have := tm_step a 32 0#32 b
  rwa [step_zero] at this
theorem mul_steps (a : B) : ∀ (n : Nat) (b : B), stps n (mul a b) = mul a (stps n b)
  | 0, _ => rfl
  | n + 1, b => by simp only [stps]; rw [mul_step, mul_steps a n]
theorem mul_tm (a b : B) : ∀ (m : Nat) (p c : B), mul a (tm b m p c) = tm b m (mul a p) (mul a c)
  | 0, _, _ => rfl
  | m + 1, p, c => by
    simp only [tm]
    rw [mul_tm a b m, ← mul_step]
    cases b.getLsbD m
    · rfl
    · simp only [if_true]; rw [mul_xor]
theorem tm_zero (a : B) : ∀ m, tm a m 0#32 0#32 = 0#32
  | 0 => rfl
  | m + 1 => by simp only [tm]; rw [step_zero]; simp [tm_zero a m]
theorem mul_comm' (a b c : B) : mul a (mul b c) = mul b (mul a c) := by
  have h := mul_tm a b 32 0#32 c
  rwa [show mul a 0#32 = 0#32 from tm_zero a 32] at h
/-- The power nought. -/
def one : B := 2147483648#32
theorem tm_one (a : B) : ∀ (m : Nat), m ≤ 32 → 0 < m → ∀ i, i < 32 → (tm a m 0#32 (BitVec.twoPow 32 (m - 1))).getLsbD i = (decide (i < m) && a.getLsbD i)
  | 0, _, h, _, _ => absurd h (by omega)
  | 1, _, _, i, hi => by
    simp only [tm]
    by_cases e : i = 0
    · subst e
      cases h : a.getLsbD 0 <;> simp [BitVec.getLsbD_twoPow]
    · cases a.getLsbD 0 <;> simp [BitVec.getLsbD_twoPow, show ¬ 0 = i from fun h => e h.symm, e]
  | m + 2, hm, _, i, hi => by
    have hs : stp (BitVec.twoPow 32 (m + 1)) = BitVec.twoPow 32 m := by
      unfold stp
      rw [BitVec.getLsbD_twoPow]
      simp only [show decide (m + 1 = 0) = false by simp, Bool.and_false, Bool.false_eq_true, if_false]
      apply BitVec.eq_of_getLsbD_eq; intro j hj
      rw [BitVec.getLsbD_ushiftRight, BitVec.getLsbD_twoPow, BitVec.getLsbD_twoPow]
      have h1 : m + 1 < 32 := by omega
      have h2 : m < 32 := by omega
      simp only [h1, h2, decide_true, Bool.true_and]
      rw [decide_eq_decide]; omega
    have ih := tm_one a (m + 1) (by omega) (by omega) i hi
    have e : tm a (m + 2) 0#32 (BitVec.twoPow 32 (m + 2 - 1)) = (if a.getLsbD (m + 1) then BitVec.twoPow 32 (m + 1) else 0#32) ^^^ tm a (m + 1) 0#32 (BitVec.twoPow 32 (m + 1 - 1)) := by
      have h1 : m + 2 - 1 = m + 1 := rfl
      have h2 : m + 1 - 1 = m := rfl
      rw [h1, h2]
      show tm a (m + 1) (if a.getLsbD (m + 1) then 0#32 ^^^ BitVec.twoPow 32 (m + 1) else 0#32) (stp (BitVec.twoPow 32 (m + 1))) = _
      rw [hs, BitVec.zero_xor]
      have := tm_xor a (m + 1) (if a.getLsbD (m + 1) then BitVec.twoPow 32 (m + 1) else 0#32) 0#32 0#32 (BitVec.twoPow 32 m)
      rw [BitVec.xor_zero, BitVec.zero_xor] at this
      rw [this]
      congr 1
      have hz : ∀ (k : Nat) (p : B), tm a k p 0#32 = p := by
        intro k
        induction k with
        | zero => intro p; rfl
        | succ k ih => intro p; simp only [tm]; rw [step_zero, BitVec.xor_zero, ite_self]; exact ih p
      exact hz _ _
    rw [e, BitVec.getLsbD_xor, ih]
    by_cases hj : i = m + 1
    · subst hj
      have h1 : m + 1 < 32 := by omega
      cases h : a.getLsbD (m + 1) <;> simp [BitVec.getLsbD_twoPow, h1, h]
    · have h3 : (if a.getLsbD (m + 1) = true then BitVec.twoPow 32 (m + 1) else 0#32).getLsbD i = false := by
        split
        · rw [BitVec.getLsbD_twoPow]; simp; intro _ h; exact absurd h.symm hj
        · simp
      rw [h3, Bool.false_xor]
      congr 1
      rw [decide_eq_decide]; omega
theorem mul_one (a : B) : mul a one = a := by
  apply BitVec.eq_of_getLsbD_eq; intro i hi
  have h := tm_one a 32 (by omega) (by omega) i hi
  have e : BitVec.twoPow 32 (32 - 1) = one := by decide
  rw [e] at h
  show (tm a 32 0#32 one).getLsbD i = _
  rw [h]; simp [hi]
/-- Powers of the step make up a product. -/
theorem mul_pow (p q : Nat) : mul (stps p one) (stps q one) = stps (p + q) one := by
  rw [← mul_steps, mul_one, steps_add]
theorem mul_any (n : Nat) (x : B) : mul (stps n one) x = stps n x := by
  have h : mul (stps n one) (mul x one) = mul x (mul (stps n one) one) := mul_comm' _ _ _
  rw [mul_one, mul_one, ← mul_steps, mul_one] at h
  exact h
end Go.Proofs.Ytelniipccmeooaa.CrcAlg
