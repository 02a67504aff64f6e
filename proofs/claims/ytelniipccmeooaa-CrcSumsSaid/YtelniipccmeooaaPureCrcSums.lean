/- The sum of any bytes, of any bytes behind others, and of two rows of bytes, by both sums: the printed functions of the program and of the reference answer alike. -/
import Derived.Test.YtelniipccmeooaaPCrcSumsx1
import Derived.Test.YtelniipccmeooaaCrcAlg
set_option linter.unusedVariables false
set_option linter.unusedSimpArgs false
namespace Go.Proofs.Ytelniipccmeooaa.Pure
open Go.RowKit Go.Proofs.Ytelniipccmeooaa.PCrcSums Go.Proofs.YtelniipccmeooaaW.PrintWords Go.Proofs.YtelniipccmeooaaW.PrintLast Go.Proofs.YtelniipccmeooaaW.PrintMore Go.Proofs.Ytelniipccmeooaa.Base Go.Proofs.Ytelniipccmeooaa.CrcAlg

/-- A row of 32 bits, as a number. -/
def T (x : B) : Int := (x.toNat : Int)
theorem T_bd (x : B) : 0 ≤ T x ∧ T x < 4294967296 := by unfold T; have := x.isLt; omega
theorem T_of {a : Int} (h0 : 0 ≤ a) (h1 : a < 4294967296) : a = T (BitVec.ofNat 32 a.toNat) := by
  unfold T
  rw [BitVec.toNat_ofNat, Nat.mod_eq_of_lt (by omega)]; omega
theorem bits_xor_nat (k : IntKind) (hk : ∀ n : Int, 0 ≤ n → n < 2 ^ k.bits → k.wrap n = n) (a b : Nat) (ha : a < 2 ^ k.bits) (hb : b < 2 ^ k.bits) : Go.bits .xor k a b = ((a ^^^ b : Nat) : Int) := by
  simp only [Go.bits, BitVec.ofInt_natCast, BitVec.toNat_xor, BitVec.toNat_ofNat, Nat.mod_eq_of_lt ha, Nat.mod_eq_of_lt hb]
  exact hk _ (Int.natCast_nonneg _) (by exact_mod_cast Nat.xor_lt_two_pow ha hb)
theorem wraps_u32 (n : Int) (h₀ : 0 ≤ n) (h₁ : n < 2 ^ 32) : IntKind.u32.wrap n = n := by rw [IntKind.wrap_u32]; omega
theorem wraps_u64 (n : Int) (h₀ : 0 ≤ n) (h₁ : n < 2 ^ 64) : IntKind.u64.wrap n = n := by rw [IntKind.wrap_u64]; omega
theorem wraps_i63 (n : Int) (h₀ : 0 ≤ n) (h₁ : n < 2 ^ 63) : IntKind.i64.wrap n = n := by rw [IntKind.wrap_i64]; omega
theorem wraps_u8' (n : Int) (h₀ : 0 ≤ n) (h₁ : n < 2 ^ 8) : IntKind.u8.wrap n = n := by rw [IntKind.wrap_u8]; omega
theorem xor32 (x y : B) : Go.bits .xor .u32 (T x) (T y) = T (x ^^^ y) := by
  unfold T; rw [BitVec.toNat_xor]; exact bits_xor_nat .u32 wraps_u32 _ _ x.isLt y.isLt
theorem xor64 (x y : B) : Go.bits .xor .u64 (T x) (T y) = T (x ^^^ y) := by
  unfold T; rw [BitVec.toNat_xor]
  exact bits_xor_nat .u64 wraps_u64 _ _ (Nat.lt_of_lt_of_le x.isLt (by decide)) (Nat.lt_of_lt_of_le y.isLt (by decide))
theorem and1_u32 (x : Int) (h0 : 0 ≤ x) (h1 : x < 4294967296) : Go.bits .and .u32 x 1 = x % 2 := by
  have := bits_mask .u32 32 (by decide) wraps_u32 1 (by decide) x h0 (by omega)
  simpa using this
theorem and1_i64 (x : Int) (h0 : 0 ≤ x) (h1 : x ≤ 9223372036854775807) : Go.bits .and .i64 x 1 = x % 2 := by
  have := bits_mask .i64 63 (by decide) wraps_i63 1 (by decide) x h0 (by omega)
  simpa using this
theorem low (x : B) : T x % (2 : Int) = 1 ↔ x.getLsbD 0 = true := by
  unfold T
  rw [BitVec.getLsbD, Nat.testBit_zero, decide_eq_true_eq]; omega
theorem div_pow (x : B) (n : Nat) : T x / (2 : Int) ^ n = T (x >>> n) := by
  unfold T
  rw [BitVec.toNat_ushiftRight, Nat.shiftRight_eq_div_pow]; norm_cast
theorem div2 (x : B) : T x / (2 : Int) = T (x >>> 1) := div_pow x 1
theorem div256 (x : B) : T x / (256 : Int) = T (x >>> 8) := div_pow x 8
theorem mod256 (x : B) : T x % (256 : Int) = T (x &&& 255#32) := by
  unfold T
  rw [BitVec.toNat_and]
  have : (255#32).toNat = 2 ^ 8 - 1 := by decide
  rw [this, Nat.and_two_pow_sub_one_eq_mod]
  show _ = ((x.toNat % 256 : Nat) : Int)
  omega
theorem T_poly : (3988292384 : Int) = T poly := by decide +kernel

theorem step_T (x : B) : crc_step (T x) = T (stp x) := by
  unfold crc_step stp
  have hb := T_bd x
  rw [and1_u32 _ hb.1 hb.2, div2]
  by_cases h : x.getLsbD 0 = true
  · rw [if_pos (by rw [beq_iff_eq]; exact (low x).2 h), if_pos h, T_poly, xor32]
  · rw [if_neg (by rw [beq_iff_eq]; exact fun e => h ((low x).1 e)), if_neg h]
theorem steps_T : ∀ (n : Nat) (x : B), crc_steps n (T x) = T (stps n x)
  | 0, _ => rfl
  | n + 1, x => by simp only [crc_steps, stps]; rw [step_T, steps_T n]
theorem entry_T (i : Nat) (h : i < 4294967296) : crc_entry i = T (stps 8 (BitVec.ofNat 32 i)) := by
  unfold crc_entry
  have : (i : Int) = T (BitVec.ofNat 32 i) := by have := T_of (a := (i : Int)) (by omega) (by omega); simpa using this
  rw [this, steps_T]
/-- A byte, as a row of bits. -/
def byte (c : Int) : B := BitVec.ofNat 32 c.toNat
theorem T_byte {c : Int} (h0 : 0 ≤ c) (h1 : c ≤ 255) : T (byte c) = c := (T_of h0 (by omega)).symm
theorem next_T (x : B) (c : Int) (h0 : 0 ≤ c) (h1 : c ≤ 255) : crc_next (T x) c = T (stps 8 (x ^^^ byte c)) := by
  unfold crc_next
  have e8 : Go.bits .xor .u8 (T x % 256) c = T ((x &&& 255#32) ^^^ byte c) := by
    have h2 : (T x % 256) = (((x &&& 255#32).toNat : Nat) : Int) := mod256 x
    have h3 : c = ((byte c).toNat : Int) := (T_byte h0 h1).symm
    have h4 : (x &&& 255#32).toNat < 2 ^ 8 := by have := mod256 x; unfold T at this; omega
    have h5 : (byte c).toNat < 2 ^ 8 := by omega
    rw [h2]
    conv => lhs; rw [h3]
    unfold T; rw [BitVec.toNat_xor]
    exact bits_xor_nat .u8 wraps_u8' _ _ h4 h5
  have hlt : ((T ((x &&& 255#32) ^^^ byte c)).toNat) < 4294967296 := by have := T_bd ((x &&& 255#32) ^^^ byte c); omega
  rw [e8, entry_T _ hlt, div256, xor32]
  have : BitVec.ofNat 32 (T ((x &&& 255#32) ^^^ byte c)).toNat = (x &&& 255#32) ^^^ byte c := by
    unfold T; simp
  rw [this, table_step]
theorem not_T (x : B) : crc_not (T x) = T (~~~x) := by
  unfold crc_not
  have : IntKind.u32.max = T (BitVec.allOnes 32) := by decide
  rw [this, xor32, BitVec.allOnes_xor]
theorem not_sub (x : B) : 4294967295 - T x = T (~~~x) := by
  unfold T; rw [BitVec.toNat_not]; have := x.isLt; omega

theorem foldl_T : ∀ (l : List Int) (x : B), (∀ c ∈ l, 0 ≤ c ∧ c ≤ 255) → l.foldl crc_next (T x) = T (run (l.map byte) x)
  | [], _, _ => rfl
  | c :: l, x, h => by
    have hc := h c (by simp)
    simp only [List.foldl_cons, List.map_cons, run]
    rw [next_T x c hc.1 hc.2]
    exact foldl_T l _ (fun d hd => h d (by simp [hd]))
theorem more_T (s : B) (l : List Int) (h : ∀ c ∈ l, 0 ≤ c ∧ c ≤ 255) : crc_More.f (T s) l = some (T (~~~(run (l.map byte) (~~~s)))) := by
  unfold crc_More.f
  rw [not_T, foldl_T l _ h, not_T]

theorem ref_l1 (l : List Int) (i : Int) (r : Int) : ∀ (d : Nat) (j : Nat) (x : B), j + d = 8 → Ev (fun k => oakumref32_More.l0 k l (T (stps d x)) (wrap64 (i + 1))) r → Ev (fun k => oakumref32_More.l1 k l (T x) i j) r := by
  intro d
  induction d with
  | zero =>
    intro j x hj h
    exact Ev.step (fun k => by simp only [oakumref32_More.l1]; rw [if_neg (by omega)]; rfl) h
  | succ d ih =>
    intro j x hj h
    have hb := T_bd x
    have e1 : Int.tmod (T x) 2 = T x % 2 := Int.tmod_eq_emod_of_nonneg hb.1
    have e2 : IntKind.u64.wrap (Int.tdiv (T x) 2) = T (x >>> 1) := by
      rw [Int.tdiv_eq_ediv_of_nonneg hb.1, div2]; have := T_bd (x >>> 1); exact wraps_u64 _ this.1 (by omega)
    have ew : wrap64 ((j : Int) + 1) = ((j + 1 : Nat) : Int) := by rw [wrap64_id (by omega) (by omega)]; omega
    by_cases hl : x.getLsbD 0 = true
    · have es : stp x = (x >>> 1) ^^^ poly := by unfold stp; rw [if_pos hl]
      refine Ev.step (fun k => by
        simp only [oakumref32_More.l1]; rw [if_pos (by omega), e1, if_pos ((low x).2 hl), e2, T_poly, xor64, ← es, ew]) (ih (j + 1) (stp x) (by omega) ?_)
      exact h
    · have es : stp x = (x >>> 1) := by unfold stp; rw [if_neg hl]
      refine Ev.step (fun k => by
        simp only [oakumref32_More.l1]; rw [if_pos (by omega), e1, if_neg (fun e => hl ((low x).1 e)), e2, ← es, ew]) (ih (j + 1) (stp x) (by omega) ?_)
      exact h
theorem ref_l0 (l : List Int) (hl : l.length ≤ 140737488351232) (h : ∀ c ∈ l, 0 ≤ c ∧ c ≤ 255) : ∀ (d : Nat) (i : Nat) (x : B), i + d = l.length → Ev (fun k => oakumref32_More.l0 k l (T x) i) (T (~~~(run ((l.drop i).map byte) x))) := by
  intro d
  induction d with
  | zero =>
    intro i x hi
    have : l.drop i = [] := List.drop_eq_nil_of_le (by omega)
    rw [this]
    have hn := T_bd (~~~x)
    refine Ev.step (f := fun _ => some (T (~~~x))) (fun k => by
      simp only [oakumref32_More.l0]; rw [if_neg (by omega), not_sub, wraps_u64 _ hn.1 (by omega)]; congr 1; omega) (Ev.now _)
  | succ d ih =>
    intro i x hi
    have hlt : i < l.length := by omega
    have e : rd l (i : Int) = l[i] := by simp [rd, List.getD_eq_getElem?_getD, List.getElem?_eq_getElem hlt]
    have hc := h l[i] (List.getElem_mem hlt)
    have ew : wrap64 ((i : Int) + 1) = ((i + 1 : Nat) : Int) := by rw [wrap64_id (by omega) (by omega)]; omega
    have hbt : IntKind.u64.wrap (rd l (i : Int)) = T (byte l[i]) := by rw [e, wraps_u64 l[i] hc.1 (by omega), T_byte hc.1 hc.2]
    rw [List.drop_eq_getElem_cons hlt, List.map_cons]
    refine Ev.step (fun k => by
      simp only [oakumref32_More.l0]; rw [if_pos (by omega), if_pos (by omega), hbt, xor64]; rfl) (ref_l1 l i _ 8 0 (x ^^^ byte l[i]) rfl ?_)
    rw [ew]
    exact ih (i + 1) (stps 8 (x ^^^ byte l[i])) (by omega)
theorem ref_T (s : B) (l : List Int) (hl : l.length ≤ 140737488351232) (h : ∀ c ∈ l, 0 ≤ c ∧ c ≤ 255) : Ev (fun k => oakumref32_More.f k (T s) l) (T (~~~(run (l.map byte) (~~~s)))) := by
  have hb := T_bd s
  have hn := T_bd (~~~s)
  have := ref_l0 l hl h l.length 0 (~~~s) (by omega)
  refine Ev.congr (fun k => ?_) this
  unfold oakumref32_More.f
  rw [wraps_u64 (T s) hb.1 (by omega), not_sub, wraps_u64 _ hn.1 (by omega)]; rfl

theorem times_l0 (a : B) : ∀ (m : Nat) (b acc : B), m ≤ 32 → Ev (fun k => crc_times.l0 k (T a) (T b) (T acc) ((m : Int) - 1)) (T (tm a m acc b)) := by
  intro m
  induction m with
  | zero =>
    intro b acc _
    exact Ev.step (f := fun _ => some (T acc)) (fun k => by simp only [crc_times.l0]; rw [if_neg (by omega)]) (Ev.now _)
  | succ m ih =>
    intro b acc hm
    have hb := T_bd b
    have em : (((m + 1 : Nat) : Int) - 1) = (m : Int) := by omega
    have ew : wrap64 ((m : Int) - 1) = (m : Int) - 1 := wrap64_id (by omega) (by omega)
    have hs : Go.bits .and .u32 (shr .u32 (T a) (m : Int)) 1 = T (a >>> m) % 2 := by
      have : shr .u32 (T a) (m : Int) = T (a >>> m) := by
        unfold shr
        rw [Int.toNat_natCast, Nat.min_eq_left (show m ≤ IntKind.u32.bits from by show m ≤ 32; omega), div_pow]
      have hb2 := T_bd (a >>> m)
      rw [this, and1_u32 _ hb2.1 hb2.2]
    have hbit : (a >>> m).getLsbD 0 = a.getLsbD m := by rw [BitVec.getLsbD_ushiftRight]; simp
    have hq : Go.bits .and .u32 (T b) 1 = T b % 2 := and1_u32 _ hb.1 hb.2
    have hr := ih (stp b) (if a.getLsbD m then acc ^^^ b else acc) (by omega)
    have e0 : ((m : Int) ≥ 0) := by omega
    rw [em]
    show Ev _ (T (tm a m (if a.getLsbD m then acc ^^^ b else acc) (stp b)))
    refine Ev.step (fun k => ?_) hr
    simp only [crc_times.l0]
    rw [if_pos e0, if_pos (by omega), hs, hq, ew, xor32, T_poly, div2, xor32]
    by_cases h1 : a.getLsbD m = true
    · rw [if_pos ((low _).2 (hbit.trans h1)), if_pos h1]
      by_cases h2 : b.getLsbD 0 = true
      · rw [if_pos ((low b).2 h2)]; unfold stp; rw [if_pos h2]
      · rw [if_neg (fun e => h2 ((low b).1 e))]; unfold stp; rw [if_neg h2]
    · rw [if_neg (fun e => h1 (hbit.symm.trans ((low _).1 e))), if_neg h1]
      by_cases h2 : b.getLsbD 0 = true
      · rw [if_pos ((low b).2 h2)]; unfold stp; rw [if_pos h2]
      · rw [if_neg (fun e => h2 ((low b).1 e))]; unfold stp; rw [if_neg h2]
theorem times_T (a b : B) : Ev (fun k => crc_times.f k (T a) (T b)) (T (mul a b)) := times_l0 a 32 b 0#32 (by omega)

theorem power_l0 : ∀ (n : Nat) (p q : Nat), n ≤ 9223372036854775807 → Ev (fun k => crc_power.l0 k (n : Int) (T (stps p one)) (T (stps q one))) (T (stps (p + n * q) one)) := by
  intro n
  induction n using Nat.strongRecOn with
  | ind n ih =>
    intro p q hn
    by_cases h0 : n = 0
    · subst h0
      have e : p + 0 * q = p := by omega
      rw [e]
      exact Ev.step (f := fun _ => some (T (stps p one))) (fun k => by simp only [crc_power.l0]; rw [if_neg (by omega)]) (Ev.now _)
    · have ha : Go.bits .and .i64 (n : Int) 1 = (n : Int) % 2 := and1_i64 _ (by omega) (by omega)
      have hd : (n : Int) / 2 = ((n / 2 : Nat) : Int) := by omega
      have t1 := times_T (stps p one) (stps q one)
      have t2 := times_T (stps q one) (stps q one)
      rw [mul_pow] at t1 t2
      by_cases ho : n % 2 = 1
      · have hr := ih (n / 2) (by omega) (p + q) (q + q) (by omega)
        have e : p + q + n / 2 * (q + q) = p + n * q := by
          have : n = n / 2 * 2 + 1 := by omega
          conv => rhs; rw [this]
          rw [Nat.add_mul, Nat.mul_assoc, Nat.one_mul]; have : 2 * q = q + q := by omega
          rw [this]; omega
        rw [e] at hr
        refine Ev.step (fun k => by simp only [crc_power.l0]; rw [if_pos (by omega), ha, if_pos (by omega), hd]) ?_
        exact Ev.bind (g := fun k => crc_times.f k (T (stps p one)) (T (stps q one))) t1 (Ev.bind (g := fun k => crc_times.f k (T (stps q one)) (T (stps q one))) t2 hr)
      · have hr := ih (n / 2) (by omega) p (q + q) (by omega)
        have e : p + n / 2 * (q + q) = p + n * q := by
          have : n = n / 2 * 2 := by omega
          conv => rhs; rw [this]
          rw [Nat.mul_assoc]; have : 2 * q = q + q := by omega
          rw [this]
        rw [e] at hr
        refine Ev.step (fun k => by simp only [crc_power.l0]; rw [if_pos (by omega), ha, if_neg (by omega), hd]) ?_
        exact Ev.bind (g := fun k => crc_times.f k (T (stps q one)) (T (stps q one))) t2 hr
theorem T_one : (2147483648 : Int) = T (stps 0 one) := by decide +kernel
theorem T_eight : (8388608 : Int) = T (stps 8 one) := by decide +kernel
theorem power_T (n : Nat) (hn : n ≤ 9223372036854775807) : Ev (fun k => crc_power.f k (n : Int)) (T (stps (8 * n) one)) := by
  have := power_l0 n 0 8 hn
  rw [Nat.zero_add, Nat.mul_comm n 8] at this
  refine Ev.congr (fun k => ?_) this
  unfold crc_power.f; rw [T_one, T_eight]
theorem power_neg : Ev (fun k => crc_power.f k (-1)) (T one) :=
  Ev.step (f := fun _ => some (T one)) (fun k => by
    show crc_power.l0 (k + 1) (-1) 2147483648 8388608 = _
    simp only [crc_power.l0]; rw [if_neg (by omega)]; rfl) (Ev.now _)
theorem both_T (x y : B) (n : Nat) (hn : n ≤ 9223372036854775807) : Ev (fun k => crc_Both.f k (T x) (T y) (n : Int)) (T (stps (8 * n) x ^^^ y)) := by
  have h := times_T (stps (8 * n) one) x
  rw [mul_any] at h
  refine Ev.bind (g := fun k => crc_power.f k (n : Int)) (power_T n hn) (Ev.bind (g := fun k => crc_times.f k (T (stps (8 * n) one)) (T x)) h ?_)
  simp only [xor32]; exact Ev.now _
theorem both_neg (x : B) : Ev (fun k => crc_Both.f k (T x) 0 (-1)) (T x) := by
  have h := times_T one x
  rw [show mul one x = x from mul_any 0 x] at h
  refine Ev.bind (g := fun k => crc_power.f k (-1)) power_neg (Ev.bind (g := fun k => crc_times.f k (T one) (T x)) h ?_)
  have e : Go.bits .xor .u32 (T x) 0 = T x := by
    have : (0 : Int) = T 0#32 := by decide
    rw [this, xor32, BitVec.xor_zero]
  simp only [e]; exact Ev.now _

theorem alive : oakumlaw32_alive.f = some true := by decide +kernel

theorem not_run (l : List B) (x : B) : ~~~(run l (~~~x)) = stps (8 * l.length) x ^^^ ~~~(run l (~~~0#32)) := by
  have hn : ∀ a : B, ~~~a = BitVec.allOnes 32 ^^^ a := fun a => (BitVec.allOnes_xor).symm
  have e : ~~~x = ~~~(0#32) ^^^ x := by
    rw [hn x, hn 0#32, BitVec.xor_zero]
  rw [e, run_xor, hn (_ ^^^ _), hn (run l _), ← BitVec.xor_assoc, BitVec.xor_comm]

theorem CrcSums : oakumlaw32_CrcSums.Pure := by
  intro l0 l1 s hm0 hl0 hw0 hm1 hl1 hw1 hs
  have h0 : ∀ c ∈ l0, 0 ≤ c ∧ c ≤ 255 := fun c hc => wf_u8 (hw0 c hc)
  have h1 : ∀ c ∈ l1, 0 ≤ c ∧ c ≤ 255 := fun c hc => wf_u8 (hw1 c hc)
  have hs' := wf_u32 hs
  obtain ⟨σ, rfl⟩ : ∃ x : B, s = T x := ⟨_, T_of hs'.1 (by omega)⟩
  have z : (0 : Int) = T 0#32 := by decide
  have hr0 := ref_T 0#32 l0 (by omega) h0
  have hr1 := ref_T 0#32 l1 (by omega) h1
  have hrs := ref_T σ l1 (by omega) h1
  have hm0 := more_T 0#32 l0 h0
  have hms := more_T σ l1 h1
  generalize hx : ~~~(run (l0.map byte) (~~~0#32)) = X at hr0 hm0
  generalize hy : ~~~(run (l1.map byte) (~~~0#32)) = Y at hr1
  generalize hz : ~~~(run (l1.map byte) (~~~σ)) = Z at hrs hms
  have hrx := ref_T X l1 (by omega) h1
  have hmx := more_T X l1 h1
  have key : ~~~(run (l1.map byte) (~~~X)) = stps (8 * l1.length) X ^^^ Y := by
    have := not_run (l1.map byte) X
    rwa [List.length_map, hy] at this
  have hb := both_T X Y l1.length (by omega)
  rw [← key] at hb
  generalize ~~~(run (l1.map byte) (~~~X)) = V at hrx hmx hb
  have hn := both_neg σ
  clear key hx hy hz
  rw [← z] at hr0 hr1 hm0
  have hsum : crc_Sum.f l0 = some (T X) := by unfold crc_Sum.f; rw [hm0]; rfl
  refine Ev.rounds (r := true) ?_
  generalize T X = tx at *
  generalize T Y = ty at *
  generalize T Z = tz at *
  generalize T V = tv at *
  generalize T σ = ts at *
  by_cases hbig : wrap64 ((l0.length : Int) + (l1.length : Int)) > 4000
  · exact Ev.congr (f := fun _ => some true) (fun k => by unfold oakumlaw32_CrcSums.f; rw [alive, Option.bind_some, if_pos rfl, if_pos hbig]) (Ev.now _)
  · refine Ev.congr (fun k => by unfold oakumlaw32_CrcSums.f; rw [alive, Option.bind_some, if_pos rfl, if_neg hbig]) ?_
    refine Ev.bind (g := fun k => oakumref32_More.f k 0 l0) hr0 (Ev.bind (g := fun k => oakumref32_More.f k 0 l1) hr1 (Ev.bind (g := fun k => oakumref32_More.f k tx l1) hrx ?_))
    refine Ev.congr (fun k => by rw [hsum, Option.bind_some, if_pos rfl, hms, Option.bind_some]) ?_
    refine Ev.bind (g := fun k => oakumref32_More.f k ts l1) hrs ?_
    refine Ev.congr (fun k => by rw [if_pos rfl, hmx, Option.bind_some, if_pos rfl]) ?_
    refine Ev.bind (g := fun k => crc_Both.f k tx ty (l1.length : Int)) hb ?_
    refine Ev.congr (fun k => by rw [if_pos rfl]) ?_
    refine Ev.bind (g := fun k => crc_Both.f k ts 0 (-1)) hn ?_
    refine Ev.congr (f := fun _ => some true) (fun k => by rw [beq_self_eq_true]) (Ev.now _)
end Go.Proofs.Ytelniipccmeooaa.Pure
