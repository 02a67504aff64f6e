/- The functions of the Dec laws in plain words, part 4: the document's own reading of a time. -/
import Derived.Test.YtilbahgfjfcikaaDoorU04c
set_option linter.unusedVariables false
set_option linter.unusedSectionVars false
set_option linter.unusedSimpArgs false
namespace Go.Proofs.YtilbahgfjfcikaaDoor.Eng.U
open Go Go.Proofs Go.Proofs.YtilbahgfjfcikaaDoor.Eng Go.Proofs.YtilbahgfjfcikaaDoor.P04
variable {E : Ext} [Core E] {k n : Nat}

theorem byte46 (c : UInt8) : decide (((c.toNat : Nat) : Int) = (46 : Int)) = decide (c = 46) := byte_is c 46 (by omega)
theorem byte45 (c : UInt8) : decide (((c.toNat : Nat) : Int) = (45 : Int)) = decide (c = 45) := byte_is c 45 (by omega)
/-- The first point from a place on. -/
def dotAt (t : List UInt8) (i : Nat) : Nat := i + dot (t.drop i)
theorem dotAt_step (t : List UInt8) (i : Nat) (h : i < t.length) : dotAt t i = if t.getD i 0 = 46 then i else dotAt t (i + 1) := by
  unfold dotAt
  rw [List.drop_eq_getElem_cons h]
  have e : t.getD i 0 = t[i] := by simp [List.getD_eq_getElem?_getD, List.getElem?_eq_getElem h]
  rw [e]
  unfold dot
  rw [List.findIdx_cons]
  by_cases hc : t[i] = 46
  · rw [if_pos hc, hc]; rfl
  · rw [if_neg hc, beq_eq_false_iff_ne.2 hc, cond_false]; omega
theorem back_loop (kap : FuncId → List AV → Option AV) (t : List UInt8) (q : Bool) (ht : t.length < 100000000000) : ∀ (i k0 : Nat), i < k0 → i ≤ t.length → ref04_Time_L0 kap k k0 (str t) q (dotAt t i : Int) ((i : Int) - 1) 0 0 = ref04_Time_L0 kap k 1 (str t) q (dot t : Int) (-1) 0 0
  | 0, k0 + 1, _, _ => by
    have e : ((0 : Nat) : Int) - 1 = -1 := rfl
    have e' : dotAt t 0 = dot t := by simp [dotAt]
    rw [e, e', ref04_Time_L0_s, ref04_Time_L0_s kap k 0, bif_f (by omega), bif_f (by omega)]
  | i + 1, k0 + 1, h, hi => by
    have ih := back_loop kap t q ht i k0 (by omega) (by omega)
    rw [dotAt_step t i (by omega)] at ih
    have e : ((i + 1 : Nat) : Int) - 1 = (i : Int) := by omega
    rw [e, ref04_Time_L0_s, bif_t (by omega), str_size, bif_a, bif_t (by omega), bif_t (by omega), Int.toNat_natCast, str_byte, byte46, i64w (x := (i : Int) - 1) (by omega)]
    by_cases hc : t.getD i 0 = 46
    · rw [if_pos hc] at ih
      rw [decide_eq_true hc, cond_true, ih]
    · rw [if_neg hc] at ih
      rw [decide_eq_false hc, cond_false, ih]
theorem nano_step (b : List UInt8) (hb : b.length ≤ 9) (j : Nat) (hj : j < 9) : valA 0 ((b ++ List.replicate (9 - b.length) 48).take (j + 1)) = valA 0 ((b ++ List.replicate (9 - b.length) 48).take j) * 10 + (if j < b.length then (b.getD j 0).toNat - 48 else 0) := by
  have hl : (b ++ List.replicate (9 - b.length) (48 : UInt8)).length = 9 := by rw [List.length_append, List.length_replicate]; omega
  rw [List.take_succ_eq_append_getElem (by omega), valA_app]
  have e : ∀ (a : Nat) (c : UInt8), valA a [c] = a * 10 + (c.toNat - 48) := fun a c => rfl
  rw [e]
  congr 1
  by_cases h : j < b.length
  · rw [if_pos h, List.getElem_append_left h]
    simp [List.getD_eq_getElem?_getD, h]
  · rw [if_neg h, List.getElem_append_right (by omega), List.getElem_replicate]
    rfl
theorem nano_loop (kap : FuncId → List AV → Option AV) (q ok : Bool) (sec : Int) (b : List UInt8) (hb : b.length ≤ 9) (hd : digs b = true) : ∀ (r j k0 : Nat), r + j = 9 → r < k0 →
    ref04_Time_L1 kap k k0 q sec ok (valA 0 ((b ++ List.replicate (9 - b.length) 48).take j) : Int) (str b) (j : Int) 0 0 = ref04_Time_L1 kap k 1 q sec ok (valA 0 (b ++ List.replicate (9 - b.length) 48) : Int) (str b) 9 0 0
  | 0, j, k0 + 1, h, _ => by
    obtain rfl : j = 9 := by omega
    have hl : (b ++ List.replicate (9 - b.length) (48 : UInt8)).length = 9 := by rw [List.length_append, List.length_replicate]; omega
    rw [List.take_of_length_le (by omega)]
    have e : ((9 : Nat) : Int) = 9 := rfl
    rw [e, ref04_Time_L1_s, ref04_Time_L1_s kap k 0, bif_f (show ¬ (9 : Int) < 9 by omega), bif_f (show ¬ (9 : Int) < 9 by omega)]
  | r + 1, j, k0 + 1, h, hk => by
    have ih := nano_loop kap q ok sec b hb hd r (j + 1) k0 (by omega) (by omega)
    obtain ⟨q1, q2⟩ := nano_digs hd hb
    have hall := digs_all q1
    have hv : valA 0 ((b ++ List.replicate (9 - b.length) 48).take j) < 1000000000 := by
      have hlt := valA_lt ((b ++ List.replicate (9 - b.length) (48 : UInt8)).take j) 0 0 (List.all_eq_true.2 fun x hx => List.all_eq_true.1 hall x (List.mem_of_mem_take hx)) (by omega)
      have : 10 ^ (0 + ((b ++ List.replicate (9 - b.length) (48 : UInt8)).take j).length) ≤ 10 ^ 9 := Nat.pow_le_pow_right (by omega) (by rw [List.length_take]; omega)
      omega
    rw [nano_step b hb j (by omega)] at ih
    generalize valA 0 ((b ++ List.replicate (9 - b.length) 48).take j) = a at hv ih
    rw [ref04_Time_L1_s, bif_t (by omega), str_size, i64w (x := (10 : Int) * (a : Int)) (by omega), wrap1 (by omega)]
    by_cases hj : j < b.length
    · have hc : isDig (b.getD j 0) = true := by
        rw [List.getD_eq_getElem?_getD, List.getElem?_eq_getElem hj]
        exact List.all_eq_true.1 (digs_all hd) _ (List.getElem_mem hj)
      have hc := dig_iff.1 hc
      rw [if_pos hj] at ih
      rw [bif_t (by omega), bif_a, bif_t (by omega), bif_t (by omega), Int.toNat_natCast, str_byte, i64w (x := (((b.getD j 0).toNat : Nat) : Int)) (by omega), i64w (x := (10 : Int) * (a : Int) + (((b.getD j 0).toNat : Nat) : Int)) (by omega), i64w (x := (10 : Int) * (a : Int) + (((b.getD j 0).toNat : Nat) : Int) - 48) (by omega)]
      rw [← ih]
      congr 1
      omega
    · rw [if_neg hj] at ih
      rw [bif_f (by omega), ← ih]
      congr 1
      omega
def timeRV : Option (Int × Int) → AV
  | some (a, b) => .tup [.agg [.int .i64 a, .int .i64 b], .bool true]
  | none => .tup [.agg [.int .i64 0, .int .i64 0], .bool false]
def endT (q ok : Bool) (v w : Nat) : Option (Int × Int) :=
  if ok = false then none
  else if q = false then (if 9223372036854775807 < v then none else some ((v : Int), (w : Int)))
  else if w = 0 then some (-(v : Int), 0)
  else if 9223372036854775807 < v then none
  else some (-(v : Int) - 1, 1000000000 - (w : Int))
theorem nano_end (kap : FuncId → List AV → Option AV) (q ok : Bool) (v w : Nat) (s : ByteArray) (hv : v ≤ 9223372036854775808) (hw : w < 1000000000) : ref04_Time_L1 kap k 1 q (if ok then -(v : Int) else 0) ok (w : Int) s 9 0 0 = some (timeRV (endT q ok v w)) := by
  rw [ref04_Time_L1_s kap k 0, bif_f (show ¬ (9 : Int) < 9 by omega)]
  cases ok with
  | false => rfl
  | true =>
    simp only [if_true, Bool.not_true, Bool.not_false, cond_true, cond_false, endT, if_neg (show ¬ true = false by decide)]
    cases q with
    | false =>
      simp only [if_true, Bool.not_true, Bool.not_false, cond_true, cond_false]
      by_cases h : 9223372036854775807 < v
      · rw [bif_t (by omega), if_pos h]; rfl
      · rw [bif_f (by omega), if_neg h, i64w (by omega), show (0 : Int) - -(v : Int) = (v : Int) from by omega]; rfl
    | true =>
      simp only [if_true, Bool.not_true, Bool.not_false, cond_true, cond_false, if_neg (show ¬ true = false by decide)]
      by_cases h0 : w = 0
      · subst h0
        rw [if_pos rfl]
        by_cases h : 9223372036854775807 < v
        · rw [bif_t (by omega), bif_f (by omega), bif_t (by omega)]; rfl
        · rw [bif_f (by omega), bif_t (by omega)]; rfl
      · rw [if_neg h0]
        by_cases h : 9223372036854775807 < v
        · rw [bif_t (by omega), bif_t (by omega), if_pos h]; rfl
        · rw [bif_f (by omega), bif_f (by omega), if_neg h, i64w (x := -(v : Int) - 1) (by omega), i64w (by omega)]; rfl
theorem refBody (t : List UInt8) (q : Bool) (ht : t.length < 100000000000) (hk : t.length < k) (h9 : 10 < k) : ref04_Time_L0 (kp E k (n + 2)) k k (str t) q ((t.length : Nat) : Int) (((t.length : Nat) : Int) - 1) 0 0 = some (timeRV (timeB q t)) := by
  have e : dotAt t t.length = t.length := by simp [dotAt, dot]
  have hb := back_loop (k := k) (kp E k (n + 2)) t q ht t.length k hk (Nat.le_refl _)
  rw [e] at hb
  rw [hb, ref04_Time_L0_s]
  have hdl : dot t ≤ t.length := List.findIdx_le_length
  rw [bif_f (by omega), str_size, bif_a, bif_t (by omega), bif_t (by omega), Int.toNat_natCast, str_ext, List.drop_zero, below_k (n := n) (t.take (dot t)) (by rw [List.length_take]; omega) (by rw [List.length_take]; omega)]
  simp (disch := first | omega | (simp only [List.length_append, List.length_cons, List.length_nil, List.length_take, List.length_drop]; done) | (simp only [List.length_append, List.length_cons, List.length_nil, List.length_take, List.length_drop]; omega) | fail) only [bif_t, bif_f, bif_n, bif_a, callB_ok, callI_ok, callS_ok, callL_ok, callF_ok, callT_ok, tupB_ok, tupI_ok, tupS_ok, tupL_ok, tupF_ok, atNil_ok, wrap1, wrapM, wrapP, Int.toNat_natCast, svs_len, ivs_len, bvs_len, str_size, svs_mid, ivs_mid, str_dec, str_ext, str_byte, mid_byte, mid_cut, List.length_nil, List.length_singleton, svs_snoc, ivs_snoc, svs_take, svs_drop, str_app, List.take_length, List.drop_zero, List.nil_append, cond_true, cond_false, Option.bind_some, Bool.not_true, Bool.not_false, Bool.true_and, Bool.and_true]
  unfold timeB
  dsimp only
  have hv : natOk (t.take (dot t)) = true → valA 0 (t.take (dot t)) ≤ 9223372036854775808 := natOk_le
  generalize natOk (t.take (dot t)) = ok at hv
  generalize valA 0 (t.take (dot t)) = v at hv
  by_cases hp : dot t < t.length
  · rw [bif_t (by omega), bif_t (by omega)]
    have hbl : (t.drop (dot t + 1)).length ≤ t.length := by rw [List.length_drop]; omega
    generalize t.drop (dot t + 1) = b at hbl
    rw [only_k (n := n + 1) b (by omega) (by omega), callB_ok]
    cases hd : digs b with
    | false =>
      rw [cond_false]
      cases ok with
      | false => rfl
      | true => rw [if_neg (by simp), if_pos ⟨hp, by simp⟩]; rfl
    | true =>
      rw [cond_true]
      by_cases hl : b.length ≤ 9
      · obtain ⟨q1, q2⟩ := nano_digs hd hl
        obtain ⟨q3, q4⟩ := parseI_eq q1 (by omega)
        rw [bif_f (by omega)]
        have hn := nano_loop (k := k) (kp E k (n + 2)) q ok (if ok = true then -(v : Int) else 0) b hl hd 9 0 k rfl (by omega)
        rw [List.take_zero] at hn
        have e0 : ((valA 0 [] : Nat) : Int) = 0 := rfl
        have e1 : ((0 : Nat) : Int) = 0 := rfl
        rw [e0, e1] at hn
        rw [hn]
        generalize valA 0 (b ++ List.replicate (9 - b.length) 48) = w at q4
        cases ok with
        | false =>
          exact nano_end _ q false 0 w _ (by omega) q4
        | true =>
          rw [nano_end _ q true v w _ (hv rfl) q4]
          unfold endT
          have t1 : ¬ (true = false) := by decide
          have t2 : ¬ (dot t < t.length ∧ ¬ (true = true ∧ b.length ≤ 9)) := fun h => h.2 ⟨rfl, hl⟩
          rw [if_neg t1, if_neg t1, if_neg t2, if_pos hp]
      · rw [bif_t (by omega)]
        cases ok with
        | false => rfl
        | true => rw [if_neg (by simp), if_pos ⟨hp, fun h => hl h.2⟩]; rfl
  · rw [bif_f (by omega)]
    cases ok with
    | false => rfl
    | true =>
      have hv := hv rfl
      have t1 : ¬ (true = false) := by decide
      have t2 : ¬ (dot t < t.length ∧ ¬ (digs (t.drop (dot t + 1)) = true ∧ (t.drop (dot t + 1)).length ≤ 9)) := fun h => hp h.1
      have t3 : (if true = true then -(v : Int) else 0) = -(v : Int) := if_pos rfl
      rw [if_neg t1, if_neg t2, if_neg hp, t3]
      simp only [if_true, Bool.not_true, Bool.not_false, cond_true, cond_false]
      cases q with
      | false =>
        simp only [if_true, Bool.not_true, Bool.not_false, cond_true, cond_false]
        by_cases h : 9223372036854775807 < v
        · rw [bif_t (by omega), if_pos h]; rfl
        · rw [bif_f (by omega), if_neg h, i64w (by omega), show (0 : Int) - -(v : Int) = (v : Int) from by omega]; rfl
      | true =>
        simp only [if_true, Bool.not_true, Bool.not_false, cond_true, cond_false, if_neg (show ¬ true = false by decide)]
        by_cases h : 9223372036854775807 < v
        · rw [bif_t (by omega)]; rfl
        · rw [bif_f (by omega)]; rfl
theorem refTime_k (s : List UInt8) (hs : s.length < 100000000000) (hk : s.length < k) (h9 : 10 < k) : kp E k (n + 3) ref04_Time [.str (str s)] = some (timeRV (timeL s)) := by
  rw [ref04_Time_eq, str_size]
  unfold timeL
  cases s with
  | nil =>
    rw [bif_f (by simp), i64w (by simp)]
    exact refBody (n := n) [] false hs hk h9
  | cons c s =>
    have hl : (c :: s).length = s.length + 1 := rfl
    rw [bif_t (by omega), bif_t (by omega), str_byte, byte45]
    have hg : (c :: s).getD 0 0 = c := rfl
    rw [hg]
    by_cases hc : c = 45
    · subst hc
      have e : ByteArray.extract (str (45 :: s)) 1 (45 :: s).length = str s := ext_one 45 s
      rw [bif_t rfl, bif_t (by omega), e, str_size, i64w (by omega)]
      have := refBody (E := E) (k := k) (n := n) s true (by omega) (by omega) h9
      exact this
    · rw [bif_f hc, i64w (by omega), decide_eq_false hc]
      have := refBody (E := E) (k := k) (n := n) (c :: s) false hs hk h9
      rw [this]
      have hh : ¬ (c :: s).head? = some 45 := by simpa using hc
      rw [decide_eq_false hh, if_neg hh]
end Go.Proofs.YtilbahgfjfcikaaDoor.Eng.U
