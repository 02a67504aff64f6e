/- Several texts of this proof in one file: V00, U08d, V08, V08b. -/
import Derived.Test.YtogfcfgfkggmlaaGreatDoorMOverLays1
import Derived.Test.YtogfcfgfkggmlaaGreatDoorMOverLays0
/- How many bytes pairs have together; a pair that is right. -/
set_option linter.unusedVariables false
set_option linter.unusedSimpArgs false
namespace Go.Proofs.YtogfcfgfkggmlaaGreatDoor.Eng.U
open Go Go.Proofs Go.Proofs.YtogfcfgfkggmlaaGreatDoor.Eng

def sumP : List Pair → Nat
  | [] => 0
  | p :: l => p.key.length + p.val.length + sumP l
theorem sum_le : ∀ (l : List Pair), (∀ p ∈ l, G_apiPair p) → sumP l ≤ l.length * 300000000000000
  | [], _ => by simp [sumP]
  | p :: l, h => by
    have ih := sum_le l fun q hq => h q (.tail _ hq)
    have hp := h p (.head _)
    have h1 := hp.key
    have h2 := hp.val
    simp only [sumP, List.length_cons]
    omega
theorem sum_mem : ∀ (l : List Pair) (p : Pair), p ∈ l → p.key.length + p.val.length ≤ sumP l
  | q :: l, p, h => by
    simp only [sumP]
    rcases List.mem_cons.1 h with rfl | h
    · omega
    · have := sum_mem l p h; omega
theorem ok_pa : pairOk ⟨[112, 97, 116, 104], [97]⟩ = true := by kernel_rfl
end Go.Proofs.YtogfcfgfkggmlaaGreatDoor.Eng.U


/- What pairs say of a head: the whole, both sides; two heads that are the same. -/
set_option linter.unusedVariables false
set_option linter.unusedSectionVars false
set_option linter.unusedSimpArgs false
namespace Go.Proofs.YtogfcfgfkggmlaaGreatDoor.Eng.U
open Go Go.Proofs Go.Proofs.YtogfcfgfkggmlaaGreatDoor.Eng Go.Proofs.YtogfcfgfkggmlaaGreatDoor.P04
variable {E : Ext} [Core E] [HasNum E] {k n : Nat}

theorem overApply_k [HasTextV E] (h : Head) (l : List Pair) (hl : l.length ≤ 10000) (hp : ∀ p ∈ l, p.key.length ≤ 1000000 ∧ p.val.length ≤ 1000000) (hk : 1000000 < k) :
    kp E k (n + 7) over_Apply [.agg (encHead h), .list 2 (prs l)] = some (bif overOk l then .tup [.agg (encHead (applyL h l)), .int .u8 0] else .tup [.agg (encHead ⟨0, [], [], 0, 0, 0, 0, 0, 0, [], [], 0, 0, []⟩), .int .u8 15]) := by
  unfold encHead
  rw [over_Apply_eq, overRight_k (n := n) l (by omega) hp hk, callB_ok]
  cases ho : overOk l with
  | false => rfl
  | true =>
    rw [Bool.not_true, cond_false, prs_len]
    exact apply_loop (k := k) (kp E k (n + 6)) l (by omega) (fun s => known_k (n := n + 5) s) (fun h p hm hw => say_k (n := n + 2) h p (hp p hm).2 hk hw) 0 0 0 0 0 0 0 0 0 (str []) (str []) (str []) (str []) [] l [] { h with extra := [] } k (by omega) rfl (by simp; omega)
end Go.Proofs.YtogfcfgfkggmlaaGreatDoor.Eng.U


/- The laws of overlays in plain words. -/
set_option linter.unusedVariables false
set_option linter.unusedSectionVars false
set_option linter.unusedSimpArgs false
namespace Go.Proofs.YtogfcfgfkggmlaaGreatDoor.Eng.U
open Go Go.RowKit Go.Proofs Go.Proofs.YtogfcfgfkggmlaaGreatDoor.Eng Go.Proofs.YtogfcfgfkggmlaaGreatDoor.P04

theorem few8_loop {k : Nat} (kap : FuncId → List AV → Option AV) (suf : List Pair) : ∀ (pre : List Pair) (s k0 : Nat), suf.length < k0 → s + sumP suf ≤ 9223372036854775807 → (pre ++ suf).length ≤ 1000000000000000 →
    law08_few_L0 kap k k0 (prs (pre ++ suf)) ((s : Nat) : Int) ((pre.length : Nat) : Int) = some (.bool (decide ((pre ++ suf).length ≤ 40) && decide (s + sumP suf ≤ 3000))) := by
  induction suf with
  | nil =>
    intro pre s k0 h hs hb
    obtain ⟨m, rfl⟩ : ∃ m, k0 = m + 1 := ⟨k0 - 1, by simp only [List.length_nil] at h; omega⟩
    have e : decide (((s : Nat) : Int) ≤ 3000) = decide (s + sumP [] ≤ 3000) := by rw [decide_eq_decide]; simp only [sumP]; omega
    rw [law08_few_L0_s, prs_len, bif_f (by simp), e, List.append_nil]
    by_cases hl : pre.length ≤ 40
    · rw [bif_t (by omega), decide_eq_true hl, Bool.true_and]
    · rw [bif_f (by omega), decide_eq_false hl, Bool.false_and]
  | cons p suf ih =>
    intro pre s k0 h hs hb
    obtain ⟨m, rfl⟩ : ∃ m, k0 = m + 1 := ⟨k0 - 1, by simp only [List.length_cons] at h; omega⟩
    have h' : suf.length < m := by simp only [List.length_cons] at h; omega
    have hb' : pre.length + (suf.length + 1) ≤ 1000000000000000 := by simp only [List.length_append, List.length_cons] at hb; exact hb
    have hs' : s + (p.key.length + p.val.length + sumP suf) ≤ 9223372036854775807 := hs
    have hi := ih (pre ++ [p]) (s + p.key.length + p.val.length) m h' (by omega) (by simp only [List.length_append, List.length_cons, List.length_nil]; omega)
    rw [List.append_assoc, List.singleton_append, ← snoc_len, mid_len] at hi
    have e : decide (s + p.key.length + p.val.length + sumP suf ≤ 3000) = decide (s + sumP (p :: suf) ≤ 3000) := by rw [decide_eq_decide]; simp only [sumP]; omega
    rw [law08_few_L0_s, prs_len, mid_len, bif_t (by omega), bif_a, bif_t (by omega), bif_t (by omega), Int.toNat_natCast, prs_mid, cells_pair, p_0, bif_a, bif_t (by omega), bif_t (by omega), prs_mid, cells_pair, p_1, str_size, str_size, i64w (x := ((s : Nat) : Int) + ((p.key.length : Nat) : Int)) (by omega), i64w (x := ((s : Nat) : Int) + ((p.key.length : Nat) : Int) + ((p.val.length : Nat) : Int)) (by omega), i64w (by omega)]
    rw [← e, ← hi]
    congr 1
theorem few8_big (kap : FuncId → List AV → Option AV) {k : Nat} (l : List Pair) (hl : l.length ≤ 1000000000000000) (h40 : 40 < l.length) : ∀ (suf pre : List Pair) (s : Int) (k0 : Nat), suf.length < k0 → pre ++ suf = l →
    law08_few_L0 kap k k0 (prs l) s ((pre.length : Nat) : Int) = some (.bool false)
  | [], pre, s, k0 + 1, h, he => by
    rw [List.append_nil] at he
    subst he
    rw [law08_few_L0_s, prs_len, bif_f (by omega), bif_f (by omega)]
  | p :: suf, pre, s, k0 + 1, h, he => by
    have hp : pre.length < l.length := by rw [← he]; simp
    have hm : ∀ F : AV → Option AV, ((prs l)[pre.length]?).bind F = F (elPair p) := fun F => by rw [← he]; exact prs_mid pre suf p F
    rw [law08_few_L0_s, prs_len, bif_t (by omega), bif_a, bif_t (by omega), bif_t (by omega), Int.toNat_natCast, hm, cells_pair, p_0, bif_a, bif_t (by omega), bif_t (by omega), hm, cells_pair, p_1, wrap1 (by omega)]
    have ih := fun s => few8_big kap (k := k) l hl h40 suf (pre ++ [p]) s k0 (by simpa using h) (by rw [← he]; simp)
    rw [List.length_append, List.length_singleton] at ih
    exact ih _
def few8L (l : List Pair) : Bool := decide (l.length ≤ 40) && decide (sumP l ≤ 3000)
section
variable {E : Ext} [Core E] {k n : Nat}
theorem few8_k (l : List Pair) (g : G_LapiPair l) (hk : l.length < k) : kp E k (n + 1) law08_few [.list 2 (prs l)] = some (.bool (few8L l)) := by
  rw [law08_few_eq]
  have hl := g.1
  unfold few8L
  by_cases h40 : l.length ≤ 40
  · have hs := sum_le l g.2
    have := few8_loop (k := k) (kp E k n) l [] 0 k hk (by omega) (by simp; omega)
    rw [List.nil_append, Nat.zero_add] at this
    exact this
  · rw [decide_eq_false h40, Bool.false_and]
    exact few8_big (k := k) (kp E k n) l (by omega) (by omega) l [] 0 k hk rfl
theorem few8_facts {l : List Pair} (h : few8L l = true) : l.length ≤ 40 ∧ (∀ p ∈ l, p.key.length ≤ 3000 ∧ p.val.length ≤ 3000) ∧ True := by
  unfold few8L at h
  rw [Bool.and_eq_true, decide_eq_true_eq, decide_eq_true_eq] at h
  exact ⟨h.1, fun p hp => by have := sum_mem l p hp; omega, trivial⟩
end
def pathA : Pair := ⟨[112, 97, 116, 104], [97]⟩
theorem alive08 : kp ext08 10000000000000 25 law08_alive [] = some (.bool true) := by
  have ho : overOk [pathA] = true := by
    unfold overOk
    rw [List.all_cons, show pairOk pathA = true from ok_pa]
    rfl
  have hl : layAll ([pathA] ++ [⟨[112, 97, 116, 104], []⟩]) = [] := by decide
  have h1 := overApply_k (E := ext08) (k := 10000000000000) (n := 17) ⟨0, [98], [], 0, 0, 0, 0, 0, 0, [], [], 0, 0, []⟩ [pathA] (by simp) (by intro p hp; simp at hp; subst hp; decide) (by omega)
  rw [ho, cond_true] at h1
  have h2 := overLay_k (E := ext08) (k := 10000000000000) (n := 19) [pathA] [⟨[112, 97, 116, 104], []⟩] (by simp) (by simp) (by omega)
  rw [hl] at h2
  have h1' : kp ext08 10000000000000 24 over_Apply [(.agg [(.int .i64 (0 : Int)), (.str (str [98])), (.str (str [])), (.int .i64 (0 : Int)), (.int .i64 (0 : Int)), (.int .i64 (0 : Int)), (.int .i64 (0 : Int)), (.int .i64 (0 : Int)), (.int .i64 (0 : Int)), (.str (str [])), (.str (str [])), (.int .i64 (0 : Int)), (.int .i64 (0 : Int)), (.list 2 [])]), (.list 2 [(.agg [(.str (str [112, 97, 116, 104])), (.str (str [97]))])])] = _ := h1
  have h2' : kp ext08 10000000000000 24 over_Lay [(.list 2 [(.agg [(.str (str [112, 97, 116, 104])), (.str (str [97]))])]), (.list 2 [(.agg [(.str (str [112, 97, 116, 104])), (.str (str []))])])] = _ := h2
  rw [law08_alive_eq, h1', h2']
  rfl
end Go.Proofs.YtogfcfgfkggmlaaGreatDoor.Eng.U


/- The laws of overlays in plain words, part 2: OverLays, OverAgain. -/
set_option linter.unusedVariables false
set_option linter.unusedSectionVars false
set_option linter.unusedSimpArgs false
namespace Go.Proofs.YtogfcfgfkggmlaaGreatDoor.Eng.U
open Go Go.RowKit Go.Proofs Go.Proofs.YtogfcfgfkggmlaaGreatDoor.Eng Go.Proofs.YtogfcfgfkggmlaaGreatDoor.P04

section
variable {E : Ext} [Core E] {k n : Nat}
theorem sumP_app (a : List Pair) (p : Pair) : sumP (a ++ [p]) = sumP a + (p.key.length + p.val.length) := by
  induction a with
  | nil => simp [sumP]
  | cons q a ih => rw [List.cons_append]; simp only [sumP, ih]; omega
theorem bytes_loop (kap : FuncId → List AV → Option AV) (l : List Pair) (hl : l.length ≤ 1000000) (hs : sumP l ≤ 1000000000) : ∀ (suf pre : List Pair) (k0 : Nat), suf.length < k0 → pre ++ suf = l →
    over_Bytes_L0 kap k k0 ((sumP pre : Nat) : Int) (prs l) ((l.length : Nat) : Int) ((pre.length : Nat) : Int) = some (.int .i64 (sumP l : Nat))
  | [], pre, k0 + 1, h, he => by
    rw [List.append_nil] at he
    subst he
    rw [over_Bytes_L0_s, bif_f (by omega)]
  | p :: suf, pre, k0 + 1, h, he => by
    have hi : pre.length < l.length := by rw [← he]; simp
    have hm : ∀ F : AV → Option AV, ((prs l)[pre.length]?).bind F = F (elPair p) := fun F => by rw [← he]; exact prs_mid pre suf p F
    have hpm := sum_mem l p (by rw [← he]; simp)
    have hsp : sumP pre ≤ sumP l := by
      rw [← he]
      clear he hm hpm hi
      induction pre with
      | nil => simp [sumP]
      | cons q pre ih => rw [List.cons_append]; simp only [sumP]; omega
    have ih := bytes_loop kap l hl hs suf (pre ++ [p]) k0 (by simpa using h) (by rw [← he]; simp)
    rw [sumP_app, List.length_append, List.length_singleton] at ih
    rw [over_Bytes_L0_s, bif_t (by omega), prs_len, bif_a, bif_t (by omega), bif_t (by omega), Int.toNat_natCast, hm, cells_pair, p_0, p_1, str_size, str_size, wrapP (by omega) (by omega), wrapP (by omega) (by omega), wrap1 (by omega)]
    exact ih
theorem bytes_k (l : List Pair) (hl : l.length ≤ 1000000) (hs : sumP l ≤ 1000000000) (hk : l.length < k) : kp E k (n + 1) over_Bytes [.list 2 (prs l)] = some (.int .i64 (sumP l : Nat)) := by
  rw [over_Bytes_eq, prs_len]
  exact bytes_loop (k := k) (kp E k n) l hl hs l [] k hk rfl
theorem few8_sum {l : List Pair} (h : few8L l = true) : sumP l ≤ 3000 := by
  unfold few8L at h
  rw [Bool.and_eq_true, decide_eq_true_eq, decide_eq_true_eq] at h
  exact h.2
end
theorem lays_loop (l more : List Pair) (key : Tx) (fl : few8L l = true) (fm : few8L more = true) : ∀ (suf pre : List Pair) (v : Tx) (b : Bool) (k0 : Nat), suf.length < k0 → pre ++ suf = l → (match getL pre key with | some p => v = p.val ∧ b = true | none => v = [] ∧ b = false) →
    law08_OverLays_L0 (kp ext08 10000000000000 25) 10000000000000 k0 (prs l) (prs more) (str key) ((sumP pre : Nat) : Int) (str v) b ((pre.length : Nat) : Int) = some (.bool true)
  | [], pre, v, b, k0 + 1, h, he, hg => by
    rw [List.append_nil] at he
    subst he
    obtain ⟨f1, f2, f3⟩ := few8_facts fl
    obtain ⟨m1, m2, m3⟩ := few8_facts fm
    have hb : ∀ p ∈ pre, p.key.length ≤ 1000000 ∧ p.val.length ≤ 1000000 := fun p hp => by have := f2 p hp; omega
    have hlay := lay_both (pre ++ more) (pre ++ more).length (Nat.le_refl _)
    have hlen := lay_len (pre ++ more)
    have hgt := HasGet.get (E := ext08) 10000000000000 25 pre key (by omega)
    rw [law08_OverLays_L0_s, prs_len, bif_f (by omega), hgt]
    have ht : ∀ K : List AV → Option AV, callT (some (getAV (getL pre key))) K = K [.str (str v), .bool b] := fun K => by
      cases hq : getL pre key with
      | none => rw [hq] at hg; obtain ⟨rfl, rfl⟩ := hg; rfl
      | some p => rw [hq] at hg; obtain ⟨rfl, rfl⟩ := hg; rfl
    rw [ht, tupS_ok, tupB_ok, atNil_ok, overLay_k (E := ext08) (n := 20) pre more (by omega) (by omega) (by omega), callL_ok, refLay_k (E := ext08) (n := 23) pre more (by rw [List.length_append]; omega) (by rw [List.length_append]; omega), callL_ok, hlay,
      pSame_k (n := 24) _ _ (by rw [← hlay]; rw [List.length_append] at hlen; omega) (by rw [← hlay]; rw [List.length_append] at hlen; omega), callB_ok, decide_eq_true rfl, cond_true, overRight_k (E := ext08) (n := 19) pre (by omega) hb (by omega), callB_ok, refOver_k (E := ext08) (n := 20) pre (by omega) hb (by omega), callB_ok, beq_self_eq_true, cond_true,
      bytes_k (n := 24) pre (by omega) (by have := few8_sum fl; omega) (by omega), callI_ok, decide_eq_true rfl, cond_true, decide_eq_true rfl, cond_true, beq_self_eq_true]
  | p :: suf, pre, v, b, k0 + 1, h, he, hg => by
    obtain ⟨f1, f2, f3⟩ := few8_facts fl
    have hs := few8_sum fl
    have hi : pre.length < l.length := by rw [← he]; simp
    have hm : ∀ F : AV → Option AV, ((prs l)[pre.length]?).bind F = F (elPair p) := fun F => by rw [← he]; exact prs_mid pre suf p F
    have hpm := f2 p (by rw [← he]; simp)
    have hsp : sumP pre ≤ sumP l := by
      rw [← he]
      clear he hm hpm hi hg
      induction pre with
      | nil => simp [sumP]
      | cons q pre ih => rw [List.cons_append]; simp only [sumP]; omega
    have hga : getL (pre ++ [p]) key = (getL pre key).or (if p.key = key then some p else none) := by
      unfold getL
      rw [List.find?_append, List.find?_cons, List.find?_nil]
      by_cases e : p.key = key
      · rw [if_pos e, decide_eq_true e]
      · rw [if_neg e, decide_eq_false e]
    have ih := fun (v : Tx) (b : Bool) hg => lays_loop l more key fl fm suf (pre ++ [p]) v b k0 (by simpa using h) (by rw [← he]; simp) hg
    rw [sumP_app, List.length_append, List.length_singleton] at ih
    rw [law08_OverLays_L0_s, prs_len, bif_t (by omega), bif_a, bif_t (by omega), bif_t (by omega), Int.toNat_natCast, hm, cells_pair, p_0, bif_a, bif_t (by omega), bif_t (by omega), hm, cells_pair, p_1, bif_a, bif_t (by omega), bif_t (by omega), hm, cells_pair, p_0, str_size, str_size, wrapP (by omega) (by omega), wrapP (by omega) (by omega), wrap1 (by omega), str_dec]
    rw [hga] at ih
    by_cases e : p.key = key
    · rw [decide_eq_true e, cond_true]
      rw [if_pos e] at ih
      cases hq : getL pre key with
      | none =>
        rw [hq] at hg ih
        obtain ⟨rfl, rfl⟩ := hg
        rw [Bool.not_false, cond_true, bif_a, bif_t (by omega), bif_t (by omega), hm, cells_pair, p_1]
        exact ih p.val true ⟨rfl, rfl⟩
      | some q =>
        rw [hq] at hg ih
        obtain ⟨rfl, rfl⟩ := hg
        rw [Bool.not_true, cond_false]
        exact ih q.val true ⟨rfl, rfl⟩
    · rw [decide_eq_false e, cond_false]
      rw [if_neg e] at ih
      refine ih v b ?_
      cases hq : getL pre key with
      | none => rw [hq] at hg; exact hg
      | some q => rw [hq] at hg; exact hg
theorem lays08 (l more : List Pair) (key : Tx) (gl : G_LapiPair l) (gm : G_LapiPair more) (gk : key.length ≤ 140737488351232) : (bs ext08 10000000000000).kap 26 law08_OverLays [.list 2 (prs l), .list 2 (prs more), .str (str key)] = some (.bool true) := by
  have g1 := gl.1
  have g2 := gm.1
  change kp ext08 10000000000000 26 law08_OverLays [.list 2 (prs l), .list 2 (prs more), .str (str key)] = _
  rw [law08_OverLays_eq, alive08, callB_ok, Bool.not_true, cond_false, few8_k (n := 24) l gl (by omega), callB_ok]
  cases hf : few8L l with
  | false => rfl
  | true =>
    rw [Bool.not_true, cond_false, few8_k (n := 24) more gm (by omega), callB_ok]
    cases hf2 : few8L more with
    | false => rfl
    | true =>
      rw [Bool.not_true, cond_false]
      have := few8_facts hf
      exact lays_loop l more key hf hf2 l [] [] false 10000000000000 (by omega) rfl ⟨rfl, rfl⟩
end Go.Proofs.YtogfcfgfkggmlaaGreatDoor.Eng.U

