/- Several texts of this proof in one file: U08, U09d, U09g, U09h, U09i, U09j, V00, Q04b, V04b, U20, U20b, U20c, U20d, V09, U32, U32b, B09, X32, V32b. -/
import Derived.Test.YtkbedfjhchhikaaGreatDoorMCrcLists1
import Derived.Test.YtkbedfjhchhikaaGreatDoorMCrcLists0
import Derived.Lib.ItoaMem
/- Overlays: what both sides answer, in plain words. -/
set_option linter.unusedVariables false
set_option linter.unusedSectionVars false
set_option linter.unusedSimpArgs false
namespace Go.Proofs.YtkbedfjhchhikaaGreatDoor.Eng.U
open Go Go.Proofs Go.Proofs.YtkbedfjhchhikaaGreatDoor.Eng Go.Proofs.YtkbedfjhchhikaaGreatDoor.P04
variable {E : Ext} [Core E] [HasNum E] {k n : Nat}

theorem snoc_len (pre : List Pair) (p : Pair) : ((pre.length : Nat) : Int) + 1 = (((pre ++ [p]).length : Nat) : Int) := by simp
theorem str_tl (l : Tx) : ByteArray.toList (str l) = l := str_list l
theorem overRight_loop (kap : FuncId → List AV → Option AV) (hR : ∀ p : Pair, p.key.length ≤ 1000000 → p.val.length ≤ 1000000 → kap pax_Right [.agg [.str (str p.key), .str (str p.val)]] = some (.bool (pairOk p))) (suf : List Pair) :
    ∀ (pre : List Pair) (k0 : Nat), suf.length < k0 → (pre ++ suf).length < 1000000000 → (∀ p ∈ suf, p.key.length ≤ 1000000 ∧ p.val.length ≤ 1000000) →
    over_Right_L0 kap k k0 (prs (pre ++ suf)) (prs (pre ++ suf)) (((pre ++ suf).length : Nat) : Int) ((pre.length : Nat) : Int) = some (.bool (okSt (pre.getLast?.map (·.key)) suf && suf.all pairOk)) := by
  induction suf with
  | nil =>
    intro pre k0 h hb hs
    obtain ⟨m, rfl⟩ : ∃ m, k0 = m + 1 := ⟨k0 - 1, by simp only [List.length_nil] at h; omega⟩
    rw [over_Right_L0_s, bif_f (by simp)]
    rfl
  | cons p suf ih =>
    intro pre k0 h hb hs
    obtain ⟨m, rfl⟩ : ∃ m, k0 = m + 1 := ⟨k0 - 1, by simp only [List.length_cons] at h; omega⟩
    have h' : suf.length < m := by simp only [List.length_cons] at h; omega
    have hb' : pre.length + (suf.length + 1) < 1000000000 := by simp only [List.length_append, List.length_cons] at hb; exact hb
    obtain ⟨g1, g2⟩ := hs p (.head _)
    have ih' := ih (pre ++ [p]) m h' (by simp only [List.length_append, List.length_cons, List.length_nil]; omega) fun q hq => hs q (.tail _ hq)
    rw [List.append_assoc, List.singleton_append, ← snoc_len] at ih'
    rw [over_Right_L0_s, prs_len, mid_len, bif_t (by omega), bif_a, bif_t (by omega), bif_t (by omega), Int.toNat_natCast, prs_mid, cells_pair, p_0, p_1, hR p g1 g2, callB_ok, str_dec]
    rw [mid_len] at ih'
    simp only [okSt, List.all_cons]
    by_cases hv : p.val = []
    · rw [decide_eq_true hv, cond_true, decide_eq_false (by simp [hv])]
      simp
    rw [decide_eq_false hv, cond_false, decide_eq_true hv]
    cases hq : pairOk p with
    | false => simp
    | true =>
      rw [Bool.not_true, cond_false, i64w (by omega), i64w (by omega), ih', List.getLast?_append, List.getLast?_singleton]
      rcases snoc_pairs pre with rfl | ⟨l, q, rfl⟩
      · rw [bif_f (by simp)]
        simp [gtO]
      · have hl1 : (l ++ [q]).length = l.length + 1 := by simp
        rw [bif_t (by omega), bif_a, bif_t (by omega), bif_t (by omega)]
        have e : Int.toNat ((((l ++ [q]).length : Nat) : Int) - 1) = l.length := by simp
        rw [e, show l ++ [q] ++ p :: suf = l ++ q :: (p :: suf) by simp, prs_mid, cells_pair, p_0, str_tl, str_tl, List.getLast?_append, List.getLast?_singleton]
        show (bif !Op.bytesLess q.key p.key then _ else _) = some (AV.bool ((Op.bytesLess q.key p.key && true && okSt (some p.key) suf) && (true && suf.all pairOk)))
        cases Op.bytesLess q.key p.key <;> simp
def overOk (l : List Pair) : Bool := okSt none l && l.all pairOk
theorem overRight_k [HasTextV E] (l : List Pair) (hl : l.length ≤ 1000000) (hp : ∀ p ∈ l, p.key.length ≤ 1000000 ∧ p.val.length ≤ 1000000) (hk : 1000000 < k) : kp E k (n + 6) over_Right [.list 2 (prs l)] = some (.bool (overOk l)) := by
  have h := overRight_loop (k := k) (kp E k (n + 5)) (fun p h1 h2 => paxRight_k p h1 h2 hk) l [] k (by omega) (by simp; omega) hp
  rw [List.nil_append] at h
  rw [over_Right_eq, prs_len]
  exact h
theorem last_loop (kap : FuncId → List AV → Option AV) (l : List Pair) (key : Tx) (hl : l.length ≤ 1000000) : ∀ (i k0 : Nat), i < k0 → i ≤ l.length →
    ref08_Last_L0 kap k k0 (prs l) (str key) ((i : Int) - 1) = some (.tup [.str (str (lastL (l.take i) key)), .bool (decide (lastL (l.take i) key ≠ []))])
  | 0, k0 + 1, h, hi => by
    rw [ref08_Last_L0_s, bif_f (by omega)]
    rfl
  | i + 1, k0 + 1, h, hi => by
    have hlt : i < l.length := by omega
    have e : Int.toNat (((i + 1 : Nat) : Int) - 1) = i := by omega
    have et : l.take (i + 1) = l.take i ++ [l[i]] := by rw [List.take_succ_eq_append_getElem hlt]
    rw [ref08_Last_L0_s, prs_len, e, bif_t (by omega), bif_a, bif_t (by omega), bif_t (by omega), prs_at l i hlt, cells_pair, p_0, str_dec, et, last_app]
    by_cases hk : (l[i]).key = key
    · rw [decide_eq_true hk, cond_true, bif_a, bif_t (by omega), bif_t (by omega), prs_at l i hlt, cells_pair, p_1, bif_a, bif_t (by omega), bif_t (by omega), prs_at l i hlt, cells_pair, p_1, str_dec, if_pos hk, decide_not]
    · rw [decide_eq_false hk, cond_false, if_neg hk, i64w (by omega), show ((i + 1 : Nat) : Int) - 1 - 1 = (i : Int) - 1 by omega]
      exact last_loop kap l key hl i k0 (by omega) (by omega)
theorem last_k (l : List Pair) (key : Tx) (hl : l.length ≤ 1000000) (hk : l.length < k) : kp E k (n + 1) ref08_Last [.list 2 (prs l), .str (str key)] = some (.tup [.str (str (lastL l key)), .bool (decide (lastL l key ≠ []))]) := by
  rw [ref08_Last_eq, prs_len, i64w (by omega), last_loop (kp E k n) l key hl l.length k hk (Nat.le_refl _), List.take_length]
def kO (m : Option Tx) : Tx := m.getD []
theorem lay_in (kap : FuncId → List AV → Option AV) (all : List Pair) (a : Option Tx) (x6 : List AV) (R : Option AV) (r : Option Tx) (k0 : Nat)
    (hend : ∀ j, ref08_Lay_L1 kap k k0 (j + 1) (str (kO a)) a.isNone (str (kO r)) r.isSome ((all.length : Nat) : Int) (prs all) x6 = R) (suf : List Pair) :
    ∀ (pre : List Pair) (m : Option Tx) (k1 : Nat), all = pre ++ suf → suf.length < k1 → all.length ≤ 1000000 → leastL a suf m = r →
    ref08_Lay_L1 kap k k0 k1 (str (kO a)) a.isNone (str (kO m)) m.isSome ((pre.length : Nat) : Int) (prs all) x6 = R := by
  induction suf with
  | nil =>
    intro pre m k1 he h hb hr
    obtain ⟨j, rfl⟩ : ∃ m, k1 = m + 1 := ⟨k1 - 1, by simp only [List.length_nil] at h; omega⟩
    rw [List.append_nil] at he
    subst he
    have hr : m = r := hr
    subst hr
    exact hend j
  | cons p suf ih =>
    intro pre m k1 he h hb hr
    obtain ⟨j, rfl⟩ : ∃ m, k1 = m + 1 := ⟨k1 - 1, by simp only [List.length_cons] at h; omega⟩
    have h' : suf.length < j := by simp only [List.length_cons] at h; omega
    have hb' : pre.length + (suf.length + 1) ≤ 1000000 := by rw [he] at hb; simp only [List.length_append, List.length_cons] at hb; exact hb
    have he' : all = (pre ++ [p]) ++ suf := by rw [he]; simp
    rw [show leastL a (p :: suf) m = leastL a suf (if (gtO a p.key && ltO p.key m) = true then some p.key else m) from rfl] at hr
    have hi := ih (pre ++ [p]) _ j he' h' hb hr
    rw [← snoc_len] at hi
    rw [ref08_Lay_L1_s, prs_len, he, mid_len, bif_t (by omega), bif_a, bif_t (by omega), bif_t (by omega), Int.toNat_natCast, prs_mid, cells_pair, p_0, ← he, str_tl, str_tl, str_tl, i64w (by omega), str_dec, not_le]
    cases a with
    | none =>
      rw [show (none : Option Tx).isNone = true from rfl, cond_true]
      cases m with
      | none => exact hi
      | some y =>
        rw [show (some y : Option Tx).isSome = true from rfl, Bool.not_true, cond_false, show kO (some y) = y from rfl]
        have hs : (gtO none p.key && ltO p.key (some y)) = Op.bytesLess p.key y := rfl
        rw [hs] at hi
        cases hx : Op.bytesLess p.key y with
        | true => rw [hx] at hi; exact hi
        | false => rw [hx] at hi; exact hi
    | some x =>
      rw [show (some x : Option Tx).isNone = false from rfl, cond_false, show kO (some x) = x from rfl]
      have hg : gtO (some x) p.key = Op.bytesLess x p.key := rfl
      rw [hg] at hi
      cases hgx : Op.bytesLess x p.key with
      | false => rw [hgx] at hi; exact hi
      | true =>
        rw [hgx] at hi
        rw [cond_true]
        cases m with
        | none => exact hi
        | some y =>
          rw [show (some y : Option Tx).isSome = true from rfl, Bool.not_true, cond_false, show kO (some y) = y from rfl]
          have hs : (true && ltO p.key (some y)) = Op.bytesLess p.key y := rfl
          rw [hs] at hi
          cases hx : Op.bytesLess p.key y with
          | true => rw [hx] at hi; exact hi
          | false => rw [hx] at hi; exact hi
theorem lay_out (kap : FuncId → List AV → Option AV) (all : List Pair) (hb : all.length ≤ 1000000) (hk : all.length < k) (hL : ∀ key, kap ref08_Last [.list 2 (prs all), .str (str key)] = some (.tup [.str (str (lastL all key)), .bool (decide (lastL all key ≠ []))])) :
    ∀ (m : Nat) (a : Option Tx) (acc : List Pair) (k0 : Nat), cnt a all ≤ m → m < k0 → acc.length + m ≤ 2000000 →
    ref08_Lay_L0 kap k k0 (str (kO a)) a.isNone (prs all) (prs acc) = some (.list 2 (prs (acc ++ layF all m a)))
  | m, a, acc, k0, hc, hk0, ha => by
    obtain ⟨k0, rfl⟩ : ∃ j, k0 = j + 1 := ⟨k0 - 1, by omega⟩
    rw [ref08_Lay_L0_s]
    refine lay_in kap all a (prs acc) _ (leastL a all none) k0 (fun j => ?_) all [] none k (by simp) hk hb rfl
    rw [ref08_Lay_L1_s, prs_len, bif_f (by omega)]
    cases h : leastL a all none with
    | none =>
      rw [show (none : Option Tx).isSome = false from rfl, Bool.not_false, cond_true]
      have e : layF all m a = [] := by cases m with
        | zero => rfl
        | succ m => unfold layF; rw [h]
      rw [e, List.append_nil]
    | some key =>
      have hlt := cnt_lt h
      obtain ⟨m, rfl⟩ : ∃ j, m = j + 1 := ⟨m - 1, by omega⟩
      rw [show (some key : Option Tx).isSome = true from rfl, Bool.not_true, cond_false, show kO (some key) = key from rfl, hL key, callT_ok]
      unfold layF
      rw [h]
      dsimp only
      have hx : ∀ (s : ByteArray) (b : Bool) (K : ByteArray → Bool → Option AV), (tupS [.str s, .bool b] fun vs5 vt6 => tupB vt6 fun vq7 vt8 => atNil vt8 (K vs5 vq7)) = K s b := fun s b K => rfl
      rw [hx]
      by_cases hv : lastL all key = []
      · rw [if_pos hv, decide_eq_false (by simp [hv]), cond_false]
        exact lay_out kap all hb hk hL m (some key) acc k0 (by omega) (by omega) (by omega)
      · rw [if_neg hv, decide_eq_true hv, cond_true, prs_len, bif_a, bif_t (by omega), bif_t (by omega)]
        have e1 : prs acc ++ [AV.agg [.str (str key), .str (str (lastL all key))]] = prs (acc ++ [⟨key, lastL all key⟩]) := by unfold prs; rw [List.map_append]; rfl
        rw [e1]
        have := lay_out kap all hb hk hL m (some key) (acc ++ [⟨key, lastL all key⟩]) k0 (by omega) (by omega) (by simp only [List.length_append, List.length_cons, List.length_nil]; omega)
        rw [List.append_assoc, List.singleton_append] at this
        exact this
theorem refLay_k (l more : List Pair) (hb : (l ++ more).length ≤ 1000000) (hk : (l ++ more).length < k) : kp E k (n + 2) ref08_Lay [.list 2 (prs l), .list 2 (prs more)] = some (.list 2 (prs (layF (l ++ more) (l ++ more).length none))) := by
  have h := lay_out (k := k) (kp E k (n + 1)) (l ++ more) hb hk (fun key => last_k _ key hb hk) (l ++ more).length none [] k (cnt_le _ _) hk (by simp only [List.length_nil]; omega)
  rw [List.length_append] at hb
  rw [ref08_Lay_eq, prs_len, bif_a, bif_t (by omega), bif_t (by omega), List.nil_append, prs_len, prs_len, bif_a, bif_t (by omega), bif_t (by omega)]
  have e : prs l ++ prs more = prs (l ++ more) := by unfold prs; rw [List.map_append]
  rw [e]
  exact h
theorem same_loop (kap : FuncId → List AV → Option AV) (suf : List Pair) : ∀ (pre suf' pre' : List Pair) (k0 : Nat), suf.length < k0 → pre.length = pre'.length → suf.length = suf'.length → (pre ++ suf).length ≤ 1000000 →
    ref07_Same_L0 kap k k0 (prs (pre ++ suf)) (prs (pre' ++ suf')) ((pre.length : Nat) : Int) = some (.bool (decide (suf = suf'))) := by
  induction suf with
  | nil =>
    intro pre suf' pre' k0 h hp hs hb
    obtain ⟨m, rfl⟩ : ∃ m, k0 = m + 1 := ⟨k0 - 1, by simp only [List.length_nil] at h; omega⟩
    obtain rfl : suf' = [] := List.length_eq_zero_iff.1 hs.symm
    rw [ref07_Same_L0_s, prs_len, bif_f (by simp)]
    rfl
  | cons p suf ih =>
    intro pre suf' pre' k0 h hp hs hb
    obtain ⟨m, rfl⟩ : ∃ m, k0 = m + 1 := ⟨k0 - 1, by simp only [List.length_cons] at h; omega⟩
    cases suf' with
    | nil => cases hs
    | cons q suf' =>
      have h' : suf.length < m := by simp only [List.length_cons] at h; omega
      have hb' : pre.length + (suf.length + 1) ≤ 1000000 := by simp only [List.length_append, List.length_cons] at hb; exact hb
      have hs' : suf.length = suf'.length := by simp only [List.length_cons] at hs; omega
      have hi := ih (pre ++ [p]) suf' (pre' ++ [q]) m h' (by simp [hp]) hs' (by simp only [List.length_append, List.length_cons, List.length_nil]; omega)
      rw [← snoc_len, List.append_assoc, List.append_assoc, List.singleton_append, List.singleton_append] at hi
      have key : ∀ {β : Type} (F : AV → Option β), ((prs (pre' ++ q :: suf'))[pre.length]?).bind F = F (elPair q) := by
        intro β F; rw [hp, prs_mid]
      rw [ref07_Same_L0_s, prs_len, prs_len, mid_len, mid_len, bif_t (by omega), bif_a, bif_t (by omega), bif_t (by omega), Int.toNat_natCast, prs_mid, cells_pair, p_0, p_1, bif_a, bif_t (by omega), bif_t (by omega), key, cells_pair, p_0, p_1, str_dec, str_dec, i64w (by omega), hi]
      have e : decide (p :: suf = q :: suf') = ((decide (p.key = q.key) && (decide (p.val = q.val) && true)) && decide (suf = suf')) := by
        have e0 : (p :: suf = q :: suf') ↔ (p.key = q.key ∧ p.val = q.val) ∧ suf = suf' := by
          rw [List.cons.injEq]; cases p; cases q; simp
        have e1 : decide (p :: suf = q :: suf') = decide ((p.key = q.key ∧ p.val = q.val) ∧ suf = suf') := decide_eq_decide.2 e0
        rw [e1]
        by_cases a1 : p.key = q.key <;> by_cases a2 : p.val = q.val <;> by_cases a3 : suf = suf' <;> simp [a1, a2, a3]
      rw [e]
      cases decide (p.key = q.key) && (decide (p.val = q.val) && true) <;> rfl
theorem pSame_k (a b : List Pair) (ha : a.length ≤ 1000000) (hk : a.length < k) : kp E k (n + 1) ref07_Same [.list 2 (prs a), .list 2 (prs b)] = some (.bool (decide (a = b))) := by
  rw [ref07_Same_eq, prs_len, prs_len]
  by_cases h : a.length = b.length
  · rw [decide_eq_true (by omega), Bool.not_true, cond_false]
    have := same_loop (k := k) (kp E k n) a [] b [] k hk rfl h (by simpa using ha)
    exact this
  · rw [decide_eq_false (by omega), Bool.not_false, cond_true, decide_eq_false (fun e => h (by rw [e]))]
theorem refOver_loop (kap : FuncId → List AV → Option AV) (all : List Pair) (R : Bool) (hR : ∀ p : Pair, p.key.length ≤ 1000000 → p.val.length ≤ 1000000 → kap ref07_Right [.agg [.str (str p.key), .str (str p.val)]] = some (.bool (pairOk p)))
    (hend : ∀ j, ref08_Right_L0 kap k (j + 1) (prs all) ((all.length : Nat) : Int) = some (.bool R)) (suf : List Pair) :
    ∀ (pre : List Pair) (k0 : Nat), all = pre ++ suf → suf.length < k0 → all.length ≤ 1000000 → (∀ p ∈ suf, p.key.length ≤ 1000000 ∧ p.val.length ≤ 1000000) →
    ref08_Right_L0 kap k k0 (prs all) ((pre.length : Nat) : Int) = some (.bool (suf.all pairOk && R)) := by
  induction suf with
  | nil =>
    intro pre k0 he h hb hs
    obtain ⟨m, rfl⟩ : ∃ m, k0 = m + 1 := ⟨k0 - 1, by simp only [List.length_nil] at h; omega⟩
    rw [List.append_nil] at he
    subst he
    exact hend m
  | cons p suf ih =>
    intro pre k0 he h hb hs
    obtain ⟨m, rfl⟩ : ∃ m, k0 = m + 1 := ⟨k0 - 1, by simp only [List.length_cons] at h; omega⟩
    have h' : suf.length < m := by simp only [List.length_cons] at h; omega
    have hb' : pre.length + (suf.length + 1) ≤ 1000000 := by rw [he] at hb; simp only [List.length_append, List.length_cons] at hb; exact hb
    obtain ⟨g1, g2⟩ := hs p (.head _)
    have hi := ih (pre ++ [p]) m (by rw [he]; simp) h' hb fun q hq => hs q (.tail _ hq)
    rw [← snoc_len] at hi
    rw [ref08_Right_L0_s, prs_len, he, mid_len, bif_t (by omega), bif_a, bif_t (by omega), bif_t (by omega), Int.toNat_natCast, prs_mid, cells_pair, p_0, p_1, ← he, hR p g1 g2, callB_ok, i64w (by omega), hi, List.all_cons]
    cases pairOk p <;> rfl
theorem refOver_k (l : List Pair) (hl : l.length ≤ 100000) (hp : ∀ p ∈ l, p.key.length ≤ 1000000 ∧ p.val.length ≤ 1000000) (hk : 2000000 < k) : kp E k (n + 5) ref08_Right [.list 2 (prs l)] = some (.bool (overOk l)) := by
  have hend : ∀ j, ref08_Right_L0 (kp E k (n + 4)) k (j + 1) (prs l) ((l.length : Nat) : Int) = some (.bool (okSt none l)) := by
    intro j
    have hlay := refLay_k (E := E) (k := k) (n := n + 2) l [] (by simp; omega) (by simp; omega)
    rw [show prs [] = [] from rfl, List.append_nil] at hlay
    have hlen : (layF l l.length none).length ≤ 1000000 := by
      have : ∀ (m : Nat) (a : Option Tx), (layF l m a).length ≤ m := by
        intro m
        induction m with
        | zero => intro a; exact Nat.le_refl _
        | succ m ih =>
          intro a
          unfold layF
          split
          · simp
          · split
            · have := ih (some ‹Tx›); omega
            · rw [List.length_cons]; have := ih (some ‹Tx›); omega
      have := this l.length none
      omega
    rw [ref08_Right_L0_s, prs_len, bif_f (by omega), hlay, callL_ok, pSame_k _ l hlen (by
      have : ∀ (m : Nat) (a : Option Tx), (layF l m a).length ≤ m := by
        intro m
        induction m with
        | zero => intro a; exact Nat.le_refl _
        | succ m ih =>
          intro a
          unfold layF
          split
          · simp
          · split
            · have := ih (some ‹Tx›); omega
            · rw [List.length_cons]; have := ih (some ‹Tx›); omega
      have := this l.length none
      omega), callB_ok, lay_iff l _ (Nat.le_refl _)]
  have h := refOver_loop (k := k) (kp E k (n + 4)) l _ (fun p h1 h2 => refPair_k p h1 h2 hk) hend l [] k (by simp) (by omega) (by omega) hp
  rw [ref08_Right_eq]
  unfold overOk
  rw [Bool.and_comm]
  exact h
end Go.Proofs.YtkbedfjhchhikaaGreatDoor.Eng.U


/- ItemFulls answers true. -/
set_option linter.unusedVariables false
set_option linter.unusedSectionVars false
set_option linter.unusedSimpArgs false
namespace Go.Proofs.YtkbedfjhchhikaaGreatDoor.Eng.U
open Go Go.Proofs Go.Proofs.YtkbedfjhchhikaaGreatDoor.Eng Go.Proofs.YtkbedfjhchhikaaGreatDoor.P04
variable {E : Ext} [Core E] [HasNum E] [HasText E] {k n : Nat}

end Go.Proofs.YtkbedfjhchhikaaGreatDoor.Eng.U


/- Which field of a head is the first that isn't right: both sides. -/
set_option linter.unusedVariables false
set_option linter.unusedSectionVars false
set_option linter.unusedSimpArgs false
namespace Go.Proofs.YtkbedfjhchhikaaGreatDoor.Eng.U
open Go Go.Proofs Go.Proofs.YtkbedfjhchhikaaGreatDoor.Eng Go.Proofs.YtkbedfjhchhikaaGreatDoor.P04
variable {E : Ext} [Core E] [HasNum E] {k n k0 : Nat}

def nameOk (s : List UInt8) : Bool := decide (s ≠ []) && (decide (s.length ≤ 65536) && clean s)
def plainOk (s : List UInt8) : Bool := decide (s.length ≤ 65536) && clean s
def links (h : Head) : Bool := decide (h.kind = 2) || decide (h.kind = 3)
def devs (h : Head) : Bool := decide (h.kind = 4) || decide (h.kind = 5)
def f1 (h : Head) : Bool := decide (h.kind ≥ 1) && decide (h.kind ≤ 7)
def f2 (h : Head) : Bool := nameOk h.name && !(decide (h.kind = 1) && sl h.name)
def f3 (h : Head) : Bool := bif links h then nameOk h.link else decide (h.link = [])
def f4 (h : Head) : Bool := decide (h.mode ≥ 0)
def f5 (h : Head) : Bool := decide (h.uid ≥ 0)
def f6 (h : Head) : Bool := decide (h.gid ≥ 0)
def f7 (h : Head) : Bool := decide (h.size = 0) || (decide (h.size > 0) && decide (h.kind = 1))
def f8 (h : Head) : Bool := rightT h.nano
def f9 (h : Head) : Bool := plainOk h.user
def f10 (h : Head) : Bool := plainOk h.group
def devOk (h : Head) (v : Int) : Bool := decide (v = 0) || (decide (v > 0) && devs h)
def f11 (h : Head) : Bool := devOk h h.major
def f12 (h : Head) : Bool := devOk h h.minor
def f13 (h : Head) : Bool := overOk h.extra && h.extra.all fun p => decide (whichL p.key < 0)
def wrongH (h : Head) : Int :=
  bif !f1 h then 1 else bif !f2 h then 2 else bif !f3 h then 3 else bif !f4 h then 4 else bif !f5 h then 5 else bif !f6 h then 6 else bif !f7 h then 7 else bif !f8 h then 8 else
  bif !f9 h then 9 else bif !f10 h then 10 else bif !f11 h then 11 else bif !f12 h then 12 else bif !f13 h then 13 else 0
theorem len_le (s : List UInt8) : decide (((s.length : Nat) : Int) ≤ 65536) = decide (s.length ≤ 65536) := by rw [decide_eq_decide]; omega
theorem named_k (s : List UInt8) : kp E k (n + 2) item_named [.str (str s)] = some (.bool (nameOk s)) := by
  rw [item_named_eq, textClean_k, callB_ok, str_dec, str_size, len_le]
  unfold nameOk
  rw [decide_not]
  cases decide (s = []) <;> cases decide (s.length ≤ 65536) <;> rfl
theorem plain_k (s : List UInt8) : kp E k (n + 2) item_plain [.str (str s)] = some (.bool (plainOk s)) := by
  rw [item_plain_eq, textClean_k, callB_ok, str_size, len_le]
  unfold plainOk
  cases decide (s.length ≤ 65536) <;> rfl
theorem refName_k (s : List UInt8) (hs : s.length < 1000000000) (hk : s.length < k) : kp E k (n + 3) ref09_name [.str (str s)] = some (.bool (nameOk s)) := by
  rw [ref09_name_eq, refClean_k s hs hk, callB_ok, str_dec, str_size, len_le]
  unfold nameOk
  rw [decide_not]
  cases decide (s = []) <;> cases decide (s.length ≤ 65536) <;> rfl
theorem plain_name (s : List UInt8) : (bif decide (s = []) then true else nameOk s) = plainOk s := by
  unfold nameOk plainOk
  by_cases h : s = []
  · subst h; rfl
  · rw [decide_eq_false h, decide_eq_true h]; rfl
theorem refSlash_k (s : List UInt8) (hs : s.length < 1000000000) : kp E k (n + 1) ref09_Slash [.str (str s)] = some (.bool (sl s)) := by
  rw [ref09_Slash_eq, str_dec, str_size]
  rcases snoc_cases s with rfl | ⟨l, c, rfl⟩
  · rfl
  · rw [decide_eq_false (by simp), Bool.not_false, cond_true]
    rw [List.length_append, List.length_singleton] at hs ⊢
    rw [i64w (by omega), bif_a, bif_t (by omega), bif_t (by omega), show Int.toNat (((l.length + 1 : Nat) : Int) - 1) = l.length by omega, str_byte]
    have e := mid_byte l [] c
    rw [show l ++ [c] = l ++ c :: [] from rfl, e, show decide (((c.toNat : Nat) : Int) = 47) = decide (c = 47) from byte_is c 47 (by omega)]
    unfold sl
    simp
theorem link_k (h : Head) : kp E k (n + 3) item_link [.agg (encHead h)] = some (.bool (f3 h)) := by
  unfold encHead f3 links
  rw [item_link_eq, named_k, callB_ok, str_dec]
  cases decide (h.kind = 2) <;> cases decide (h.kind = 3) <;> rfl
theorem device_k (h : Head) (v : Int) : kp E k (n + 1) item_device [.agg (encHead h), .int .i64 v] = some (.bool (devOk h v)) := by
  unfold encHead devOk devs
  rw [item_device_eq]
  cases decide (v = 0) <;> cases decide (v > 0) <;> cases decide (h.kind = 4) <;> rfl
theorem extra1_k (p : Pair) : kp E k (n + 2) item_extra_1 [.agg [.str (str p.key), .str (str p.val)]] = some (.bool (decide (0 ≤ whichL p.key))) := by
  rw [item_extra_1_eq, known_k, callB_ok]
theorem index_loop (kap : FuncId → List AV → Option AV) (hK : ∀ p : Pair, kap item_extra_1 [.agg [.str (str p.key), .str (str p.val)]] = some (.bool (decide (0 ≤ whichL p.key)))) (suf : List Pair) : ∀ (pre : List Pair) (k0 : Nat), suf.length < k0 → (pre ++ suf).length < 1000000 →
    ∃ i : Int, slices_IndexFunc_api_Pair_L0 kap k k0 (prs (pre ++ suf)) (((pre ++ suf).length : Nat) : Int) ((pre.length : Nat) : Int) = some (.int .i64 i) ∧ decide (i ≥ 0) = !(suf.all fun p => decide (whichL p.key < 0)) := by
  induction suf with
  | nil =>
    intro pre k0 h hb
    obtain ⟨m, rfl⟩ : ∃ m, k0 = m + 1 := ⟨k0 - 1, by simp only [List.length_nil] at h; omega⟩
    rw [slices_IndexFunc_api_Pair_L0_s, bif_f (by simp)]
    exact ⟨_, rfl, rfl⟩
  | cons p suf ih =>
    intro pre k0 h hb
    obtain ⟨m, rfl⟩ : ∃ m, k0 = m + 1 := ⟨k0 - 1, by simp only [List.length_cons] at h; omega⟩
    have h' : suf.length < m := by simp only [List.length_cons] at h; omega
    have hb' : pre.length + (suf.length + 1) < 1000000 := by simp only [List.length_append, List.length_cons] at hb; exact hb
    obtain ⟨i, hi, he⟩ := ih (pre ++ [p]) m h' (by simp only [List.length_append, List.length_cons, List.length_nil]; omega)
    rw [List.append_assoc, List.singleton_append, ← snoc_len, mid_len] at hi
    rw [slices_IndexFunc_api_Pair_L0_s, prs_len, mid_len, bif_t (by omega), bif_a, bif_t (by omega), bif_t (by omega), Int.toNat_natCast, prs_mid, cells_pair, p_0, p_1, hK, callB_ok, i64w (by omega), List.all_cons]
    by_cases hw : 0 ≤ whichL p.key
    · rw [decide_eq_true hw, cond_true, decide_eq_false (show ¬ whichL p.key < 0 by omega)]
      exact ⟨_, rfl, by rw [decide_eq_true (by omega)]; rfl⟩
    · rw [decide_eq_false hw, cond_false, decide_eq_true (show whichL p.key < 0 by omega), Bool.true_and]
      exact ⟨i, hi, he⟩
theorem extra_k [HasTextV E] (h : Head) (hl : h.extra.length ≤ 100000) (hp : ∀ p ∈ h.extra, p.key.length ≤ 1000000 ∧ p.val.length ≤ 1000000) (hk : 1000000 < k) : kp E k (n + 7) item_extra [.list 2 (prs h.extra)] = some (.bool (f13 h)) := by
  obtain ⟨i, hi, he⟩ := index_loop (k := k) (kp E k (n + 4)) (fun p => extra1_k p) h.extra [] k (by omega) (by simpa using (show h.extra.length < 1000000 by omega))
  simp only [List.nil_append, List.length_nil] at hi
  rw [item_extra_eq, overRight_k h.extra (by omega) hp hk, callB_ok, slices_ContainsFunc_api_Pair_eq, slices_IndexFunc_api_Pair_eq, prs_len]
  rw [show ((0 : Nat) : Int) = 0 from rfl] at hi
  rw [hi, callI_ok, he, callB_ok, Bool.not_not]
  unfold f13
  cases overOk h.extra <;> rfl
def BdF (h : Head) : Prop := h.name.length ≤ 400000 ∧ h.link.length ≤ 400000 ∧ h.user.length ≤ 400000 ∧ h.group.length ≤ 400000 ∧ h.extra.length ≤ 100000 ∧ ∀ p ∈ h.extra, p.key.length ≤ 1000000 ∧ p.val.length ≤ 1000000
theorem flag_k (v : Int) : ∃ f : Int, kp E k (n + 1) item_Flag [.int .i64 v] = some (.int .u8 f) ∧ decide (f = 0) = !(decide (v ≥ 1) && decide (v ≤ 7)) := by
  rw [item_Flag_eq]
  by_cases h1 : v < 1
  · rw [bif_t h1]; exact ⟨_, rfl, by rw [decide_eq_false (show ¬ v ≥ 1 by omega)]; rfl⟩
  · rw [bif_f h1]
    by_cases h2 : v > 7
    · rw [bif_t h2]; exact ⟨_, rfl, by rw [decide_eq_true (show v ≥ 1 by omega), decide_eq_false (show ¬ v ≤ 7 by omega)]; rfl⟩
    · rw [bif_f h2]
      have : v = 1 ∨ v = 2 ∨ v = 3 ∨ v = 4 ∨ v = 5 ∨ v = 6 ∨ v = 7 := by omega
      rcases this with rfl | rfl | rfl | rfl | rfl | rfl | rfl <;> exact ⟨_, rfl, by decide⟩
theorem wrong_kv [HasTextV E] (h : Head) (hb : BdF h) (hk : 1000000 < k) : kp E k (n + 8) item_Wrong [.agg (encHead h)] = some (.int .i64 (wrongH h)) := by
  have hlink := link_k (E := E) (k := k) (n := n + 4) h
  have hdev : ∀ v : Int, kp E k (n + 7) item_device [.agg (encHead h), .int .i64 v] = _ := fun v => device_k (n := n + 6) h v
  have hext := extra_k (E := E) (k := k) (n := n) h hb.2.2.2.2.1 hb.2.2.2.2.2 hk
  have hright : ∀ s t : Int, kp E k (n + 7) dec_Right [.agg [.int .i64 s, .int .i64 t]] = _ := fun s t => right_k (n := n + 6) s t
  have hplain : ∀ s : List UInt8, kp E k (n + 7) item_plain [.str (str s)] = _ := fun s => plain_k (n := n + 5) s
  have hname : kp E k (n + 7) item_named [.str (str h.name)] = _ := named_k (n := n + 5) h.name
  obtain ⟨f, hfl, hf1⟩ := flag_k (E := E) (k := k) (n := n + 6) h.kind
  have hsuf := suffix_k (E := E) (k := k) (n := n + 5) h.name (by have := hb.1; omega)
  have e1 : decide (f = 0) = !f1 h := hf1
  unfold encHead at hlink hdev ⊢
  rw [item_Wrong_eq]
  simp only [hfl, callI_ok, e1, hname, hsuf, hlink, hdev, hright, hplain, hext, callB_ok]
  unfold wrongH
  have e2 : f2 h = (nameOk h.name && !(decide (h.kind = 1) && sl h.name)) := rfl
  have e4 : decide (h.mode < 0) = !f4 h := by unfold f4; rw [← decide_not, decide_eq_decide]; omega
  have e5 : decide (h.uid < 0) = !f5 h := by unfold f5; rw [← decide_not, decide_eq_decide]; omega
  have e6 : decide (h.gid < 0) = !f6 h := by unfold f6; rw [← decide_not, decide_eq_decide]; omega
  have e7 : f7 h = (decide (h.size = 0) || (decide (h.size > 0) && decide (h.kind = 1))) := rfl
  have e8 : rightT h.nano = f8 h := rfl
  have e9 : plainOk h.user = f9 h := rfl
  have e10 : plainOk h.group = f10 h := rfl
  have e11 : devOk h h.major = f11 h := rfl
  have e12 : devOk h h.minor = f12 h := rfl
  rw [e2, e4, e5, e6, e7, e8, e9, e10, e11, e12]
  have s3 : (h.size < 0 ∧ ¬ h.size = 0 ∧ ¬ h.size > 0) ∨ (¬ h.size < 0 ∧ h.size = 0 ∧ ¬ h.size > 0) ∨ (¬ h.size < 0 ∧ ¬ h.size = 0 ∧ h.size > 0) := by omega
  generalize nameOk h.name = b2
  generalize sl h.name = bs
  generalize f1 h = b1
  generalize f3 h = b3
  generalize f4 h = b4
  generalize f5 h = b5
  generalize f6 h = b6
  generalize f8 h = b8
  generalize f9 h = b9
  generalize f10 h = b10
  generalize f11 h = b11
  generalize f12 h = b12
  generalize f13 h = b13
  generalize decide (h.kind = 1) = bk
  cases b1
  · rfl
  cases b2
  · rfl
  have tail : ∀ a8 a9 a10 a11 a12 a13 : Bool, (bif !a8 then some (AV.int .i64 8) else bif !a9 then some (AV.int .i64 9) else bif !a10 then some (AV.int .i64 10) else bif !a11 then some (AV.int .i64 11) else bif !a12 then some (AV.int .i64 12) else bif !a13 then some (AV.int .i64 13) else some (AV.int .i64 0)) =
      some (AV.int .i64 (bif !a8 then 8 else bif !a9 then 9 else bif !a10 then 10 else bif !a11 then 11 else bif !a12 then 12 else bif !a13 then 13 else 0)) := by
    intro a8 a9 a10 a11 a12 a13
    cases a8 <;> cases a9 <;> cases a10 <;> cases a11 <;> cases a12 <;> cases a13 <;> rfl
  rcases s3 with ⟨x1, x2, x3⟩ | ⟨x1, x2, x3⟩ | ⟨x1, x2, x3⟩
  · rw [decide_eq_true x1, decide_eq_false x2, decide_eq_false x3]
    cases bk <;> cases bs <;> cases b3 <;> cases b4 <;> cases b5 <;> cases b6 <;> rfl
  · rw [decide_eq_false x1, decide_eq_true x2, decide_eq_false x3]
    cases bk <;> cases bs <;> cases b3 <;> cases b4 <;> cases b5 <;> cases b6 <;> first | rfl | exact tail _ _ _ _ _ _
  · rw [decide_eq_false x1, decide_eq_false x2, decide_eq_true x3]
    cases bk <;> cases bs <;> cases b3 <;> cases b4 <;> cases b5 <;> cases b6 <;> first | rfl | exact tail _ _ _ _ _ _
theorem known_loop (kap : FuncId → List AV → Option AV) (hW : ∀ key : List UInt8, kap ref07_Which [.str (str key)] = some (.int .i64 (whichL key))) (h : Head) (g1 g2 g3 g4 g5 g6 g7 g8 g9 g10 g11 g12 : Bool) (suf : List Pair) : ∀ (pre : List Pair) (k0 : Nat) (v : Bool), h.extra = pre ++ suf → suf.length < k0 → h.extra.length < 1000000 →
    ref09_fields_L10 kap k k0 ((pre.length : Nat) : Int) h.kind (str h.name) (str h.link) h.mode h.uid h.gid h.size h.sec h.nano (str h.user) (str h.group) h.major h.minor (prs h.extra) false false false false false false false false false false false false false false false g1 g2 g3 g4 g5 g6 g7 g8 g9 g10 g11 g12 v = some (.agg [.bool false, .bool g1, .bool g2, .bool g3, .bool g4, .bool g5, .bool g6, .bool g7, .bool g8, .bool g9, .bool g10, .bool g11, .bool g12, .bool (v && suf.all fun p => decide (whichL p.key < 0))]) := by
  induction suf with
  | nil =>
    intro pre k0 v he h' hb
    obtain ⟨m, rfl⟩ : ∃ m, k0 = m + 1 := ⟨k0 - 1, by simp only [List.length_nil] at h'; omega⟩
    rw [ref09_fields_L10_s, prs_len, he, bif_f (by simp)]
    simp
  | cons p suf ih =>
    intro pre k0 v he h' hb
    obtain ⟨m, rfl⟩ : ∃ m, k0 = m + 1 := ⟨k0 - 1, by simp only [List.length_cons] at h'; omega⟩
    have h2 : suf.length < m := by simp only [List.length_cons] at h'; omega
    have hb' : pre.length + (suf.length + 1) < 1000000 := by rw [he] at hb; simp only [List.length_append, List.length_cons] at hb; exact hb
    have hl : h.extra.length = pre.length + (suf.length + 1) := by rw [he]; simp
    have hi := fun v => ih (pre ++ [p]) m v (by rw [he]; simp) h2 hb
    rw [← snoc_len] at hi
    have hat : ∀ (F : AV → Option AV), ((prs h.extra)[pre.length]?).bind F = F (elPair p) := fun F => by rw [he, prs_mid]
    rw [ref09_fields_L10_s, prs_len, hl, bif_t (by omega), i64w (by omega), hi, bif_a, bif_t (by omega), bif_t (by omega), Int.toNat_natCast, hat, cells_pair, p_0, hW, callI_ok, hi, List.all_cons]
    cases v <;> simp
end Go.Proofs.YtkbedfjhchhikaaGreatDoor.Eng.U


/- Which field of a head is the first that isn't right: the reference's side. -/
set_option linter.unusedVariables false
set_option linter.unusedSectionVars false
set_option linter.unusedSimpArgs false
namespace Go.Proofs.YtkbedfjhchhikaaGreatDoor.Eng.U
open Go Go.Proofs Go.Proofs.YtkbedfjhchhikaaGreatDoor.Eng Go.Proofs.YtkbedfjhchhikaaGreatDoor.P04
variable {E : Ext} [Core E] [HasNum E] {k n k0 : Nat}

theorem fld0 (kap : FuncId → List AV → Option AV) (h : Head) (hb : BdF h) (K : Nat) : ref09_fields_J0 kap (K + 1) (K + 1) (links h) h.kind (str h.name) (str h.link) h.mode h.uid h.gid h.size h.sec h.nano (str h.user) (str h.group) h.major h.minor (prs h.extra) false false false false false false false false false false false false false false = ref09_fields_J1 kap (K + 1) (K + 1) (links h) (devs h) h.kind (str h.name) (str h.link) h.mode h.uid h.gid h.size h.sec h.nano (str h.user) (str h.group) h.major h.minor (prs h.extra) false false false false false false false false false false false false false false := by
  rw [ref09_fields_J0_s]
  cases hx : decide (h.kind = 4)
  · have e : devs h = decide (h.kind = 5) := by unfold devs; rw [hx, Bool.false_or]
    rw [e, cond_false]
  · have e : devs h = true := by unfold devs; rw [hx, Bool.true_or]
    rw [e, cond_true]
theorem fld1 (kap : FuncId → List AV → Option AV) (h : Head) (hb : BdF h) (K : Nat) : ref09_fields_J1 kap (K + 1) (K + 1) (links h) (devs h) h.kind (str h.name) (str h.link) h.mode h.uid h.gid h.size h.sec h.nano (str h.user) (str h.group) h.major h.minor (prs h.extra) false false false false false false false false false false false false false false = ref09_fields_J2 kap (K + 1) (K + 1) (links h) (devs h) h.kind (str h.name) (str h.link) h.mode h.uid h.gid h.size h.sec h.nano (str h.user) (str h.group) h.major h.minor (prs h.extra) false false false false false false false false false false false false false false false (f1 h) false false false false false false false false false false false false := by
  rw [ref09_fields_J1_s]
  cases hx : decide (h.kind ≥ 1)
  · have e : f1 h = false := by unfold f1; rw [hx, Bool.false_and]
    rw [e, cond_false]
  · have e : f1 h = decide (h.kind ≤ 7) := by unfold f1; rw [hx, Bool.true_and]
    rw [e, cond_true]
theorem fld2 (kap : FuncId → List AV → Option AV) (h : Head) (hb : BdF h) (hname : ∀ s : List UInt8, s.length ≤ 400000 → kap ref09_name [.str (str s)] = some (.bool (nameOk s))) (hslash : kap ref09_Slash [.str (str h.name)] = some (.bool (sl h.name))) (K : Nat) : ref09_fields_J2 kap (K + 1) (K + 1) (links h) (devs h) h.kind (str h.name) (str h.link) h.mode h.uid h.gid h.size h.sec h.nano (str h.user) (str h.group) h.major h.minor (prs h.extra) false false false false false false false false false false false false false false false (f1 h) false false false false false false false false false false false false = ref09_fields_J3 kap (K + 1) (K + 1) (links h) (devs h) h.kind (str h.name) (str h.link) h.mode h.uid h.gid h.size h.sec h.nano (str h.user) (str h.group) h.major h.minor (prs h.extra) false false false false false false false false false false false false false false false (f1 h) (f2 h) false false false false false false false false false false false := by
  rw [ref09_fields_J2_s]
  rw [hname h.name hb.1, callB_ok]
  cases hn : nameOk h.name
  · have e : f2 h = false := by unfold f2; rw [hn, Bool.false_and]
    rw [e, cond_false]
  · rw [cond_true]
    cases hk : decide (h.kind = 1)
    · have e : f2 h = true := by unfold f2; rw [hn, hk]; rfl
      rw [e, cond_false]
    · have e : f2 h = !sl h.name := by unfold f2; rw [hn, hk, Bool.true_and, Bool.true_and]
      rw [cond_true, hslash, callB_ok, e]
theorem fld3 (kap : FuncId → List AV → Option AV) (h : Head) (hb : BdF h) (hname : ∀ s : List UInt8, s.length ≤ 400000 → kap ref09_name [.str (str s)] = some (.bool (nameOk s))) (K : Nat) : ref09_fields_J3 kap (K + 1) (K + 1) (links h) (devs h) h.kind (str h.name) (str h.link) h.mode h.uid h.gid h.size h.sec h.nano (str h.user) (str h.group) h.major h.minor (prs h.extra) false false false false false false false false false false false false false false false (f1 h) (f2 h) false false false false false false false false false false false = ref09_fields_J4 kap (K + 1) (K + 1) (devs h) h.kind (str h.name) (str h.link) h.mode h.uid h.gid h.size h.sec h.nano (str h.user) (str h.group) h.major h.minor (prs h.extra) false false false false false false false false false false false false false false false (f1 h) (f2 h) (f3 h) false false false false false false false false false false := by
  rw [ref09_fields_J3_s]
  cases hl : links h
  · have e : f3 h = decide (h.link = []) := by unfold f3; rw [hl, cond_false]
    rw [cond_false, Bool.not_false, cond_true, str_dec, e]
  · rw [cond_true, hname h.link hb.2.1, callB_ok]
    cases hn : nameOk h.link
    · have e : f3 h = false := by unfold f3; rw [hl, cond_true, hn]
      rw [cond_false, Bool.not_true, cond_false, e]
    · have e : f3 h = true := by unfold f3; rw [hl, cond_true, hn]
      rw [cond_true, e]
theorem fld4 (kap : FuncId → List AV → Option AV) (h : Head) (hb : BdF h) (K : Nat) : ref09_fields_J4 kap (K + 1) (K + 1) (devs h) h.kind (str h.name) (str h.link) h.mode h.uid h.gid h.size h.sec h.nano (str h.user) (str h.group) h.major h.minor (prs h.extra) false false false false false false false false false false false false false false false (f1 h) (f2 h) (f3 h) false false false false false false false false false false = ref09_fields_J5 kap (K + 1) (K + 1) (devs h) h.kind (str h.name) (str h.link) h.mode h.uid h.gid h.size h.sec h.nano (str h.user) (str h.group) h.major h.minor (prs h.extra) false false false false false false false false false false false false false false false (f1 h) (f2 h) (f3 h) (f4 h) (f5 h) (f6 h) (f7 h) false false false false false false := by
  rw [ref09_fields_J4_s]
  rw [show decide (h.mode ≥ 0) = f4 h from rfl, show decide (h.uid ≥ 0) = f5 h from rfl, show decide (h.gid ≥ 0) = f6 h from rfl]
  cases hz : decide (h.size = 0)
  · rw [cond_false]
    cases hp : decide (h.size > 0)
    · have e : f7 h = false := by unfold f7; rw [hz, hp]; rfl
      rw [cond_false, e]
    · have e : f7 h = decide (h.kind = 1) := by unfold f7; rw [hz, hp, Bool.false_or, Bool.true_and]
      rw [cond_true, e]
  · have e : f7 h = true := by unfold f7; rw [hz, Bool.true_or]
    rw [cond_true, e]
theorem fld5 (kap : FuncId → List AV → Option AV) (h : Head) (hb : BdF h) (hname : ∀ s : List UInt8, s.length ≤ 400000 → kap ref09_name [.str (str s)] = some (.bool (nameOk s))) (hright : ∀ s t : Int, kap ref04_Right [.agg [.int .i64 s, .int .i64 t]] = some (.bool (rightT t))) (K : Nat) : ref09_fields_J5 kap (K + 1) (K + 1) (devs h) h.kind (str h.name) (str h.link) h.mode h.uid h.gid h.size h.sec h.nano (str h.user) (str h.group) h.major h.minor (prs h.extra) false false false false false false false false false false false false false false false (f1 h) (f2 h) (f3 h) (f4 h) (f5 h) (f6 h) (f7 h) false false false false false false = ref09_fields_J6 kap (K + 1) (K + 1) (devs h) h.kind (str h.name) (str h.link) h.mode h.uid h.gid h.size h.sec h.nano (str h.user) (str h.group) h.major h.minor (prs h.extra) false false false false false false false false false false false false false false false (f1 h) (f2 h) (f3 h) (f4 h) (f5 h) (f6 h) (f7 h) (f8 h) (f9 h) false false false false := by
  rw [ref09_fields_J5_s]
  rw [hright, callB_ok, show rightT h.nano = f8 h from rfl, str_dec]
  cases hu : decide (h.user = [])
  · have e : f9 h = nameOk h.user := by unfold f9; rw [← plain_name, hu, cond_false]
    rw [cond_false, hname h.user hb.2.2.1, callB_ok, e]
  · have e : f9 h = true := by unfold f9; rw [← plain_name, hu, cond_true]
    rw [cond_true, e]
theorem fld6 (kap : FuncId → List AV → Option AV) (h : Head) (hb : BdF h) (hname : ∀ s : List UInt8, s.length ≤ 400000 → kap ref09_name [.str (str s)] = some (.bool (nameOk s))) (K : Nat) : ref09_fields_J6 kap (K + 1) (K + 1) (devs h) h.kind (str h.name) (str h.link) h.mode h.uid h.gid h.size h.sec h.nano (str h.user) (str h.group) h.major h.minor (prs h.extra) false false false false false false false false false false false false false false false (f1 h) (f2 h) (f3 h) (f4 h) (f5 h) (f6 h) (f7 h) (f8 h) (f9 h) false false false false = ref09_fields_J7 kap (K + 1) (K + 1) (devs h) h.kind (str h.name) (str h.link) h.mode h.uid h.gid h.size h.sec h.nano (str h.user) (str h.group) h.major h.minor (prs h.extra) false false false false false false false false false false false false false false false (f1 h) (f2 h) (f3 h) (f4 h) (f5 h) (f6 h) (f7 h) (f8 h) (f9 h) (f10 h) false false false := by
  rw [ref09_fields_J6_s]
  rw [str_dec]
  cases hu : decide (h.group = [])
  · have e : f10 h = nameOk h.group := by unfold f10; rw [← plain_name, hu, cond_false]
    rw [cond_false, hname h.group hb.2.2.2.1, callB_ok, e]
  · have e : f10 h = true := by unfold f10; rw [← plain_name, hu, cond_true]
    rw [cond_true, e]
theorem fld7 (kap : FuncId → List AV → Option AV) (h : Head) (hb : BdF h) (K : Nat) : ref09_fields_J7 kap (K + 1) (K + 1) (devs h) h.kind (str h.name) (str h.link) h.mode h.uid h.gid h.size h.sec h.nano (str h.user) (str h.group) h.major h.minor (prs h.extra) false false false false false false false false false false false false false false false (f1 h) (f2 h) (f3 h) (f4 h) (f5 h) (f6 h) (f7 h) (f8 h) (f9 h) (f10 h) false false false = ref09_fields_J8 kap (K + 1) (K + 1) (devs h) h.kind (str h.name) (str h.link) h.mode h.uid h.gid h.size h.sec h.nano (str h.user) (str h.group) h.major h.minor (prs h.extra) false false false false false false false false false false false false false false false (f1 h) (f2 h) (f3 h) (f4 h) (f5 h) (f6 h) (f7 h) (f8 h) (f9 h) (f10 h) (f11 h) false false := by
  rw [ref09_fields_J7_s]
  cases hz : decide (h.major = 0)
  · rw [cond_false]
    cases hp : decide (h.major > 0)
    · have e : f11 h = false := by unfold f11 devOk; rw [hz, hp]; rfl
      rw [cond_false, e]
    · have e : f11 h = devs h := by unfold f11 devOk; rw [hz, hp, Bool.false_or, Bool.true_and]
      rw [cond_true, e]
  · have e : f11 h = true := by unfold f11 devOk; rw [hz, Bool.true_or]
    rw [cond_true, e]
theorem fld8 (kap : FuncId → List AV → Option AV) (h : Head) (hb : BdF h) (K : Nat) : ref09_fields_J8 kap (K + 1) (K + 1) (devs h) h.kind (str h.name) (str h.link) h.mode h.uid h.gid h.size h.sec h.nano (str h.user) (str h.group) h.major h.minor (prs h.extra) false false false false false false false false false false false false false false false (f1 h) (f2 h) (f3 h) (f4 h) (f5 h) (f6 h) (f7 h) (f8 h) (f9 h) (f10 h) (f11 h) false false = ref09_fields_J9 kap (K + 1) (K + 1)  h.kind (str h.name) (str h.link) h.mode h.uid h.gid h.size h.sec h.nano (str h.user) (str h.group) h.major h.minor (prs h.extra) false false false false false false false false false false false false false false false (f1 h) (f2 h) (f3 h) (f4 h) (f5 h) (f6 h) (f7 h) (f8 h) (f9 h) (f10 h) (f11 h) (f12 h) false := by
  rw [ref09_fields_J8_s]
  cases hz : decide (h.minor = 0)
  · rw [cond_false]
    cases hp : decide (h.minor > 0)
    · have e : f12 h = false := by unfold f12 devOk; rw [hz, hp]; rfl
      rw [cond_false, e]
    · have e : f12 h = devs h := by unfold f12 devOk; rw [hz, hp, Bool.false_or, Bool.true_and]
      rw [cond_true, e]
  · have e : f12 h = true := by unfold f12 devOk; rw [hz, Bool.true_or]
    rw [cond_true, e]
end Go.Proofs.YtkbedfjhchhikaaGreatDoor.Eng.U


/- Which field of a head is the first that isn't right: the reference's side. -/
set_option linter.unusedVariables false
set_option linter.unusedSectionVars false
set_option linter.unusedSimpArgs false
namespace Go.Proofs.YtkbedfjhchhikaaGreatDoor.Eng.U
open Go Go.Proofs Go.Proofs.YtkbedfjhchhikaaGreatDoor.Eng Go.Proofs.YtkbedfjhchhikaaGreatDoor.P04
variable {E : Ext} [Core E] [HasNum E] {k n k0 : Nat}

set_option maxRecDepth 100000 in
theorem wrong_loop (kap : FuncId → List AV → Option AV) (b0 b1 b2 b3 b4 b5 b6 b7 b8 b9 b10 b11 b12 b13 : Bool) : ref09_Wrong_L0 kap k (k0 + 14) (1 : Int) b0 b1 b2 b3 b4 b5 b6 b7 b8 b9 b10 b11 b12 b13 = some (.int .i64 (bif !b1 then 1 else bif !b2 then 2 else bif !b3 then 3 else bif !b4 then 4 else bif !b5 then 5 else bif !b6 then 6 else bif !b7 then 7 else bif !b8 then 8 else bif !b9 then 9 else bif !b10 then 10 else bif !b11 then 11 else bif !b12 then 12 else bif !b13 then 13 else 0)) := by
  have t1 : ∀ m, ref09_Wrong_L0 kap k (m + 1) (1 : Int) b0 b1 b2 b3 b4 b5 b6 b7 b8 b9 b10 b11 b12 b13 = bif !b1 then some (.int .i64 1) else ref09_Wrong_L0 kap k m (2 : Int) b0 b1 b2 b3 b4 b5 b6 b7 b8 b9 b10 b11 b12 b13 := fun m => (ref09_Wrong_L0_s ..).trans rfl
  have t2 : ∀ m, ref09_Wrong_L0 kap k (m + 1) (2 : Int) b0 b1 b2 b3 b4 b5 b6 b7 b8 b9 b10 b11 b12 b13 = bif !b2 then some (.int .i64 2) else ref09_Wrong_L0 kap k m (3 : Int) b0 b1 b2 b3 b4 b5 b6 b7 b8 b9 b10 b11 b12 b13 := fun m => (ref09_Wrong_L0_s ..).trans rfl
  have t3 : ∀ m, ref09_Wrong_L0 kap k (m + 1) (3 : Int) b0 b1 b2 b3 b4 b5 b6 b7 b8 b9 b10 b11 b12 b13 = bif !b3 then some (.int .i64 3) else ref09_Wrong_L0 kap k m (4 : Int) b0 b1 b2 b3 b4 b5 b6 b7 b8 b9 b10 b11 b12 b13 := fun m => (ref09_Wrong_L0_s ..).trans rfl
  have t4 : ∀ m, ref09_Wrong_L0 kap k (m + 1) (4 : Int) b0 b1 b2 b3 b4 b5 b6 b7 b8 b9 b10 b11 b12 b13 = bif !b4 then some (.int .i64 4) else ref09_Wrong_L0 kap k m (5 : Int) b0 b1 b2 b3 b4 b5 b6 b7 b8 b9 b10 b11 b12 b13 := fun m => (ref09_Wrong_L0_s ..).trans rfl
  have t5 : ∀ m, ref09_Wrong_L0 kap k (m + 1) (5 : Int) b0 b1 b2 b3 b4 b5 b6 b7 b8 b9 b10 b11 b12 b13 = bif !b5 then some (.int .i64 5) else ref09_Wrong_L0 kap k m (6 : Int) b0 b1 b2 b3 b4 b5 b6 b7 b8 b9 b10 b11 b12 b13 := fun m => (ref09_Wrong_L0_s ..).trans rfl
  have t6 : ∀ m, ref09_Wrong_L0 kap k (m + 1) (6 : Int) b0 b1 b2 b3 b4 b5 b6 b7 b8 b9 b10 b11 b12 b13 = bif !b6 then some (.int .i64 6) else ref09_Wrong_L0 kap k m (7 : Int) b0 b1 b2 b3 b4 b5 b6 b7 b8 b9 b10 b11 b12 b13 := fun m => (ref09_Wrong_L0_s ..).trans rfl
  have t7 : ∀ m, ref09_Wrong_L0 kap k (m + 1) (7 : Int) b0 b1 b2 b3 b4 b5 b6 b7 b8 b9 b10 b11 b12 b13 = bif !b7 then some (.int .i64 7) else ref09_Wrong_L0 kap k m (8 : Int) b0 b1 b2 b3 b4 b5 b6 b7 b8 b9 b10 b11 b12 b13 := fun m => (ref09_Wrong_L0_s ..).trans rfl
  have t8 : ∀ m, ref09_Wrong_L0 kap k (m + 1) (8 : Int) b0 b1 b2 b3 b4 b5 b6 b7 b8 b9 b10 b11 b12 b13 = bif !b8 then some (.int .i64 8) else ref09_Wrong_L0 kap k m (9 : Int) b0 b1 b2 b3 b4 b5 b6 b7 b8 b9 b10 b11 b12 b13 := fun m => (ref09_Wrong_L0_s ..).trans rfl
  have t9 : ∀ m, ref09_Wrong_L0 kap k (m + 1) (9 : Int) b0 b1 b2 b3 b4 b5 b6 b7 b8 b9 b10 b11 b12 b13 = bif !b9 then some (.int .i64 9) else ref09_Wrong_L0 kap k m (10 : Int) b0 b1 b2 b3 b4 b5 b6 b7 b8 b9 b10 b11 b12 b13 := fun m => (ref09_Wrong_L0_s ..).trans rfl
  have t10 : ∀ m, ref09_Wrong_L0 kap k (m + 1) (10 : Int) b0 b1 b2 b3 b4 b5 b6 b7 b8 b9 b10 b11 b12 b13 = bif !b10 then some (.int .i64 10) else ref09_Wrong_L0 kap k m (11 : Int) b0 b1 b2 b3 b4 b5 b6 b7 b8 b9 b10 b11 b12 b13 := fun m => (ref09_Wrong_L0_s ..).trans rfl
  have t11 : ∀ m, ref09_Wrong_L0 kap k (m + 1) (11 : Int) b0 b1 b2 b3 b4 b5 b6 b7 b8 b9 b10 b11 b12 b13 = bif !b11 then some (.int .i64 11) else ref09_Wrong_L0 kap k m (12 : Int) b0 b1 b2 b3 b4 b5 b6 b7 b8 b9 b10 b11 b12 b13 := fun m => (ref09_Wrong_L0_s ..).trans rfl
  have t12 : ∀ m, ref09_Wrong_L0 kap k (m + 1) (12 : Int) b0 b1 b2 b3 b4 b5 b6 b7 b8 b9 b10 b11 b12 b13 = bif !b12 then some (.int .i64 12) else ref09_Wrong_L0 kap k m (13 : Int) b0 b1 b2 b3 b4 b5 b6 b7 b8 b9 b10 b11 b12 b13 := fun m => (ref09_Wrong_L0_s ..).trans rfl
  have t13 : ∀ m, ref09_Wrong_L0 kap k (m + 1) (13 : Int) b0 b1 b2 b3 b4 b5 b6 b7 b8 b9 b10 b11 b12 b13 = bif !b13 then some (.int .i64 13) else ref09_Wrong_L0 kap k m (14 : Int) b0 b1 b2 b3 b4 b5 b6 b7 b8 b9 b10 b11 b12 b13 := fun m => (ref09_Wrong_L0_s ..).trans rfl
  have t14 : ∀ m, ref09_Wrong_L0 kap k (m + 1) (14 : Int) b0 b1 b2 b3 b4 b5 b6 b7 b8 b9 b10 b11 b12 b13 = some (.int .i64 0) := fun m => (ref09_Wrong_L0_s ..).trans rfl
  rw [t1]
  cases b1
  · rfl
  rw [Bool.not_true, cond_false, cond_false]
  rw [t2]
  cases b2
  · rfl
  rw [Bool.not_true, cond_false, cond_false]
  rw [t3]
  cases b3
  · rfl
  rw [Bool.not_true, cond_false, cond_false]
  rw [t4]
  cases b4
  · rfl
  rw [Bool.not_true, cond_false, cond_false]
  rw [t5]
  cases b5
  · rfl
  rw [Bool.not_true, cond_false, cond_false]
  rw [t6]
  cases b6
  · rfl
  rw [Bool.not_true, cond_false, cond_false]
  rw [t7]
  cases b7
  · rfl
  rw [Bool.not_true, cond_false, cond_false]
  rw [t8]
  cases b8
  · rfl
  rw [Bool.not_true, cond_false, cond_false]
  rw [t9]
  cases b9
  · rfl
  rw [Bool.not_true, cond_false, cond_false]
  rw [t10]
  cases b10
  · rfl
  rw [Bool.not_true, cond_false, cond_false]
  rw [t11]
  cases b11
  · rfl
  rw [Bool.not_true, cond_false, cond_false]
  rw [t12]
  cases b12
  · rfl
  rw [Bool.not_true, cond_false, cond_false]
  rw [t13]
  cases b13
  · rfl
  rw [Bool.not_true, cond_false, cond_false]
  rw [t14]
end Go.Proofs.YtkbedfjhchhikaaGreatDoor.Eng.U


/- Which field of a head is the first that isn't right: the reference's side. -/
set_option linter.unusedVariables false
set_option linter.unusedSectionVars false
set_option linter.unusedSimpArgs false
namespace Go.Proofs.YtkbedfjhchhikaaGreatDoor.Eng.U
open Go Go.Proofs Go.Proofs.YtkbedfjhchhikaaGreatDoor.Eng Go.Proofs.YtkbedfjhchhikaaGreatDoor.P04
variable {E : Ext} [Core E] [HasNum E] {k n k0 : Nat}

theorem fields_k [HasTextV E] (h : Head) (hb : BdF h) (hk : 2000000 < k) : kp E k (n + 7) ref09_fields [.agg (encHead h)] = some (.agg [.bool false, .bool (f1 h), .bool (f2 h), .bool (f3 h), .bool (f4 h), .bool (f5 h), .bool (f6 h), .bool (f7 h), .bool (f8 h), .bool (f9 h), .bool (f10 h), .bool (f11 h), .bool (f12 h), .bool (f13 h)]) := by
  obtain ⟨K, rfl⟩ : ∃ K, k = K + 1 := ⟨k - 1, by omega⟩
  have hname : ∀ s : List UInt8, s.length ≤ 400000 → kp E (K + 1) (n + 6) ref09_name [.str (str s)] = some (.bool (nameOk s)) := fun s hs => refName_k (n := n + 3) s (by omega) (by omega)
  have hslash : kp E (K + 1) (n + 6) ref09_Slash [.str (str h.name)] = some (.bool (sl h.name)) := refSlash_k (n := n + 5) h.name (by have := hb.1; omega)
  have hright : ∀ s t : Int, kp E (K + 1) (n + 6) ref04_Right [.agg [.int .i64 s, .int .i64 t]] = some (.bool (rightT t)) := fun s t => refRight_k (n := n + 5) s t
  have hover : kp E (K + 1) (n + 6) ref08_Right [.list 2 (prs h.extra)] = some (.bool (overOk h.extra)) := refOver_k (n := n + 1) h.extra hb.2.2.2.2.1 hb.2.2.2.2.2 (by omega)
  have hl := known_loop (k := K + 1) (kp E (K + 1) (n + 6)) (fun key => which_k (n := n + 4) key (by omega)) h (f1 h) (f2 h) (f3 h) (f4 h) (f5 h) (f6 h) (f7 h) (f8 h) (f9 h) (f10 h) (f11 h) (f12 h) h.extra [] (K + 1) (overOk h.extra) rfl (by have := hb.2.2.2.2.1; omega) (by have := hb.2.2.2.2.1; omega)
  unfold encHead
  rw [ref09_fields_eq]
  have s : (bif decide (h.kind = 2) then ref09_fields_J0 (kp E (K + 1) (n + 6)) (K + 1) (K + 1) true h.kind (str h.name) (str h.link) h.mode h.uid h.gid h.size h.sec h.nano (str h.user) (str h.group) h.major h.minor (prs h.extra) false false false false false false false false false false false false false false else ref09_fields_J0 (kp E (K + 1) (n + 6)) (K + 1) (K + 1) (decide (h.kind = 3)) h.kind (str h.name) (str h.link) h.mode h.uid h.gid h.size h.sec h.nano (str h.user) (str h.group) h.major h.minor (prs h.extra) false false false false false false false false false false false false false false) = ref09_fields_J0 (kp E (K + 1) (n + 6)) (K + 1) (K + 1) (links h) h.kind (str h.name) (str h.link) h.mode h.uid h.gid h.size h.sec h.nano (str h.user) (str h.group) h.major h.minor (prs h.extra) false false false false false false false false false false false false false false := by
    cases hx : decide (h.kind = 2)
    · have e : links h = decide (h.kind = 3) := by unfold links; rw [hx, Bool.false_or]
      rw [e, cond_false]
    · have e : links h = true := by unfold links; rw [hx, Bool.true_or]
      rw [e, cond_true]
  refine s.trans ?_
  refine (fld0 _ h hb K).trans ?_
  refine (fld1 _ h hb K).trans ?_
  refine (fld2 _ h hb hname hslash K).trans ?_
  refine (fld3 _ h hb hname K).trans ?_
  refine (fld4 _ h hb K).trans ?_
  refine (fld5 _ h hb hname hright K).trans ?_
  refine (fld6 _ h hb hname K).trans ?_
  refine (fld7 _ h hb K).trans ?_
  refine (fld8 _ h hb K).trans ?_
  rw [ref09_fields_J9_s, hover, callB_ok]
  exact hl
theorem callG14 {β : Type} (b0 b1 b2 b3 b4 b5 b6 b7 b8 b9 b10 b11 b12 b13 : Bool) (F : Bool → Bool → Bool → Bool → Bool → Bool → Bool → Bool → Bool → Bool → Bool → Bool → Bool → Bool → Option β) : (callG 14 (some (.agg [.bool b0, .bool b1, .bool b2, .bool b3, .bool b4, .bool b5, .bool b6, .bool b7, .bool b8, .bool b9, .bool b10, .bool b11, .bool b12, .bool b13])) fun vg2 => (cellB vg2 0 fun q0 => (cellB vg2 1 fun q1 => (cellB vg2 2 fun q2 => (cellB vg2 3 fun q3 => (cellB vg2 4 fun q4 => (cellB vg2 5 fun q5 => (cellB vg2 6 fun q6 => (cellB vg2 7 fun q7 => (cellB vg2 8 fun q8 => (cellB vg2 9 fun q9 => (cellB vg2 10 fun q10 => (cellB vg2 11 fun q11 => (cellB vg2 12 fun q12 => (cellB vg2 13 fun q13 => (F q0 q1 q2 q3 q4 q5 q6 q7 q8 q9 q10 q11 q12 q13)))))))))))))))) = F b0 b1 b2 b3 b4 b5 b6 b7 b8 b9 b10 b11 b12 b13 := rfl
theorem refWrong_k [HasTextV E] (h : Head) (hb : BdF h) (hk : 2000000 < k) : kp E k (n + 8) ref09_Wrong [.agg (encHead h)] = some (.int .i64 (wrongH h)) := by
  have hf := fields_k (E := E) (k := k) (n := n) h hb hk
  obtain ⟨K, rfl⟩ : ∃ K, k = K + 14 := ⟨k - 14, by omega⟩
  have hw := wrong_loop (k := K + 14) (k0 := K) (kp E (K + 14) (n + 7)) false (f1 h) (f2 h) (f3 h) (f4 h) (f5 h) (f6 h) (f7 h) (f8 h) (f9 h) (f10 h) (f11 h) (f12 h) (f13 h)
  unfold encHead at hf ⊢
  unfold wrongH
  rw [ref09_Wrong_eq, hf]
  exact (callG14 _ _ _ _ _ _ _ _ _ _ _ _ _ _ fun q0 q1 q2 q3 q4 q5 q6 q7 q8 q9 q10 q11 q12 q13 => ref09_Wrong_L0 (kp E (K + 14) (n + 7)) (K + 14) (K + 14) (1 : Int) q0 q1 q2 q3 q4 q5 q6 q7 q8 q9 q10 q11 q12 q13).trans hw
end Go.Proofs.YtkbedfjhchhikaaGreatDoor.Eng.U


/- How many bytes pairs have together; a pair that is right. -/
set_option linter.unusedVariables false
set_option linter.unusedSimpArgs false
namespace Go.Proofs.YtkbedfjhchhikaaGreatDoor.Eng.U
open Go Go.Proofs Go.Proofs.YtkbedfjhchhikaaGreatDoor.Eng

def sumP : List Pair → Nat
  | [] => 0
  | p :: l => p.key.length + p.val.length + sumP l
theorem sum_mem : ∀ (l : List Pair) (p : Pair), p ∈ l → p.key.length + p.val.length ≤ sumP l
  | q :: l, p, h => by
    simp only [sumP]
    rcases List.mem_cons.1 h with rfl | h
    · omega
    · have := sum_mem l p h; omega
end Go.Proofs.YtkbedfjhchhikaaGreatDoor.Eng.U


/- What is printed is read, in plain Lean. -/
set_option linter.unusedVariables false
set_option linter.unusedSimpArgs false
namespace Go.Proofs.YtkbedfjhchhikaaGreatDoor.P04
open Go

/-! No fewer bytes. -/
end Go.Proofs.YtkbedfjhchhikaaGreatDoor.P04


/- The Dec laws answer true, part 2: reading, and back again. -/
set_option linter.unusedVariables false
set_option linter.unusedSectionVars false
set_option linter.unusedSimpArgs false
namespace Go.Proofs.YtkbedfjhchhikaaGreatDoor.Eng.U
open Go Go.Proofs Go.Proofs.YtkbedfjhchhikaaGreatDoor.Eng Go.Proofs.YtkbedfjhchhikaaGreatDoor.P04
variable {E : Ext} [Core E] [HasNum E] {k n : Nat}

theorem w0 : IntKind.wrap .i64 0 = 0 := i64w (by omega)
end Go.Proofs.YtkbedfjhchhikaaGreatDoor.Eng.U


/- A head's line: by the program and by the definition, in plain words. -/
set_option linter.unusedVariables false
set_option linter.unusedSectionVars false
set_option linter.unusedSimpArgs false
namespace Go.Proofs.YtkbedfjhchhikaaGreatDoor.Eng.U
open Go Go.Proofs Go.Proofs.YtkbedfjhchhikaaGreatDoor.Eng Go.Proofs.YtkbedfjhchhikaaGreatDoor.P04
variable {E : Ext} [Core E] [HasNum E] {k n k0 : Nat}

class HasJn (E : Ext) : Prop where
theorem itoa_le (v : Int) (h0 : -9223372036854775808 ≤ v) (h1 : v ≤ 9223372036854775807) : (Lib.itoa v).length ≤ 22 := by
  by_cases hv : 0 ≤ v
  · obtain ⟨u, rfl⟩ := Int.eq_ofNat_of_zero_le hv
    rw [Lib.itoa_nonneg]
    have := dig_len u (by omega)
    omega
  · obtain ⟨u, rfl⟩ : ∃ u : Nat, v = -(u : Int) := ⟨v.natAbs, by omega⟩
    have := dig_len u (by omega)
    rw [Lib.itoa_neg u (by omega), List.length_cons]
    omega
structure Bd20 (h : Head) : Prop where
  f : BdF h
  mode : -9223372036854775808 ≤ h.mode ∧ h.mode ≤ 9223372036854775807
  uid : -9223372036854775808 ≤ h.uid ∧ h.uid ≤ 9223372036854775807
  gid : -9223372036854775808 ≤ h.gid ∧ h.gid ≤ 9223372036854775807
  size : -9223372036854775808 ≤ h.size ∧ h.size ≤ 9223372036854775807
  sec : -9223372036854775808 ≤ h.sec ∧ h.sec ≤ 9223372036854775807
  major : -9223372036854775808 ≤ h.major ∧ h.major ≤ 9223372036854775807
  minor : -9223372036854775808 ≤ h.minor ∧ h.minor ≤ 9223372036854775807
  few : h.extra.length ≤ 2000
  sum : sumP h.extra ≤ 400000
end Go.Proofs.YtkbedfjhchhikaaGreatDoor.Eng.U


/- A head's line by the definition, in plain words. -/
set_option linter.unusedVariables false
set_option linter.unusedSectionVars false
set_option linter.unusedSimpArgs false
namespace Go.Proofs.YtkbedfjhchhikaaGreatDoor.Eng.U
open Go Go.Proofs Go.Proofs.YtkbedfjhchhikaaGreatDoor.Eng Go.Proofs.YtkbedfjhchhikaaGreatDoor.P04
variable {E : Ext} [Core E] [HasNum E] {k n k0 : Nat}

end Go.Proofs.YtkbedfjhchhikaaGreatDoor.Eng.U


/- The lines of items; whether there are many: in plain words. -/
set_option linter.unusedVariables false
set_option linter.unusedSectionVars false
set_option linter.unusedSimpArgs false
namespace Go.Proofs.YtkbedfjhchhikaaGreatDoor.Eng.U
open Go Go.Proofs Go.Proofs.YtkbedfjhchhikaaGreatDoor.Eng Go.Proofs.YtkbedfjhchhikaaGreatDoor.P04
variable {E : Ext} [Core E] [HasNum E] {k n k0 : Nat}

end Go.Proofs.YtkbedfjhchhikaaGreatDoor.Eng.U


/- Whether there are many items: in plain words. -/
set_option linter.unusedVariables false
set_option linter.unusedSectionVars false
set_option linter.unusedSimpArgs false
namespace Go.Proofs.YtkbedfjhchhikaaGreatDoor.Eng.U
open Go Go.Proofs Go.Proofs.YtkbedfjhchhikaaGreatDoor.Eng Go.Proofs.YtkbedfjhchhikaaGreatDoor.P04
variable {E : Ext} [Core E] {k n k0 : Nat}

def restI (x : Item) : Nat := x.head.name.length + x.head.link.length + x.head.user.length + x.head.group.length + x.data.length
def sumI : List Item → Nat
  | [] => 0
  | x :: l => restI x + sumP x.head.extra + sumI l
theorem many1 (kap : FuncId → List AV → Option AV) (all : List Pair) (hp : ∀ p ∈ all, p.key.length ≤ 140737488351232 ∧ p.val.length ≤ 140737488351232) (hl : all.length ≤ 5000000000000) (S0 : List AV) (S4 : Int) (b0 : Int) (b1 b2 : ByteArray) (b3 b4 b5 b6 b7 b8 : Int) (b9 b10 : ByteArray) (b11 b12 : Int) :
    ∀ (suf pre : List Pair) (k1 : Nat) (s : Int), suf.length < k1 → pre ++ suf = all →
    (30 < all.length → law17_Many_L1 kap k k0 k1 S0 s S4 ((pre.length : Nat) : Int) b0 b1 b2 b3 b4 b5 b6 b7 b8 b9 b10 b11 b12 (prs all) = some (.bool true)) ∧
    (all.length ≤ 30 → ∀ m : Nat, s = (m : Int) → m + suf.length * 300000000000000 ≤ 1000000000000000000 → law17_Many_L1 kap k k0 k1 S0 s S4 ((pre.length : Nat) : Int) b0 b1 b2 b3 b4 b5 b6 b7 b8 b9 b10 b11 b12 (prs all) =
      bif decide (300000 < m + sumP suf) then some (.bool true) else law17_Many_L0 kap k k0 S0 ((m + sumP suf : Nat) : Int) (IntKind.wrap .i64 (S4 + 1)))
  | [], pre, k1 + 1, s, h, he => by
    rw [List.append_nil] at he
    subst he
    rw [law17_Many_L1_s, prs_len, bif_f (by omega)]
    refine ⟨fun h30 => by rw [bif_t (by omega)], fun h30 m hs hm => ?_⟩
    subst hs
    rw [bif_f (by omega), show decide (((m : Nat) : Int) > (300000 : Int)) = decide (300000 < m + sumP []) from by rw [decide_eq_decide]; simp only [sumP]; omega]
    rfl
  | p :: suf, pre, k1 + 1, s, h, he => by
    have hlen : all.length = pre.length + suf.length + 1 := by rw [← he, mid_len]
    obtain ⟨p1, p2⟩ := hp p (by rw [← he]; simp)
    have at1 : ∀ F : AV → Option AV, ((prs all)[pre.length]?).bind F = F (elPair p) := fun F => by rw [← he]; exact prs_mid pre suf p F
    have ih := fun s => many1 kap all hp hl S0 S4 b0 b1 b2 b3 b4 b5 b6 b7 b8 b9 b10 b11 b12 suf (pre ++ [p]) k1 s (by simpa using h) (by simpa using he)
    rw [List.length_append, List.length_singleton] at ih
    rw [law17_Many_L1_s, prs_len, bif_t (by omega), inb (by omega), cond_true, Int.toNat_natCast, at1, cells_pair, p_0, cond_true, at1, cells_pair, p_1, wrap1 (by omega), str_size, str_size]
    refine ⟨fun h30 => (ih _).1 h30, fun h30 m hs hm => ?_⟩
    subst hs
    simp only [List.length_cons] at hm
    rw [i64w (x := (m : Int) + ((p.key.length : Nat) : Int)) (by omega), i64w (by omega)]
    refine ((ih _).2 h30 (m + p.key.length + p.val.length) (by omega) (by omega)).trans ?_
    simp only [sumP, Nat.add_assoc]
theorem many0 (k : Nat) (kap : FuncId → List AV → Option AV) (l : List Item) (hg : ∀ x ∈ l, G_apiItem x) (hl : l.length ≤ 1000000000000) (hk : 5000000000000 < k) :
    ∀ (suf pre : List Item) (k0 m : Nat), suf.length < k0 → pre ++ suf = l → m ≤ 300000 →
    ∃ b, law17_Many_L0 kap k k0 (its l) ((m : Nat) : Int) ((pre.length : Nat) : Int) = some (.bool b) ∧ (b = false → l.length ≤ 12 ∧ m + sumI suf ≤ 300000 ∧ ∀ x ∈ suf, x.head.extra.length ≤ 30)
  | [], pre, k0 + 1, m, h, he, hm => by
    rw [List.append_nil] at he
    subst he
    rw [law17_Many_L0_s, its_len, bif_f (by omega)]
    refine ⟨_, rfl, fun hb => ⟨?_, by simpa [sumI] using hm, fun x hx => by cases hx⟩⟩
    rw [decide_eq_false_iff_not] at hb
    omega
  | x :: suf, pre, k0 + 1, m, h, he, hm => by
    have hlen : l.length = pre.length + suf.length + 1 := by rw [← he, mid_len]
    have gx := hg x (by rw [← he]; simp)
    have gh := gx.head
    have at1 : ∀ F : AV → Option AV, ((its l)[pre.length]?).bind F = F (elItem x) := fun F => by rw [← he]; exact its_mid pre suf x F
    have hex := gh.extra
    have g1 := gh.name
    have g2 := gh.link
    have g3 := gh.user
    have g4 := gh.group
    have g5 := gx.data
    rw [law17_Many_L0_s, its_len, bif_t (by omega), inb (by omega), cond_true, Int.toNat_natCast, at1, cells_item]
    rw [i_0, i_1, i_2, i_3, i_4, i_5, i_6, i_7, i_8, i_9, i_10, i_11, i_12, i_13, cond_true, at1, cells_item, i_14, bys_len, str_size, str_size, str_size, str_size]
    rw [i64w (x := (m : Int) + ((x.head.name.length : Nat) : Int)) (by omega), i64w (x := (m : Int) + ((x.head.name.length : Nat) : Int) + ((x.head.link.length : Nat) : Int)) (by omega), i64w (x := (m : Int) + ((x.head.name.length : Nat) : Int) + ((x.head.link.length : Nat) : Int) + ((x.head.user.length : Nat) : Int)) (by omega), i64w (x := (m : Int) + ((x.head.name.length : Nat) : Int) + ((x.head.link.length : Nat) : Int) + ((x.head.user.length : Nat) : Int) + ((x.head.group.length : Nat) : Int)) (by omega), i64w (by omega)]
    have e : ((m : Nat) : Int) + ((x.head.name.length : Nat) : Int) + ((x.head.link.length : Nat) : Int) + ((x.head.user.length : Nat) : Int) + ((x.head.group.length : Nat) : Int) + ((x.data.length : Nat) : Int) = ((m + restI x : Nat) : Int) := by unfold restI; omega
    rw [e]
    have hr : restI x ≤ 1000000000000000 := by unfold restI; omega
    obtain ⟨c1, c2⟩ := many1 (k := k) (k0 := k0) kap x.head.extra (fun p hp => ⟨(gh.pairs p hp).key, (gh.pairs p hp).val⟩) (by omega) (its l) ((pre.length : Nat) : Int) x.head.kind (str x.head.name) (str x.head.link) x.head.mode x.head.uid x.head.gid x.head.size x.head.sec x.head.nano (str x.head.user) (str x.head.group) x.head.major x.head.minor x.head.extra [] k ((m + restI x : Nat) : Int) (by omega) rfl
    by_cases h30 : 30 < x.head.extra.length
    · exact ⟨true, c1 h30, fun hb => by cases hb⟩
    · have c := c2 (by omega) (m + restI x) rfl (by omega)
      by_cases hmany : 300000 < m + restI x + sumP x.head.extra
      · rw [bif_t hmany] at c
        exact ⟨true, c, fun hb => by cases hb⟩
      · rw [bif_f hmany, wrap1 (by omega)] at c
        obtain ⟨b, hb1, hb2⟩ := many0 k kap l hg hl hk suf (pre ++ [x]) k0 (m + restI x + sumP x.head.extra) (by simpa using h) (by simpa using he) (by omega)
        rw [List.length_append, List.length_singleton] at hb1
        refine ⟨b, c.trans hb1, fun hb => ?_⟩
        obtain ⟨d1, d2, d3⟩ := hb2 hb
        refine ⟨d1, by simp only [sumI]; omega, fun y hy => ?_⟩
        rcases List.mem_cons.1 hy with rfl | hy
        · omega
        · exact d3 y hy
theorem many_k (l : List Item) (hg : G_LapiItem l) (hk : 5000000000000 < k) : ∃ b, kp E k (n + 1) law17_Many [.list 15 (its l)] = some (.bool b) ∧ (b = false → l.length ≤ 12 ∧ sumI l ≤ 300000 ∧ ∀ x ∈ l, x.head.extra.length ≤ 30) := by
  rw [law17_Many_eq]
  have hl := hg.1
  obtain ⟨b, h1, h2⟩ := many0 k (kp E k n) l hg.2 (by omega) hk l [] k 0 (by omega) rfl (by omega)
  exact ⟨b, h1, fun hb => by have := h2 hb; simpa using this⟩
theorem sumI_mem : ∀ (l : List Item) (x : Item), x ∈ l → restI x + sumP x.head.extra ≤ sumI l
  | y :: l, x, h => by
    simp only [sumI]
    rcases List.mem_cons.1 h with rfl | h
    · omega
    · have := sumI_mem l x h; omega
theorem bd20_of {l : List Item} (hg : G_LapiItem l) (h1 : sumI l ≤ 300000) (h2 : ∀ x ∈ l, x.head.extra.length ≤ 30) : ∀ x ∈ l, Bd20 x.head := fun x hx => by
  have gh := (hg.2 x hx).head
  have hs := sumI_mem l x hx
  have h3 := h2 x hx
  unfold restI at hs
  have hp : ∀ p ∈ x.head.extra, p.key.length ≤ 1000000 ∧ p.val.length ≤ 1000000 := fun p hp => by have := sum_mem x.head.extra p hp; omega
  exact ⟨⟨by omega, by omega, by omega, by omega, by omega, hp⟩, gh.mode, gh.uid, gh.gid, gh.size, gh.sec, gh.major, gh.minor, by omega, by omega⟩
end Go.Proofs.YtkbedfjhchhikaaGreatDoor.Eng.U


/- ItemWrong in plain words: it answers true. -/
set_option linter.unusedVariables false
set_option linter.unusedSectionVars false
set_option linter.unusedSimpArgs false
namespace Go.Proofs.YtkbedfjhchhikaaGreatDoor.Eng.U
open Go Go.Proofs Go.Proofs.YtkbedfjhchhikaaGreatDoor.Eng Go.Proofs.YtkbedfjhchhikaaGreatDoor.P04
variable {E : Ext} [Core E] [HasNum E] {k n : Nat}

theorem itemRight_k [HasTextV E] (x : Item) (hb : BdF x.head) (hk : 1000000 < k) : kp E k (n + 9) item_Right [.agg (encItem x)] = some (.bool (decide (wrongH x.head = 0) && decide (x.head.size = ((x.data.length : Nat) : Int)))) := by
  have hw := wrong_kv (E := E) (k := k) (n := n) x.head hb hk
  unfold encHead at hw
  unfold encItem
  rw [item_Right_eq, hw, callI_ok, bys_len]
  cases decide (wrongH x.head = 0) <;> rfl
theorem refItemRight_k [HasTextV E] (x : Item) (hb : BdF x.head) (hk : 2000000 < k) : kp E k (n + 9) ref09_Right [.agg (encItem x)] = some (.bool (decide (wrongH x.head = 0) && decide (x.head.size = ((x.data.length : Nat) : Int)))) := by
  have hw := refWrong_k (E := E) (k := k) (n := n) x.head hb hk
  unfold encHead at hw
  unfold encItem
  rw [ref09_Right_eq, hw, callI_ok, bys_len]
  cases decide (wrongH x.head = 0) <;> rfl
end Go.Proofs.YtkbedfjhchhikaaGreatDoor.Eng.U


/- The line of a name and data, by the program and by the definition, in plain words. -/
set_option linter.unusedVariables false
set_option linter.unusedSectionVars false
set_option linter.unusedSimpArgs false
namespace Go.Proofs.YtkbedfjhchhikaaGreatDoor.Eng.U
open Go Go.RowKit Go.Proofs Go.Proofs.YtkbedfjhchhikaaGreatDoor.Eng Go.Proofs.YtkbedfjhchhikaaGreatDoor.S32 Go.Proofs.YtkbedfjhchhikaaGreatDoor.Q32
variable {E : Ext} [Core E] [HasNum E] [HasCrc E] [HasQuote E] [HasTextV E] {k n : Nat}

theorem nums_bd (l : Tx) : ∀ c ∈ nums l, 0 ≤ c ∧ c ≤ 255 := fun c hc => by
  obtain ⟨x, hx, rfl⟩ := List.mem_map.1 hc
  have := x.toNat_lt
  omega
theorem moreI_T (l : Tx) : moreI 0 l = T (~~~(run ((nums l).map byte) (~~~0#32))) := by
  have h := more_T 0#32 (nums l) (nums_bd l)
  unfold crc_More.f at h
  exact Option.some.inj h
theorem moreI_bd (l : Tx) : 0 ≤ moreI 0 l ∧ moreI 0 l < 4294967296 := by rw [moreI_T]; exact T_bd _
/-! The definition's sum. -/
theorem xor64' (x y : Q32.B) : IntKind.wrap .u64 (((BitVec.ofInt (IntKind.bits .u64) (T x) ^^^ BitVec.ofInt (IntKind.bits .u64) (T y)).toNat : Nat) : Int) = T (x ^^^ y) := xor64 x y
theorem rm1 (kap : FuncId → List AV → Option AV) (k0 : Nat) (s1 : List AV) (s6 : Int) : ∀ (d j : Nat) (x : Q32.B) (k1 : Nat), j + d = 8 → d < k1 →
    ref32_More_L1 kap k k0 k1 s1 (T x) s6 ((j : Nat) : Int) = ref32_More_L0 kap k k0 s1 (T (stps d x)) (IntKind.wrap .i64 (s6 + 1))
  | 0, j, x, k1 + 1, hj, hk => by
    rw [ref32_More_L1_s, bif_f (by omega)]
    rfl
  | d + 1, j, x, k1 + 1, hj, hk => by
    have hb := T_bd x
    have e1 : Int.tmod (T x) 2 = T x % 2 := Int.tmod_eq_emod_of_nonneg hb.1
    have e2 : IntKind.u64.wrap (Int.tdiv (T x) 2) = T (x >>> 1) := by
      rw [Int.tdiv_eq_ediv_of_nonneg hb.1, div2]; have := T_bd (x >>> 1); exact wraps_u64 _ this.1 (by omega)
    have ih := rm1 kap k0 s1 s6 d (j + 1) (stp x) k1 (by omega) (by omega)
    rw [ref32_More_L1_s, bif_t (by omega), e1, e2, T_poly, xor64', wrap1 (by omega)]
    by_cases hl : x.getLsbD 0 = true
    · have es : stp x = (x >>> 1) ^^^ poly := by unfold stp; rw [if_pos hl]
      rw [decide_eq_true ((low x).2 hl), cond_true, ← es]
      exact ih
    · have es : stp x = (x >>> 1) := by unfold stp; rw [if_neg hl]
      rw [decide_eq_false (fun e => hl ((low x).1 e)), cond_false, ← es]
      exact ih
theorem rm0 (kap : FuncId → List AV → Option AV) (hk8 : 10 < k) : ∀ (suf pre : Tx) (x : Q32.B) (k0 : Nat), suf.length < k0 → (pre ++ suf).length < 1000000000 →
    ref32_More_L0 kap k k0 (bys (pre ++ suf)) (T x) ((pre.length : Nat) : Int) = some (.int .u32 (T (~~~(run ((nums suf).map byte) x))))
  | [], pre, x, k0 + 1, h, hb => by
    have hn := T_bd (~~~x)
    rw [ref32_More_L0_s, bys_len, List.append_nil, bif_f (by omega), not_sub, wraps_u64 _ hn.1 (by omega), wraps_u32 _ hn.1 (by omega)]
    rfl
  | c :: suf, pre, x, k0 + 1, h, hb => by
    have hm := mid_len pre suf c
    have hc := c.toNat_lt
    have ih := rm0 kap hk8 suf (pre ++ [c]) (stps 8 (x ^^^ byte ((c.toNat : Nat) : Int))) k0 (by simpa using h) (by simpa using hb)
    rw [← mid_snoc, List.length_append, List.length_singleton] at ih
    have hbt : IntKind.u64.wrap ((c.toNat : Nat) : Int) = T (byte ((c.toNat : Nat) : Int)) := by rw [wraps_u64 _ (by omega) (by omega), T_byte (by omega) (by omega)]
    rw [ref32_More_L0_s, bys_len, hm, bif_t (by omega), inb (by omega), cond_true, Int.toNat_natCast, bys_mid, byte_c, hbt, xor64']
    refine (rm1 kap k0 _ _ 8 0 _ k rfl (by omega)).trans ?_
    rw [wrap1 (by omega)]
    exact ih
theorem refMore_k (l : Tx) (hl : l.length < 1000000000) (hk : l.length < k) (hk8 : 10 < k) : kp E k (n + 1) ref32_More [.int .u32 0, .list 1 (bys l)] = some (.int .u32 (moreI 0 l)) := by
  have e0 : IntKind.wrap .u64 ((4294967295 : Int) - IntKind.wrap .u64 0) = T (~~~0#32) := by decide +kernel
  rw [ref32_More_eq, e0, moreI_T]
  exact rm0 (k := k) (kp E k n) hk8 l [] (~~~0#32) k hk (by simpa using hl)
/-! Eight digits. -/
theorem rep48 (m : Nat) : Lib.repeatL [48] m = List.replicate m 48 := by
  induction m with
  | zero => rfl
  | succ m ih =>
    simp only [Lib.repeatL] at *
    simp [List.replicate_succ, ih]
theorem eight_k (v : Nat) (hv : v < 4294967296) : kp E k (n + 1) crc_eight [.int .u32 ((v : Nat) : Int)] = some (.str (str (eightL v))) := by
  have hl := hex15_len v hv
  have e1 := HasCrc.hex (E := E) k n v (by omega)
  have e2 := HasNum.rep (E := E) k n [48] (8 - (hexL 15 v).length) (by omega) (by simp; omega)
  rw [crc_eight_eq, wraps_u64 _ (by omega) (by omega), e1, callS_ok, str_size, show IntKind.wrap .i64 ((8 : Int) - (((hexL 15 v).length : Nat) : Int)) = ((8 - (hexL 15 v).length : Nat) : Int) from by rw [i64w (by omega)]; omega, e2, callS_ok, rep48, str_size, List.length_replicate, bif_t (by omega), str_app]
  rfl
def hexW (b : Tx) : Tx := b.flatMap fun c => [hexD (c.toNat / 16), hexD (c.toNat % 16)]
def hexS : Tx := [48, 49, 50, 51, 52, 53, 54, 55, 56, 57, 97, 98, 99, 100, 101, 102]
theorem hexS_at : ∀ d, d < 16 → (str hexS).extract d (d + 1) = str [hexD d] := by decide +kernel
theorem word_loop (kap : FuncId → List AV → Option AV) : ∀ (suf pre acc : Tx) (k0 : Nat), suf.length < k0 → (pre ++ suf).length ≤ 1000 → acc.length = 2 * pre.length →
    ref21_Word_L0 kap k k0 (bys (pre ++ suf)) (str hexS) (str acc) ((pre.length : Nat) : Int) = some (.str (str (acc ++ hexW suf)))
  | [], pre, acc, k0 + 1, h, hb, ha => by
    rw [ref21_Word_L0_s, bys_len, List.append_nil, bif_f (by omega)]
    simp [hexW]
  | c :: suf, pre, acc, k0 + 1, h, hb, ha => by
    have hm := mid_len pre suf c
    have hc := c.toNat_lt
    have ih := word_loop kap suf (pre ++ [c]) (acc ++ [hexD (c.toNat / 16)] ++ [hexD (c.toNat % 16)]) k0 (by simpa using h) (by simpa using hb) (by simp; omega)
    rw [← mid_snoc, List.length_append, List.length_singleton] at ih
    have w1 : IntKind.wrap .i64 ((c.toNat : Nat) : Int) = ((c.toNat : Nat) : Int) := i64w (by omega)
    have t1 : Int.tdiv ((c.toNat : Nat) : Int) 16 = ((c.toNat / 16 : Nat) : Int) := by rw [Int.tdiv_eq_ediv_of_nonneg (by omega)]; omega
    have t2 : Int.tmod ((c.toNat : Nat) : Int) 16 = ((c.toNat % 16 : Nat) : Int) := by rw [Int.tmod_eq_emod_of_nonneg (by omega)]; omega
    have w2 : IntKind.wrap .i64 ((c.toNat / 16 : Nat) : Int) = ((c.toNat / 16 : Nat) : Int) := i64w (by omega)
    have x1 := hexS_at (c.toNat / 16) (by omega)
    have x2 := hexS_at (c.toNat % 16) (by omega)
    have hz : (str hexS).size = 16 := by rw [str_size]; rfl
    have hw : hexW (c :: suf) = [hexD (c.toNat / 16)] ++ [hexD (c.toNat % 16)] ++ hexW suf := rfl
    rw [ref21_Word_L0_s, bys_len, hm, bif_t (by omega), inb (by omega), cond_true, Int.toNat_natCast, bys_mid, byte_c, cond_true, bys_mid, byte_c, w1, t1, t2, w2, wrap1 (by omega), wrap1 (by omega), hz, inbE (by omega), cond_true, Int.toNat_natCast, inbE (by omega), cond_true, Int.toNat_natCast, x1, str_size, str_size, bif_t (by simp; omega), inbE (by omega), cond_true, Int.toNat_natCast, inbE (by omega), cond_true, Int.toNat_natCast, x2, str_app, str_size, str_size, bif_t (by simp; omega), str_app, wrap1 (by omega), hw]
    refine ih.trans ?_
    simp
/-! The line. -/
theorem refWord_k (b : Tx) (h1 : 0 < b.length) (h2 : b.length ≤ 1000) (hk : b.length < k) : kp E k (n + 1) ref21_Word [.list 1 (bys b)] = some (.str (str (hexW b))) := by
  have e := word_loop (k := k) (kp E k n) b [] [] k hk (by simpa using h2) rfl
  rw [ref21_Word_eq, bys_len, bif_f (by omega)]
  exact e
def lineC (name b : Tx) : Tx := eightL (moreI 0 b).toNat ++ [32] ++ Lib.itoa ((b.length : Nat) : Int) ++ [32, 61] ++ quoteL name
theorem crcLine_k (name b : Tx) (h1 : name.length ≤ 400000) (h2 : b.length ≤ 400000) : kp E k (n + 3) crc_line [.str (str name), .list 1 (bys b)] = some (.str (str (lineC name b))) := by
  have hm := moreI_bd b
  obtain ⟨v, hv⟩ := Int.eq_ofNat_of_zero_le hm.1
  have e1 := HasCrc.more (E := E) k (n + 1) 0 b (by omega)
  have e2 : kp E k (n + 2) crc_Sum [.list 1 (bys b)] = some (.int .u32 ((v : Nat) : Int)) := by
    rw [crc_Sum_eq, e1, callI_ok, hv]
  have e3 := eight_k (E := E) (k := k) (n := n + 1) v (by omega)
  have e4 := HasNum.itoa (E := E) k (n + 2) ((b.length : Nat) : Int) (by omega) (by omega)
  have e5 := HasQuote.quote (E := E) k (n + 2) name (by omega)
  have l1 := eight_len v (by omega)
  have l2 := itoa_le ((b.length : Nat) : Int) (by omega) (by omega)
  have l3 := quote_len name
  have hlv : lineC name b = eightL v ++ [32] ++ Lib.itoa ((b.length : Nat) : Int) ++ [32, 61] ++ quoteL name := by unfold lineC; rw [hv]; rfl
  rw [crc_line_eq, e2, callI_ok, e3, callS_ok, bys_len, e4, callS_ok, e5, callS_ok, str_app, str_app, str_app, str_app, str_size, str_size, str_size, str_size, str_size, str_size, bif_t (by omega), bif_t (by simp; omega), bif_t (by simp; omega), bif_t (by simp; omega), hlv]
theorem crcRefLine_k (name b : Tx) (h1 : name.length ≤ 400000) (h2 : b.length ≤ 400000) (hk : 400000 < k) : kp E k (n + 21) ref32_Line [.str (str name), .list 1 (bys b)] = some (.str (str (lineC name b))) := by
  have hm := moreI_bd b
  obtain ⟨v, hv⟩ := Int.eq_ofNat_of_zero_le hm.1
  have hv' : v < 4294967296 := by omega
  have e1 := refMore_k (E := E) (k := k) (n := n + 19) b (by omega) (by omega) (by omega)
  rw [hv] at e1
  have e3 := refWord_k (E := E) (k := k) (n := n + 19) [UInt8.ofNat (v / 16777216), UInt8.ofNat (v / 65536 % 256), UInt8.ofNat (v / 256 % 256), UInt8.ofNat (v % 256)] (by simp) (by simp) (by simp; omega)
  have e4 := refText_k (E := E) (k := k) (n := n) ((b.length : Nat) : Int) (by omega) (by omega)
  have e5 := refQuote_k (E := E) (k := k) (n := n + 18) name (by omega) (by omega)
  have b0 : ∀ x, x < 256 → (UInt8.ofNat x).toNat = x := fun x hx => by rw [UInt8.toNat_ofNat']; omega
  have hw : hexW [UInt8.ofNat (v / 16777216), UInt8.ofNat (v / 65536 % 256), UInt8.ofNat (v / 256 % 256), UInt8.ofNat (v % 256)] = eightL v := by
    rw [eight_word v hv']
    simp only [hexW, List.flatMap_cons, List.flatMap_nil, List.append_nil, List.cons_append, List.nil_append]
    rw [b0 _ (by omega), b0 _ (by omega), b0 _ (by omega), b0 _ (by omega)]
  rw [hw] at e3
  have a1 : IntKind.wrap .u8 (IntKind.wrap .u32 (Int.tdiv ((v : Nat) : Int) 16777216)) = (((UInt8.ofNat (v / 16777216)).toNat : Nat) : Int) := by
    rw [b0 _ (by omega), Int.tdiv_eq_ediv_of_nonneg (by omega), IntKind.wrap_u32, IntKind.wrap_u8]; omega
  have a2 : IntKind.wrap .u8 (Int.tmod (IntKind.wrap .u32 (Int.tdiv ((v : Nat) : Int) 65536)) 256) = (((UInt8.ofNat (v / 65536 % 256)).toNat : Nat) : Int) := by
    rw [b0 _ (by omega), Int.tdiv_eq_ediv_of_nonneg (by omega), IntKind.wrap_u32, Int.tmod_eq_emod_of_nonneg (by omega), IntKind.wrap_u8]; omega
  have a3 : IntKind.wrap .u8 (Int.tmod (IntKind.wrap .u32 (Int.tdiv ((v : Nat) : Int) 256)) 256) = (((UInt8.ofNat (v / 256 % 256)).toNat : Nat) : Int) := by
    rw [b0 _ (by omega), Int.tdiv_eq_ediv_of_nonneg (by omega), IntKind.wrap_u32, Int.tmod_eq_emod_of_nonneg (by omega), IntKind.wrap_u8]; omega
  have a4 : IntKind.wrap .u8 (Int.tmod ((v : Nat) : Int) 256) = (((UInt8.ofNat (v % 256)).toNat : Nat) : Int) := by
    rw [b0 _ (by omega), Int.tmod_eq_emod_of_nonneg (by omega), IntKind.wrap_u8]; omega
  have l1 := eight_len v hv'
  have l2 := itoa_le ((b.length : Nat) : Int) (by omega) (by omega)
  have l3 := quote_len name
  have hlv : lineC name b = eightL v ++ [32] ++ Lib.itoa ((b.length : Nat) : Int) ++ [32, 61] ++ quoteL name := by unfold lineC; rw [hv]; rfl
  have e3' : kp E k (n + 20) ref21_Word [.list 1 [.int .u8 (((UInt8.ofNat (v / 16777216)).toNat : Nat) : Int), .int .u8 (((UInt8.ofNat (v / 65536 % 256)).toNat : Nat) : Int), .int .u8 (((UInt8.ofNat (v / 256 % 256)).toNat : Nat) : Int), .int .u8 (((UInt8.ofNat (v % 256)).toNat : Nat) : Int)]] = some (.str (str (eightL v))) := e3
  rw [ref32_Line_eq, e1]
  rw [callI_ok]
  show callS (kp E k (n + 20) ref21_Word [.list 1 [.int .u8 (IntKind.wrap .u8 (IntKind.wrap .u32 (Int.tdiv ((v : Nat) : Int) 16777216))), .int .u8 (IntKind.wrap .u8 (Int.tmod (IntKind.wrap .u32 (Int.tdiv ((v : Nat) : Int) 65536)) 256)), .int .u8 (IntKind.wrap .u8 (Int.tmod (IntKind.wrap .u32 (Int.tdiv ((v : Nat) : Int) 256)) 256)), .int .u8 (IntKind.wrap .u8 (Int.tmod ((v : Nat) : Int) 256))]]) _ = _
  rw [a1, a2, a3, a4, e3', callS_ok, bys_len, e4, callS_ok, e5, callS_ok, str_app, str_app, str_app, str_app, str_size, str_size, str_size, str_size, str_size, str_size, bif_t (by omega), bif_t (by simp; omega), bif_t (by simp; omega), bif_t (by simp; omega), hlv]
end Go.Proofs.YtkbedfjhchhikaaGreatDoor.Eng.U


/- The lists of lines in plain words; CrcLists answers true. -/
set_option linter.unusedVariables false
set_option linter.unusedSectionVars false
set_option linter.unusedSimpArgs false
namespace Go.Proofs.YtkbedfjhchhikaaGreatDoor.Eng.U
open Go Go.RowKit Go.Proofs Go.Proofs.YtkbedfjhchhikaaGreatDoor.Eng Go.Proofs.YtkbedfjhchhikaaGreatDoor.S32 Go.Proofs.YtkbedfjhchhikaaGreatDoor.Q32
variable {E : Ext} [Core E] [HasNum E] [HasCrc E] [HasQuote E] [HasTextV E] {k n : Nat}

def rightB (x : Item) : Bool := decide (wrongH x.head = 0) && decide (x.head.size = ((x.data.length : Nat) : Int))
def lineI (x : Item) : Tx := lineC x.head.name x.data
def linesC (l : List Item) : List Tx := (l.filter fun x => decide (x.head.kind = 1)).map lineI
def wantC (l : List Item) : List Tx := (l.filter fun x => rightB x && decide (x.head.kind = 1)).map lineI
structure Ok32 (x : Item) : Prop where
  head : BdF x.head
  name : x.head.name.length ≤ 400000
  data : x.data.length ≤ 400000
theorem wantC_all : ∀ l : List Item, l.all rightB = true → wantC l = linesC l := fun l h => by
  unfold wantC linesC
  congr 1
  refine List.filter_congr fun x hx => ?_
  rw [List.all_eq_true.1 h x hx, Bool.true_and]
theorem linesC_len (l : List Item) : (linesC l).length ≤ l.length := by unfold linesC; rw [List.length_map]; exact List.length_filter_le _ _
theorem wantC_len (l : List Item) : (wantC l).length ≤ l.length := by unfold wantC; rw [List.length_map]; exact List.length_filter_le _ _
theorem wantC_snoc (l : List Item) (x : Item) : wantC (l ++ [x]) = wantC l ++ (if rightB x && decide (x.head.kind = 1) then [lineI x] else []) := by
  unfold wantC
  rw [List.filter_append, List.map_append]
  congr 1
  by_cases h : (rightB x && decide (x.head.kind = 1)) = true
  · rw [if_pos h, List.filter_cons, if_pos h]; rfl
  · rw [if_neg h, List.filter_cons, if_neg h]; rfl
theorem linesC_cons (x : Item) (l : List Item) : linesC (x :: l) = (if x.head.kind = 1 then [lineI x] else []) ++ linesC l := by
  unfold linesC
  rw [List.filter_cons]
  by_cases h : x.head.kind = 1
  · rw [if_pos (by simpa using h), if_pos h]; rfl
  · rw [if_neg (by simpa using h), if_neg h]; rfl
theorem item_k (x : Item) (h : Ok32 x) (hk : 2000000 < k) : kp E k (n + 9) item_Right [elItem x] = some (.bool (rightB x)) := itemRight_k x h.head (by omega)
theorem refItem_k (x : Item) (h : Ok32 x) (hk : 2000000 < k) : kp E k (n + 9) ref09_Right [elItem x] = some (.bool (rightB x)) := refItemRight_k x h.head hk
def ansLine (x : Item) : AV := if (rightB x && decide (x.head.kind = 1)) = true then .tup [.str (str (lineI x)), .int .u8 0] else .tup [.str (str []), .int .u8 15]
theorem Line_k (x : Item) (h : Ok32 x) (hk : 2000000 < k) : kp E k (n + 10) crc_Line [elItem x] = some (ansLine x) := by
  have e1 := item_k (E := E) (k := k) (n := n) x h hk
  have e2 := crcLine_k (E := E) (k := k) (n := n + 6) x.head.name x.data h.name h.data
  refine (crc_Line_eq (E := E) k (n + 9) x.head.kind (str x.head.name) (str x.head.link) x.head.mode x.head.uid x.head.gid x.head.size x.head.sec x.head.nano (str x.head.user) (str x.head.group) x.head.major x.head.minor (prs x.head.extra) (bys x.data)).trans ?_
  unfold ansLine
  simp (disch := first | omega | (simp only [List.length_append, List.length_cons, List.length_nil, List.length_take, List.length_drop]; done) | (simp only [List.length_append, List.length_cons, List.length_nil, List.length_take, List.length_drop]; omega) | fail) only [bif_t, bif_f, bif_n, bif_a, callB_ok, callI_ok, callS_ok, callL_ok, callF_ok, callT_ok, tupB_ok, tupI_ok, tupS_ok, tupL_ok, tupF_ok, atNil_ok, wrap1, wrapM, wrapP, Int.toNat_natCast, svs_len, ivs_len, bvs_len, str_size, svs_mid, ivs_mid, str_dec, str_ext, str_byte, mid_byte, mid_cut, List.length_nil, List.length_singleton, svs_snoc, ivs_snoc, svs_take, svs_drop, str_app, List.take_length, List.drop_zero, List.nil_append, cond_true, cond_false, Option.bind_some, Bool.not_true, Bool.not_false, Bool.true_and, Bool.and_true, bys_len, prs_len, its_len, cells_pair, cells_time, cells_head, cells_item, fold_pair, fold_time, fold_head, fold_ihead, fold_item, prs_mid, its_mid, bys_mid, byte_c, callG_pair, callG_time, callG_head, callG_item, tupG_pair, tupG_time, tupG_head, tupG_item, h_0, i_0, h_1, i_1, h_2, i_2, h_3, i_3, h_4, i_4, h_5, i_5, h_6, i_6, h_7, i_7, h_8, i_8, h_9, i_9, h_10, i_10, h_11, i_11, h_12, i_12, h_13, i_13, i_14, p_0, p_1, t_0, t_1, e1]
  cases hr : rightB x with
  | false => rfl
  | true =>
    by_cases hk1 : x.head.kind = 1
    · rw [decide_eq_true hk1]
      simp (disch := first | omega | (simp only [List.length_append, List.length_cons, List.length_nil, List.length_take, List.length_drop]; done) | (simp only [List.length_append, List.length_cons, List.length_nil, List.length_take, List.length_drop]; omega) | fail) only [bif_t, bif_f, bif_n, bif_a, callB_ok, callI_ok, callS_ok, callL_ok, callF_ok, callT_ok, tupB_ok, tupI_ok, tupS_ok, tupL_ok, tupF_ok, atNil_ok, wrap1, wrapM, wrapP, Int.toNat_natCast, svs_len, ivs_len, bvs_len, str_size, svs_mid, ivs_mid, str_dec, str_ext, str_byte, mid_byte, mid_cut, List.length_nil, List.length_singleton, svs_snoc, ivs_snoc, svs_take, svs_drop, str_app, List.take_length, List.drop_zero, List.nil_append, cond_true, cond_false, Option.bind_some, Bool.not_true, Bool.not_false, Bool.true_and, Bool.and_true, bys_len, prs_len, its_len, cells_pair, cells_time, cells_head, cells_item, fold_pair, fold_time, fold_head, fold_ihead, fold_item, prs_mid, its_mid, bys_mid, byte_c, callG_pair, callG_time, callG_head, callG_item, tupG_pair, tupG_time, tupG_head, tupG_item, h_0, i_0, h_1, i_1, h_2, i_2, h_3, i_3, h_4, i_4, h_5, i_5, h_6, i_6, h_7, i_7, h_8, i_8, h_9, i_9, h_10, i_10, h_11, i_11, h_12, i_12, h_13, i_13, i_14, p_0, p_1, t_0, t_1, e2]
      rfl
    · rw [decide_eq_false hk1]
      rfl
def ansList (l : List Item) : List AV := if l.all rightB then [.list 1 (svs (linesC l)), .int .u8 0] else [.list 1 [], .int .u8 15]
theorem list_loop (l : List Item) (hb : ∀ x ∈ l, Ok32 x) (hl : l.length ≤ 12) (hk : 2000000 < k) : ∀ (suf pre : List Item) (out : List Tx) (k0 : Nat), suf.length < k0 → l = pre ++ suf → out.length ≤ pre.length →
    crc_List_L0 (kp E k (n + 9)) k k0 (its l) ((l.length : Nat) : Int) ((pre.length : Nat) : Int) (svs out) = some (.tup (if suf.all rightB then [.list 1 (svs (out ++ linesC suf)), .int .u8 0] else [.list 1 [], .int .u8 15]))
  | [], pre, out, k0 + 1, h, he, ho => by
    have hll : l.length = pre.length := by rw [he]; simp
    rw [crc_List_L0_s, bif_f (by omega)]
    simp [linesC]
  | x :: suf, pre, out, k0 + 1, h, he, ho => by
    have hll : l.length = pre.length + suf.length + 1 := by rw [he]; exact mid_len pre suf x
    have hx := hb x (by rw [he]; simp)
    have e1 := item_k (E := E) (k := k) (n := n) x hx hk
    have e2 := crcLine_k (E := E) (k := k) (n := n + 6) x.head.name x.data hx.name hx.data
    have hg : ∀ F : AV → Option AV, ((its l)[pre.length]?).bind F = F (elItem x) := fun F => by rw [he]; exact its_mid _ _ _ _
    have ih := fun out ho => list_loop l hb hl hk suf (pre ++ [x]) out k0 (by simpa using h) (by rw [he]; simp) ho
    rw [List.length_append, List.length_singleton] at ih
    rw [crc_List_L0_s]
    simp (disch := first | omega | (simp only [List.length_append, List.length_cons, List.length_nil, List.length_take, List.length_drop]; done) | (simp only [List.length_append, List.length_cons, List.length_nil, List.length_take, List.length_drop]; omega) | fail) only [bif_t, bif_f, bif_n, bif_a, callB_ok, callI_ok, callS_ok, callL_ok, callF_ok, callT_ok, tupB_ok, tupI_ok, tupS_ok, tupL_ok, tupF_ok, atNil_ok, wrap1, wrapM, wrapP, Int.toNat_natCast, svs_len, ivs_len, bvs_len, str_size, svs_mid, ivs_mid, str_dec, str_ext, str_byte, mid_byte, mid_cut, List.length_nil, List.length_singleton, svs_snoc, ivs_snoc, svs_take, svs_drop, str_app, List.take_length, List.drop_zero, List.nil_append, cond_true, cond_false, Option.bind_some, Bool.not_true, Bool.not_false, Bool.true_and, Bool.and_true, bys_len, prs_len, its_len, cells_pair, cells_time, cells_head, cells_item, fold_pair, fold_time, fold_head, fold_ihead, fold_item, prs_mid, its_mid, bys_mid, byte_c, callG_pair, callG_time, callG_head, callG_item, tupG_pair, tupG_time, tupG_head, tupG_item, h_0, i_0, h_1, i_1, h_2, i_2, h_3, i_3, h_4, i_4, h_5, i_5, h_6, i_6, h_7, i_7, h_8, i_8, h_9, i_9, h_10, i_10, h_11, i_11, h_12, i_12, h_13, i_13, i_14, p_0, p_1, t_0, t_1, hg, hll, e1]
    rw [List.all_cons]
    cases hr : rightB x with
    | false => rfl
    | true =>
      rw [linesC_cons, Bool.true_and]
      by_cases hk1 : x.head.kind = 1
      · rw [decide_eq_true hk1, if_pos hk1]
        have i1 := ih (out ++ [lineI x]) (by simp; omega)
        rw [hll] at i1
        simp (disch := first | omega | (simp only [List.length_append, List.length_cons, List.length_nil, List.length_take, List.length_drop]; done) | (simp only [List.length_append, List.length_cons, List.length_nil, List.length_take, List.length_drop]; omega) | fail) only [bif_t, bif_f, bif_n, bif_a, callB_ok, callI_ok, callS_ok, callL_ok, callF_ok, callT_ok, tupB_ok, tupI_ok, tupS_ok, tupL_ok, tupF_ok, atNil_ok, wrap1, wrapM, wrapP, Int.toNat_natCast, svs_len, ivs_len, bvs_len, str_size, svs_mid, ivs_mid, str_dec, str_ext, str_byte, mid_byte, mid_cut, List.length_nil, List.length_singleton, svs_snoc, ivs_snoc, svs_take, svs_drop, str_app, List.take_length, List.drop_zero, List.nil_append, cond_true, cond_false, Option.bind_some, Bool.not_true, Bool.not_false, Bool.true_and, Bool.and_true, bys_len, prs_len, its_len, cells_pair, cells_time, cells_head, cells_item, fold_pair, fold_time, fold_head, fold_ihead, fold_item, prs_mid, its_mid, bys_mid, byte_c, callG_pair, callG_time, callG_head, callG_item, tupG_pair, tupG_time, tupG_head, tupG_item, h_0, i_0, h_1, i_1, h_2, i_2, h_3, i_3, h_4, i_4, h_5, i_5, h_6, i_6, h_7, i_7, h_8, i_8, h_9, i_9, h_10, i_10, h_11, i_11, h_12, i_12, h_13, i_13, i_14, p_0, p_1, t_0, t_1, e2]
        refine i1.trans ?_
        rw [List.append_assoc]
      · rw [decide_eq_false hk1, if_neg hk1]
        have i1 := ih out (by omega)
        rw [hll] at i1
        simp (disch := first | omega | (simp only [List.length_append, List.length_cons, List.length_nil, List.length_take, List.length_drop]; done) | (simp only [List.length_append, List.length_cons, List.length_nil, List.length_take, List.length_drop]; omega) | fail) only [bif_t, bif_f, bif_n, bif_a, callB_ok, callI_ok, callS_ok, callL_ok, callF_ok, callT_ok, tupB_ok, tupI_ok, tupS_ok, tupL_ok, tupF_ok, atNil_ok, wrap1, wrapM, wrapP, Int.toNat_natCast, svs_len, ivs_len, bvs_len, str_size, svs_mid, ivs_mid, str_dec, str_ext, str_byte, mid_byte, mid_cut, List.length_nil, List.length_singleton, svs_snoc, ivs_snoc, svs_take, svs_drop, str_app, List.take_length, List.drop_zero, List.nil_append, cond_true, cond_false, Option.bind_some, Bool.not_true, Bool.not_false, Bool.true_and, Bool.and_true, bys_len, prs_len, its_len, cells_pair, cells_time, cells_head, cells_item, fold_pair, fold_time, fold_head, fold_ihead, fold_item, prs_mid, its_mid, bys_mid, byte_c, callG_pair, callG_time, callG_head, callG_item, tupG_pair, tupG_time, tupG_head, tupG_item, h_0, i_0, h_1, i_1, h_2, i_2, h_3, i_3, h_4, i_4, h_5, i_5, h_6, i_6, h_7, i_7, h_8, i_8, h_9, i_9, h_10, i_10, h_11, i_11, h_12, i_12, h_13, i_13, i_14, p_0, p_1, t_0, t_1]
        exact i1
theorem List_k (l : List Item) (hb : ∀ x ∈ l, Ok32 x) (hl : l.length ≤ 12) (hk : 2000000 < k) : kp E k (n + 10) crc_List [.list 15 (its l)] = some (.tup (ansList l)) := by
  rw [crc_List_eq, its_len]
  exact list_loop l hb hl hk l [] [] k (by omega) rfl (Nat.le_refl _)
theorem cl1 (kap : FuncId → List AV → Option AV) (w : List Tx) (hw : w.length ≤ 12) : ∀ (suf pre : List Tx) (k1 : Nat), suf.length < k1 → w = pre ++ suf →
    law32_CrcLists_L1 kap k k1 (svs w) ((pre.length : Nat) : Int) (svs w) = some (.bool true)
  | [], pre, k1 + 1, h, he => by
    have hll : w.length = pre.length := by rw [he]; simp
    rw [law32_CrcLists_L1_s, svs_len, bif_f (by omega)]
  | x :: suf, pre, k1 + 1, h, he => by
    have hll : w.length = pre.length + suf.length + 1 := by rw [he]; exact mid_len pre suf x
    have ih := cl1 kap w hw suf (pre ++ [x]) k1 (by simpa using h) (by rw [he]; simp)
    rw [List.length_append, List.length_singleton] at ih
    have hg : ∀ K : ByteArray → Option AV, (((svs w)[pre.length]?).bind fun y => cellS (AV.cells y) 0 K) = K (str x) := fun K => by rw [he]; exact svs_mid _ _ _ _
    rw [law32_CrcLists_L1_s, svs_len, bif_t (by omega), inb (by omega), cond_true, Int.toNat_natCast, hg, cond_true, hg, decide_eq_true rfl, wrap1 (by omega)]
    exact ih
set_option maxHeartbeats 4000000 in
theorem cl0 (l : List Item) (hb : ∀ x ∈ l, Ok32 x) (hl : l.length ≤ 12) (hk : 2000000 < k) (S3 : List AV) (C4 : Int) (hS : [AV.list 1 S3, .int .u8 C4] = ansList l) : ∀ (suf pre : List Item) (k0 : Nat), suf.length < k0 → l = pre ++ suf →
    law32_CrcLists_L0 (kp E k (n + 22)) k k0 (its l) S3 C4 (!(pre.all rightB)) ((pre.length : Nat) : Int) (svs (wantC pre)) = some (.bool true)
  | [], pre, k0 + 1, h, he => by
    have hll : l.length = pre.length := by rw [he]; simp
    rw [List.append_nil] at he
    subst he
    rw [law32_CrcLists_L0_s, its_len, bif_f (by omega)]
    unfold ansList at hS
    cases ha : l.all rightB with
    | false =>
      rw [ha, if_neg (by simp)] at hS
      simp only [List.cons.injEq, AV.list.injEq, AV.int.injEq, true_and, and_true] at hS
      obtain ⟨rfl, rfl⟩ := hS
      rfl
    | true =>
      have hwl := linesC_len l
      rw [ha, if_pos rfl] at hS
      simp only [List.cons.injEq, AV.list.injEq, AV.int.injEq, true_and, and_true] at hS
      obtain ⟨rfl, rfl⟩ := hS
      rw [wantC_all l ha]
      have e := cl1 (k := k) (kp E k (n + 22)) (linesC l) (by omega) (linesC l) [] k (by omega) rfl
      rw [Bool.not_true, cond_false, show IntKind.wrap .i64 0 = 0 from rfl, decide_eq_true rfl, Bool.not_true, cond_false, decide_eq_true rfl, Bool.not_true, cond_false]
      exact e
  | x :: suf, pre, k0 + 1, h, he => by
    have hll : l.length = pre.length + suf.length + 1 := by rw [he]; exact mid_len pre suf x
    have hx := hb x (by rw [he]; simp)
    have hwl := wantC_len pre
    have e1 := Line_k (E := E) (k := k) (n := n + 12) x hx hk
    have e2 := refItem_k (E := E) (k := k) (n := n + 13) x hx hk
    have e3 := crcRefLine_k (E := E) (k := k) (n := n + 1) x.head.name x.data hx.name hx.data (by omega)
    have hg : ∀ F : AV → Option AV, ((its l)[pre.length]?).bind F = F (elItem x) := fun F => by rw [he]; exact its_mid _ _ _ _
    have ih := cl0 l hb hl hk S3 C4 hS suf (pre ++ [x]) k0 (by simpa using h) (by rw [he]; simp)
    rw [List.length_append, List.length_singleton, List.all_append, wantC_snoc] at ih
    have hone : [x].all rightB = rightB x := by simp
    rw [hone] at ih
    rw [law32_CrcLists_L0_s]
    unfold ansLine at e1
    cases hr : rightB x with
    | false =>
      rw [hr, Bool.false_and] at ih e1
      rw [if_neg (by simp)] at ih e1
      rw [Bool.and_false, List.append_nil] at ih
      rw [hr] at e2
      cases hp : pre.all rightB with
      | false =>
        simp (disch := first | omega | (simp only [List.length_append, List.length_cons, List.length_nil, List.length_take, List.length_drop]; done) | (simp only [List.length_append, List.length_cons, List.length_nil, List.length_take, List.length_drop]; omega) | fail) only [bif_t, bif_f, bif_n, bif_a, callB_ok, callI_ok, callS_ok, callL_ok, callF_ok, callT_ok, tupB_ok, tupI_ok, tupS_ok, tupL_ok, tupF_ok, atNil_ok, wrap1, wrapM, wrapP, Int.toNat_natCast, svs_len, ivs_len, bvs_len, str_size, svs_mid, ivs_mid, str_dec, str_ext, str_byte, mid_byte, mid_cut, List.length_nil, List.length_singleton, svs_snoc, ivs_snoc, svs_take, svs_drop, str_app, List.take_length, List.drop_zero, List.nil_append, cond_true, cond_false, Option.bind_some, Bool.not_true, Bool.not_false, Bool.true_and, Bool.and_true, bys_len, prs_len, its_len, cells_pair, cells_time, cells_head, cells_item, fold_pair, fold_time, fold_head, fold_ihead, fold_item, prs_mid, its_mid, bys_mid, byte_c, callG_pair, callG_time, callG_head, callG_item, tupG_pair, tupG_time, tupG_head, tupG_item, h_0, i_0, h_1, i_1, h_2, i_2, h_3, i_3, h_4, i_4, h_5, i_5, h_6, i_6, h_7, i_7, h_8, i_8, h_9, i_9, h_10, i_10, h_11, i_11, h_12, i_12, h_13, i_13, i_14, p_0, p_1, t_0, t_1, hg, hll, e1, e2, decide_true]
        exact ih
      | true =>
        simp (disch := first | omega | (simp only [List.length_append, List.length_cons, List.length_nil, List.length_take, List.length_drop]; done) | (simp only [List.length_append, List.length_cons, List.length_nil, List.length_take, List.length_drop]; omega) | fail) only [bif_t, bif_f, bif_n, bif_a, callB_ok, callI_ok, callS_ok, callL_ok, callF_ok, callT_ok, tupB_ok, tupI_ok, tupS_ok, tupL_ok, tupF_ok, atNil_ok, wrap1, wrapM, wrapP, Int.toNat_natCast, svs_len, ivs_len, bvs_len, str_size, svs_mid, ivs_mid, str_dec, str_ext, str_byte, mid_byte, mid_cut, List.length_nil, List.length_singleton, svs_snoc, ivs_snoc, svs_take, svs_drop, str_app, List.take_length, List.drop_zero, List.nil_append, cond_true, cond_false, Option.bind_some, Bool.not_true, Bool.not_false, Bool.true_and, Bool.and_true, bys_len, prs_len, its_len, cells_pair, cells_time, cells_head, cells_item, fold_pair, fold_time, fold_head, fold_ihead, fold_item, prs_mid, its_mid, bys_mid, byte_c, callG_pair, callG_time, callG_head, callG_item, tupG_pair, tupG_time, tupG_head, tupG_item, h_0, i_0, h_1, i_1, h_2, i_2, h_3, i_3, h_4, i_4, h_5, i_5, h_6, i_6, h_7, i_7, h_8, i_8, h_9, i_9, h_10, i_10, h_11, i_11, h_12, i_12, h_13, i_13, i_14, p_0, p_1, t_0, t_1, hg, hll, e1, e2, decide_true]
        exact ih
    | true =>
      rw [hr, Bool.true_and, Bool.and_true] at ih
      rw [hr, Bool.true_and] at e1
      rw [hr] at e2
      by_cases hk1 : x.head.kind = 1
      · rw [decide_eq_true hk1, if_pos rfl] at ih e1
        unfold lineI at ih e1
        have hlast : ∀ K : ByteArray → Option AV, (((svs (wantC pre ++ [lineC x.head.name x.data]))[(wantC pre).length]?).bind fun y => cellS (AV.cells y) 0 K) = K (str (lineC x.head.name x.data)) := fun K => svs_mid _ _ _ _
        have hlen : (wantC pre ++ [lineC x.head.name x.data]).length - 1 = (wantC pre).length := by simp
        cases hp : pre.all rightB with
        | false =>
          rw [hp] at ih
          simp (disch := first | omega | (simp only [List.length_append, List.length_cons, List.length_nil, List.length_take, List.length_drop]; done) | (simp only [List.length_append, List.length_cons, List.length_nil, List.length_take, List.length_drop]; omega) | fail) only [bif_t, bif_f, bif_n, bif_a, callB_ok, callI_ok, callS_ok, callL_ok, callF_ok, callT_ok, tupB_ok, tupI_ok, tupS_ok, tupL_ok, tupF_ok, atNil_ok, wrap1, wrapM, wrapP, Int.toNat_natCast, svs_len, ivs_len, bvs_len, str_size, svs_mid, ivs_mid, str_dec, str_ext, str_byte, mid_byte, mid_cut, List.length_nil, List.length_singleton, svs_snoc, ivs_snoc, svs_take, svs_drop, str_app, List.take_length, List.drop_zero, List.nil_append, cond_true, cond_false, Option.bind_some, Bool.not_true, Bool.not_false, Bool.true_and, Bool.and_true, bys_len, prs_len, its_len, cells_pair, cells_time, cells_head, cells_item, fold_pair, fold_time, fold_head, fold_ihead, fold_item, prs_mid, its_mid, bys_mid, byte_c, callG_pair, callG_time, callG_head, callG_item, tupG_pair, tupG_time, tupG_head, tupG_item, h_0, i_0, h_1, i_1, h_2, i_2, h_3, i_3, h_4, i_4, h_5, i_5, h_6, i_6, h_7, i_7, h_8, i_8, h_9, i_9, h_10, i_10, h_11, i_11, h_12, i_12, h_13, i_13, i_14, p_0, p_1, t_0, t_1, hg, hll, e1, e2, e3, decide_true, hlast, hlen]
          exact ih
        | true =>
          rw [hp] at ih
          simp (disch := first | omega | (simp only [List.length_append, List.length_cons, List.length_nil, List.length_take, List.length_drop]; done) | (simp only [List.length_append, List.length_cons, List.length_nil, List.length_take, List.length_drop]; omega) | fail) only [bif_t, bif_f, bif_n, bif_a, callB_ok, callI_ok, callS_ok, callL_ok, callF_ok, callT_ok, tupB_ok, tupI_ok, tupS_ok, tupL_ok, tupF_ok, atNil_ok, wrap1, wrapM, wrapP, Int.toNat_natCast, svs_len, ivs_len, bvs_len, str_size, svs_mid, ivs_mid, str_dec, str_ext, str_byte, mid_byte, mid_cut, List.length_nil, List.length_singleton, svs_snoc, ivs_snoc, svs_take, svs_drop, str_app, List.take_length, List.drop_zero, List.nil_append, cond_true, cond_false, Option.bind_some, Bool.not_true, Bool.not_false, Bool.true_and, Bool.and_true, bys_len, prs_len, its_len, cells_pair, cells_time, cells_head, cells_item, fold_pair, fold_time, fold_head, fold_ihead, fold_item, prs_mid, its_mid, bys_mid, byte_c, callG_pair, callG_time, callG_head, callG_item, tupG_pair, tupG_time, tupG_head, tupG_item, h_0, i_0, h_1, i_1, h_2, i_2, h_3, i_3, h_4, i_4, h_5, i_5, h_6, i_6, h_7, i_7, h_8, i_8, h_9, i_9, h_10, i_10, h_11, i_11, h_12, i_12, h_13, i_13, i_14, p_0, p_1, t_0, t_1, hg, hll, e1, e2, e3, decide_true, hlast, hlen]
          exact ih
      · rw [decide_eq_false hk1, if_neg (by simp)] at ih e1
        rw [List.append_nil] at ih
        cases hp : pre.all rightB with
        | false =>
          rw [hp] at ih
          simp (disch := first | omega | (simp only [List.length_append, List.length_cons, List.length_nil, List.length_take, List.length_drop]; done) | (simp only [List.length_append, List.length_cons, List.length_nil, List.length_take, List.length_drop]; omega) | fail) only [bif_t, bif_f, bif_n, bif_a, callB_ok, callI_ok, callS_ok, callL_ok, callF_ok, callT_ok, tupB_ok, tupI_ok, tupS_ok, tupL_ok, tupF_ok, atNil_ok, wrap1, wrapM, wrapP, Int.toNat_natCast, svs_len, ivs_len, bvs_len, str_size, svs_mid, ivs_mid, str_dec, str_ext, str_byte, mid_byte, mid_cut, List.length_nil, List.length_singleton, svs_snoc, ivs_snoc, svs_take, svs_drop, str_app, List.take_length, List.drop_zero, List.nil_append, cond_true, cond_false, Option.bind_some, Bool.not_true, Bool.not_false, Bool.true_and, Bool.and_true, bys_len, prs_len, its_len, cells_pair, cells_time, cells_head, cells_item, fold_pair, fold_time, fold_head, fold_ihead, fold_item, prs_mid, its_mid, bys_mid, byte_c, callG_pair, callG_time, callG_head, callG_item, tupG_pair, tupG_time, tupG_head, tupG_item, h_0, i_0, h_1, i_1, h_2, i_2, h_3, i_3, h_4, i_4, h_5, i_5, h_6, i_6, h_7, i_7, h_8, i_8, h_9, i_9, h_10, i_10, h_11, i_11, h_12, i_12, h_13, i_13, i_14, p_0, p_1, t_0, t_1, hg, hll, e1, e2, decide_true]
          exact ih
        | true =>
          rw [hp] at ih
          simp (disch := first | omega | (simp only [List.length_append, List.length_cons, List.length_nil, List.length_take, List.length_drop]; done) | (simp only [List.length_append, List.length_cons, List.length_nil, List.length_take, List.length_drop]; omega) | fail) only [bif_t, bif_f, bif_n, bif_a, callB_ok, callI_ok, callS_ok, callL_ok, callF_ok, callT_ok, tupB_ok, tupI_ok, tupS_ok, tupL_ok, tupF_ok, atNil_ok, wrap1, wrapM, wrapP, Int.toNat_natCast, svs_len, ivs_len, bvs_len, str_size, svs_mid, ivs_mid, str_dec, str_ext, str_byte, mid_byte, mid_cut, List.length_nil, List.length_singleton, svs_snoc, ivs_snoc, svs_take, svs_drop, str_app, List.take_length, List.drop_zero, List.nil_append, cond_true, cond_false, Option.bind_some, Bool.not_true, Bool.not_false, Bool.true_and, Bool.and_true, bys_len, prs_len, its_len, cells_pair, cells_time, cells_head, cells_item, fold_pair, fold_time, fold_head, fold_ihead, fold_item, prs_mid, its_mid, bys_mid, byte_c, callG_pair, callG_time, callG_head, callG_item, tupG_pair, tupG_time, tupG_head, tupG_item, h_0, i_0, h_1, i_1, h_2, i_2, h_3, i_3, h_4, i_4, h_5, i_5, h_6, i_6, h_7, i_7, h_8, i_8, h_9, i_9, h_10, i_10, h_11, i_11, h_12, i_12, h_13, i_13, i_14, p_0, p_1, t_0, t_1, hg, hll, e1, e2, decide_true]
          exact ih
theorem alive32_k : kp E k (n + 2) law32_alive [] = some (.bool true) := by
  have e1 := HasCrc.more (E := E) k n 0 [49, 50, 51, 52, 53, 54, 55, 56, 57] (by simp)
  rw [show moreI 0 [49, 50, 51, 52, 53, 54, 55, 56, 57] = 3421780262 from by decide +kernel] at e1
  have e2 : kp E k (n + 1) crc_Sum [.list 1 (bys [49, 50, 51, 52, 53, 54, 55, 56, 57])] = some (.int .u32 3421780262) := by
    rw [crc_Sum_eq, e1, callI_ok]
  rw [law32_alive_eq]
  refine (congrArg (fun z => callI .u32 z _) e2).trans ?_
  rw [callI_ok]
  rfl
theorem ok32_of {l : List Item} (hg : G_LapiItem l) (h1 : sumI l ≤ 300000) (h2 : ∀ x ∈ l, x.head.extra.length ≤ 30) : ∀ x ∈ l, Ok32 x := fun x hx => by
  have hs := sumI_mem l x hx
  have hb := bd20_of hg h1 h2 x hx
  unfold restI at hs
  exact ⟨hb.f, by omega, by omega⟩
theorem crcLists_true (l : List Item) (hg : G_LapiItem l) (hk : 5000000000000 < k) : kp E k (n + 23) law32_CrcLists [.list 15 (its l)] = some (.bool true) := by
  obtain ⟨b, e1, e2⟩ := many_k (E := E) (k := k) (n := n + 21) l hg hk
  rw [law32_CrcLists_eq, alive32_k (n := n + 20), callB_ok, e1, callB_ok]
  cases b with
  | true => rfl
  | false =>
    obtain ⟨h12, hs, h30⟩ := e2 rfl
    have hb := ok32_of hg hs h30
    have e3 := List_k (E := E) (k := k) (n := n + 12) l hb h12 (by omega)
    obtain ⟨S3, C4, hS⟩ : ∃ S3 C4, [AV.list 1 S3, .int .u8 C4] = ansList l := by
      unfold ansList
      split
      · exact ⟨_, _, rfl⟩
      · exact ⟨_, _, rfl⟩
    have e4 := cl0 (E := E) (k := k) (n := n) l hb h12 (by omega) S3 C4 hS l [] k (by omega) rfl
    rw [e3, ← hS, callT_ok, tupL_ok, tupI_ok, atNil_ok]
    exact e4
end Go.Proofs.YtkbedfjhchhikaaGreatDoor.Eng.U


/- ItemFulls over the library's pieces: strings.IndexAny at "=\\x00", decoding beside the numbers' own. -/
set_option linter.unusedVariables false
set_option linter.unusedSectionVars false
set_option linter.unusedSimpArgs false
namespace Go.Proofs.YtkbedfjhchhikaaGreatDoor.Eng.U
open Go Go.Proofs Go.Proofs.YtkbedfjhchhikaaGreatDoor.Eng Go.RowKit

/-- The tables of the decoder, off the variables. -/
theorem utf_tabs {S : Stab} {w : World} (hag : Agree S w) (hG : GlobOk glob S w) : Lib.Utf8Tabs 4 5 w := by
  refine ⟨fun c hc => ?_, fun i hi => ?_⟩
  · obtain ⟨u, hu, hv⟩ := glob_cell (g := 4) hag hG rfl c (.int .u8 (Lib.firstT c : Int)) (by rw [List.getElem?_map, List.getElem?_range hc]; rfl)
    rw [V_int hv] at hu
    exact hu
  · obtain ⟨u, hu, hv⟩ := glob_cell (g := 5) hag hG rfl (2 * i) (.int .u8 (Lib.accLo i : Int)) (by
      rw [List.getElem?_map, List.getElem?_range (by omega)]
      show some (AV.int .u8 (((if 2 * i % 2 = 0 then Lib.accLo (2 * i / 2) else Lib.accHi (2 * i / 2) : Nat) : Int))) = _
      rw [if_pos (by omega), show 2 * i / 2 = i from by omega])
    obtain ⟨u', hu', hv'⟩ := glob_cell (g := 5) hag hG rfl (2 * i + 1) (.int .u8 (Lib.accHi i : Int)) (by
      rw [List.getElem?_map, List.getElem?_range (by omega)]
      show some (AV.int .u8 (((if (2 * i + 1) % 2 = 0 then Lib.accLo ((2 * i + 1) / 2) else Lib.accHi ((2 * i + 1) / 2) : Nat) : Int))) = _
      rw [if_neg (by omega), show (2 * i + 1) / 2 = i from by omega])
    rw [V_int hv] at hu
    rw [V_int hv'] at hu'
    exact ⟨hu, hu'⟩
def pDec : Piece := { f := unicode_utf8_DecodeRuneInString, ans := fun args => match args with
  | [.str s] => some (.tup [.int .i32 (Lib.decodeGo s).1, .int .i64 (Lib.decodeGo s).2])
  | _ => none }
theorem dec_right : pDec.Right := by
  refine ⟨⟨Tryz.f115, Tryz.func115, by kernel_rfl, by kernel_rfl⟩, fun args res h => ?_⟩
  unfold pDec at h
  dsimp only at h
  split at h
  · rename_i s
    obtain rfl := Option.some.inj h
    refine ok_tup rfl fun S w vals hag hG hV => ?_
    obtain ⟨v, rfl, hv⟩ := VL_1 hV
    obtain rfl := V_str hv
    refine (Tryz.utf8_DecodeRuneInString s w (utf_tabs hag hG)).mono ?_
    rintro e w' ⟨rfl, hb⟩
    exact ⟨[_, _], rfl, rfl, fun S' => V2 (V.int _ _) (V.int _ _), hb⟩
  · cases h
def ps09a : List Piece := [pItoa, pCutP, pIndex, pIndexByte, pRepeat, pPInt, pPUint, pDec]
def ext09a : Ext := { extOf ps09a with fs := strings_IndexAny :: coreFs }
theorem good09b (k : Nat) : (bs (extOf ps09a) k).Good := good_of (fun p hp => by
  simp only [ps09a, List.mem_cons, List.not_mem_nil, or_false] at hp
  rcases hp with rfl | rfl | rfl | rfl | rfl | rfl | rfl | rfl
  · exact itoa_right
  · exact cutP_right
  · exact index_right
  · exact indexByte_right
  · exact repeat_right
  · exact pInt_right
  · exact pUint_right
  · exact dec_right) names_ok k
theorem good09a (k : Nat) : (bs ext09a k).Good := { mixed := by kernel_rfl, names := by kernel_rfl, base := (good09b k).base }
instance core09a : Core ext09a where
  isB f hf := (core_of (ps := ps09a) (by kernel_rfl)).isB f hf
  has f hf := by
    show (strings_IndexAny :: coreFs).contains f = true
    rw [List.contains_cons, hf, Bool.or_true]
instance ib09a : HasIB ext09a := ⟨fun k n s c => (kp_base (E := ext09a) (by kernel_rfl)).trans rfl⟩
noncomputable def pAny : Piece := { f := strings_IndexAny, ans := fun args => match args with
  | [.str s, .str c] => bif decide (c = str [61, 0]) && decide (s.size ≤ 1000000) then (bif decide (8 < s.size) then some (.int .i64 (Lib.indexAny s.data.toList [61, 0])) else (bs ext09a 100).kap 3 strings_IndexAny [.str s, .str c]) else none
  | _ => none }
theorem any_right : pAny.Right := by
  refine ⟨⟨Tryz.f98, Tryz.func98, by kernel_rfl, by kernel_rfl⟩, fun args res h => ?_⟩
  unfold pAny at h
  dsimp only at h
  split at h
  · rename_i s c
    obtain ⟨hc, h'⟩ := some_of_bif h
    clear h
    simp only [Bool.and_eq_true, decide_eq_true_eq] at hc
    obtain ⟨rfl, h1⟩ := hc
    by_cases h8 : 8 < s.size
    · rw [decide_eq_true h8, cond_true] at h'
      obtain rfl := Option.some.inj h'
      refine ok_pure ⟨rfl, rfl⟩ fun S w vals hag hG hV => ?_
      obtain ⟨v, u, rfl, hv, hu⟩ := VL_2 hV
      obtain rfl := V_str hv
      obtain rfl := V_str hu
      have h2 : ∀ (j : Nat) b, (str [61, 0]).data.toList[j]? = some b → b.toNat < 128 := by
        intro j b hb
        match j, hb with
        | 0, hb => cases hb; decide
        | 1, hb => cases hb; decide
        | j + 2, hb => simp [str] at hb
      refine (Tryz.strings_IndexAny_long (fun w => by kernel_rfl) s (str [61, 0]) w (by decide) h8 (by omega) (by decide) h2).mono ?_
      rintro e w' ⟨rfl, rfl⟩
      exact ⟨_, rfl, fun S' => V.int _ _, ((Below.refl _ _).alloc (Nat.le_refl _) _).alloc (by simp) _⟩
    · rw [decide_eq_false h8, cond_false] at h'
      exact Base.ok (good09a 100) h'
  · cases h
noncomputable def ps09 : List Piece := [pItoa, pCutP, pIndex, pIndexByte, pRepeat, pPInt, pPUint, pDec, pAny]
noncomputable def ext09 : Ext := extOf ps09
instance core09 : Core ext09 := core_of (by kernel_rfl)
instance num09 : HasNum ext09 := num_of rfl rfl rfl rfl rfl rfl rfl
instance text09 : HasText ext09 where
  dec k n s := ⟨_, _, (kp_piece (ps := ps09) (p := pDec) (k := k) (n := n) (args := [.str (str s)]) rfl).trans rfl⟩
  idx k n s hs := by
    have h := kp_piece (ps := ps09) (p := pAny) (k := k) (n := n) (args := [.str (str s), .str (str [61, 0])]) rfl
    have e : pAny.ans [.str (str s), .str (str [61, 0])] = (bif decide (str [61, 0] = str [61, 0]) && decide ((str s).size ≤ 1000000) then (bif decide (8 < (str s).size) then some (.int .i64 (Lib.indexAny (str s).data.toList [61, 0])) else (bs ext09a 100).kap 3 strings_IndexAny [.str (str s), .str (str [61, 0])]) else none) := rfl
    rw [e, str_size, decide_eq_true rfl, decide_eq_true hs, Bool.true_and, cond_true] at h
    by_cases h8 : 8 < s.length
    · rw [decide_eq_true h8, cond_true] at h
      exact ⟨_, h⟩
    · rw [decide_eq_false h8, cond_false] at h
      obtain ⟨r, hr⟩ := any_short (E := ext09a) (k := 100) (n := 0) (by kernel_rfl) (by kernel_rfl) (by omega) s (by omega)
      exact ⟨r, h.trans hr⟩
instance textV09 : HasTextV ext09 where
  dec k n s := (kp_piece (ps := ps09) (p := pDec) (k := k) (n := n) (args := [.str s]) rfl).trans rfl
  idx k n s hs := by
    have h := kp_piece (ps := ps09) (p := pAny) (k := k) (n := n) (args := [.str (str s), .str (str [61, 0])]) rfl
    have e : pAny.ans [.str (str s), .str (str [61, 0])] = (bif decide (str [61, 0] = str [61, 0]) && decide ((str s).size ≤ 1000000) then (bif decide (8 < (str s).size) then some (.int .i64 (Lib.indexAny (str s).data.toList [61, 0])) else (bs ext09a 100).kap 3 strings_IndexAny [.str (str s), .str (str [61, 0])]) else none) := rfl
    rw [e, str_size, decide_eq_true rfl, decide_eq_true hs, Bool.true_and, cond_true] at h
    by_cases h8 : 8 < s.length
    · rw [decide_eq_true h8, cond_true] at h
      exact ⟨_, h, any_long_v s⟩
    · rw [decide_eq_false h8, cond_false] at h
      obtain ⟨r, hr, hv⟩ := any_short_v (E := ext09a) (k := 100) (n := 0) (by kernel_rfl) (by kernel_rfl) (by omega) s (by omega)
      exact ⟨r, h.trans hr, hv⟩
end Go.Proofs.YtkbedfjhchhikaaGreatDoor.Eng.U


/- The library's functions, text.Quote, the sum and FormatUint at 16, given together. -/
set_option linter.unusedVariables false
set_option linter.unusedSectionVars false
set_option linter.unusedSimpArgs false
namespace Go.Proofs.YtkbedfjhchhikaaGreatDoor.Eng.U
open Go Go.RowKit Go.Proofs Go.Proofs.YtkbedfjhchhikaaGreatDoor.Eng Go.Proofs.YtkbedfjhchhikaaGreatDoor.S32

noncomputable def ps32 : List Piece := [pItoa, pCutP, pIndex, pIndexByte, pRepeat, pPInt, pPUint, pDec, pAny, pQuote, pMore, pHex]
noncomputable def ext32 : Ext := extOf ps32
instance core32 : Core ext32 := core_of (by kernel_rfl)
instance num32 : HasNum ext32 := num_of rfl rfl rfl rfl rfl rfl rfl
instance textV32 : HasTextV ext32 where
  dec k n s := (kp_piece (ps := ps32) (p := pDec) (k := k) (n := n) (args := [.str s]) rfl).trans rfl
  idx k n s hs := by
    have h := kp_piece (ps := ps32) (p := pAny) (k := k) (n := n) (args := [.str (str s), .str (str [61, 0])]) rfl
    have e : pAny.ans [.str (str s), .str (str [61, 0])] = (bif decide (str [61, 0] = str [61, 0]) && decide ((str s).size ≤ 1000000) then (bif decide (8 < (str s).size) then some (.int .i64 (Lib.indexAny (str s).data.toList [61, 0])) else (bs ext09a 100).kap 3 strings_IndexAny [.str (str s), .str (str [61, 0])]) else none) := rfl
    rw [e, str_size, decide_eq_true rfl, decide_eq_true hs, Bool.true_and, cond_true] at h
    by_cases h8 : 8 < s.length
    · rw [decide_eq_true h8, cond_true] at h
      exact ⟨_, h, any_long_v s⟩
    · rw [decide_eq_false h8, cond_false] at h
      obtain ⟨r, hr, hv⟩ := any_short_v (E := ext09a) (k := 100) (n := 0) (by kernel_rfl) (by kernel_rfl) (by omega) s (by omega)
      exact ⟨r, h.trans hr, hv⟩
instance quote32 : HasQuote ext32 where
  quote k n s hs := by
    have h := kp_piece (ps := ps32) (p := pQuote) (k := k) (n := n) (args := [.str (str s)]) rfl
    have e : pQuote.ans [.str (str s)] = (bif decide ((str s).size ≤ 1000000000) then some (.str (str (quoteL (str s).data.toList))) else none) := rfl
    rw [e, str_size, decide_eq_true hs, cond_true] at h
    exact h
instance crc32 : HasCrc ext32 where
  more k n a l hl := by
    have h := kp_piece (ps := ps32) (p := pMore) (k := k) (n := n) (args := [.int .u32 a, .list 1 (bys l)]) rfl
    refine h.trans ?_
    show ((toB (bys l)).bind fun l => _) = _
    rw [toB_bys]
    show (bif (1 == 1) && decide (l.length ≤ 1000000000) then _ else none) = _
    rw [decide_eq_true hl]
    rfl
  hex k n v hv := by
    have h := kp_piece (ps := ps32) (p := pHex) (k := k) (n := n) (args := [.int .u64 ((v : Nat) : Int), .int .i64 16]) rfl
    refine h.trans ?_
    unfold pHex
    dsimp only
    rw [decide_eq_true rfl, decide_eq_true (Int.natCast_nonneg _), decide_eq_true (show ((v : Nat) : Int) < 18446744073709551616 by omega), Bool.and_true, Bool.and_true, cond_true, Int.toNat_natCast]
theorem good32 (k : Nat) : (bs ext32 k).Good := good_of (fun p hp => by
  simp only [ps32, List.mem_cons, List.not_mem_nil, or_false] at hp
  rcases hp with rfl | rfl | rfl | rfl | rfl | rfl | rfl | rfl | rfl | rfl | rfl | rfl
  · exact itoa_right
  · exact cutP_right
  · exact index_right
  · exact indexByte_right
  · exact repeat_right
  · exact pInt_right
  · exact pUint_right
  · exact dec_right
  · exact any_right
  · exact quote_right
  · exact more_right
  · exact hex_right) names_ok k
end Go.Proofs.YtkbedfjhchhikaaGreatDoor.Eng.U


/- CrcLists over the given functions. -/
set_option linter.unusedVariables false
namespace Go.Proofs.YtkbedfjhchhikaaGreatDoor.Eng.U
open Go Go.Proofs Go.Proofs.YtkbedfjhchhikaaGreatDoor.Eng
theorem lists32 (l : List Item) (g : G_LapiItem l) : (bs ext32 10000000000000).kap 23 law32_CrcLists [.list 15 (its l)] = some (.bool true) :=
  crcLists_true (E := ext32) (n := 0) (k := 10000000000000) l g (by omega)
end Go.Proofs.YtkbedfjhchhikaaGreatDoor.Eng.U

