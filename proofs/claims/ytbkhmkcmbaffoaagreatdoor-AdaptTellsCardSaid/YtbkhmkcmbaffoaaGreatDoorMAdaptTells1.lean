/- Several texts of this proof in one file: U04d, U07, Q08, U08, U09d, U09g, R11, U11, U09h, U09i, U09j, V09, U11b, U11c, Ext, ApiR, S11, ShelfS, Q08b, S11s, S40, S11b, B04, B06, B09, Q08c, B11, U07b, B11b, Q24. -/
import Derived.Test.YtbkhmkcmbaffoaaGreatDoorMAdaptTells0
import Derived.Test.YtbkhmkcmbaffoaaGreatDoorMEAdaptTells2
import Derived.WalkKit
import Derived.OwnWalkIn
import Derived.TacticsInMore
import Derived.RangeFuncBox
import Derived.Shelf.Abstract
import Derived.Shelf.SlGeneric
import Derived.Shelf.SlSortCmp.NoneTotal
import Derived.Shelf.SlSortCmp.WholeK
import Derived.Ground.SlsfProg
import Derived.Ground.NamesProg
import Derived.Test.YtbkhmkcmbaffoaaGreatDoorProg
import Derived.Lib.Bytealg
import Derived.Sort.OwnSorted
import Derived.Lib.SliceRun
import Derived.WalkSmall
import Derived.Lib.SmallJoins
/- The functions of the Dec laws in plain words, part 4: the document's own reading of a time. -/
set_option linter.unusedVariables false
set_option linter.unusedSectionVars false
set_option linter.unusedSimpArgs false
namespace Go.Proofs.YtbkhmkcmbaffoaaGreatDoor.Eng.U
open Go Go.Proofs Go.Proofs.YtbkhmkcmbaffoaaGreatDoor.Eng Go.Proofs.YtbkhmkcmbaffoaaGreatDoor.P04
variable {E : Ext} [Core E] {k n : Nat}

end Go.Proofs.YtbkhmkcmbaffoaaGreatDoor.Eng.U


/- What a pair of a record is: both sides in plain words. -/
set_option linter.unusedVariables false
set_option linter.unusedSectionVars false
set_option linter.unusedSimpArgs false
namespace Go.Proofs.YtbkhmkcmbaffoaaGreatDoor.Eng.U
open Go Go.Proofs Go.Proofs.YtbkhmkcmbaffoaaGreatDoor.Eng Go.Proofs.YtbkhmkcmbaffoaaGreatDoor.P04
variable {E : Ext} [Core E] [HasNum E] {k n : Nat}

def utfOk (l : List UInt8) : Bool := decide (first (str l) < 0)
section
variable [HasTextV E]
theorem utf_k (l : List UInt8) (hk : l.length < k) : kp E k (n + 3) utf_Right [.str (str l)] = some (.bool (utfOk l)) := by
  have h1 : ∀ i, i < (str l).size → kp E k (n + 1) utf_wrong [.str (str l), .int .i64 (i : Int), .int .i32 ((Utf8.decode (str l) i).1 : Int)] = some (.bool (decide (bad (str l) i))) := fun i hi => utf_wrong_spec hi (HasTextV.dec k n)
  exact utf_Right_spec (utf_First_spec (by rw [str_size]; omega) h1)
theorem contains_k (s : List UInt8) (hs : s.length ≤ 1000000) : kp E k (n + 1) strings_ContainsAny [.str (str s), .str (str [61, 0])] = some (.bool (!noEq s)) := by
  obtain ⟨i, hi, h⟩ := HasTextV.idx (E := E) k n s hs
  rw [strings_ContainsAny_eq, hi, callI_ok, h]
end
def clean (s : List UInt8) : Bool := s.all fun c => decide (c ≠ 0)
theorem index0 (s : List UInt8) : decide (Lib.indexByte s 0 < 0) = clean s := by
  induction s with
  | nil => rfl
  | cons b l ih =>
    have hg := Lib.indexByte_ge l 0
    unfold Lib.indexByte clean
    rw [List.all_cons]
    by_cases hb : b = 0
    · subst hb; rfl
    · have h1 : (b == 0) = false := by simpa using hb
      rw [h1, decide_eq_true hb, Bool.true_and, show (l.all fun c => decide (c ≠ 0)) = clean l from rfl, ← ih]
      simp only [Bool.false_eq_true, if_false, beq_iff_eq]
      split
      · rename_i h; rw [h]
      · rename_i h
        rw [decide_eq_decide]
        omega
theorem index0_k (s : List UInt8) : kp E k n strings_IndexByte [.str (str s), .int .u8 0] = some (.int .i64 (Lib.indexByte s 0)) := HasNum.indexB k n s 0
theorem textClean_k (s : List UInt8) : kp E k (n + 1) text_Clean [.str (str s)] = some (.bool (clean s)) := by
  rw [text_Clean_eq, index0_k, callI_ok, index0]
theorem paxClean_k (s : List UInt8) : kp E k (n + 1) pax_clean [.str (str s)] = some (.bool (clean s)) := by
  rw [pax_clean_eq, index0_k, callI_ok, index0]
def whichL (key : List UInt8) : Int :=
  if key = [112, 97, 116, 104] then 0 else if key = [108, 105, 110, 107, 112, 97, 116, 104] then 1 else if key = [117, 110, 97, 109, 101] then 2 else if key = [103, 110, 97, 109, 101] then 3 else if key = [117, 105, 100] then 4 else if key = [103, 105, 100] then 5 else if key = [115, 105, 122, 101] then 6 else if key = [109, 116, 105, 109, 101] then 7 else -1
theorem is_path (key : List UInt8) : decide (str key = str [112, 97, 116, 104]) = decide (whichL key = 0) := by
  rw [str_dec, decide_eq_decide]
  constructor
  · rintro rfl; rfl
  · intro h
    unfold whichL at h
    repeat' split at h
    all_goals first | assumption | (exfalso; revert h; decide)
theorem is_linkpath (key : List UInt8) : decide (str key = str [108, 105, 110, 107, 112, 97, 116, 104]) = decide (whichL key = 1) := by
  rw [str_dec, decide_eq_decide]
  constructor
  · rintro rfl; rfl
  · intro h
    unfold whichL at h
    repeat' split at h
    all_goals first | assumption | (exfalso; revert h; decide)
theorem is_uname (key : List UInt8) : decide (str key = str [117, 110, 97, 109, 101]) = decide (whichL key = 2) := by
  rw [str_dec, decide_eq_decide]
  constructor
  · rintro rfl; rfl
  · intro h
    unfold whichL at h
    repeat' split at h
    all_goals first | assumption | (exfalso; revert h; decide)
theorem is_gname (key : List UInt8) : decide (str key = str [103, 110, 97, 109, 101]) = decide (whichL key = 3) := by
  rw [str_dec, decide_eq_decide]
  constructor
  · rintro rfl; rfl
  · intro h
    unfold whichL at h
    repeat' split at h
    all_goals first | assumption | (exfalso; revert h; decide)
theorem is_uid (key : List UInt8) : decide (str key = str [117, 105, 100]) = decide (whichL key = 4) := by
  rw [str_dec, decide_eq_decide]
  constructor
  · rintro rfl; rfl
  · intro h
    unfold whichL at h
    repeat' split at h
    all_goals first | assumption | (exfalso; revert h; decide)
theorem is_gid (key : List UInt8) : decide (str key = str [103, 105, 100]) = decide (whichL key = 5) := by
  rw [str_dec, decide_eq_decide]
  constructor
  · rintro rfl; rfl
  · intro h
    unfold whichL at h
    repeat' split at h
    all_goals first | assumption | (exfalso; revert h; decide)
theorem is_size (key : List UInt8) : decide (str key = str [115, 105, 122, 101]) = decide (whichL key = 6) := by
  rw [str_dec, decide_eq_decide]
  constructor
  · rintro rfl; rfl
  · intro h
    unfold whichL at h
    repeat' split at h
    all_goals first | assumption | (exfalso; revert h; decide)
theorem is_mtime (key : List UInt8) : decide (str key = str [109, 116, 105, 109, 101]) = decide (whichL key = 7) := by
  rw [str_dec, decide_eq_decide]
  constructor
  · rintro rfl; rfl
  · intro h
    unfold whichL at h
    repeat' split at h
    all_goals first | assumption | (exfalso; revert h; decide)
theorem which_lt (key : List UInt8) : -1 ≤ whichL key ∧ whichL key ≤ 7 := by
  unfold whichL
  repeat' split
  all_goals decide
theorem known_k (key : List UInt8) : kp E k (n + 1) pax_Known [.str (str key)] = some (.bool (decide (0 ≤ whichL key))) := by
  have hw := which_lt key
  rw [pax_Known_eq, is_path, is_linkpath, is_uname, is_gname, is_uid, is_gid, is_size, is_mtime]
  generalize whichL key = w at hw
  have : w = -1 ∨ w = 0 ∨ w = 1 ∨ w = 2 ∨ w = 3 ∨ w = 4 ∨ w = 5 ∨ w = 6 ∨ w = 7 := by omega
  rcases this with rfl | rfl | rfl | rfl | rfl | rfl | rfl | rfl | rfl <;> rfl
def numOk (s : List UInt8) : Bool := natOk s && decide (valA 0 s ≤ 9223372036854775807)
def valR (key s : List UInt8) : Bool :=
  if s = [] then true else if whichL key < 0 then true else if whichL key < 4 then clean s else if whichL key < 7 then numOk s else (timeL s).isSome
theorem value_k [HasTextV E] (key s : List UInt8) (hs : s.length ≤ 1000000) (hk : s.length < k) : kp E k (n + 4) pax_value [.str (str key), .str (str s)] = some (.bool (utfOk s && valR key s)) := by
  have hN : (callT (kp E k (n + 3) dec_Number [(.str (str s))]) fun vt6 => (tupI .i64 vt6 fun vn7 vt8 => (tupI .u8 vt8 fun vn9 vt10 => (atNil vt10 (some (.bool (decide (vn9 = (0 : Int)))))))) : Option AV) = some (.bool (numOk s)) := by
    rw [number_k s (by omega) hk]
    unfold numOk
    cases natOk s && decide (valA 0 s ≤ 9223372036854775807) <;> rfl
  have hT : (callT (kp E k (n + 3) dec_Time [(.str (str s))]) fun vt12 => (tupG 2 vt12 fun vg13 vt14 => (cellI .i64 vg13 0 fun vn15 => (cellI .i64 vg13 1 fun vn16 => (tupI .u8 vt14 fun vn17 vt18 => (atNil vt18 (some (.bool (decide (vn17 = (0 : Int)))))))))) : Option AV) = some (.bool (timeL s).isSome) := by
    rw [time_k s (by omega) hk]
    cases timeL s <;> rfl
  have hC : (callB (kp E k (n + 3) pax_clean [(.str (str s))]) fun vq4 => (some (.bool vq4)) : Option AV) = some (.bool (clean s)) := by rw [paxClean_k, callB_ok]
  rw [pax_value_eq, utf_k s hk, callB_ok, is_path, is_linkpath, is_uname, is_gname, is_uid, is_gid, is_size, is_mtime]
  simp only [hN, hT, hC]
  unfold valR
  have hw := which_lt key
  generalize whichL key = w at hw
  cases utfOk s with
  | false => rfl
  | true =>
    rw [Bool.not_true, cond_false, Bool.true_and, show (str [] : ByteArray) = str [] from rfl, str_dec]
    by_cases h0 : s = []
    · rw [decide_eq_true h0, if_pos h0]; rfl
    · rw [decide_eq_false h0, if_neg h0, cond_false]
      have : w = -1 ∨ w = 0 ∨ w = 1 ∨ w = 2 ∨ w = 3 ∨ w = 4 ∨ w = 5 ∨ w = 6 ∨ w = 7 := by omega
      rcases this with rfl | rfl | rfl | rfl | rfl | rfl | rfl | rfl | rfl <;> rfl
def pairOk (p : Pair) : Bool := decide (p.key ≠ []) && (utfOk p.key && (noEq p.key && (utfOk p.val && valR p.key p.val)))
theorem paxRight_k [HasTextV E] (p : Pair) (h1 : p.key.length ≤ 1000000) (h2 : p.val.length ≤ 1000000) (hk : 1000000 < k) : kp E k (n + 5) pax_Right [.agg [.str (str p.key), .str (str p.val)]] = some (.bool (pairOk p)) := by
  rw [pax_Right_eq, utf_k p.key (by omega), contains_k p.key h1, value_k p.key p.val h2 (by omega), str_dec]
  simp only [callB_ok]
  unfold pairOk
  by_cases h : p.key = []
  · rw [decide_eq_true h]
    simp [h]
  · rw [decide_eq_false h, decide_eq_true h]
    cases utfOk p.key <;> cases noEq p.key <;> cases utfOk p.val <;> rfl
end Go.Proofs.YtbkhmkcmbaffoaaGreatDoor.Eng.U


/- Overlays in plain words: the order of keys, what is laid. No program. -/
set_option linter.unusedVariables false
set_option linter.unusedSimpArgs false
namespace Go.Proofs.YtbkhmkcmbaffoaaGreatDoor.Eng.U
open Go Go.Proofs Go.Proofs.YtbkhmkcmbaffoaaGreatDoor.Eng

theorem u8_lt_irrefl (a : UInt8) : ¬ a < a := fun h => by rw [UInt8.lt_iff_toNat_lt] at h; omega
theorem lt_irr : ∀ a : Tx, Op.bytesLess a a = false
  | [] => rfl
  | a :: x => by
    unfold Op.bytesLess
    rw [lt_irr x, decide_eq_false (u8_lt_irrefl a), Bool.and_false, Bool.or_false]
theorem lt_cons (a b : UInt8) (x y : Tx) : Op.bytesLess (a :: x) (b :: y) = true ↔ a.toNat < b.toNat ∨ a = b ∧ Op.bytesLess x y = true := by
  rw [Op.bytesLess, Bool.or_eq_true, Bool.and_eq_true, decide_eq_true_eq, beq_iff_eq, UInt8.lt_iff_toNat_lt]
theorem lt_tr : ∀ {a b c : Tx}, Op.bytesLess a b = true → Op.bytesLess b c = true → Op.bytesLess a c = true
  | _, _, [], _, h => by cases ‹Tx› <;> simp [Op.bytesLess] at h
  | [], _, _ :: _, _, _ => rfl
  | a :: x, [], c :: z, h, _ => by simp [Op.bytesLess] at h
  | a :: x, b :: y, c :: z, h1, h2 => by
    rw [lt_cons] at *
    rcases h1 with h1 | ⟨rfl, h1⟩
    · rcases h2 with h2 | ⟨rfl, h2⟩
      · left; omega
      · left; exact h1
    · rcases h2 with h2 | ⟨rfl, h2⟩
      · left; exact h2
      · right; exact ⟨rfl, lt_tr h1 h2⟩
theorem lt_tot : ∀ {a b : Tx}, Op.bytesLess a b = false → a ≠ b → Op.bytesLess b a = true
  | [], [], _, h => absurd rfl h
  | [], _ :: _, h, _ => by simp [Op.bytesLess] at h
  | _ :: _, [], _, _ => rfl
  | a :: x, b :: y, h, hn => by
    rw [lt_cons]
    have h' : ¬ (a.toNat < b.toNat ∨ a = b ∧ Op.bytesLess x y = true) := by rw [← lt_cons, h]; simp
    by_cases e : a = b
    · subst e
      right
      refine ⟨rfl, lt_tot ?_ fun e => hn (by rw [e])⟩
      cases hq : Op.bytesLess x y with
      | false => rfl
      | true => exact absurd (.inr ⟨rfl, hq⟩) h'
    · left
      have : a.toNat ≠ b.toNat := fun h => e (UInt8.toNat_inj.1 h)
      omega
theorem lt_asym {a b : Tx} (h : Op.bytesLess a b = true) : Op.bytesLess b a = false := by
  cases hq : Op.bytesLess b a with
  | false => rfl
  | true => have := lt_tr h hq; rw [lt_irr] at this; cases this
theorem not_le (a b : Tx) : (!(Op.bytesLess a b || decide (a = b))) = Op.bytesLess b a := by
  by_cases e : a = b
  · subst e; rw [decide_eq_true rfl, Bool.or_true, lt_irr]; rfl
  · rw [decide_eq_false e, Bool.or_false]
    cases h : Op.bytesLess a b with
    | true => rw [lt_asym h]; rfl
    | false => rw [lt_tot h e]; rfl

/-- Above what was ahead. -/
def gtO (a : Option Tx) (x : Tx) : Bool := match a with | none => true | some y => Op.bytesLess y x
def lastL (l : List Pair) (key : Tx) : Tx := l.foldl (fun v p => if p.key = key then p.val else v) []
def okSt : Option Tx → List Pair → Bool
  | _, [] => true
  | a, p :: l => gtO a p.key && decide (p.val ≠ []) && okSt (some p.key) l
theorem gtO_tr {a : Option Tx} {k x : Tx} (h1 : gtO a k = true) (h2 : Op.bytesLess k x = true) : gtO a x = true := by
  cases a with
  | none => rfl
  | some y => exact lt_tr h1 h2
theorem okSt_mono {a : Option Tx} {k : Tx} (h : gtO a k = true) : ∀ {l : List Pair}, okSt (some k) l = true → okSt a l = true
  | [], _ => rfl
  | p :: l, h2 => by
    simp only [okSt, Bool.and_eq_true] at h2 ⊢
    exact ⟨⟨gtO_tr h h2.1.1, h2.1.2⟩, h2.2⟩
theorem okSt_facts : ∀ (l : List Pair) (a : Option Tx), okSt a l = true → (∀ p ∈ l, gtO a p.key = true ∧ p.val ≠ []) ∧ l.Pairwise fun p q => Op.bytesLess p.key q.key = true
  | [], a, h => ⟨fun p hp => (by cases hp), .nil⟩
  | p :: l, a, h => by
    simp only [okSt, Bool.and_eq_true, decide_eq_true_eq] at h
    obtain ⟨i1, i2⟩ := okSt_facts l _ h.2
    refine ⟨fun q hq => ?_, .cons (fun q hq => (i1 q hq).1) i2⟩
    rcases List.mem_cons.1 hq with rfl | hq
    · exact h.1
    · exact ⟨gtO_tr h.1.1 (i1 q hq).1, (i1 q hq).2⟩
theorem last_skip (key : Tx) : ∀ (l : List Pair) (v : Tx), (∀ q ∈ l, q.key ≠ key) → l.foldl (fun v p => if p.key = key then p.val else v) v = v
  | [], v, h => rfl
  | q :: l, v, h => by rw [List.foldl_cons, if_neg (h q (.head _))]; exact last_skip key l v fun r hr => h r (.tail _ hr)
theorem last_mid (pre suf : List Pair) (p : Pair) (h : ∀ q ∈ suf, q.key ≠ p.key) : lastL (pre ++ p :: suf) p.key = p.val := by
  unfold lastL
  rw [List.foldl_append, List.foldl_cons, if_pos rfl, last_skip _ _ _ h]
end Go.Proofs.YtbkhmkcmbaffoaaGreatDoor.Eng.U


/- Overlays: what both sides answer, in plain words. -/
set_option linter.unusedVariables false
set_option linter.unusedSectionVars false
set_option linter.unusedSimpArgs false
namespace Go.Proofs.YtbkhmkcmbaffoaaGreatDoor.Eng.U
open Go Go.Proofs Go.Proofs.YtbkhmkcmbaffoaaGreatDoor.Eng Go.Proofs.YtbkhmkcmbaffoaaGreatDoor.P04
variable {E : Ext} [Core E] [HasNum E] {k n : Nat}

theorem snoc_len (pre : List Pair) (p : Pair) : ((pre.length : Nat) : Int) + 1 = (((pre ++ [p]).length : Nat) : Int) := by simp
theorem str_tl (l : Tx) : ByteArray.toList (str l) = l := str_list l
theorem overRight_loop (kap : FuncId → List AV → Option AV) (hR : ∀ p : Pair, p.key.length ≤ 1000000 → p.val.length ≤ 1000000 → kap pax_Right [.agg [.str (str p.key), .str (str p.val)]] = some (.bool (pairOk p))) (suf : List Pair) :
    ∀ (pre : List Pair) (k0 : Nat), suf.length < k0 → (pre ++ suf).length < 1000000000 → (∀ p ∈ suf, p.key.length ≤ 1000000 ∧ p.val.length ≤ 1000000) →
    over_Right_L0 kap k k0 (prs (pre ++ suf)) (prs (pre ++ suf)) (((pre ++ suf).length : Nat) : Int) ((pre.length : Nat) : Int) = some (.bool (okSt (pre.getLast?.map (·.key)) suf && suf.all pairOk)) := by
  induction suf with
  | nil =>
    intro pre k0 h hb hs
    obtain ⟨m, rfl⟩ : ∃ m, k0 = m + 1 := ⟨k0 - 1, by simp only [List.length_nil] at h; omega⟩
    rw [over_Right_L0_s, bif_f (by simp)]
    rfl
  | cons p suf ih =>
    intro pre k0 h hb hs
    obtain ⟨m, rfl⟩ : ∃ m, k0 = m + 1 := ⟨k0 - 1, by simp only [List.length_cons] at h; omega⟩
    have h' : suf.length < m := by simp only [List.length_cons] at h; omega
    have hb' : pre.length + (suf.length + 1) < 1000000000 := by simp only [List.length_append, List.length_cons] at hb; exact hb
    obtain ⟨g1, g2⟩ := hs p (.head _)
    have ih' := ih (pre ++ [p]) m h' (by simp only [List.length_append, List.length_cons, List.length_nil]; omega) fun q hq => hs q (.tail _ hq)
    rw [List.append_assoc, List.singleton_append, ← snoc_len] at ih'
    rw [over_Right_L0_s, prs_len, mid_len, bif_t (by omega), bif_a, bif_t (by omega), bif_t (by omega), Int.toNat_natCast, prs_mid, cells_pair, p_0, p_1, hR p g1 g2, callB_ok, str_dec]
    rw [mid_len] at ih'
    simp only [okSt, List.all_cons]
    by_cases hv : p.val = []
    · rw [decide_eq_true hv, cond_true, decide_eq_false (by simp [hv])]
      simp
    rw [decide_eq_false hv, cond_false, decide_eq_true hv]
    cases hq : pairOk p with
    | false => simp
    | true =>
      rw [Bool.not_true, cond_false, i64w (by omega), i64w (by omega), ih', List.getLast?_append, List.getLast?_singleton]
      rcases snoc_pairs pre with rfl | ⟨l, q, rfl⟩
      · rw [bif_f (by simp)]
        simp [gtO]
      · have hl1 : (l ++ [q]).length = l.length + 1 := by simp
        rw [bif_t (by omega), bif_a, bif_t (by omega), bif_t (by omega)]
        have e : Int.toNat ((((l ++ [q]).length : Nat) : Int) - 1) = l.length := by simp
        rw [e, show l ++ [q] ++ p :: suf = l ++ q :: (p :: suf) by simp, prs_mid, cells_pair, p_0, str_tl, str_tl, List.getLast?_append, List.getLast?_singleton]
        show (bif !Op.bytesLess q.key p.key then _ else _) = some (AV.bool ((Op.bytesLess q.key p.key && true && okSt (some p.key) suf) && (true && suf.all pairOk)))
        cases Op.bytesLess q.key p.key <;> simp
def overOk (l : List Pair) : Bool := okSt none l && l.all pairOk
theorem overRight_k [HasTextV E] (l : List Pair) (hl : l.length ≤ 1000000) (hp : ∀ p ∈ l, p.key.length ≤ 1000000 ∧ p.val.length ≤ 1000000) (hk : 1000000 < k) : kp E k (n + 6) over_Right [.list 2 (prs l)] = some (.bool (overOk l)) := by
  have h := overRight_loop (k := k) (kp E k (n + 5)) (fun p h1 h2 => paxRight_k p h1 h2 hk) l [] k (by omega) (by simp; omega) hp
  rw [List.nil_append] at h
  rw [over_Right_eq, prs_len]
  exact h
theorem same_loop (kap : FuncId → List AV → Option AV) (suf : List Pair) : ∀ (pre suf' pre' : List Pair) (k0 : Nat), suf.length < k0 → pre.length = pre'.length → suf.length = suf'.length → (pre ++ suf).length ≤ 1000000 →
    ref07_Same_L0 kap k k0 (prs (pre ++ suf)) (prs (pre' ++ suf')) ((pre.length : Nat) : Int) = some (.bool (decide (suf = suf'))) := by
  induction suf with
  | nil =>
    intro pre suf' pre' k0 h hp hs hb
    obtain ⟨m, rfl⟩ : ∃ m, k0 = m + 1 := ⟨k0 - 1, by simp only [List.length_nil] at h; omega⟩
    obtain rfl : suf' = [] := List.length_eq_zero_iff.1 hs.symm
    rw [ref07_Same_L0_s, prs_len, bif_f (by simp)]
    rfl
  | cons p suf ih =>
    intro pre suf' pre' k0 h hp hs hb
    obtain ⟨m, rfl⟩ : ∃ m, k0 = m + 1 := ⟨k0 - 1, by simp only [List.length_cons] at h; omega⟩
    cases suf' with
    | nil => cases hs
    | cons q suf' =>
      have h' : suf.length < m := by simp only [List.length_cons] at h; omega
      have hb' : pre.length + (suf.length + 1) ≤ 1000000 := by simp only [List.length_append, List.length_cons] at hb; exact hb
      have hs' : suf.length = suf'.length := by simp only [List.length_cons] at hs; omega
      have hi := ih (pre ++ [p]) suf' (pre' ++ [q]) m h' (by simp [hp]) hs' (by simp only [List.length_append, List.length_cons, List.length_nil]; omega)
      rw [← snoc_len, List.append_assoc, List.append_assoc, List.singleton_append, List.singleton_append] at hi
      have key : ∀ {β : Type} (F : AV → Option β), ((prs (pre' ++ q :: suf'))[pre.length]?).bind F = F (elPair q) := by
        intro β F; rw [hp, prs_mid]
      rw [ref07_Same_L0_s, prs_len, prs_len, mid_len, mid_len, bif_t (by omega), bif_a, bif_t (by omega), bif_t (by omega), Int.toNat_natCast, prs_mid, cells_pair, p_0, p_1, bif_a, bif_t (by omega), bif_t (by omega), key, cells_pair, p_0, p_1, str_dec, str_dec, i64w (by omega), hi]
      have e : decide (p :: suf = q :: suf') = ((decide (p.key = q.key) && (decide (p.val = q.val) && true)) && decide (suf = suf')) := by
        have e0 : (p :: suf = q :: suf') ↔ (p.key = q.key ∧ p.val = q.val) ∧ suf = suf' := by
          rw [List.cons.injEq]; cases p; cases q; simp
        have e1 : decide (p :: suf = q :: suf') = decide ((p.key = q.key ∧ p.val = q.val) ∧ suf = suf') := decide_eq_decide.2 e0
        rw [e1]
        by_cases a1 : p.key = q.key <;> by_cases a2 : p.val = q.val <;> by_cases a3 : suf = suf' <;> simp [a1, a2, a3]
      rw [e]
      cases decide (p.key = q.key) && (decide (p.val = q.val) && true) <;> rfl
theorem pSame_k (a b : List Pair) (ha : a.length ≤ 1000000) (hk : a.length < k) : kp E k (n + 1) ref07_Same [.list 2 (prs a), .list 2 (prs b)] = some (.bool (decide (a = b))) := by
  rw [ref07_Same_eq, prs_len, prs_len]
  by_cases h : a.length = b.length
  · rw [decide_eq_true (by omega), Bool.not_true, cond_false]
    have := same_loop (k := k) (kp E k n) a [] b [] k hk rfl h (by simpa using ha)
    exact this
  · rw [decide_eq_false (by omega), Bool.not_false, cond_true, decide_eq_false (fun e => h (by rw [e]))]
end Go.Proofs.YtbkhmkcmbaffoaaGreatDoor.Eng.U


/- ItemFulls answers true. -/
set_option linter.unusedVariables false
set_option linter.unusedSectionVars false
set_option linter.unusedSimpArgs false
namespace Go.Proofs.YtbkhmkcmbaffoaaGreatDoor.Eng.U
open Go Go.Proofs Go.Proofs.YtbkhmkcmbaffoaaGreatDoor.Eng Go.Proofs.YtbkhmkcmbaffoaaGreatDoor.P04
variable {E : Ext} [Core E] [HasNum E] [HasText E] {k n : Nat}

end Go.Proofs.YtbkhmkcmbaffoaaGreatDoor.Eng.U


/- Which field of a head is the first that isn't right: both sides. -/
set_option linter.unusedVariables false
set_option linter.unusedSectionVars false
set_option linter.unusedSimpArgs false
namespace Go.Proofs.YtbkhmkcmbaffoaaGreatDoor.Eng.U
open Go Go.Proofs Go.Proofs.YtbkhmkcmbaffoaaGreatDoor.Eng Go.Proofs.YtbkhmkcmbaffoaaGreatDoor.P04
variable {E : Ext} [Core E] [HasNum E] {k n k0 : Nat}

def nameOk (s : List UInt8) : Bool := decide (s ≠ []) && (decide (s.length ≤ 65536) && clean s)
def plainOk (s : List UInt8) : Bool := decide (s.length ≤ 65536) && clean s
def links (h : Head) : Bool := decide (h.kind = 2) || decide (h.kind = 3)
def devs (h : Head) : Bool := decide (h.kind = 4) || decide (h.kind = 5)
def f1 (h : Head) : Bool := decide (h.kind ≥ 1) && decide (h.kind ≤ 7)
def f2 (h : Head) : Bool := nameOk h.name && !(decide (h.kind = 1) && sl h.name)
def f3 (h : Head) : Bool := bif links h then nameOk h.link else decide (h.link = [])
def f4 (h : Head) : Bool := decide (h.mode ≥ 0)
def f5 (h : Head) : Bool := decide (h.uid ≥ 0)
def f6 (h : Head) : Bool := decide (h.gid ≥ 0)
def f7 (h : Head) : Bool := decide (h.size = 0) || (decide (h.size > 0) && decide (h.kind = 1))
def f8 (h : Head) : Bool := rightT h.nano
def f9 (h : Head) : Bool := plainOk h.user
def f10 (h : Head) : Bool := plainOk h.group
def devOk (h : Head) (v : Int) : Bool := decide (v = 0) || (decide (v > 0) && devs h)
def f11 (h : Head) : Bool := devOk h h.major
def f12 (h : Head) : Bool := devOk h h.minor
def f13 (h : Head) : Bool := overOk h.extra && h.extra.all fun p => decide (whichL p.key < 0)
def wrongH (h : Head) : Int :=
  bif !f1 h then 1 else bif !f2 h then 2 else bif !f3 h then 3 else bif !f4 h then 4 else bif !f5 h then 5 else bif !f6 h then 6 else bif !f7 h then 7 else bif !f8 h then 8 else
  bif !f9 h then 9 else bif !f10 h then 10 else bif !f11 h then 11 else bif !f12 h then 12 else bif !f13 h then 13 else 0
theorem len_le (s : List UInt8) : decide (((s.length : Nat) : Int) ≤ 65536) = decide (s.length ≤ 65536) := by rw [decide_eq_decide]; omega
theorem named_k (s : List UInt8) : kp E k (n + 2) item_named [.str (str s)] = some (.bool (nameOk s)) := by
  rw [item_named_eq, textClean_k, callB_ok, str_dec, str_size, len_le]
  unfold nameOk
  rw [decide_not]
  cases decide (s = []) <;> cases decide (s.length ≤ 65536) <;> rfl
theorem plain_k (s : List UInt8) : kp E k (n + 2) item_plain [.str (str s)] = some (.bool (plainOk s)) := by
  rw [item_plain_eq, textClean_k, callB_ok, str_size, len_le]
  unfold plainOk
  cases decide (s.length ≤ 65536) <;> rfl
theorem link_k (h : Head) : kp E k (n + 3) item_link [.agg (encHead h)] = some (.bool (f3 h)) := by
  unfold encHead f3 links
  rw [item_link_eq, named_k, callB_ok, str_dec]
  cases decide (h.kind = 2) <;> cases decide (h.kind = 3) <;> rfl
theorem device_k (h : Head) (v : Int) : kp E k (n + 1) item_device [.agg (encHead h), .int .i64 v] = some (.bool (devOk h v)) := by
  unfold encHead devOk devs
  rw [item_device_eq]
  cases decide (v = 0) <;> cases decide (v > 0) <;> cases decide (h.kind = 4) <;> rfl
theorem extra1_k (p : Pair) : kp E k (n + 2) item_extra_1 [.agg [.str (str p.key), .str (str p.val)]] = some (.bool (decide (0 ≤ whichL p.key))) := by
  rw [item_extra_1_eq, known_k, callB_ok]
theorem index_loop (kap : FuncId → List AV → Option AV) (hK : ∀ p : Pair, kap item_extra_1 [.agg [.str (str p.key), .str (str p.val)]] = some (.bool (decide (0 ≤ whichL p.key)))) (suf : List Pair) : ∀ (pre : List Pair) (k0 : Nat), suf.length < k0 → (pre ++ suf).length < 1000000 →
    ∃ i : Int, slices_IndexFunc_api_Pair_L0 kap k k0 (prs (pre ++ suf)) (((pre ++ suf).length : Nat) : Int) ((pre.length : Nat) : Int) = some (.int .i64 i) ∧ decide (i ≥ 0) = !(suf.all fun p => decide (whichL p.key < 0)) := by
  induction suf with
  | nil =>
    intro pre k0 h hb
    obtain ⟨m, rfl⟩ : ∃ m, k0 = m + 1 := ⟨k0 - 1, by simp only [List.length_nil] at h; omega⟩
    rw [slices_IndexFunc_api_Pair_L0_s, bif_f (by simp)]
    exact ⟨_, rfl, rfl⟩
  | cons p suf ih =>
    intro pre k0 h hb
    obtain ⟨m, rfl⟩ : ∃ m, k0 = m + 1 := ⟨k0 - 1, by simp only [List.length_cons] at h; omega⟩
    have h' : suf.length < m := by simp only [List.length_cons] at h; omega
    have hb' : pre.length + (suf.length + 1) < 1000000 := by simp only [List.length_append, List.length_cons] at hb; exact hb
    obtain ⟨i, hi, he⟩ := ih (pre ++ [p]) m h' (by simp only [List.length_append, List.length_cons, List.length_nil]; omega)
    rw [List.append_assoc, List.singleton_append, ← snoc_len, mid_len] at hi
    rw [slices_IndexFunc_api_Pair_L0_s, prs_len, mid_len, bif_t (by omega), bif_a, bif_t (by omega), bif_t (by omega), Int.toNat_natCast, prs_mid, cells_pair, p_0, p_1, hK, callB_ok, i64w (by omega), List.all_cons]
    by_cases hw : 0 ≤ whichL p.key
    · rw [decide_eq_true hw, cond_true, decide_eq_false (show ¬ whichL p.key < 0 by omega)]
      exact ⟨_, rfl, by rw [decide_eq_true (by omega)]; rfl⟩
    · rw [decide_eq_false hw, cond_false, decide_eq_true (show whichL p.key < 0 by omega), Bool.true_and]
      exact ⟨i, hi, he⟩
theorem extra_k [HasTextV E] (h : Head) (hl : h.extra.length ≤ 100000) (hp : ∀ p ∈ h.extra, p.key.length ≤ 1000000 ∧ p.val.length ≤ 1000000) (hk : 1000000 < k) : kp E k (n + 7) item_extra [.list 2 (prs h.extra)] = some (.bool (f13 h)) := by
  obtain ⟨i, hi, he⟩ := index_loop (k := k) (kp E k (n + 4)) (fun p => extra1_k p) h.extra [] k (by omega) (by simpa using (show h.extra.length < 1000000 by omega))
  simp only [List.nil_append, List.length_nil] at hi
  rw [item_extra_eq, overRight_k h.extra (by omega) hp hk, callB_ok, slices_ContainsFunc_api_Pair_eq, slices_IndexFunc_api_Pair_eq, prs_len]
  rw [show ((0 : Nat) : Int) = 0 from rfl] at hi
  rw [hi, callI_ok, he, callB_ok, Bool.not_not]
  unfold f13
  cases overOk h.extra <;> rfl
def BdF (h : Head) : Prop := h.name.length ≤ 400000 ∧ h.link.length ≤ 400000 ∧ h.user.length ≤ 400000 ∧ h.group.length ≤ 400000 ∧ h.extra.length ≤ 100000 ∧ ∀ p ∈ h.extra, p.key.length ≤ 1000000 ∧ p.val.length ≤ 1000000
theorem flag_k (v : Int) : ∃ f : Int, kp E k (n + 1) item_Flag [.int .i64 v] = some (.int .u8 f) ∧ decide (f = 0) = !(decide (v ≥ 1) && decide (v ≤ 7)) := by
  rw [item_Flag_eq]
  by_cases h1 : v < 1
  · rw [bif_t h1]; exact ⟨_, rfl, by rw [decide_eq_false (show ¬ v ≥ 1 by omega)]; rfl⟩
  · rw [bif_f h1]
    by_cases h2 : v > 7
    · rw [bif_t h2]; exact ⟨_, rfl, by rw [decide_eq_true (show v ≥ 1 by omega), decide_eq_false (show ¬ v ≤ 7 by omega)]; rfl⟩
    · rw [bif_f h2]
      have : v = 1 ∨ v = 2 ∨ v = 3 ∨ v = 4 ∨ v = 5 ∨ v = 6 ∨ v = 7 := by omega
      rcases this with rfl | rfl | rfl | rfl | rfl | rfl | rfl <;> exact ⟨_, rfl, by decide⟩
theorem wrong_kv [HasTextV E] (h : Head) (hb : BdF h) (hk : 1000000 < k) : kp E k (n + 8) item_Wrong [.agg (encHead h)] = some (.int .i64 (wrongH h)) := by
  have hlink := link_k (E := E) (k := k) (n := n + 4) h
  have hdev : ∀ v : Int, kp E k (n + 7) item_device [.agg (encHead h), .int .i64 v] = _ := fun v => device_k (n := n + 6) h v
  have hext := extra_k (E := E) (k := k) (n := n) h hb.2.2.2.2.1 hb.2.2.2.2.2 hk
  have hright : ∀ s t : Int, kp E k (n + 7) dec_Right [.agg [.int .i64 s, .int .i64 t]] = _ := fun s t => right_k (n := n + 6) s t
  have hplain : ∀ s : List UInt8, kp E k (n + 7) item_plain [.str (str s)] = _ := fun s => plain_k (n := n + 5) s
  have hname : kp E k (n + 7) item_named [.str (str h.name)] = _ := named_k (n := n + 5) h.name
  obtain ⟨f, hfl, hf1⟩ := flag_k (E := E) (k := k) (n := n + 6) h.kind
  have hsuf := suffix_k (E := E) (k := k) (n := n + 5) h.name (by have := hb.1; omega)
  have e1 : decide (f = 0) = !f1 h := hf1
  unfold encHead at hlink hdev ⊢
  rw [item_Wrong_eq]
  simp only [hfl, callI_ok, e1, hname, hsuf, hlink, hdev, hright, hplain, hext, callB_ok]
  unfold wrongH
  have e2 : f2 h = (nameOk h.name && !(decide (h.kind = 1) && sl h.name)) := rfl
  have e4 : decide (h.mode < 0) = !f4 h := by unfold f4; rw [← decide_not, decide_eq_decide]; omega
  have e5 : decide (h.uid < 0) = !f5 h := by unfold f5; rw [← decide_not, decide_eq_decide]; omega
  have e6 : decide (h.gid < 0) = !f6 h := by unfold f6; rw [← decide_not, decide_eq_decide]; omega
  have e7 : f7 h = (decide (h.size = 0) || (decide (h.size > 0) && decide (h.kind = 1))) := rfl
  have e8 : rightT h.nano = f8 h := rfl
  have e9 : plainOk h.user = f9 h := rfl
  have e10 : plainOk h.group = f10 h := rfl
  have e11 : devOk h h.major = f11 h := rfl
  have e12 : devOk h h.minor = f12 h := rfl
  rw [e2, e4, e5, e6, e7, e8, e9, e10, e11, e12]
  have s3 : (h.size < 0 ∧ ¬ h.size = 0 ∧ ¬ h.size > 0) ∨ (¬ h.size < 0 ∧ h.size = 0 ∧ ¬ h.size > 0) ∨ (¬ h.size < 0 ∧ ¬ h.size = 0 ∧ h.size > 0) := by omega
  generalize nameOk h.name = b2
  generalize sl h.name = bs
  generalize f1 h = b1
  generalize f3 h = b3
  generalize f4 h = b4
  generalize f5 h = b5
  generalize f6 h = b6
  generalize f8 h = b8
  generalize f9 h = b9
  generalize f10 h = b10
  generalize f11 h = b11
  generalize f12 h = b12
  generalize f13 h = b13
  generalize decide (h.kind = 1) = bk
  cases b1
  · rfl
  cases b2
  · rfl
  have tail : ∀ a8 a9 a10 a11 a12 a13 : Bool, (bif !a8 then some (AV.int .i64 8) else bif !a9 then some (AV.int .i64 9) else bif !a10 then some (AV.int .i64 10) else bif !a11 then some (AV.int .i64 11) else bif !a12 then some (AV.int .i64 12) else bif !a13 then some (AV.int .i64 13) else some (AV.int .i64 0)) =
      some (AV.int .i64 (bif !a8 then 8 else bif !a9 then 9 else bif !a10 then 10 else bif !a11 then 11 else bif !a12 then 12 else bif !a13 then 13 else 0)) := by
    intro a8 a9 a10 a11 a12 a13
    cases a8 <;> cases a9 <;> cases a10 <;> cases a11 <;> cases a12 <;> cases a13 <;> rfl
  rcases s3 with ⟨x1, x2, x3⟩ | ⟨x1, x2, x3⟩ | ⟨x1, x2, x3⟩
  · rw [decide_eq_true x1, decide_eq_false x2, decide_eq_false x3]
    cases bk <;> cases bs <;> cases b3 <;> cases b4 <;> cases b5 <;> cases b6 <;> rfl
  · rw [decide_eq_false x1, decide_eq_true x2, decide_eq_false x3]
    cases bk <;> cases bs <;> cases b3 <;> cases b4 <;> cases b5 <;> cases b6 <;> first | rfl | exact tail _ _ _ _ _ _
  · rw [decide_eq_false x1, decide_eq_false x2, decide_eq_true x3]
    cases bk <;> cases bs <;> cases b3 <;> cases b4 <;> cases b5 <;> cases b6 <;> first | rfl | exact tail _ _ _ _ _ _
end Go.Proofs.YtbkhmkcmbaffoaaGreatDoor.Eng.U


/- What functions answer, as the engine evaluates their code. Printed by gen2.py. -/
set_option linter.unusedVariables false
namespace Go.Proofs.YtbkhmkcmbaffoaaGreatDoor.Eng.U
open Go Go.Proofs Go.Proofs.YtbkhmkcmbaffoaaGreatDoor.Eng
/- oakum/oakumlaw11.RepOrder -/
/- oakum/oakumlaw11.RepFields -/
/- oakum/oakumlaw11.RepRecords -/
/- oakum/oakumlaw11.RepSays -/
/- oakum/oakumlaw11.alive -/
/- oakum/oakumlaw11.many -/
/- oakum/rep.First -/
noncomputable def rep_First_bd : Code := Tryz.f13.body.getD .skip
noncomputable def rep_First_L0 (kap : FuncId → List AV → Option AV) (k : Nat) (k0 : Nat) (s0 : Int) (s6 : Int) (b3_0 : Int) (b3_1 : ByteArray) (b3_2 : ByteArray) (b3_3 : Int) (b3_4 : Int) (b3_5 : Int) (b3_6 : Int) (b3_7 : Int) (b3_8 : Int) (b3_9 : ByteArray) (b3_10 : ByteArray) (b3_11 : Int) (b3_12 : Int) (b3_13 : List AV) : Option AV :=
  loop (fun fr K => code ((bs E0 k).cfg kap rep_First) (sel rep_First_bd [1, 1, 1, 0, 1, 0, 0]) fr K) (canon ((bs E0 k).cfg kap rep_First) (firstReg (sel rep_First_bd [1, 1, 1, 0, 1, 0, 0]))) k0 (mkFr 23 [(0, (.int .i64 s0)), (3, (.loc 3 0)), (6, (.int .i64 s6))] [(3, (.box [(.int .i64 b3_0), (.str b3_1), (.str b3_2), (.int .i64 b3_3), (.int .i64 b3_4), (.int .i64 b3_5), (.int .i64 b3_6), (.int .i64 b3_7), (.int .i64 b3_8), (.str b3_9), (.str b3_10), (.int .i64 b3_11), (.int .i64 b3_12), (.list 2 b3_13)]))]) (plug ((bs E0 k).cfg kap rep_First) (retK ((bs E0 k).cfg kap rep_First) [] Tryz.f13 [] some) [.blk 0, .seqR (sel rep_First_bd [1, 1, 1, 1])])
theorem rep_First_L0_s (kap : FuncId → List AV → Option AV) (k : Nat) (k0 : Nat) (s0 : Int) (s6 : Int) (b3_0 : Int) (b3_1 : ByteArray) (b3_2 : ByteArray) (b3_3 : Int) (b3_4 : Int) (b3_5 : Int) (b3_6 : Int) (b3_7 : Int) (b3_8 : Int) (b3_9 : ByteArray) (b3_10 : ByteArray) (b3_11 : Int) (b3_12 : Int) (b3_13 : List AV) : rep_First_L0 kap k (k0 + 1) s0 s6 b3_0 b3_1 b3_2 b3_3 b3_4 b3_5 b3_6 b3_7 b3_8 b3_9 b3_10 b3_11 b3_12 b3_13 =
  (bif (decide (s6 ≤ (14 : Int))) then (callB (kap rep_can [(.int .i64 s0), (.agg [(.int .i64 b3_0), (.str b3_1), (.str b3_2), (.int .i64 b3_3), (.int .i64 b3_4), (.int .i64 b3_5), (.int .i64 b3_6), (.int .i64 b3_7), (.int .i64 b3_8), (.str b3_9), (.str b3_10), (.int .i64 b3_11), (.int .i64 b3_12), (.list 2 b3_13)]), (.int .i64 s6)]) fun vq6 => (bif (!vq6) then (some (.tup [(.int .i64 s6), (.int .u8 (0 : Int))])) else (rep_First_L0 kap k k0 s0 (IntKind.wrap .i64 (s6 + (1 : Int))) b3_0 b3_1 b3_2 b3_3 b3_4 b3_5 b3_6 b3_7 b3_8 b3_9 b3_10 b3_11 b3_12 b3_13))) else (some (.tup [(.int .i64 (0 : Int)), (.int .u8 (0 : Int))]))) := by kernel_rfl
theorem rep_First_eq {E : Ext} [Core E] (k n : Nat) (a0 : Int) (a1_0 : Int) (a1_1 : ByteArray) (a1_2 : ByteArray) (a1_3 : Int) (a1_4 : Int) (a1_5 : Int) (a1_6 : Int) (a1_7 : Int) (a1_8 : Int) (a1_9 : ByteArray) (a1_10 : ByteArray) (a1_11 : Int) (a1_12 : Int) (a1_13 : List AV) : kp E k (n + 1) rep_First [(.int .i64 a0), (.agg [(.int .i64 a1_0), (.str a1_1), (.str a1_2), (.int .i64 a1_3), (.int .i64 a1_4), (.int .i64 a1_5), (.int .i64 a1_6), (.int .i64 a1_7), (.int .i64 a1_8), (.str a1_9), (.str a1_10), (.int .i64 a1_11), (.int .i64 a1_12), (.list 2 a1_13)])] =
  (callB (kp E k n rep_Dialect [(.int .i64 a0)]) fun vq2 => (bif (!vq2) then (some (.tup [(.int .i64 (0 : Int)), (.int .u8 (2 : Int))])) else (callI .i64 (kp E k n item_Wrong [(.agg [(.int .i64 a1_0), (.str a1_1), (.str a1_2), (.int .i64 a1_3), (.int .i64 a1_4), (.int .i64 a1_5), (.int .i64 a1_6), (.int .i64 a1_7), (.int .i64 a1_8), (.str a1_9), (.str a1_10), (.int .i64 a1_11), (.int .i64 a1_12), (.list 2 a1_13)])]) fun vn4 => (bif (!(decide (vn4 = (0 : Int)))) then (some (.tup [(.int .i64 (0 : Int)), (.int .u8 (15 : Int))])) else (rep_First_L0 (kp E k n) k k a0 (1 : Int) a1_0 a1_1 a1_2 a1_3 a1_4 a1_5 a1_6 a1_7 a1_8 a1_9 a1_10 a1_11 a1_12 a1_13))))) := (kp_at (by kernel_rfl)).trans (by kernel_rfl)
/- oakum/rep.Can -/
theorem rep_Can_eq {E : Ext} [Core E] (k n : Nat) (a0 : Int) (a1_0 : Int) (a1_1 : ByteArray) (a1_2 : ByteArray) (a1_3 : Int) (a1_4 : Int) (a1_5 : Int) (a1_6 : Int) (a1_7 : Int) (a1_8 : Int) (a1_9 : ByteArray) (a1_10 : ByteArray) (a1_11 : Int) (a1_12 : Int) (a1_13 : List AV) (a2 : Int) : kp E k (n + 1) rep_Can [(.int .i64 a0), (.agg [(.int .i64 a1_0), (.str a1_1), (.str a1_2), (.int .i64 a1_3), (.int .i64 a1_4), (.int .i64 a1_5), (.int .i64 a1_6), (.int .i64 a1_7), (.int .i64 a1_8), (.str a1_9), (.str a1_10), (.int .i64 a1_11), (.int .i64 a1_12), (.list 2 a1_13)]), (.int .i64 a2)] =
  (callB (kp E k n rep_Dialect [(.int .i64 a0)]) fun vq2 => (bif (!vq2) then (some (.tup [(.bool false), (.int .u8 (2 : Int))])) else (bif (decide (a2 < (1 : Int))) then (some (.tup [(.bool false), (.int .u8 (2 : Int))])) else (bif (decide (a2 > (14 : Int))) then (some (.tup [(.bool false), (.int .u8 (2 : Int))])) else (callI .i64 (kp E k n item_Wrong [(.agg [(.int .i64 a1_0), (.str a1_1), (.str a1_2), (.int .i64 a1_3), (.int .i64 a1_4), (.int .i64 a1_5), (.int .i64 a1_6), (.int .i64 a1_7), (.int .i64 a1_8), (.str a1_9), (.str a1_10), (.int .i64 a1_11), (.int .i64 a1_12), (.list 2 a1_13)])]) fun vn4 => (bif (!(decide (vn4 = (0 : Int)))) then (some (.tup [(.bool false), (.int .u8 (15 : Int))])) else (callB (kp E k n rep_can [(.int .i64 a0), (.agg [(.int .i64 a1_0), (.str a1_1), (.str a1_2), (.int .i64 a1_3), (.int .i64 a1_4), (.int .i64 a1_5), (.int .i64 a1_6), (.int .i64 a1_7), (.int .i64 a1_8), (.str a1_9), (.str a1_10), (.int .i64 a1_11), (.int .i64 a1_12), (.list 2 a1_13)]), (.int .i64 a2)]) fun vq6 => (some (.tup [(.bool vq6), (.int .u8 (0 : Int))]))))))))) := (kp_at (by kernel_rfl)).trans (by kernel_rfl)
/- oakum/rep.Dialect -/
theorem rep_Dialect_eq {E : Ext} [Core E] (k n : Nat) (a0 : Int) : kp E k (n + 1) rep_Dialect [(.int .i64 a0)] =
  (bif (decide (a0 ≥ (1 : Int))) then (some (.bool (decide (a0 ≤ (4 : Int))))) else (some (.bool false))) := (kp_at (by kernel_rfl)).trans (by kernel_rfl)
/- oakum/oakumref11.Can -/
/- oakum/oakumref11.First -/
/- oakum/rep.Full -/
/- oakum/oakumref11.Full -/
/- oakum/oakumref11.Records -/
/- oakum/oakumref10.SameInts -/
/- oakum/rep.can -/
theorem rep_can_eq {E : Ext} [Core E] (k n : Nat) (a0 : Int) (a1_0 : Int) (a1_1 : ByteArray) (a1_2 : ByteArray) (a1_3 : Int) (a1_4 : Int) (a1_5 : Int) (a1_6 : Int) (a1_7 : Int) (a1_8 : Int) (a1_9 : ByteArray) (a1_10 : ByteArray) (a1_11 : Int) (a1_12 : Int) (a1_13 : List AV) (a2 : Int) : kp E k (n + 1) rep_can [(.int .i64 a0), (.agg [(.int .i64 a1_0), (.str a1_1), (.str a1_2), (.int .i64 a1_3), (.int .i64 a1_4), (.int .i64 a1_5), (.int .i64 a1_6), (.int .i64 a1_7), (.int .i64 a1_8), (.str a1_9), (.str a1_10), (.int .i64 a1_11), (.int .i64 a1_12), (.list 2 a1_13)]), (.int .i64 a2)] =
  (bif (decide (a2 = (1 : Int))) then (callB (kp E k n rep_kind [(.int .i64 a0), (.int .i64 a1_0)]) fun vq2 => (some (.bool vq2))) else (bif (decide (a2 = (2 : Int))) then (callT (kp E k n rep_full [(.int .i64 a0), (.agg [(.int .i64 a1_0), (.str a1_1), (.str a1_2), (.int .i64 a1_3), (.int .i64 a1_4), (.int .i64 a1_5), (.int .i64 a1_6), (.int .i64 a1_7), (.int .i64 a1_8), (.str a1_9), (.str a1_10), (.int .i64 a1_11), (.int .i64 a1_12), (.list 2 a1_13)])]) fun vt4 => (tupS vt4 fun vs5 vt6 => (tupB vt6 fun vq7 vt8 => (atNil vt8 (some (.bool vq7)))))) else (bif (decide (a2 = (3 : Int))) then (bif (decide (a0 = (4 : Int))) then (some (.bool true)) else (callB (kp E k n rep_text [(.int .i64 a0), (.str a1_2), (.int .i64 (100 : Int))]) fun vq10 => (some (.bool vq10)))) else (bif (decide (a2 = (4 : Int))) then (callB (kp E k n rep_small [(.int .i64 a0), (.int .i64 a1_3)]) fun vq12 => (some (.bool vq12))) else (bif (decide (a2 = (5 : Int))) then (callB (kp E k n rep_owner [(.int .i64 a0), (.int .i64 a1_4)]) fun vq14 => (some (.bool vq14))) else (bif (decide (a2 = (6 : Int))) then (callB (kp E k n rep_owner [(.int .i64 a0), (.int .i64 a1_5)]) fun vq16 => (some (.bool vq16))) else (bif (decide (a2 = (7 : Int))) then (callB (kp E k n rep_great [(.int .i64 a0), (.int .i64 a1_6)]) fun vq18 => (some (.bool vq18))) else (bif (decide (a2 = (8 : Int))) then (callB (kp E k n rep_when [(.int .i64 a0), (.agg [(.int .i64 a1_7), (.int .i64 a1_8)])]) fun vq20 => (some (.bool vq20))) else (bif (decide (a2 = (9 : Int))) then (callB (kp E k n rep_people [(.int .i64 a0), (.str a1_9)]) fun vq22 => (some (.bool vq22))) else (bif (decide (a2 = (10 : Int))) then (callB (kp E k n rep_people [(.int .i64 a0), (.str a1_10)]) fun vq24 => (some (.bool vq24))) else (bif (decide (a2 = (11 : Int))) then (callB (kp E k n rep_small [(.int .i64 a0), (.int .i64 a1_11)]) fun vq26 => (some (.bool vq26))) else (bif (decide (a2 = (12 : Int))) then (callB (kp E k n rep_small [(.int .i64 a0), (.int .i64 a1_12)]) fun vq28 => (some (.bool vq28))) else (bif (decide (a2 = (13 : Int))) then (bif (decide (a0 = (3 : Int))) then (some (.bool true)) else (some (.bool (decide ((((List.length a1_13) : Nat) : Int) = (0 : Int)))))) else (bif (!(decide (a0 = (3 : Int)))) then (some (.bool true)) else (callB (kp E k n rep_fits [(.agg [(.int .i64 a1_0), (.str a1_1), (.str a1_2), (.int .i64 a1_3), (.int .i64 a1_4), (.int .i64 a1_5), (.int .i64 a1_6), (.int .i64 a1_7), (.int .i64 a1_8), (.str a1_9), (.str a1_10), (.int .i64 a1_11), (.int .i64 a1_12), (.list 2 a1_13)])]) fun vq30 => (some (.bool vq30))))))))))))))))) := (kp_at (by kernel_rfl)).trans (by kernel_rfl)
/- oakum/rep.Records$2 -/
/- oakum/oakumref11.plain -/
/- oakum/oakumref11.utf -/
/- oakum/rep.full -/
theorem rep_full_eq {E : Ext} [Core E] (k n : Nat) (a0 : Int) (a1_0 : Int) (a1_1 : ByteArray) (a1_2 : ByteArray) (a1_3 : Int) (a1_4 : Int) (a1_5 : Int) (a1_6 : Int) (a1_7 : Int) (a1_8 : Int) (a1_9 : ByteArray) (a1_10 : ByteArray) (a1_11 : Int) (a1_12 : Int) (a1_13 : List AV) : kp E k (n + 1) rep_full [(.int .i64 a0), (.agg [(.int .i64 a1_0), (.str a1_1), (.str a1_2), (.int .i64 a1_3), (.int .i64 a1_4), (.int .i64 a1_5), (.int .i64 a1_6), (.int .i64 a1_7), (.int .i64 a1_8), (.str a1_9), (.str a1_10), (.int .i64 a1_11), (.int .i64 a1_12), (.list 2 a1_13)])] =
  (callL 1 (kp E k n item_Fulls [(.agg [(.int .i64 a1_0), (.str a1_1), (.str a1_2), (.int .i64 a1_3), (.int .i64 a1_4), (.int .i64 a1_5), (.int .i64 a1_6), (.int .i64 a1_7), (.int .i64 a1_8), (.str a1_9), (.str a1_10), (.int .i64 a1_11), (.int .i64 a1_12), (.list 2 a1_13)])]) fun vl2 => (bif (decide (a0 = (1 : Int))) then (callI .i64 (kp E k n slices_IndexFunc_string [(.list 1 vl2), (.func (.func rep_full_1) [] [(.eptr [(.int .i64 a1_0), (.str a1_1), (.str a1_2), (.int .i64 a1_3), (.int .i64 a1_4), (.int .i64 a1_5), (.int .i64 a1_6), (.int .i64 a1_7), (.int .i64 a1_8), (.str a1_9), (.str a1_10), (.int .i64 a1_11), (.int .i64 a1_12), (.list 2 a1_13)] 0)])]) fun vn4 => (bif (decide (vn4 ≥ (0 : Int))) then (bif ((decide ((0 : Int) ≤ vn4)) && (decide (vn4 < (((List.length vl2) : Nat) : Int)))) then ((vl2[(Int.toNat vn4)]?).bind fun vy5 => (cellS (AV.cells vy5) 0 fun vs6 => (some (.tup [(.str vs6), (.bool true)])))) else none) else (bif (decide (a0 = (3 : Int))) then (callB (kp E k n utf_Right [(.str a1_1)]) fun vq8 => (bif vq8 then (bif (decide ((0 : Int) < (((List.length vl2) : Nat) : Int))) then ((vl2[0]?).bind fun vy9 => (cellS (AV.cells vy9) 0 fun vs10 => (some (.tup [(.str vs10), (.bool true)])))) else none) else (some (.tup [(.str (str [])), (.bool false)])))) else (some (.tup [(.str (str [])), (.bool false)]))))) else (bif (decide (a0 = (4 : Int))) then (callI .i64 (kp E k n slices_IndexFunc_string [(.list 1 vl2), (.func (.func rep_full_2) [] [])]) fun vn12 => (bif (decide (vn12 ≥ (0 : Int))) then (bif ((decide ((0 : Int) ≤ vn12)) && (decide (vn12 < (((List.length vl2) : Nat) : Int)))) then ((vl2[(Int.toNat vn12)]?).bind fun vy13 => (cellS (AV.cells vy13) 0 fun vs14 => (some (.tup [(.str vs14), (.bool true)])))) else none) else (bif (decide (a0 = (3 : Int))) then (callB (kp E k n utf_Right [(.str a1_1)]) fun vq16 => (bif vq16 then (bif (decide ((0 : Int) < (((List.length vl2) : Nat) : Int))) then ((vl2[0]?).bind fun vy17 => (cellS (AV.cells vy17) 0 fun vs18 => (some (.tup [(.str vs18), (.bool true)])))) else none) else (some (.tup [(.str (str [])), (.bool false)])))) else (some (.tup [(.str (str [])), (.bool false)]))))) else (callI .i64 (kp E k n slices_IndexFunc_string [(.list 1 vl2), (.func (.func rep_splits) [] [])]) fun vn20 => (bif (decide (vn20 ≥ (0 : Int))) then (bif ((decide ((0 : Int) ≤ vn20)) && (decide (vn20 < (((List.length vl2) : Nat) : Int)))) then ((vl2[(Int.toNat vn20)]?).bind fun vy21 => (cellS (AV.cells vy21) 0 fun vs22 => (some (.tup [(.str vs22), (.bool true)])))) else none) else (bif (decide (a0 = (3 : Int))) then (callB (kp E k n utf_Right [(.str a1_1)]) fun vq24 => (bif vq24 then (bif (decide ((0 : Int) < (((List.length vl2) : Nat) : Int))) then ((vl2[0]?).bind fun vy25 => (cellS (AV.cells vy25) 0 fun vs26 => (some (.tup [(.str vs26), (.bool true)])))) else none) else (some (.tup [(.str (str [])), (.bool false)])))) else (some (.tup [(.str (str [])), (.bool false)])))))))) := (kp_at (by kernel_rfl)).trans (by kernel_rfl)
/- oakum/oakumref10.Split -/
/- oakum/rep.kind -/
theorem rep_kind_eq {E : Ext} [Core E] (k n : Nat) (a0 : Int) (a1 : Int) : kp E k (n + 1) rep_kind [(.int .i64 a0), (.int .i64 a1)] =
  (bif (!(decide (a0 = (1 : Int)))) then (some (.bool true)) else (bif (decide (a1 = (1 : Int))) then (some (.bool true)) else (bif (decide (a1 = (2 : Int))) then (some (.bool true)) else (bif (decide (a1 = (3 : Int))) then (some (.bool true)) else (some (.bool (decide (a1 = (6 : Int))))))))) := (kp_at (by kernel_rfl)).trans (by kernel_rfl)
/- oakum/rep.text -/
theorem rep_text_eq {E : Ext} [Core E] (k n : Nat) (a0 : Int) (a1 : ByteArray) (a2 : Int) : kp E k (n + 1) rep_text [(.int .i64 a0), (.str a1), (.int .i64 a2)] =
  (bif (decide ((((ByteArray.size a1) : Nat) : Int) ≤ a2)) then (some (.bool true)) else (bif (decide (a0 = (3 : Int))) then (callB (kp E k n utf_Right [(.str a1)]) fun vq2 => (some (.bool vq2))) else (some (.bool false)))) := (kp_at (by kernel_rfl)).trans (by kernel_rfl)
/- oakum/rep.small -/
theorem rep_small_eq {E : Ext} [Core E] (k n : Nat) (a0 : Int) (a1 : Int) : kp E k (n + 1) rep_small [(.int .i64 a0), (.int .i64 a1)] =
  (callI .i64 (kp E k n num_Most [(.int .i64 (8 : Int))]) fun vn2 => (bif (decide (a1 ≤ vn2)) then (some (.bool true)) else (bif (decide (a0 = (4 : Int))) then (some (.bool (decide (a1 < (72057594037927936 : Int))))) else (some (.bool false))))) := (kp_at (by kernel_rfl)).trans (by kernel_rfl)
/- oakum/rep.owner -/
theorem rep_owner_eq {E : Ext} [Core E] (k n : Nat) (a0 : Int) (a1 : Int) : kp E k (n + 1) rep_owner [(.int .i64 a0), (.int .i64 a1)] =
  (bif (decide (a0 = (3 : Int))) then (some (.bool true)) else (callB (kp E k n rep_small [(.int .i64 a0), (.int .i64 a1)]) fun vq2 => (some (.bool vq2)))) := (kp_at (by kernel_rfl)).trans (by kernel_rfl)
/- oakum/rep.great -/
theorem rep_great_eq {E : Ext} [Core E] (k n : Nat) (a0 : Int) (a1 : Int) : kp E k (n + 1) rep_great [(.int .i64 a0), (.int .i64 a1)] =
  (callI .i64 (kp E k n num_Most [(.int .i64 (12 : Int))]) fun vn2 => (bif (decide (a1 ≤ vn2)) then (some (.bool true)) else (bif (decide (a0 = (3 : Int))) then (some (.bool true)) else (some (.bool (decide (a0 = (4 : Int)))))))) := (kp_at (by kernel_rfl)).trans (by kernel_rfl)
/- oakum/rep.when -/
theorem rep_when_eq {E : Ext} [Core E] (k n : Nat) (a0 : Int) (a1_0 : Int) (a1_1 : Int) : kp E k (n + 1) rep_when [(.int .i64 a0), (.agg [(.int .i64 a1_0), (.int .i64 a1_1)])] =
  (bif (decide (a0 = (3 : Int))) then (some (.bool true)) else (bif (decide (a0 = (4 : Int))) then (some (.bool (decide (a1_1 = (0 : Int))))) else (bif (decide (a1_1 = (0 : Int))) then (bif (decide (a1_0 ≥ (0 : Int))) then (callI .i64 (kp E k n num_Most [(.int .i64 (12 : Int))]) fun vn2 => (some (.bool (decide (a1_0 ≤ vn2))))) else (some (.bool false))) else (some (.bool false))))) := (kp_at (by kernel_rfl)).trans (by kernel_rfl)
/- oakum/rep.people -/
theorem rep_people_eq {E : Ext} [Core E] (k n : Nat) (a0 : Int) (a1 : ByteArray) : kp E k (n + 1) rep_people [(.int .i64 a0), (.str a1)] =
  (bif (decide (a0 = (1 : Int))) then (some (.bool (decide (a1 = (str []))))) else (callB (kp E k n rep_text [(.int .i64 a0), (.str a1), (.int .i64 (32 : Int))]) fun vq2 => (some (.bool vq2)))) := (kp_at (by kernel_rfl)).trans (by kernel_rfl)
/- oakum/rep.fits -/
noncomputable def rep_fits_bd : Code := Tryz.f100.body.getD .skip
noncomputable def rep_fits_L0 (kap : FuncId → List AV → Option AV) (k : Nat) (k0 : Nat) (s4 : Int) (s5 : Int) (s13 : List AV) (s14 : Int) (s15 : Int) : Option AV :=
  loop (fun fr K => code ((bs E0 k).cfg kap rep_fits) (sel rep_fits_bd [1, 1, 1, 0, 1, 0, 0]) fr K) (canon ((bs E0 k).cfg kap rep_fits) (firstReg (sel rep_fits_bd [1, 1, 1, 0, 1, 0, 0]))) k0 (mkFr 32 [(4, (.int .u8 s4)), (5, (.int .i64 s5)), (13, (.list 2 s13)), (14, (.int .i64 s14)), (15, (.int .i64 s15))] []) (plug ((bs E0 k).cfg kap rep_fits) (retK ((bs E0 k).cfg kap rep_fits) [] Tryz.f100 [] some) [.blk 0, .seqR (sel rep_fits_bd [1, 1, 1, 1])])
theorem rep_fits_L0_s (kap : FuncId → List AV → Option AV) (k : Nat) (k0 : Nat) (s4 : Int) (s5 : Int) (s13 : List AV) (s14 : Int) (s15 : Int) : rep_fits_L0 kap k (k0 + 1) s4 s5 s13 s14 s15 =
  (bif (decide (s15 < s14)) then (bif ((decide ((0 : Int) ≤ s15)) && (decide (s15 < (((List.length s13) : Nat) : Int)))) then ((s13[(Int.toNat s15)]?).bind fun vy7 => (cellS (AV.cells vy7) 0 fun vs8 => (cellS (AV.cells vy7) 1 fun vs9 => (bif (decide (s5 > (65536 : Int))) then (bif (!(decide (s4 = (0 : Int)))) then (some (.bool true)) else (some (.bool (decide (s5 ≤ (65536 : Int)))))) else (callI .i64 (kap pax_Len [(.agg [(.str vs8), (.str vs9)])]) fun vn11 => (rep_fits_L0 kap k k0 s4 (IntKind.wrap .i64 (s5 + vn11)) s13 s14 (IntKind.wrap .i64 (s15 + (1 : Int))))))))) else none) else (bif (!(decide (s4 = (0 : Int)))) then (some (.bool true)) else (some (.bool (decide (s5 ≤ (65536 : Int))))))) := by kernel_rfl
theorem rep_fits_eq {E : Ext} [Core E] (k n : Nat) (a0_0 : Int) (a0_1 : ByteArray) (a0_2 : ByteArray) (a0_3 : Int) (a0_4 : Int) (a0_5 : Int) (a0_6 : Int) (a0_7 : Int) (a0_8 : Int) (a0_9 : ByteArray) (a0_10 : ByteArray) (a0_11 : Int) (a0_12 : Int) (a0_13 : List AV) : kp E k (n + 1) rep_fits [(.agg [(.int .i64 a0_0), (.str a0_1), (.str a0_2), (.int .i64 a0_3), (.int .i64 a0_4), (.int .i64 a0_5), (.int .i64 a0_6), (.int .i64 a0_7), (.int .i64 a0_8), (.str a0_9), (.str a0_10), (.int .i64 a0_11), (.int .i64 a0_12), (.list 2 a0_13)])] =
  (callT (kp E k n rep_Records [(.agg [(.int .i64 a0_0), (.str a0_1), (.str a0_2), (.int .i64 a0_3), (.int .i64 a0_4), (.int .i64 a0_5), (.int .i64 a0_6), (.int .i64 a0_7), (.int .i64 a0_8), (.str a0_9), (.str a0_10), (.int .i64 a0_11), (.int .i64 a0_12), (.list 2 a0_13)])]) fun vt2 => (tupL 2 vt2 fun vl3 vt4 => (tupI .u8 vt4 fun vn5 vt6 => (atNil vt6 (rep_fits_L0 (kp E k n) k k vn5 (0 : Int) vl3 (((List.length vl3) : Nat) : Int) (0 : Int)))))) := (kp_at (by kernel_rfl)).trans (by kernel_rfl)
/- internal/bytealg.CompareString -/
/- oakum/rep.splits -/
theorem rep_splits_eq {E : Ext} [Core E] (k n : Nat) (a0 : ByteArray) : kp E k (n + 1) rep_splits [(.str a0)] =
  (callT (kp E k n split_Split [(.str a0)]) fun vt2 => (tupS vt2 fun vs3 vt4 => (tupS vt4 fun vs5 vt6 => (tupB vt6 fun vq7 vt8 => (atNil vt8 (some (.bool vq7))))))) := (kp_at (by kernel_rfl)).trans (by kernel_rfl)
/- oakum/rep.full$1 -/
theorem rep_full_1_eq {E : Ext} [Core E] (k n : Nat) (a0 : ByteArray) (c_v0_0 : Int) (c_v0_1 : ByteArray) (c_v0_2 : ByteArray) (c_v0_3 : Int) (c_v0_4 : Int) (c_v0_5 : Int) (c_v0_6 : Int) (c_v0_7 : Int) (c_v0_8 : Int) (c_v0_9 : ByteArray) (c_v0_10 : ByteArray) (c_v0_11 : Int) (c_v0_12 : Int) (c_v0_13 : List AV) : kp E k (n + 1) rep_full_1 [(.str a0), (.eptr [(.int .i64 c_v0_0), (.str c_v0_1), (.str c_v0_2), (.int .i64 c_v0_3), (.int .i64 c_v0_4), (.int .i64 c_v0_5), (.int .i64 c_v0_6), (.int .i64 c_v0_7), (.int .i64 c_v0_8), (.str c_v0_9), (.str c_v0_10), (.int .i64 c_v0_11), (.int .i64 c_v0_12), (.list 2 c_v0_13)] 0)] =
  (bif (decide ((((ByteArray.size a0) : Nat) : Int) ≤ (100 : Int))) then (bif (!(decide (c_v0_0 = (6 : Int)))) then (some (.bool true)) else (callB (kp E k n strings_HasSuffix [(.str a0), (.str (str [47]))]) fun vq2 => (some (.bool vq2)))) else (some (.bool false))) := (kp_at (by kernel_rfl)).trans (by kernel_rfl)
/- oakum/rep.full$2 -/
theorem rep_full_2_eq {E : Ext} [Core E] (k n : Nat) (a0 : ByteArray) : kp E k (n + 1) rep_full_2 [(.str a0)] =
  (some (.bool (decide ((((ByteArray.size a0) : Nat) : Int) ≤ (65536 : Int))))) := (kp_at (by kernel_rfl)).trans (by kernel_rfl)
/- slices.IndexFunc[[]string,string] -/
noncomputable def slices_IndexFunc_string_at_rep_splits_bd : Code := Tryz.f117.body.getD .skip
noncomputable def slices_IndexFunc_string_at_rep_splits_L0 (kap : FuncId → List AV → Option AV) (k : Nat) (k0 : Nat) (s0 : List AV) (s7 : Int) (s8 : Int) : Option AV :=
  loop (fun fr K => code ((bs E0 k).cfg kap slices_IndexFunc_string) (sel slices_IndexFunc_string_at_rep_splits_bd [1, 0, 1, 0, 0]) fr K) (canon ((bs E0 k).cfg kap slices_IndexFunc_string) (firstReg (sel slices_IndexFunc_string_at_rep_splits_bd [1, 0, 1, 0, 0]))) k0 (mkFr 19 [(0, (.list 1 s0)), (1, (.func (.func rep_splits) [] [])), (7, (.int .i64 s7)), (8, (.int .i64 s8))] []) (plug ((bs E0 k).cfg kap slices_IndexFunc_string) (retK ((bs E0 k).cfg kap slices_IndexFunc_string) [] Tryz.f117 [] some) [.blk 0, .seqR (sel slices_IndexFunc_string_at_rep_splits_bd [1, 1])])
theorem slices_IndexFunc_string_at_rep_splits_L0_s (kap : FuncId → List AV → Option AV) (k : Nat) (k0 : Nat) (s0 : List AV) (s7 : Int) (s8 : Int) : slices_IndexFunc_string_at_rep_splits_L0 kap k (k0 + 1) s0 s7 s8 =
  (bif (decide (s8 < s7)) then (bif ((decide ((0 : Int) ≤ s8)) && (decide (s8 < (((List.length s0) : Nat) : Int)))) then ((s0[(Int.toNat s8)]?).bind fun vy1 => (cellS (AV.cells vy1) 0 fun vs2 => (callB (kap rep_splits [(.str vs2)]) fun vq4 => (bif vq4 then (some (.int .i64 s8)) else (slices_IndexFunc_string_at_rep_splits_L0 kap k k0 s0 s7 (IntKind.wrap .i64 (s8 + (1 : Int)))))))) else none) else (some (.int .i64 (-1 : Int)))) := by kernel_rfl
theorem slices_IndexFunc_string_at_rep_splits_eq {E : Ext} [Core E] (k n : Nat) (a0 : List AV) : kp E k (n + 1) slices_IndexFunc_string [(.list 1 a0), (.func (.func rep_splits) [] [])] =
  (slices_IndexFunc_string_at_rep_splits_L0 (kp E k n) k k a0 (((List.length a0) : Nat) : Int) (0 : Int)) := (kp_at (by kernel_rfl)).trans (by kernel_rfl)
/- slices.IndexFunc[[]string,string] -/
noncomputable def slices_IndexFunc_string_at_rep_full_1_bd : Code := Tryz.f117.body.getD .skip
noncomputable def slices_IndexFunc_string_at_rep_full_1_L0 (kap : FuncId → List AV → Option AV) (k : Nat) (k0 : Nat) (s0 : List AV) (s1_c0_0 : Int) (s1_c0_1 : ByteArray) (s1_c0_2 : ByteArray) (s1_c0_3 : Int) (s1_c0_4 : Int) (s1_c0_5 : Int) (s1_c0_6 : Int) (s1_c0_7 : Int) (s1_c0_8 : Int) (s1_c0_9 : ByteArray) (s1_c0_10 : ByteArray) (s1_c0_11 : Int) (s1_c0_12 : Int) (s1_c0_13 : List AV) (s7 : Int) (s8 : Int) : Option AV :=
  loop (fun fr K => code ((bs E0 k).cfg kap slices_IndexFunc_string) (sel slices_IndexFunc_string_at_rep_full_1_bd [1, 0, 1, 0, 0]) fr K) (canon ((bs E0 k).cfg kap slices_IndexFunc_string) (firstReg (sel slices_IndexFunc_string_at_rep_full_1_bd [1, 0, 1, 0, 0]))) k0 (mkFr 19 [(0, (.list 1 s0)), (1, (.func (.func rep_full_1) [] [(.eptr [(.int .i64 s1_c0_0), (.str s1_c0_1), (.str s1_c0_2), (.int .i64 s1_c0_3), (.int .i64 s1_c0_4), (.int .i64 s1_c0_5), (.int .i64 s1_c0_6), (.int .i64 s1_c0_7), (.int .i64 s1_c0_8), (.str s1_c0_9), (.str s1_c0_10), (.int .i64 s1_c0_11), (.int .i64 s1_c0_12), (.list 2 s1_c0_13)] 0)])), (7, (.int .i64 s7)), (8, (.int .i64 s8))] []) (plug ((bs E0 k).cfg kap slices_IndexFunc_string) (retK ((bs E0 k).cfg kap slices_IndexFunc_string) [] Tryz.f117 [] some) [.blk 0, .seqR (sel slices_IndexFunc_string_at_rep_full_1_bd [1, 1])])
theorem slices_IndexFunc_string_at_rep_full_1_L0_s (kap : FuncId → List AV → Option AV) (k : Nat) (k0 : Nat) (s0 : List AV) (s1_c0_0 : Int) (s1_c0_1 : ByteArray) (s1_c0_2 : ByteArray) (s1_c0_3 : Int) (s1_c0_4 : Int) (s1_c0_5 : Int) (s1_c0_6 : Int) (s1_c0_7 : Int) (s1_c0_8 : Int) (s1_c0_9 : ByteArray) (s1_c0_10 : ByteArray) (s1_c0_11 : Int) (s1_c0_12 : Int) (s1_c0_13 : List AV) (s7 : Int) (s8 : Int) : slices_IndexFunc_string_at_rep_full_1_L0 kap k (k0 + 1) s0 s1_c0_0 s1_c0_1 s1_c0_2 s1_c0_3 s1_c0_4 s1_c0_5 s1_c0_6 s1_c0_7 s1_c0_8 s1_c0_9 s1_c0_10 s1_c0_11 s1_c0_12 s1_c0_13 s7 s8 =
  (bif (decide (s8 < s7)) then (bif ((decide ((0 : Int) ≤ s8)) && (decide (s8 < (((List.length s0) : Nat) : Int)))) then ((s0[(Int.toNat s8)]?).bind fun vy1 => (cellS (AV.cells vy1) 0 fun vs2 => (callB (kap rep_full_1 [(.str vs2), (.eptr [(.int .i64 s1_c0_0), (.str s1_c0_1), (.str s1_c0_2), (.int .i64 s1_c0_3), (.int .i64 s1_c0_4), (.int .i64 s1_c0_5), (.int .i64 s1_c0_6), (.int .i64 s1_c0_7), (.int .i64 s1_c0_8), (.str s1_c0_9), (.str s1_c0_10), (.int .i64 s1_c0_11), (.int .i64 s1_c0_12), (.list 2 s1_c0_13)] 0)]) fun vq4 => (bif vq4 then (some (.int .i64 s8)) else (slices_IndexFunc_string_at_rep_full_1_L0 kap k k0 s0 s1_c0_0 s1_c0_1 s1_c0_2 s1_c0_3 s1_c0_4 s1_c0_5 s1_c0_6 s1_c0_7 s1_c0_8 s1_c0_9 s1_c0_10 s1_c0_11 s1_c0_12 s1_c0_13 s7 (IntKind.wrap .i64 (s8 + (1 : Int)))))))) else none) else (some (.int .i64 (-1 : Int)))) := by kernel_rfl
theorem slices_IndexFunc_string_at_rep_full_1_eq {E : Ext} [Core E] (k n : Nat) (a0 : List AV) (a1_v0_0 : Int) (a1_v0_1 : ByteArray) (a1_v0_2 : ByteArray) (a1_v0_3 : Int) (a1_v0_4 : Int) (a1_v0_5 : Int) (a1_v0_6 : Int) (a1_v0_7 : Int) (a1_v0_8 : Int) (a1_v0_9 : ByteArray) (a1_v0_10 : ByteArray) (a1_v0_11 : Int) (a1_v0_12 : Int) (a1_v0_13 : List AV) : kp E k (n + 1) slices_IndexFunc_string [(.list 1 a0), (.func (.func rep_full_1) [] [(.eptr [(.int .i64 a1_v0_0), (.str a1_v0_1), (.str a1_v0_2), (.int .i64 a1_v0_3), (.int .i64 a1_v0_4), (.int .i64 a1_v0_5), (.int .i64 a1_v0_6), (.int .i64 a1_v0_7), (.int .i64 a1_v0_8), (.str a1_v0_9), (.str a1_v0_10), (.int .i64 a1_v0_11), (.int .i64 a1_v0_12), (.list 2 a1_v0_13)] 0)])] =
  (slices_IndexFunc_string_at_rep_full_1_L0 (kp E k n) k k a0 a1_v0_0 a1_v0_1 a1_v0_2 a1_v0_3 a1_v0_4 a1_v0_5 a1_v0_6 a1_v0_7 a1_v0_8 a1_v0_9 a1_v0_10 a1_v0_11 a1_v0_12 a1_v0_13 (((List.length a0) : Nat) : Int) (0 : Int)) := (kp_at (by kernel_rfl)).trans (by kernel_rfl)
/- slices.IndexFunc[[]string,string] -/
noncomputable def slices_IndexFunc_string_at_rep_full_2_bd : Code := Tryz.f117.body.getD .skip
noncomputable def slices_IndexFunc_string_at_rep_full_2_L0 (kap : FuncId → List AV → Option AV) (k : Nat) (k0 : Nat) (s0 : List AV) (s7 : Int) (s8 : Int) : Option AV :=
  loop (fun fr K => code ((bs E0 k).cfg kap slices_IndexFunc_string) (sel slices_IndexFunc_string_at_rep_full_2_bd [1, 0, 1, 0, 0]) fr K) (canon ((bs E0 k).cfg kap slices_IndexFunc_string) (firstReg (sel slices_IndexFunc_string_at_rep_full_2_bd [1, 0, 1, 0, 0]))) k0 (mkFr 19 [(0, (.list 1 s0)), (1, (.func (.func rep_full_2) [] [])), (7, (.int .i64 s7)), (8, (.int .i64 s8))] []) (plug ((bs E0 k).cfg kap slices_IndexFunc_string) (retK ((bs E0 k).cfg kap slices_IndexFunc_string) [] Tryz.f117 [] some) [.blk 0, .seqR (sel slices_IndexFunc_string_at_rep_full_2_bd [1, 1])])
theorem slices_IndexFunc_string_at_rep_full_2_L0_s (kap : FuncId → List AV → Option AV) (k : Nat) (k0 : Nat) (s0 : List AV) (s7 : Int) (s8 : Int) : slices_IndexFunc_string_at_rep_full_2_L0 kap k (k0 + 1) s0 s7 s8 =
  (bif (decide (s8 < s7)) then (bif ((decide ((0 : Int) ≤ s8)) && (decide (s8 < (((List.length s0) : Nat) : Int)))) then ((s0[(Int.toNat s8)]?).bind fun vy1 => (cellS (AV.cells vy1) 0 fun vs2 => (callB (kap rep_full_2 [(.str vs2)]) fun vq4 => (bif vq4 then (some (.int .i64 s8)) else (slices_IndexFunc_string_at_rep_full_2_L0 kap k k0 s0 s7 (IntKind.wrap .i64 (s8 + (1 : Int)))))))) else none) else (some (.int .i64 (-1 : Int)))) := by kernel_rfl
theorem slices_IndexFunc_string_at_rep_full_2_eq {E : Ext} [Core E] (k n : Nat) (a0 : List AV) : kp E k (n + 1) slices_IndexFunc_string [(.list 1 a0), (.func (.func rep_full_2) [] [])] =
  (slices_IndexFunc_string_at_rep_full_2_L0 (kp E k n) k k a0 (((List.length a0) : Nat) : Int) (0 : Int)) := (kp_at (by kernel_rfl)).trans (by kernel_rfl)
/- oakum/oakumref10.Cuts -/
/- slices.IndexFunc[[]oakum/api.Item,oakum/api.Item] -/
/- oakum/num.Most -/
theorem num_Most_eq {E : Ext} [Core E] (k n : Nat) (a0 : Int) : kp E k (n + 1) num_Most [(.int .i64 a0)] =
  (bif (decide (a0 < (1 : Int))) then (some (.int .i64 (0 : Int))) else (bif (decide (a0 > (20 : Int))) then (some (.int .i64 (9223372036854775807 : Int))) else (bif (decide ((IntKind.wrap .i64 ((3 : Int) * a0)) < (0 : Int))) then none else (some (.int .i64 (IntKind.wrap .i64 ((IntKind.wrap .i64 ((1 : Int) * 2 ^ (min (Int.toNat (IntKind.wrap .i64 ((3 : Int) * a0))) (IntKind.bits .i64)))) - (1 : Int)))))))) := (kp_at (by kernel_rfl)).trans (by kernel_rfl)
/- oakum/split.Split -/
theorem split_Split_eq {E : Ext} [Core E] (k n : Nat) (a0 : ByteArray) : kp E k (n + 1) split_Split [(.str a0)] =
  (bif (decide (a0 = (str []))) then (some (.tup [(.str (str [])), (.str (str [])), (.bool false)])) else (callI .i64 (kp E k n split_Most []) fun vn2 => (bif (decide ((((ByteArray.size a0) : Nat) : Int) > vn2)) then (some (.tup [(.str (str [])), (.str (str [])), (.bool false)])) else (bif (decide ((((ByteArray.size a0) : Nat) : Int) ≤ (100 : Int))) then (some (.tup [(.str (str [])), (.str a0), (.bool true)])) else (bif ((decide ((0 : Int) ≤ (if (156 : Int) < (((ByteArray.size a0) : Nat) : Int) then (156 : Int) else (((ByteArray.size a0) : Nat) : Int)))) && (decide ((if (156 : Int) < (((ByteArray.size a0) : Nat) : Int) then (156 : Int) else (((ByteArray.size a0) : Nat) : Int)) ≤ (((ByteArray.size a0) : Nat) : Int)))) then (callI .i64 (kp E k n strings_LastIndexByte [(.str (ByteArray.extract a0 0 (Int.toNat (if (156 : Int) < (((ByteArray.size a0) : Nat) : Int) then (156 : Int) else (((ByteArray.size a0) : Nat) : Int))))), (.int .u8 (47 : Int))]) fun vn4 => (bif (decide (vn4 = (IntKind.wrap .i64 ((((ByteArray.size a0) : Nat) : Int) - (1 : Int))))) then (bif ((decide ((0 : Int) ≤ vn4)) && (decide (vn4 ≤ (((ByteArray.size a0) : Nat) : Int)))) then (callI .i64 (kp E k n strings_LastIndexByte [(.str (ByteArray.extract a0 0 (Int.toNat vn4))), (.int .u8 (47 : Int))]) fun vn6 => (bif (decide (vn6 < (0 : Int))) then (some (.tup [(.str (str [])), (.str (str [])), (.bool false)])) else (callB (kp E k n split_cut [(.str a0), (.int .i64 vn6)]) fun vq8 => (bif (!vq8) then (some (.tup [(.str (str [])), (.str (str [])), (.bool false)])) else (bif ((decide ((0 : Int) ≤ vn6)) && (decide (vn6 ≤ (((ByteArray.size a0) : Nat) : Int)))) then (bif ((decide ((0 : Int) ≤ (IntKind.wrap .i64 (vn6 + (1 : Int))))) && (decide ((IntKind.wrap .i64 (vn6 + (1 : Int))) ≤ (((ByteArray.size a0) : Nat) : Int)))) then (some (.tup [(.str (ByteArray.extract a0 0 (Int.toNat vn6))), (.str (ByteArray.extract a0 (Int.toNat (IntKind.wrap .i64 (vn6 + (1 : Int)))) (ByteArray.size a0))), (.bool true)])) else none) else none))))) else none) else (bif (decide (vn4 < (0 : Int))) then (some (.tup [(.str (str [])), (.str (str [])), (.bool false)])) else (callB (kp E k n split_cut [(.str a0), (.int .i64 vn4)]) fun vq10 => (bif (!vq10) then (some (.tup [(.str (str [])), (.str (str [])), (.bool false)])) else (bif ((decide ((0 : Int) ≤ vn4)) && (decide (vn4 ≤ (((ByteArray.size a0) : Nat) : Int)))) then (bif ((decide ((0 : Int) ≤ (IntKind.wrap .i64 (vn4 + (1 : Int))))) && (decide ((IntKind.wrap .i64 (vn4 + (1 : Int))) ≤ (((ByteArray.size a0) : Nat) : Int)))) then (some (.tup [(.str (ByteArray.extract a0 0 (Int.toNat vn4))), (.str (ByteArray.extract a0 (Int.toNat (IntKind.wrap .i64 (vn4 + (1 : Int)))) (ByteArray.size a0))), (.bool true)])) else none) else none)))))) else none))))) := (kp_at (by kernel_rfl)).trans (by kernel_rfl)
/- internal/stringslite.IndexByte -/
/- oakum/split.Most -/
theorem split_Most_eq {E : Ext} [Core E] (k n : Nat)  : kp E k (n + 1) split_Most [] =
  (some (.int .i64 (256 : Int))) := (kp_at (by kernel_rfl)).trans (by kernel_rfl)
/- strings.LastIndexByte -/
theorem strings_LastIndexByte_eq {E : Ext} [Core E] (k n : Nat) (a0 : ByteArray) (a1 : Int) : kp E k (n + 1) strings_LastIndexByte [(.str a0), (.int .u8 a1)] =
  (callI .i64 (kp E k n bytealg_LastIndexByteString [(.str a0), (.int .u8 a1)]) fun vn2 => (some (.int .i64 vn2))) := (kp_at (by kernel_rfl)).trans (by kernel_rfl)
/- oakum/split.cut -/
theorem split_cut_eq {E : Ext} [Core E] (k n : Nat) (a0 : ByteArray) (a1 : Int) : kp E k (n + 1) split_cut [(.str a0), (.int .i64 a1)] =
  (bif (decide (a1 ≥ (1 : Int))) then (bif (decide (a1 ≤ (155 : Int))) then (bif (decide ((IntKind.wrap .i64 ((IntKind.wrap .i64 ((((ByteArray.size a0) : Nat) : Int) - a1)) - (1 : Int))) ≥ (1 : Int))) then (some (.bool (decide ((IntKind.wrap .i64 ((IntKind.wrap .i64 ((((ByteArray.size a0) : Nat) : Int) - a1)) - (1 : Int))) ≤ (100 : Int))))) else (some (.bool false))) else (some (.bool false))) else (some (.bool false))) := (kp_at (by kernel_rfl)).trans (by kernel_rfl)
/- internal/bytealg.Cutover -/
/- internal/bytealg.LastIndexByteString -/
noncomputable def bytealg_LastIndexByteString_bd : Code := Tryz.f232.body.getD .skip
noncomputable def bytealg_LastIndexByteString_L0 (kap : FuncId → List AV → Option AV) (k : Nat) (k0 : Nat) (s0 : ByteArray) (s1 : Int) (s5 : Int) : Option AV :=
  loop (fun fr K => code ((bs E0 k).cfg kap bytealg_LastIndexByteString) (sel bytealg_LastIndexByteString_bd [1, 0, 1, 0, 0]) fr K) (canon ((bs E0 k).cfg kap bytealg_LastIndexByteString) (firstReg (sel bytealg_LastIndexByteString_bd [1, 0, 1, 0, 0]))) k0 (mkFr 19 [(0, (.str s0)), (1, (.int .u8 s1)), (5, (.int .i64 s5))] []) (plug ((bs E0 k).cfg kap bytealg_LastIndexByteString) (retK ((bs E0 k).cfg kap bytealg_LastIndexByteString) [] Tryz.f232 [] some) [.blk 0, .seqR (sel bytealg_LastIndexByteString_bd [1, 1])])
theorem bytealg_LastIndexByteString_L0_s (kap : FuncId → List AV → Option AV) (k : Nat) (k0 : Nat) (s0 : ByteArray) (s1 : Int) (s5 : Int) : bytealg_LastIndexByteString_L0 kap k (k0 + 1) s0 s1 s5 =
  (bif (decide (s5 ≥ (0 : Int))) then (bif ((decide ((0 : Int) ≤ s5)) && (decide (s5 < (((ByteArray.size s0) : Nat) : Int)))) then (bif (decide ((byteAt s0 (Int.toNat s5)) = s1)) then (some (.int .i64 s5)) else (bytealg_LastIndexByteString_L0 kap k k0 s0 s1 (IntKind.wrap .i64 (s5 - (1 : Int))))) else none) else (some (.int .i64 (-1 : Int)))) := by kernel_rfl
theorem bytealg_LastIndexByteString_eq {E : Ext} [Core E] (k n : Nat) (a0 : ByteArray) (a1 : Int) : kp E k (n + 1) bytealg_LastIndexByteString [(.str a0), (.int .u8 a1)] =
  (bytealg_LastIndexByteString_L0 (kp E k n) k k a0 a1 (IntKind.wrap .i64 ((((ByteArray.size a0) : Nat) : Int) - (1 : Int)))) := (kp_at (by kernel_rfl)).trans (by kernel_rfl)
/- internal/stringslite.HasPrefix -/
theorem stringslite_HasPrefix_eq {E : Ext} [Core E] (k n : Nat) (a0 : ByteArray) (a1 : ByteArray) : kp E k (n + 1) stringslite_HasPrefix [(.str a0), (.str a1)] =
  (bif (decide ((((ByteArray.size a0) : Nat) : Int) ≥ (((ByteArray.size a1) : Nat) : Int))) then (bif ((decide ((0 : Int) ≤ (((ByteArray.size a1) : Nat) : Int))) && (decide ((((ByteArray.size a1) : Nat) : Int) ≤ (((ByteArray.size a0) : Nat) : Int)))) then (some (.bool (decide ((ByteArray.extract a0 0 (Int.toNat (((ByteArray.size a1) : Nat) : Int))) = a1)))) else none) else (some (.bool false))) := (kp_at (by kernel_rfl)).trans (by kernel_rfl)
/- internal/bytealg.IndexRabinKarp[string] -/
/- internal/bytealg.hashStr[string] -/
end Go.Proofs.YtbkhmkcmbaffoaaGreatDoor.Eng.U


/- Which names split: by the program and by the definition, in plain words. -/
set_option linter.unusedVariables false
set_option linter.unusedSectionVars false
set_option linter.unusedSimpArgs false
namespace Go.Proofs.YtbkhmkcmbaffoaaGreatDoor.Eng.U
open Go Go.Proofs Go.Proofs.YtbkhmkcmbaffoaaGreatDoor.Eng
variable {E : Ext} [Core E] [HasNum E] {k n : Nat}

/-- The place of the last slash among the first bytes. -/
def lastU (s : Tx) : Nat → Int
  | 0 => -1
  | m + 1 => if s.getD m 0 = 47 then ((m : Nat) : Int) else lastU s m
theorem lastByte_loop (kap : FuncId → List AV → Option AV) (s : Tx) (hs : s.length < 1000000000) : ∀ (m k0 : Nat), m < k0 → m ≤ s.length →
    bytealg_LastIndexByteString_L0 kap k k0 (str s) 47 (((m : Nat) : Int) - 1) = some (.int .i64 (lastU s m))
  | 0, k0 + 1, hk, hm => by
    rw [bytealg_LastIndexByteString_L0_s, bif_f (by omega)]
    rfl
  | m + 1, k0 + 1, hk, hm => by
    have e : (((m + 1 : Nat) : Int) - 1) = ((m : Nat) : Int) := by omega
    have hw : IntKind.wrap .i64 (((m : Nat) : Int) - 1) = ((m : Nat) : Int) - 1 := i64w (by omega)
    have hb : decide (byteAt (str s) m = 47) = decide (s.getD m 0 = 47) := by rw [str_byte]; exact byte_is _ 47 (by omega)
    rw [bytealg_LastIndexByteString_L0_s, e, bif_t (by omega), str_size, inb (by omega), cond_true, Int.toNat_natCast, hb, hw]
    unfold lastU
    by_cases h : s.getD m 0 = 47
    · rw [decide_eq_true h, if_pos h]; rfl
    · rw [decide_eq_false h, if_neg h]; exact lastByte_loop kap s hs m k0 (by omega) (by omega)
theorem lastByte_k (s : Tx) (hs : s.length < 1000000000) (hk : s.length < k) : kp E k (n + 2) strings_LastIndexByte [.str (str s), .int .u8 47] = some (.int .i64 (lastU s s.length)) := by
  have h := lastByte_loop (k := k) (kp E k n) s hs s.length k hk (Nat.le_refl _)
  rw [strings_LastIndexByte_eq, bytealg_LastIndexByteString_eq, str_size, i64w (x := ((s.length : Nat) : Int) - 1) (by omega), h, callI_ok]
theorem lastU_spec (s : Tx) : ∀ m : Nat, (lastU s m = -1 ∧ ∀ i, i < m → s.getD i 0 ≠ 47) ∨ ∃ j, j < m ∧ lastU s m = ((j : Nat) : Int) ∧ s.getD j 0 = 47 ∧ ∀ i, j < i → i < m → s.getD i 0 ≠ 47
  | 0 => .inl ⟨rfl, fun i h => by omega⟩
  | m + 1 => by
    have ih := lastU_spec s m
    unfold lastU
    by_cases h : s.getD m 0 = 47
    · rw [if_pos h]
      exact .inr ⟨m, by omega, rfl, h, fun i h1 h2 => by omega⟩
    · rw [if_neg h]
      rcases ih with ⟨h1, h2⟩ | ⟨j, h1, h2, h3, h4⟩
      · refine .inl ⟨h1, fun i hi => ?_⟩
        by_cases e : i = m
        · subst e; exact h
        · exact h2 i (by omega)
      · refine .inr ⟨j, by omega, h2, h3, fun i hi hm => ?_⟩
        by_cases e : i = m
        · subst e; exact h
        · exact h4 i hi (by omega)
theorem lastU_take (s : Tx) (t : Nat) : ∀ m : Nat, m ≤ t → lastU (s.take t) m = lastU s m
  | 0, _ => rfl
  | m + 1, h => by
    have ih := lastU_take s t m (by omega)
    have e : (s.take t).getD m 0 = s.getD m 0 := by
      rw [List.getD_eq_getElem?_getD, List.getD_eq_getElem?_getD, List.getElem?_take_of_lt (by omega)]
    unfold lastU
    rw [e, ih]
/-- May a name be cut there? -/
def cutAt (s : Tx) (i : Nat) : Bool := decide (s.getD i 0 = 47) && (decide (1 ≤ i) && (decide (i ≤ 155) && (decide (i + 2 ≤ s.length) && decide (s.length ≤ i + 101))))
def splitB (s : Tx) : Bool := decide (s ≠ []) && (decide (s.length ≤ 100) || (List.range s.length).any (cutAt s))
theorem cutAt_iff {s : Tx} {i : Nat} : cutAt s i = true ↔ s.getD i 0 = 47 ∧ 1 ≤ i ∧ i ≤ 155 ∧ i + 2 ≤ s.length ∧ s.length ≤ i + 101 := by
  unfold cutAt
  simp only [Bool.and_eq_true, decide_eq_true_eq]
theorem splitB_long {s : Tx} (h : 100 < s.length) : splitB s = (List.range s.length).any (cutAt s) := by
  have hne : s ≠ [] := fun e => by rw [e] at h; simp at h
  unfold splitB
  rw [decide_eq_true hne, decide_eq_false (by omega : ¬ s.length ≤ 100), Bool.true_and, Bool.false_or]
theorem splitB_no {s : Tx} (h : 100 < s.length) (hn : ∀ i, cutAt s i = false) : splitB s = false := by
  rw [splitB_long h, List.any_eq_false]
  intro i _
  rw [hn i]; simp
theorem splitB_yes {s : Tx} (h : 100 < s.length) {i : Nat} (hi : cutAt s i = true) : splitB s = true := by
  have := cutAt_iff.1 hi
  rw [splitB_long h, List.any_eq_true]
  exact ⟨i, List.mem_range.2 (by omega), hi⟩
theorem cut_k' (s : Tx) (j : Nat) (hj : j < s.length) (hs : s.length < 1000000000) (hc : s.getD j 0 = 47) : kp E k (n + 1) split_cut [.str (str s), .int .i64 ((j : Nat) : Int)] = some (.bool (cutAt s j)) := by
  have w1 : IntKind.wrap .i64 (IntKind.wrap .i64 (((s.length : Nat) : Int) - ((j : Nat) : Int)) - 1) = ((s.length - j - 1 : Nat) : Int) := by
    rw [i64w (x := ((s.length : Nat) : Int) - ((j : Nat) : Int)) (by omega), i64w (by omega)]; omega
  rw [split_cut_eq, str_size, w1]
  unfold cutAt
  rw [decide_eq_true hc, Bool.true_and]
  by_cases h1 : 1 ≤ j
  · rw [bif_t (by omega), decide_eq_true h1, Bool.true_and]
    by_cases h2 : j ≤ 155
    · rw [bif_t (by omega), decide_eq_true h2, Bool.true_and]
      by_cases h3 : j + 2 ≤ s.length
      · rw [bif_t (by omega), decide_eq_true h3, Bool.true_and]
        congr 2
        rw [decide_eq_decide]
        omega
      · rw [bif_f (by omega), decide_eq_false h3]; rfl
    · rw [bif_f (by omega), decide_eq_false h2]; rfl
  · rw [bif_f (by omega), decide_eq_false h1]; rfl
theorem split_end (s : Tx) (h : 100 < s.length) (hs : s.length < 1000000000) (m : Nat) (hm : m ≤ s.length) (hm2 : m ≤ 156) (hall : ∀ i, cutAt s i = true → i < m) (hlast : ∀ j, lastU s m = ((j : Nat) : Int) → j + 1 ≠ s.length) :
    ∃ a b : ByteArray, (bif (decide (lastU s m < (0 : Int))) then (some (AV.tup [(.str (str [])), (.str (str [])), (.bool false)])) else (callB (kp E k (n + 1) split_cut [(.str (str s)), (.int .i64 (lastU s m))]) fun vq8 => (bif (!vq8) then (some (.tup [(.str (str [])), (.str (str [])), (.bool false)])) else (bif ((decide ((0 : Int) ≤ lastU s m)) && (decide (lastU s m ≤ (((ByteArray.size (str s)) : Nat) : Int)))) then (bif ((decide ((0 : Int) ≤ (IntKind.wrap .i64 (lastU s m + (1 : Int))))) && (decide ((IntKind.wrap .i64 (lastU s m + (1 : Int))) ≤ (((ByteArray.size (str s)) : Nat) : Int)))) then (some (.tup [(.str (ByteArray.extract (str s) 0 (Int.toNat (lastU s m)))), (.str (ByteArray.extract (str s) (Int.toNat (IntKind.wrap .i64 (lastU s m + (1 : Int)))) (ByteArray.size (str s)))), (.bool true)])) else none) else none)))) = some (.tup [.str a, .str b, .bool (splitB s)]) := by
  rcases lastU_spec s m with ⟨h1, h2⟩ | ⟨j, h1, h2, h3, h4⟩
  · rw [h1, bif_t (by omega)]
    have hn : splitB s = false := splitB_no h fun i => by
      cases hc : cutAt s i with
      | false => rfl
      | true => exact absurd (cutAt_iff.1 hc).1 (h2 i (hall i hc))
    rw [hn]
    exact ⟨_, _, rfl⟩
  · have hjs := hlast j h2
    rw [h2, bif_f (by omega), cut_k' s j (by omega) hs h3, callB_ok]
    cases hc : cutAt s j with
    | false =>
      have hn : splitB s = false := splitB_no h fun i => by
        cases hci : cutAt s i with
        | false => rfl
        | true =>
          have hi := cutAt_iff.1 hci
          have hij : i ≤ j := by
            apply Classical.byContradiction
            intro hlt
            exact h4 i (by omega) (hall i hci) hi.1
          have : cutAt s j = true := cutAt_iff.2 ⟨h3, by omega, by omega, by omega, by omega⟩
          rw [this] at hc; cases hc
      rw [hn]
      exact ⟨_, _, rfl⟩
    | true =>
      rw [splitB_yes h hc, Bool.not_true, cond_false, str_size, inbE (by omega), cond_true, wrap1 (by omega), inbE (by omega), cond_true]
      exact ⟨_, _, rfl⟩
theorem split10_k (s : Tx) (hs : s.length < 1000000000) (hk : s.length < k) : ∃ a b : ByteArray, kp E k (n + 3) split_Split [.str (str s)] = some (.tup [.str a, .str b, .bool (splitB s)]) := by
  rw [split_Split_eq, split_Most_eq, callI_ok, str_dec]
  by_cases h0 : s = []
  · subst h0
    rw [decide_eq_true rfl, cond_true]
    exact ⟨_, _, rfl⟩
  rw [decide_eq_false h0, cond_false, str_size]
  by_cases h1 : s.length > 256
  · have hn : splitB s = false := splitB_no (by omega) fun i => by
      cases hc : cutAt s i with
      | false => rfl
      | true => have := cutAt_iff.1 hc; omega
    rw [bif_t (by omega), hn]
    exact ⟨_, _, rfl⟩
  rw [bif_f (by omega)]
  by_cases h2 : s.length ≤ 100
  · have hy : splitB s = true := by unfold splitB; rw [decide_eq_true h0, decide_eq_true h2]; rfl
    rw [bif_t (by omega), hy]
    exact ⟨_, _, rfl⟩
  rw [bif_f (by omega)]
  have ht : (if (156 : Int) < ((s.length : Nat) : Int) then (156 : Int) else ((s.length : Nat) : Int)) = ((min 156 s.length : Nat) : Int) := by split <;> omega
  have hw : IntKind.wrap .i64 (((s.length : Nat) : Int) - 1) = ((s.length - 1 : Nat) : Int) := by rw [i64w (by omega)]; omega
  generalize hm : min 156 s.length = m at ht
  have l1 := lastByte_k (E := E) (k := k) (n := n) (s.take m) (by rw [List.length_take]; omega) (by rw [List.length_take]; omega)
  have hlm : (s.take m).length = m := by rw [List.length_take]; omega
  rw [hlm, lastU_take s m m (Nat.le_refl _)] at l1
  rw [ht, inbE (by omega), cond_true, Int.toNat_natCast, str_ext, List.drop_zero, l1, callI_ok, hw]
  by_cases hv : lastU s m = ((s.length - 1 : Nat) : Int)
  · have hml : m = s.length := by
      rcases lastU_spec s m with ⟨g1, _⟩ | ⟨j, g1, g2, _, _⟩
      · omega
      · omega
    have l2 := lastByte_k (E := E) (k := k) (n := n) (s.take (s.length - 1)) (by rw [List.length_take]; omega) (by rw [List.length_take]; omega)
    have hl2 : (s.take (s.length - 1)).length = s.length - 1 := by rw [List.length_take]; omega
    rw [hl2, lastU_take s (s.length - 1) (s.length - 1) (Nat.le_refl _)] at l2
    rw [decide_eq_true hv, cond_true, hv, inbE (by omega), cond_true, Int.toNat_natCast, str_ext, List.drop_zero, l2, callI_ok]
    have h := split_end (E := E) (k := k) (n := n + 1) s (by omega) hs (s.length - 1) (by omega) (by omega) (fun i hi => by have := cutAt_iff.1 hi; omega) (fun j hj => by
      rcases lastU_spec s (s.length - 1) with ⟨g1, _⟩ | ⟨j', g1, g2, _, _⟩
      · omega
      · omega)
    rw [str_size] at h
    exact h
  · rw [decide_eq_false hv, cond_false]
    have h := split_end (E := E) (k := k) (n := n + 1) s (by omega) hs m (by omega) (by omega) (fun i hi => by have := cutAt_iff.1 hi; omega) (fun j hj => by omega)
    rw [str_size] at h
    exact h
theorem splits_k (s : Tx) (hs : s.length < 1000000000) (hk : s.length < k) : kp E k (n + 4) rep_splits [.str (str s)] = some (.bool (splitB s)) := by
  obtain ⟨a, b, h⟩ := split10_k (E := E) (k := k) (n := n) s hs hk
  rw [rep_splits_eq, h, callT_ok, tupS_ok, tupS_ok, tupB_ok, atNil_ok]
/-! The definition's cuts. -/
end Go.Proofs.YtbkhmkcmbaffoaaGreatDoor.Eng.U


/- Which field of a head is the first that isn't right: the reference's side. -/
set_option linter.unusedVariables false
set_option linter.unusedSectionVars false
set_option linter.unusedSimpArgs false
namespace Go.Proofs.YtbkhmkcmbaffoaaGreatDoor.Eng.U
open Go Go.Proofs Go.Proofs.YtbkhmkcmbaffoaaGreatDoor.Eng Go.Proofs.YtbkhmkcmbaffoaaGreatDoor.P04
variable {E : Ext} [Core E] [HasNum E] {k n k0 : Nat}

end Go.Proofs.YtbkhmkcmbaffoaaGreatDoor.Eng.U


/- Which field of a head is the first that isn't right: the reference's side. -/
set_option linter.unusedVariables false
set_option linter.unusedSectionVars false
set_option linter.unusedSimpArgs false
namespace Go.Proofs.YtbkhmkcmbaffoaaGreatDoor.Eng.U
open Go Go.Proofs Go.Proofs.YtbkhmkcmbaffoaaGreatDoor.Eng Go.Proofs.YtbkhmkcmbaffoaaGreatDoor.P04
variable {E : Ext} [Core E] [HasNum E] {k n k0 : Nat}

end Go.Proofs.YtbkhmkcmbaffoaaGreatDoor.Eng.U


/- Which field of a head is the first that isn't right: the reference's side. -/
set_option linter.unusedVariables false
set_option linter.unusedSectionVars false
set_option linter.unusedSimpArgs false
namespace Go.Proofs.YtbkhmkcmbaffoaaGreatDoor.Eng.U
open Go Go.Proofs Go.Proofs.YtbkhmkcmbaffoaaGreatDoor.Eng Go.Proofs.YtbkhmkcmbaffoaaGreatDoor.P04
variable {E : Ext} [Core E] [HasNum E] {k n k0 : Nat}

end Go.Proofs.YtbkhmkcmbaffoaaGreatDoor.Eng.U


/- ItemWrong in plain words: it answers true. -/
set_option linter.unusedVariables false
set_option linter.unusedSectionVars false
set_option linter.unusedSimpArgs false
namespace Go.Proofs.YtbkhmkcmbaffoaaGreatDoor.Eng.U
open Go Go.Proofs Go.Proofs.YtbkhmkcmbaffoaaGreatDoor.Eng Go.Proofs.YtbkhmkcmbaffoaaGreatDoor.P04
variable {E : Ext} [Core E] [HasNum E] {k n : Nat}

end Go.Proofs.YtbkhmkcmbaffoaaGreatDoor.Eng.U


/- What each dialect can tell of a head, by the program and by the definition, in plain words. Written by gen/u11b.py. -/
set_option linter.unusedVariables false
set_option linter.unusedSectionVars false
set_option linter.unusedSimpArgs false
namespace Go.Proofs.YtbkhmkcmbaffoaaGreatDoor.Eng.U
open Go Go.Proofs Go.Proofs.YtbkhmkcmbaffoaaGreatDoor.Eng
variable {E : Ext} [Core E] [HasNum E] [HasTextV E] {k n : Nat}

/-- The first of a list of which something holds: its place. -/
def idxF (p : Tx → Bool) : Nat → List Tx → Int
  | _, [] => -1
  | i, s :: l => bif p s then ((i : Nat) : Int) else idxF p (i + 1) l
theorem idxF_spec (p : Tx → Bool) : ∀ (l : List Tx) (i : Nat), (l.find? p = none ∧ idxF p i l = -1) ∨ ∃ a x b, l = a ++ x :: b ∧ l.find? p = some x ∧ idxF p i l = ((i + a.length : Nat) : Int)
  | [], i => .inl ⟨rfl, rfl⟩
  | s :: l, i => by
    unfold idxF
    cases hp : p s with
    | true => exact .inr ⟨[], s, l, rfl, by rw [List.find?_cons_of_pos hp], rfl⟩
    | false =>
      rw [cond_false, List.find?_cons_of_neg (by rw [hp]; simp)]
      rcases idxF_spec p l (i + 1) with ⟨h1, h2⟩ | ⟨a, x, b, h1, h2, h3⟩
      · exact .inl ⟨h1, h2⟩
      · exact .inr ⟨s :: a, x, b, by rw [h1]; rfl, h2, by rw [h3, List.length_cons]; omega⟩
/-- May a full name stand in a dialect? -/
def mayB (d kind : Int) (s : Tx) : Bool := bif decide (d = 1) then decide (s.length ≤ 100) && (!decide (kind = 6) || sl s) else bif decide (d = 4) then decide (s.length ≤ 65536) else splitB s
def fullO (d : Int) (h : Head) : Option Tx := match (fulls h.kind h.name).find? (mayB d h.kind) with
  | some s => some s
  | none => bif decide (d = 3) && utfOk h.name then some ((fulls h.kind h.name).headD []) else none
def fullA (o : Option Tx) : AV := match o with
  | some s => .tup [.str (str s), .bool true]
  | none => .tup [.str (str []), .bool false]
theorem fulls_ne (kind : Int) (s : Tx) : fulls kind s ≠ [] := by
  unfold fulls
  split
  · split <;> simp
  · simp
theorem fulls_len (kind : Int) (s : Tx) : (fulls kind s).length ≤ 2 := by
  unfold fulls
  split
  · split <;> simp
  · simp
theorem fulls_mem {kind : Int} {s f : Tx} (h : f ∈ fulls kind s) : f.length ≤ s.length + 1 := by
  unfold fulls at h
  split at h
  · split at h
    · rw [List.mem_singleton.1 h, List.length_append, List.length_singleton]; omega
    · rcases List.mem_cons.1 h with rfl | h
      · omega
      · rw [List.mem_singleton.1 h, List.length_append, List.length_singleton]; omega
  · rw [List.mem_singleton.1 h]; omega
theorem svs_head {β : Type} (l : List Tx) (h : l ≠ []) (K : ByteArray → Option β) : (((svs l)[0]?).bind fun y => cellS (AV.cells y) 0 K) = K (str (l.headD [])) := by
  cases l with
  | nil => exact absurd rfl h
  | cons a l => rfl
theorem full_tail (d : Int) (h : Head) (p : Tx → Bool) (kap : FuncId → List AV → Option AV) (hu : kap utf_Right [.str (str h.name)] = some (.bool (utfOk h.name))) (l : List Tx) (hl : l ≠ []) (hl2 : l.length ≤ 2) :
    (bif (decide (idxF p 0 l ≥ (0 : Int))) then (bif ((decide ((0 : Int) ≤ idxF p 0 l)) && (decide (idxF p 0 l < (((List.length (svs l)) : Nat) : Int)))) then (((svs l)[(Int.toNat (idxF p 0 l))]?).bind fun vy5 => (cellS (AV.cells vy5) 0 fun vs6 => (some (AV.tup [(.str vs6), (.bool true)])))) else none) else (bif (decide (d = (3 : Int))) then (callB (kap utf_Right [(.str (str h.name))]) fun vq8 => (bif vq8 then (bif (decide ((0 : Int) < (((List.length (svs l)) : Nat) : Int))) then (((svs l)[0]?).bind fun vy9 => (cellS (AV.cells vy9) 0 fun vs10 => (some (.tup [(.str vs10), (.bool true)])))) else none) else (some (.tup [(.str (str [])), (.bool false)])))) else (some (.tup [(.str (str [])), (.bool false)])))) =
    some (fullA (match l.find? p with | some s => some s | none => bif decide (d = 3) && utfOk h.name then some (l.headD []) else none)) := by
  have hpos : 0 < l.length := List.length_pos_iff.2 hl
  rcases idxF_spec p l 0 with ⟨h1, h2⟩ | ⟨a, x, b, h1, h2, h3⟩
  · rw [h1, h2, bif_f (by omega)]
    by_cases h3 : d = 3
    · rw [bif_t h3, hu, callB_ok, decide_eq_true h3, Bool.true_and]
      cases utfOk h.name with
      | false => rfl
      | true => rw [cond_true, svs_len, bif_t (by omega), svs_head l hl]; rfl
    · rw [bif_f h3, decide_eq_false h3]; rfl
  · have hla : l.length = a.length + b.length + 1 := by rw [h1]; exact mid_len a b x
    have hg : ∀ K : ByteArray → Option AV, (((svs l)[a.length]?).bind fun y => cellS (AV.cells y) 0 K) = K (str x) := fun K => by rw [h1]; exact svs_mid _ _ _ _
    rw [h2, h3, Nat.zero_add, bif_t (by omega), svs_len, inb (by omega), cond_true, Int.toNat_natCast, hg]
    rfl

theorem index_rep_full_1 (kap : FuncId → List AV → Option AV) (h : Head) (p : Tx → Bool) (l : List Tx) (hK : ∀ s ∈ l, kap rep_full_1 [.str (str s), .eptr (encHead h) 0] = some (.bool (p s))) (hl : l.length ≤ 2) : ∀ (suf pre : List Tx) (k0 : Nat), suf.length < k0 → l = pre ++ suf →
    slices_IndexFunc_string_at_rep_full_1_L0 kap k k0 (svs l) h.kind (str h.name) (str h.link) h.mode h.uid h.gid h.size h.sec h.nano (str h.user) (str h.group) h.major h.minor (prs h.extra) ((l.length : Nat) : Int) ((pre.length : Nat) : Int) = some (.int .i64 (idxF p pre.length suf))
  | [], pre, k0 + 1, hk, he => by
    have hll : l.length = pre.length := by rw [he]; simp
    rw [slices_IndexFunc_string_at_rep_full_1_L0_s, bif_f (by omega)]
    rfl
  | s :: suf, pre, k0 + 1, hk, he => by
    have hll : l.length = pre.length + suf.length + 1 := by rw [he]; exact mid_len pre suf s
    have hs : kap rep_full_1 [.str (str s), .eptr (encHead h) 0] = _ := hK s (by rw [he]; simp)
    have hg : ∀ K : ByteArray → Option AV, (((svs l)[pre.length]?).bind fun y => cellS (AV.cells y) 0 K) = K (str s) := fun K => by rw [he]; exact svs_mid _ _ _ _
    have ih := index_rep_full_1 kap h p l hK hl suf (pre ++ [s]) k0 (by simpa using hk) (by rw [he]; simp)
    rw [List.length_append, List.length_singleton] at ih
    rw [slices_IndexFunc_string_at_rep_full_1_L0_s, bif_t (by omega), svs_len, inb (by omega), cond_true, Int.toNat_natCast, hg]
    refine (congrArg (fun z => callB z _) hs).trans ?_
    rw [callB_ok, wrap1 (by omega)]
    unfold idxF
    cases p s with
    | true => rfl
    | false => exact ih
theorem index_rep_full_2 (kap : FuncId → List AV → Option AV) (h : Head) (p : Tx → Bool) (l : List Tx) (hK : ∀ s ∈ l, kap rep_full_2 [.str (str s)] = some (.bool (p s))) (hl : l.length ≤ 2) : ∀ (suf pre : List Tx) (k0 : Nat), suf.length < k0 → l = pre ++ suf →
    slices_IndexFunc_string_at_rep_full_2_L0 kap k k0 (svs l)  ((l.length : Nat) : Int) ((pre.length : Nat) : Int) = some (.int .i64 (idxF p pre.length suf))
  | [], pre, k0 + 1, hk, he => by
    have hll : l.length = pre.length := by rw [he]; simp
    rw [slices_IndexFunc_string_at_rep_full_2_L0_s, bif_f (by omega)]
    rfl
  | s :: suf, pre, k0 + 1, hk, he => by
    have hll : l.length = pre.length + suf.length + 1 := by rw [he]; exact mid_len pre suf s
    have hs : kap rep_full_2 [.str (str s)] = _ := hK s (by rw [he]; simp)
    have hg : ∀ K : ByteArray → Option AV, (((svs l)[pre.length]?).bind fun y => cellS (AV.cells y) 0 K) = K (str s) := fun K => by rw [he]; exact svs_mid _ _ _ _
    have ih := index_rep_full_2 kap h p l hK hl suf (pre ++ [s]) k0 (by simpa using hk) (by rw [he]; simp)
    rw [List.length_append, List.length_singleton] at ih
    rw [slices_IndexFunc_string_at_rep_full_2_L0_s, bif_t (by omega), svs_len, inb (by omega), cond_true, Int.toNat_natCast, hg]
    refine (congrArg (fun z => callB z _) hs).trans ?_
    rw [callB_ok, wrap1 (by omega)]
    unfold idxF
    cases p s with
    | true => rfl
    | false => exact ih
theorem index_rep_splits (kap : FuncId → List AV → Option AV) (h : Head) (p : Tx → Bool) (l : List Tx) (hK : ∀ s ∈ l, kap rep_splits [.str (str s)] = some (.bool (p s))) (hl : l.length ≤ 2) : ∀ (suf pre : List Tx) (k0 : Nat), suf.length < k0 → l = pre ++ suf →
    slices_IndexFunc_string_at_rep_splits_L0 kap k k0 (svs l)  ((l.length : Nat) : Int) ((pre.length : Nat) : Int) = some (.int .i64 (idxF p pre.length suf))
  | [], pre, k0 + 1, hk, he => by
    have hll : l.length = pre.length := by rw [he]; simp
    rw [slices_IndexFunc_string_at_rep_splits_L0_s, bif_f (by omega)]
    rfl
  | s :: suf, pre, k0 + 1, hk, he => by
    have hll : l.length = pre.length + suf.length + 1 := by rw [he]; exact mid_len pre suf s
    have hs : kap rep_splits [.str (str s)] = _ := hK s (by rw [he]; simp)
    have hg : ∀ K : ByteArray → Option AV, (((svs l)[pre.length]?).bind fun y => cellS (AV.cells y) 0 K) = K (str s) := fun K => by rw [he]; exact svs_mid _ _ _ _
    have ih := index_rep_splits kap h p l hK hl suf (pre ++ [s]) k0 (by simpa using hk) (by rw [he]; simp)
    rw [List.length_append, List.length_singleton] at ih
    rw [slices_IndexFunc_string_at_rep_splits_L0_s, bif_t (by omega), svs_len, inb (by omega), cond_true, Int.toNat_natCast, hg]
    refine (congrArg (fun z => callB z _) hs).trans ?_
    rw [callB_ok, wrap1 (by omega)]
    unfold idxF
    cases p s with
    | true => rfl
    | false => exact ih
theorem may1_k (h : Head) (s : Tx) (hs : s.length ≤ 1000000) : kp E k (n + 3) rep_full_1 [.str (str s), .eptr (encHead h) 0] = some (.bool (mayB 1 h.kind s)) := by
  have e := suffix_k (E := E) (k := k) (n := n) s (by omega)
  unfold encHead
  rw [rep_full_1_eq, str_size]
  show _ = some (AV.bool (decide (s.length ≤ 100) && (!decide (h.kind = 6) || sl s)))
  by_cases h1 : s.length ≤ 100
  · rw [bif_t (by omega), decide_eq_true h1, Bool.true_and]
    by_cases h2 : h.kind = 6
    · rw [decide_eq_true h2, Bool.not_true, cond_false, e, callB_ok, Bool.false_or]
    · rw [decide_eq_false h2]; rfl
  · rw [bif_f (by omega), decide_eq_false h1]; rfl
theorem may4_k (kind : Int) (s : Tx) : kp E k (n + 1) rep_full_2 [.str (str s)] = some (.bool (mayB 4 kind s)) := by
  rw [rep_full_2_eq, str_size]
  show some (AV.bool _) = some (AV.bool (decide (s.length ≤ 65536)))
  congr 2
  rw [decide_eq_decide]
  omega
theorem full_k (d : Int) (h : Head) (hn : h.name.length ≤ 400000) (hk : 1000000 < k) : kp E k (n + 6) rep_full [.int .i64 d, .agg (encHead h)] = some (fullA (fullO d h)) := by
  have e1 := fulls_k (E := E) (k := k) (n := n + 2) h (by omega)
  have hu := utf_k (E := E) (k := k) (n := n + 2) h.name (by omega)
  have hlen := fulls_len h.kind h.name
  have hm : ∀ f ∈ fulls h.kind h.name, f.length ≤ 400001 := fun f hf => by have := fulls_mem hf; omega
  unfold fullO
  by_cases h1 : d = 1
  · subst h1
    have hi := index_rep_full_1 (k := k) (kp E k (n + 4)) h (mayB 1 h.kind) (fulls h.kind h.name) (fun s hs => may1_k (n := n + 1) h s (by have := hm s hs; omega)) hlen (fulls h.kind h.name) [] k (by omega) rfl
    have hix : kp E k (n + 5) slices_IndexFunc_string [.list 1 (svs (fulls h.kind h.name)), .func (.func rep_full_1) [] [.eptr (encHead h) 0]] = some (.int .i64 (idxF (mayB 1 h.kind) 0 (fulls h.kind h.name))) := by
      unfold encHead
      rw [slices_IndexFunc_string_at_rep_full_1_eq, svs_len]
      exact hi
    unfold encHead at e1 hix ⊢
    rw [rep_full_eq, e1, callL_ok, bif_t rfl, hix, callI_ok]
    exact full_tail 1 h (mayB 1 h.kind) (kp E k (n + 5)) hu _ (fulls_ne _ _) hlen
  · by_cases h4 : d = 4
    · subst h4
      have hi := index_rep_full_2 (k := k) (kp E k (n + 4)) h (mayB 4 h.kind) (fulls h.kind h.name) (fun s hs => may4_k (n := n + 3) h.kind s) hlen (fulls h.kind h.name) [] k (by omega) rfl
      have hix : kp E k (n + 5) slices_IndexFunc_string [.list 1 (svs (fulls h.kind h.name)), .func (.func rep_full_2) [] []] = some (.int .i64 (idxF (mayB 4 h.kind) 0 (fulls h.kind h.name))) := by
        rw [slices_IndexFunc_string_at_rep_full_2_eq, svs_len]
        exact hi
      unfold encHead at e1 ⊢
      rw [rep_full_eq, e1, callL_ok, bif_f (by omega), bif_t rfl, hix, callI_ok]
      exact full_tail 4 h (mayB 4 h.kind) (kp E k (n + 5)) hu _ (fulls_ne _ _) hlen
    · have hmay : ∀ s, mayB d h.kind s = splitB s := fun s => by unfold mayB; rw [decide_eq_false h1, decide_eq_false h4]; rfl
      have hi := index_rep_splits (k := k) (kp E k (n + 4)) h (mayB d h.kind) (fulls h.kind h.name) (fun s hs => by rw [hmay]; exact splits_k (n := n) s (by have := hm s hs; omega) (by have := hm s hs; omega)) hlen (fulls h.kind h.name) [] k (by omega) rfl
      have hix : kp E k (n + 5) slices_IndexFunc_string [.list 1 (svs (fulls h.kind h.name)), .func (.func rep_splits) [] []] = some (.int .i64 (idxF (mayB d h.kind) 0 (fulls h.kind h.name))) := by
        rw [slices_IndexFunc_string_at_rep_splits_eq, svs_len]
        exact hi
      unfold encHead at e1 ⊢
      rw [rep_full_eq, e1, callL_ok, bif_f h1, bif_f h4, hix, callI_ok]
      exact full_tail d h (mayB d h.kind) (kp E k (n + 5)) hu _ (fulls_ne _ _) hlen
/-! By the definition. -/
end Go.Proofs.YtbkhmkcmbaffoaaGreatDoor.Eng.U


/- Which fields a dialect can tell: by the program and by the definition, in plain words. Written by gen/u11c.py. -/
set_option linter.unusedVariables false
set_option linter.unusedSectionVars false
set_option linter.unusedSimpArgs false
namespace Go.Proofs.YtbkhmkcmbaffoaaGreatDoor.Eng.U
open Go Go.Proofs Go.Proofs.YtbkhmkcmbaffoaaGreatDoor.Eng
variable {E : Ext} [Core E] [HasNum E] [HasTextV E] {k n : Nat}

def kindB (d v : Int) : Bool := bif !(decide (d = 1)) then true else bif decide (v = 1) then true else bif decide (v = 2) then true else bif decide (v = 3) then true else decide (v = 6)
def textB (d : Int) (s : Tx) (m : Nat) : Bool := bif decide (s.length ≤ m) then true else bif decide (d = 3) then utfOk s else false
def smallB (d v : Int) : Bool := bif decide (v ≤ 16777215) then true else bif decide (d = 4) then decide (v < 72057594037927936) else false
def ownerB (d v : Int) : Bool := bif decide (d = 3) then true else smallB d v
def greatB (d v : Int) : Bool := bif decide (v ≤ 68719476735) then true else bif decide (d = 3) then true else decide (d = 4)
def whenB (d sec nano : Int) : Bool := bif decide (d = 3) then true else bif decide (d = 4) then decide (nano = 0) else bif decide (nano = 0) then (bif decide (sec ≥ 0) then decide (sec ≤ 68719476735) else false) else false
def peopleB (d : Int) (s : Tx) : Bool := bif decide (d = 1) then decide (s = []) else textB d s 32
def linkB (d : Int) (s : Tx) : Bool := bif decide (d = 4) then true else textB d s 100
def extraB (d : Int) (l : List Pair) : Bool := bif decide (d = 3) then true else decide (l.length = 0)
/-- Can a dialect tell a field? The last one is told apart. -/
def canF (d : Int) (h : Head) (f : Int) (x : Bool) : Bool :=
  bif decide (f = 1) then kindB d h.kind else bif decide (f = 2) then (fullO d h).isSome else bif decide (f = 3) then linkB d h.link else bif decide (f = 4) then smallB d h.mode else bif decide (f = 5) then ownerB d h.uid else
  bif decide (f = 6) then ownerB d h.gid else bif decide (f = 7) then greatB d h.size else bif decide (f = 8) then whenB d h.sec h.nano else bif decide (f = 9) then peopleB d h.user else bif decide (f = 10) then peopleB d h.group else
  bif decide (f = 11) then smallB d h.major else bif decide (f = 12) then smallB d h.minor else bif decide (f = 13) then extraB d h.extra else bif !(decide (d = 3)) then true else x
def canB (d : Int) (h : Head) (f : Int) : Bool := canF d h f true
theorem most8 : kp E k (n + 1) num_Most [.int .i64 8] = some (.int .i64 16777215) := by rw [num_Most_eq]; rfl
theorem most12 : kp E k (n + 1) num_Most [.int .i64 12] = some (.int .i64 68719476735) := by rw [num_Most_eq]; rfl
theorem kind_k (d v : Int) : kp E k (n + 1) rep_kind [.int .i64 d, .int .i64 v] = some (.bool (kindB d v)) := by
  rw [rep_kind_eq]
  unfold kindB
  cases decide (d = 1) <;> cases decide (v = 1) <;> cases decide (v = 2) <;> cases decide (v = 3) <;> rfl
theorem text11_k (d : Int) (s : Tx) (m : Int) (M : Nat) (hm : m = ((M : Nat) : Int)) (hs : s.length < k) : kp E k (n + 4) rep_text [.int .i64 d, .str (str s), .int .i64 m] = some (.bool (textB d s M)) := by
  subst hm
  rw [rep_text_eq, str_size, nle, utf_k (n := n) s hs, callB_ok]
  unfold textB
  cases decide (s.length ≤ M) <;> cases decide (d = 3) <;> rfl
theorem small_k (d v : Int) : kp E k (n + 2) rep_small [.int .i64 d, .int .i64 v] = some (.bool (smallB d v)) := by
  rw [rep_small_eq, most8, callI_ok]
  unfold smallB
  cases decide (v ≤ 16777215) <;> cases decide (d = 4) <;> rfl
theorem owner_k (d v : Int) : kp E k (n + 3) rep_owner [.int .i64 d, .int .i64 v] = some (.bool (ownerB d v)) := by
  rw [rep_owner_eq, small_k, callB_ok]
  unfold ownerB
  cases decide (d = 3) <;> rfl
theorem great_k (d v : Int) : kp E k (n + 2) rep_great [.int .i64 d, .int .i64 v] = some (.bool (greatB d v)) := by
  rw [rep_great_eq, most12, callI_ok]
  unfold greatB
  cases decide (v ≤ 68719476735) <;> cases decide (d = 3) <;> rfl
theorem when_k (d a b : Int) : kp E k (n + 2) rep_when [.int .i64 d, .agg [.int .i64 a, .int .i64 b]] = some (.bool (whenB d a b)) := by
  rw [rep_when_eq, most12, callI_ok]
  unfold whenB
  cases decide (d = 3) <;> cases decide (d = 4) <;> cases decide (b = 0) <;> cases decide (a ≥ 0) <;> rfl
theorem people_k (d : Int) (s : Tx) (hs : s.length < k) : kp E k (n + 5) rep_people [.int .i64 d, .str (str s)] = some (.bool (peopleB d s)) := by
  rw [rep_people_eq, text11_k (n := n) d s 32 32 rfl hs, callB_ok, str_dec]
  unfold peopleB
  cases decide (d = 1) <;> rfl
theorem can_k (d : Int) (h : Head) (f : Int) (x : Bool) (hn : h.name.length ≤ 400000) (hl : h.link.length ≤ 400000) (hu : h.user.length ≤ 400000) (hg : h.group.length ≤ 400000) (hk : 1000000 < k)
    (hx : d = 3 → ¬ (1 ≤ f ∧ f ≤ 13) → kp E k (n + 7) rep_fits [.agg (encHead h)] = some (.bool x)) : kp E k (n + 8) rep_can [.int .i64 d, .agg (encHead h), .int .i64 f] = some (.bool (canF d h f x)) := by
  have e1 := kind_k (E := E) (k := k) (n := n + 6) d h.kind
  have e2 := full_k (E := E) (k := k) (n := n + 1) d h hn hk
  have e3 := text11_k (E := E) (k := k) (n := n + 3) d h.link 100 100 rfl (by omega)
  have e4 := fun v => small_k (E := E) (k := k) (n := n + 5) d v
  have e5 := fun v => owner_k (E := E) (k := k) (n := n + 4) d v
  have e7 := great_k (E := E) (k := k) (n := n + 5) d h.size
  have e8 := when_k (E := E) (k := k) (n := n + 5) d h.sec h.nano
  have e9 := people_k (E := E) (k := k) (n := n + 2) d h.user (by omega)
  have e10 := people_k (E := E) (k := k) (n := n + 2) d h.group (by omega)
  unfold encHead at e2 hx ⊢
  rw [rep_can_eq]
  unfold canF
  by_cases h1 : f = 1
  · rw [bif_t h1, bif_t h1, e1, callB_ok]
  rw [bif_f h1, bif_f h1]
  by_cases h2 : f = 2
  · rw [bif_t h2, bif_t h2, e2]
    cases fullO d h <;> rfl
  rw [bif_f h2, bif_f h2]
  by_cases h3 : f = 3
  · rw [bif_t h3, bif_t h3, e3, callB_ok]
    unfold linkB
    cases decide (d = 4) <;> rfl
  rw [bif_f h3, bif_f h3]
  by_cases h4 : f = 4
  · rw [bif_t h4, bif_t h4, e4 h.mode, callB_ok]
  rw [bif_f h4, bif_f h4]
  by_cases h5 : f = 5
  · rw [bif_t h5, bif_t h5, e5 h.uid, callB_ok]
  rw [bif_f h5, bif_f h5]
  by_cases h6 : f = 6
  · rw [bif_t h6, bif_t h6, e5 h.gid, callB_ok]
  rw [bif_f h6, bif_f h6]
  by_cases h7 : f = 7
  · rw [bif_t h7, bif_t h7, e7, callB_ok]
  rw [bif_f h7, bif_f h7]
  by_cases h8 : f = 8
  · rw [bif_t h8, bif_t h8, e8, callB_ok]
  rw [bif_f h8, bif_f h8]
  by_cases h9 : f = 9
  · rw [bif_t h9, bif_t h9, e9, callB_ok]
  rw [bif_f h9, bif_f h9]
  by_cases h10 : f = 10
  · rw [bif_t h10, bif_t h10, e10, callB_ok]
  rw [bif_f h10, bif_f h10]
  by_cases h11 : f = 11
  · rw [bif_t h11, bif_t h11, e4 h.major, callB_ok]
  rw [bif_f h11, bif_f h11]
  by_cases h12 : f = 12
  · rw [bif_t h12, bif_t h12, e4 h.minor, callB_ok]
  rw [bif_f h12, bif_f h12]
  by_cases h13 : f = 13
  · rw [bif_t h13, bif_t h13, prs_len]
    unfold extraB
    have : decide (((h.extra.length : Nat) : Int) = 0) = decide (h.extra.length = 0) := by rw [decide_eq_decide]; omega
    rw [this]
    cases decide (d = 3) <;> rfl
  rw [bif_f h13, bif_f h13]
  by_cases hd : d = 3
  · rw [decide_eq_true hd, Bool.not_true, cond_false, cond_false, hx hd (by omega), callB_ok]
  · rw [decide_eq_false hd]; rfl
/-! By the definition. -/
theorem f13_cases {f : Int} (hf : 1 ≤ f ∧ f ≤ 13) : f = 1 ∨ f = 2 ∨ f = 3 ∨ f = 4 ∨ f = 5 ∨ f = 6 ∨ f = 7 ∨ f = 8 ∨ f = 9 ∨ f = 10 ∨ f = 11 ∨ f = 12 ∨ f = 13 := by omega
end Go.Proofs.YtbkhmkcmbaffoaaGreatDoor.Eng.U


/- Given functions in pieces: each with what it answers, and that it does. -/
set_option linter.unusedVariables false
set_option linter.unusedSectionVars false
set_option linter.unusedSimpArgs false
namespace Go.Proofs.YtbkhmkcmbaffoaaGreatDoor.Eng.U
open Go Go.Proofs Go.Proofs.YtbkhmkcmbaffoaaGreatDoor.Eng Go.RowKit

structure Piece where
  f : FuncId
  ans : List AV → Option AV
def extOf (ps : List Piece) : Ext := { fs := coreFs, isBase := fun f => ps.any fun p => p.f == f, base := fun f args => (ps.find? fun p => p.f == f).bind fun p => p.ans args }
def Piece.Right (p : Piece) : Prop := Enters Tryz.prog p.f ∧ ∀ args res, p.ans args = some res → Ok Tryz.prog glob p.f args res
theorem core_of {ps : List Piece} (h : coreFs.all (fun f => !ps.any fun p => p.f == f) = true) : Core (extOf ps) where
  isB f hf := by
    have := List.all_eq_true.1 h f (List.contains_iff_mem.1 hf)
    simpa [extOf] using this
  has f hf := hf
theorem good_of {ps : List Piece} (h : ∀ p ∈ ps, p.Right) (hn : coreFs.all (namedOk Tryz.prog) = true) (k : Nat) : (bs (extOf ps) k).Good where
  mixed := by kernel_rfl
  names := hn
  base f args res hb hr := by
    change ((ps.find? fun p => p.f == f).bind fun p => p.ans args) = some res at hr
    obtain ⟨p, hp, ha⟩ := Option.bind_eq_some_iff.1 hr
    have hm := List.mem_of_find?_eq_some hp
    have hf : (p.f == f) = true := List.find?_some (p := fun q : Piece => q.f == f) hp
    have hf : p.f = f := by simpa using hf
    obtain ⟨h1, h2⟩ := h p hm
    rw [hf] at h1 h2
    exact ⟨h1, h2 args res ha⟩
theorem names_ok : coreFs.all (namedOk Tryz.prog) = true := by kernel_rfl
theorem kp_piece {ps : List Piece} {p : Piece} {k n : Nat} {args : List AV} (hp : ps.find? (fun q => q.f == p.f) = some p) : kp (extOf ps) k n p.f args = p.ans args := by
  rw [kp_base (by
    show (ps.any fun q => q.f == p.f) = true
    have := List.find?_some (p := fun q : Piece => q.f == p.f) hp
    exact List.any_eq_true.2 ⟨p, List.mem_of_find?_eq_some hp, this⟩)]
  show ((ps.find? fun q => q.f == p.f).bind fun q => q.ans args) = _
  rw [hp]
  rfl
theorem VL_1 {S : Stab} {x : AV} {vals : List Value} (h : VL S [x] vals) : ∃ v, vals = [v] ∧ V S x v := by
  obtain ⟨h1, h2⟩ := h
  match vals, h1 with
  | [v], _ => exact ⟨v, rfl, h2 0 _ _ rfl rfl⟩
theorem VL_2 {S : Stab} {x y : AV} {vals : List Value} (h : VL S [x, y] vals) : ∃ v u, vals = [v, u] ∧ V S x v ∧ V S y u := by
  obtain ⟨h1, h2⟩ := h
  match vals, h1 with
  | [v, u], _ => exact ⟨v, u, rfl, h2 0 _ _ rfl rfl, h2 1 _ _ rfl rfl⟩
theorem VL_3 {S : Stab} {x y z : AV} {vals : List Value} (h : VL S [x, y, z] vals) : ∃ v u t, vals = [v, u, t] ∧ V S x v ∧ V S y u ∧ V S z t := by
  obtain ⟨h1, h2⟩ := h
  match vals, h1 with
  | [v, u, t], _ => exact ⟨v, u, t, rfl, h2 0 _ _ rfl rfl, h2 1 _ _ rfl rfl, h2 2 _ _ rfl rfl⟩
theorem V_str {S : Stab} {s : ByteArray} {v : Value} (h : V S (.str s) v) : v = .string s := by cases h; rfl
theorem V_int {S : Stab} {k : IntKind} {n : Int} {v : Value} (h : V S (.int k n) v) : v = .int k n := by cases h; rfl
theorem agree_below {S : Stab} {w w' : World} (h : Agree S w) (hb : Below w.heap.size w w') : Agree S w' := fun x v hx =>
  (World.cell?_of_block (hb.block _ (World.block_lt_of_cell? w x (h x v hx)))).trans (h x v hx)
/-- A result that is pure, and nothing that lay has turned. -/
theorem ok_pure {f : FuncId} {args : List AV} {res : AV} (hres : res.isTup = false ∧ res.isFresh = false) (h : ∀ (S : Stab) (w : World) (vals : List Value), Agree S w → GlobOk glob S w → VL S args vals → Calls Tryz.prog f vals.toArray w fun e w' => ∃ v, e = .returned v ∧ (∀ S', V S' res v) ∧ Below w.heap.size w w') (hr : (args.all fun c => !c.isRes) = true := by rfl) : Ok Tryz.prog glob f args res := by
  refine Ok.of_plain (fun c hc => by simpa using List.all_eq_true.1 hr c hc) fun S w vals hag hG hV => ?_
  refine (h S w vals hag hG hV).mono ?_
  rintro e w' ⟨v, rfl, hv, hb⟩
  refine ⟨v, S, rfl, fun _ _ h => h, agree_below hag hb, fun _ _ h => .inl h, hb, ?_⟩
  have := hv S
  cases res <;> first | (cases hres.1; done) | (cases hres.2; done) | exact this
/-- A new row, frozen as it comes. -/
theorem row_V {S : Stab} {B : Nat} {w : World} {e : TypeId} {sz : Nat} {v : Value} {us : List Value} {xs : List AV} (hag : Agree S w) (hown : w.ownsRow B e sz v xs.length us) (hone : ∀ (i : Nat) (x : AV), xs[i]? = some x → x.cells.length = sz ∧ ∀ (j : Nat) (c : AV), x.cells[j]? = some c → c.leaf = true ∧ ∀ u, us[i * sz + j]? = some u → V S c u) :
    ∃ S', S.le S' ∧ Agree S' w ∧ (∀ x u, S' x = some u → S x = some u ∨ B ≤ x.block) ∧ V S' (.list sz xs) v := by
  have hul : us.length = xs.length * sz := hown.1
  rcases ownsRow_form hown with ⟨rfl, hn⟩ | ⟨g, cap, rfl, hb⟩
  · have hx : xs = [] := List.eq_nil_of_length_eq_zero hn
    subst hx
    exact ⟨S, fun _ _ h => h, hag, fun _ _ h => .inl h, .listn _⟩
  · let S' : Stab := fun x => if x.block = g ∧ x.spot = none ∧ x.off < xs.length * sz then w.cell? x else S x
    have hle : S.le S' := by
      intro x v hx
      show (if _ then _ else _) = _
      split
      · exact hag x v hx
      · exact hx
    have hS'g : ∀ k u, us[k]? = some u → S' ⟨g, k, none⟩ = some u := by
      intro k u hu
      have hk : k < xs.length * sz := by rw [← hul]; exact (List.getElem?_eq_some_iff.1 hu).1
      show (if _ then _ else _) = _
      rw [if_pos ⟨rfl, rfl, hk⟩]
      exact cell_of_us hown rfl hu
    refine ⟨S', hle, fun x v hx => ?_, fun x u hx => ?_, ?_⟩
    · have hx : (if x.block = g ∧ x.spot = none ∧ x.off < xs.length * sz then w.cell? x else S x) = some v := hx
      split at hx
      · exact hx
      · exact hag x v hx
    · have hx : (if x.block = g ∧ x.spot = none ∧ x.off < xs.length * sz then w.cell? x else S x) = some u := hx
      split at hx
      · rename_i hh; exact .inr (by rw [hh.1]; exact hb)
      · exact .inl hx
    · have hcle : xs.length ≤ cap := by
        rcases hown.2 with ⟨hv2, _⟩ | ⟨g2, cap2, cur2, hv2, _, _, hnc, _⟩
        · cases hv2
        · cases hv2; exact hnc
      have hval : ∀ (i : Nat) (x : AV) (j : Nat) (c : AV), xs[i]? = some x → x.cells[j]? = some c → us[i * sz + j]? = some (us.getD (i * sz + j) undef) := by
        intro i x j c hx hj
        have hi : i < xs.length := (List.getElem?_eq_some_iff.1 hx).1
        have hj' : j < sz := by rw [← (hone i x hx).1]; exact (List.getElem?_eq_some_iff.1 hj).1
        have hlt : i * sz + j < us.length := by rw [hul]; exact flat_lt hi hj'
        rw [List.getD_eq_getElem?_getD, List.getElem?_eq_getElem hlt]; rfl
      exact .list _ _ _ _ (fun i j => us.getD (i * sz + j) undef) hcle (fun i x hx => (hone i x hx).1) (fun i x j c hx hj => ((hone i x hx).2 j c hj).1)
        (fun i x j c hx hj => by rw [add_lit', Nat.zero_add]; exact hS'g _ _ (hval i x j c hx hj))
        (fun i x j c hx hj => (((hone i x hx).2 j c hj).2 _ (hval i x j c hx hj)).mono hle)
theorem ok_row {f : FuncId} {args : List AV} {e : TypeId} {sz : Nat} {xs : List AV} (h : ∀ (S : Stab) (w : World) (vals : List Value), Agree S w → GlobOk glob S w → VL S args vals → Calls Tryz.prog f vals.toArray w fun en w' => ∃ v us, en = .returned v ∧ w'.ownsRow w.heap.size e sz v xs.length us ∧
      (∀ (i : Nat) (x : AV), xs[i]? = some x → x.cells.length = sz ∧ ∀ (j : Nat) (c : AV), x.cells[j]? = some c → c.leaf = true ∧ ∀ u, us[i * sz + j]? = some u → V S c u) ∧ Below w.heap.size w w') (hr : (args.all fun c => !c.isRes) = true := by rfl) : Ok Tryz.prog glob f args (.list sz xs) := by
  refine Ok.of_plain (fun c hc => by simpa using List.all_eq_true.1 hr c hc) fun S w vals hag hG hV => ?_
  refine (h S w vals hag hG hV).mono ?_
  rintro en w' ⟨v, us, rfl, hown, hels, hb⟩
  obtain ⟨S', h1, h2, h3, h4⟩ := row_V (agree_below hag hb) hown hels
  exact ⟨v, S', rfl, h1, h2, h3, hb, h4⟩
/-- Texts out of abstract values. -/
def toStrs : List AV → Option (List (List UInt8))
  | [] => some []
  | .str s :: l => (toStrs l).bind fun r => some (s.data.toList :: r)
  | _ => none
theorem toStrs_svs : ∀ l : List (List UInt8), toStrs (svs l) = some l
  | [] => rfl
  | p :: l => by
    show (toStrs (svs l)).bind (fun r => some (p :: r)) = _
    rw [toStrs_svs l]
    rfl
theorem toStrs_some : ∀ {xs : List AV} {l : List (List UInt8)}, toStrs xs = some l → xs = svs l
  | [], l, h => by cases h; rfl
  | x :: xs, l, h => by
    unfold toStrs at h
    split at h
    · rename_i e; cases e
    · rename_i s l' e
      cases e
      obtain ⟨r, hr, he⟩ := Option.bind_eq_some_iff.1 h
      cases he
      rw [toStrs_some hr]
      have : AV.str s = sv s.data.toList := by
        show AV.str s = AV.str _
        congr 1
      rw [this]; rfl
    · cases h
end Go.Proofs.YtbkhmkcmbaffoaaGreatDoor.Eng.U


/- The program's own data as a row hands them in: what is read is some item, with bounds. -/
set_option linter.unusedVariables false
set_option linter.unusedSimpArgs false
namespace Go.Proofs.YtbkhmkcmbaffoaaGreatDoor.Eng.U
open Go Go.Proofs Go.Proofs.YtbkhmkcmbaffoaaGreatDoor.Eng Go.Proofs.YtbkhmkcmbaffoaaGreatDoor.Eng.Rdv

def InR (n : Int) : Prop := -9223372036854775808 ≤ n ∧ n ≤ 9223372036854775807
structure G_apiPair (p : Pair) : Prop where
  key : p.key.length ≤ 140737488351232
  val : p.val.length ≤ 140737488351232
structure G_apiTime (t : Time) : Prop where
  sec : InR t.sec
  nano : InR t.nano
structure G_apiHead (h : Head) : Prop where
  kind : InR h.kind
  name : h.name.length ≤ 140737488351232
  link : h.link.length ≤ 140737488351232
  mode : InR h.mode
  uid : InR h.uid
  gid : InR h.gid
  size : InR h.size
  sec : InR h.sec
  nano : InR h.nano
  user : h.user.length ≤ 140737488351232
  group : h.group.length ≤ 140737488351232
  major : InR h.major
  minor : InR h.minor
  extra : h.extra.length * 32 ≤ 140737488351232
  pairs : ∀ p ∈ h.extra, G_apiPair p
structure G_apiItem (x : Item) : Prop where
  head : G_apiHead x.head
  data : x.data.length ≤ 140737488351232
def G_LapiItem (l : List Item) : Prop := l.length * 184 ≤ 140737488351232 ∧ ∀ x ∈ l, G_apiItem x
def G_LapiPair (l : List Pair) : Prop := l.length * 32 ≤ 140737488351232 ∧ ∀ x ∈ l, G_apiPair x
theorem rdi {t : TypeId} (hu : Tryz.prog.underlying t = some (.int .i64)) (hc : Tryz.prog.cellsOf t = 1) : Rd Tryz.prog t (fun n : Int => [.int .i64 n]) InR := int hu hc
theorem rds {t : TypeId} (hu : Tryz.prog.underlying t = some .string) (hc : Tryz.prog.cellsOf t = 1) : Rd Tryz.prog t (fun s : Tx => [.str (str s)]) (fun s => s.length ≤ 140737488351232) := string hu hc
theorem rd_pair : Rd Tryz.prog 50 encPair G_apiPair :=
  weaken (struct (P := Tryz.prog) (t := 50) Tryz.underlying50 rfl (by kernel_rfl) (by kernel_rfl)
    (iso encPair (fun p : Pair => (p.key, p.val)) (fun y => ⟨y.1, y.2⟩) (fun _ => rfl) (fun _ => rfl)
      (cons (rds (by kernel_rfl) (by kernel_rfl)) (Rdv.one (rds (by kernel_rfl) (by kernel_rfl)))))) (fun _ h => ⟨h.1, h.2⟩)
theorem rd_time : Rd Tryz.prog 23 encTime G_apiTime :=
  weaken (struct (P := Tryz.prog) (t := 23) Tryz.underlying23 rfl (by kernel_rfl) (by kernel_rfl)
    (iso encTime (fun p : Time => (p.sec, p.nano)) (fun y => ⟨y.1, y.2⟩) (fun _ => rfl) (fun _ => rfl)
      (cons (rdi (by kernel_rfl) (by kernel_rfl)) (Rdv.one (rdi (by kernel_rfl) (by kernel_rfl)))))) (fun _ h => ⟨h.1, h.2⟩)
theorem rd_pairs : Rd Tryz.prog 24 (fun l : List Pair => [.list 2 (prs l)]) G_LapiPair :=
  weaken (sliceAt (B := 32) elPair (fun _ => rfl) Tryz.underlying24 (by kernel_rfl) (by kernel_rfl) (by kernel_rfl) rd_pair) (fun _ h => h)
theorem rd_head : Rd Tryz.prog 26 encHead G_apiHead :=
  weaken (struct (P := Tryz.prog) (t := 26) Tryz.underlying26 rfl (by kernel_rfl) (by kernel_rfl)
    (iso encHead (fun h : Head => (h.kind, h.name, h.link, h.mode, h.uid, h.gid, h.size, (⟨h.sec, h.nano⟩ : Time), h.user, h.group, h.major, h.minor, h.extra))
      (fun y => ⟨y.1, y.2.1, y.2.2.1, y.2.2.2.1, y.2.2.2.2.1, y.2.2.2.2.2.1, y.2.2.2.2.2.2.1, y.2.2.2.2.2.2.2.1.sec, y.2.2.2.2.2.2.2.1.nano, y.2.2.2.2.2.2.2.2.1, y.2.2.2.2.2.2.2.2.2.1, y.2.2.2.2.2.2.2.2.2.2.1, y.2.2.2.2.2.2.2.2.2.2.2.1, y.2.2.2.2.2.2.2.2.2.2.2.2⟩) (fun _ => rfl) (fun _ => rfl)
      (cons (rdi (by kernel_rfl) (by kernel_rfl)) (cons (rds (by kernel_rfl) (by kernel_rfl)) (cons (rds (by kernel_rfl) (by kernel_rfl))
        (cons (rdi (by kernel_rfl) (by kernel_rfl)) (cons (rdi (by kernel_rfl) (by kernel_rfl)) (cons (rdi (by kernel_rfl) (by kernel_rfl)) (cons (rdi (by kernel_rfl) (by kernel_rfl))
          (cons rd_time (cons (rds (by kernel_rfl) (by kernel_rfl)) (cons (rds (by kernel_rfl) (by kernel_rfl))
            (cons (rdi (by kernel_rfl) (by kernel_rfl)) (cons (rdi (by kernel_rfl) (by kernel_rfl)) (Rdv.one rd_pairs))))))))))))))) (fun h g =>
      ⟨g.1, g.2.1, g.2.2.1, g.2.2.2.1, g.2.2.2.2.1, g.2.2.2.2.2.1, g.2.2.2.2.2.2.1, g.2.2.2.2.2.2.2.1.sec, g.2.2.2.2.2.2.2.1.nano, g.2.2.2.2.2.2.2.2.1, g.2.2.2.2.2.2.2.2.2.1, g.2.2.2.2.2.2.2.2.2.2.1, g.2.2.2.2.2.2.2.2.2.2.2.1, g.2.2.2.2.2.2.2.2.2.2.2.2.1, g.2.2.2.2.2.2.2.2.2.2.2.2.2⟩)
end Go.Proofs.YtbkhmkcmbaffoaaGreatDoor.Eng.U


/- rep.Records, walked: its closures. -/
set_option linter.unusedVariables false
set_option linter.unusedSectionVars false
set_option linter.unusedSimpArgs false
namespace Go.Proofs.YtbkhmkcmbaffoaaGreatDoor.S11
open Go Go.RowKit Go.Shelf Go.Proofs Go.Proofs.YtbkhmkcmbaffoaaGreatDoor.Eng Go.Proofs.YtbkhmkcmbaffoaaGreatDoor.Eng.U

theorem infoP : (Tryz.prog.info? 50).map (fun i => (i.zero, i.size, i.bytes)) = some (some (.agg #[.string ⟨#[]⟩, .string ⟨#[]⟩]), 2, 32) := by kernel_rfl
/-- The cells of a head. -/
def headV (h : Head) (sv : Value) : Array Value := #[.int .i64 h.kind, .string (str h.name), .string (str h.link), .int .i64 h.mode, .int .i64 h.uid, .int .i64 h.gid, .int .i64 h.size, .int .i64 h.sec, .int .i64 h.nano, .string (str h.user), .string (str h.group), .int .i64 h.major, .int .i64 h.minor, sv]
theorem own_below {w w' : World} {B e size n : Nat} {v : Value} {xs : List Value} (h : w.ownsRow B e size v n xs) (hb : Below w.heap.size w w') : w'.ownsRow B e size v n xs := by
  refine ⟨h.1, ?_⟩
  rcases h.2 with h | ⟨g, cap, cur, hv, hg, hc, r⟩
  · exact .inl h
  · exact .inr ⟨g, cap, cur, hv, hg, (hb.block g (Array.getElem?_eq_some_iff.1 hc).1).trans hc, r⟩
/-- A box of a head. -/
def HBox (W : World) (b : Nat) (h : Head) (sv : Value) : Prop := W.heap[b]? = some (.cells (headV h sv) 26 (0, 0))
theorem HBox.cell {W : World} {b : Nat} {h : Head} {sv : Value} (hb : HBox W b h sv) (i : Nat) (v : Value) (hv : (headV h sv)[i]? = some v) : W.cell? ⟨b, i, none⟩ = some v := by
  unfold World.cell?
  simp only
  rw [show W.heap[b]? = some (.cells (headV h sv) 26 (0, 0)) from hb]
  simpa using hv
theorem cell_two_new (w : World) (x y : Value) (t : TypeId) : ∀ j u, [x, y][j]? = some u → (w.alloc (.cells #[x, y] t)).cell? ((⟨w.heap.size, 0, none⟩ : Addr).add j) = some u := by
  intro j u hj
  match j, hj with
  | 0, hj => simp at hj; subst hj; simp [Addr.add]
  | 1, hj => simp at hj; subst hj; simp [Addr.add]
  | (j + 2), hj => simp at hj
/-- 'l = append(l, ..)' with a row that lies beyond n₁ and a box beyond n₀. -/
theorem appended3 {W w1 : World} {n₀ n₁ B : Nat} {t e : TypeId} {size : Nat} {v v' : Value} {k m : Nat} {xs ys : List Value} {tmp : Obj}
    (hv : Boxed W B t v) (hte : t ≠ e) (hrow : W.ownsRow n₁ e size v k xs) (h01 : n₀ ≤ n₁) (hn₁ : n₁ ≤ W.heap.size) (hB : n₀ ≤ B)
    (hown' : w1.ownsRow n₁ e size v' m ys) (hgrow : (W.alloc tmp).grownBy w1 v.ownBlock) :
    Boxed w1 B t v ∧ Boxed (w1.setCell ⟨B, 0, none⟩ v') B t v' ∧ (w1.setCell ⟨B, 0, none⟩ v').ownsRow n₁ e size v' m ys ∧ Below n₀ W (w1.setCell ⟨B, 0, none⟩ v') ∧ (∀ b, b < n₁ → b ≠ B → (w1.setCell ⟨B, 0, none⟩ v').heap[b]? = W.heap[b]?) ∧ W.heap.size ≤ (w1.setCell ⟨B, 0, none⟩ v').heap.size := by
  have hv1 : Boxed w1 B t v := (hv.alloc tmp).kept hgrow (hv.not_row hte hrow)
  have hbk : ∀ j, v.ownBlock = some j → n₁ ≤ j := fun j ej => by
    rcases hrow.2 with ⟨rfl, _⟩ | ⟨g, cap, cur, rfl, hb, _, _⟩
    · simp [Value.ownBlock] at ej
    · obtain rfl : g = j := by simpa [Value.ownBlock] using ej
      exact hb
  have hsz : W.heap.size ≤ (w1.setCell ⟨B, 0, none⟩ v').heap.size := by
    have h1 := hgrow.size
    have h2 := (grownBy_setCell' w1 B v').size
    simp at h1
    omega
  refine ⟨hv1, hv1.set v', hown'.kept (grownBy_setCell' w1 B v') (.inr (hv1.not_row hte hown').symm), ?_, fun b hb hbB => ?_, hsz⟩
  · exact (((Below.refl n₀ W).alloc (by omega) tmp).grown hgrow (by simp; omega) fun j ej => by have := hbk j ej; omega).setCell (p := ⟨B, 0, none⟩) hB v'
  · refine (Below.heap_setCell _ _ _ _ hbB).trans ((hgrow.block b (by simp; omega) fun e => ?_).trans (Below.heap_alloc _ _ _ (by omega)))
    have := hbk b e.symm
    omega
/-- What 'add' keeps: the head's box, the list's box, the row, all else below. -/
structure St (w0 : World) (n1 bh bl : Nat) (h : Head) (sv : Value) (l : List Value) (m : Nat) (W : World) : Prop where
  head : HBox W bh h sv
  box : ∃ lv, Boxed W bl 24 lv ∧ W.ownsRow n1 50 2 lv m l
  below : Below w0.heap.size w0 W
theorem St.next {w0 : World} {n1 bh bl : Nat} {h : Head} {sv : Value} {l : List Value} {m : Nat} {W W' : World} (s : St w0 n1 bh bl h sv l m W) (hb : Below W.heap.size W W') : St w0 n1 bh bl h sv l m W' := by
  obtain ⟨lv, h1, h2⟩ := s.box
  have hh : bh < W.heap.size := (Array.getElem?_eq_some_iff.1 s.head).1
  exact ⟨(hb.block bh hh).trans s.head, ⟨lv, (hb.block bl h1.lt).trans h1, own_below h2 hb⟩, s.below.trans (hb.mono s.below.size)⟩
set_option maxHeartbeats 4000000 in
set_option maxRecDepth 1000000 in
theorem add_walk (w0 : World) (n1 bh bl : Nat) (h : Head) (sv : Value) (l : List Value) (m : Nat) (W : World) (f : Int) (key val : Tx) (b : Bool)
    (hS : St w0 n1 bh bl h sv l m W) (hn1 : w0.heap.size ≤ n1) (hbh : bh < n1) (hbl : w0.heap.size ≤ bl) (hne : bh ≠ bl) (hn : n1 ≤ W.heap.size) (hm : m ≤ 1000)
    (hcan : ∀ W1, Below W.heap.size W W1 → Calls Tryz.prog 47 #[.int .i64 2, .agg (headV h sv), .int .i64 f] W1 fun e w' => e = .returned (.bool b) ∧ Below W1.heap.size W1 w') :
    Calls Tryz.prog 49 #[.int .i64 f, .string (str key), .string (str val), .pointer (some ⟨bh, 0, none⟩), .pointer (some ⟨bl, 0, none⟩)] W fun e W' =>
      e = .returned (.tuple #[]) ∧ St w0 n1 bh bl h sv (bif b then l else l ++ [.string (str key), .string (str val)]) (bif b then m else m + 1) W' ∧ W.heap.size ≤ W'.heap.size := by
  obtain ⟨i0, hi, hz0, hz1, hz2⟩ := info_parts infoP
  have c0 := hS.head.cell 0 _ rfl
  have c1 := hS.head.cell 1 _ rfl
  have c2 := hS.head.cell 2 _ rfl
  have c3 := hS.head.cell 3 _ rfl
  have c4 := hS.head.cell 4 _ rfl
  have c5 := hS.head.cell 5 _ rfl
  have c6 := hS.head.cell 6 _ rfl
  have c7 := hS.head.cell 7 _ rfl
  have c8 := hS.head.cell 8 _ rfl
  have c9 := hS.head.cell 9 _ rfl
  have c10 := hS.head.cell 10 _ rfl
  have c11 := hS.head.cell 11 _ rfl
  have c12 := hS.head.cell 12 _ rfl
  have c13 := hS.head.cell 13 _ rfl
  refine (callsIn_wide (n := 3)).1 ?_
  refine callsIn_of_wp Tryz.func49 rfl trivial ?_ rfl
  simp only [Tryz.ntmps49, List.size_toArray, List.length_cons, List.length_nil, Nat.reduceAdd, Nat.reduceSub, Array.replicate_succ, Array.replicate_zero, List.push_toArray, List.append_toArray, List.nil_append, List.cons_append]
  cases b with
  | true =>
    gi_wp2_with (refine ⟨trivial, ?_⟩; gi_at_call 47; refine (callsIn_wide.2 (hcan _ (Below.refl _ _))).mono ?_; rintro e W1 ⟨rfl, hb1⟩)
    go_end0
    exact ⟨rfl, hS.next hb1, hb1.size⟩
  | false =>
    gi_wp2_with (first
      | (refine ⟨trivial, ?_⟩; gi_at_call 47; refine (callsIn_wide.2 (hcan _ (Below.refl _ _))).mono ?_; rintro e W1 ⟨rfl, hb1⟩; have S1 := hS.next hb1; have hn2 : n1 ≤ W1.heap.size := Nat.le_trans hn hb1.size; obtain ⟨lv, hv, hr⟩ := S1.box; have hc := hv.cell)
      | (gi_at_builtin; refine wpListIn_append_own _ rfl _ _ 24 rfl n1 50 i0 (.agg #[.string ⟨#[]⟩, .string ⟨#[]⟩]) 2 32 Tryz.underlying24 hi hz0 hz1 hz2 rfl (by decide) _ _ _ rfl (hr.alloc _) ⟨W1.heap.size, 0, none⟩ 1 1 [.string (str key), .string (str val)] rfl rfl (cell_two_new _ _ _ _) (by simp [Value.oneCell']) (by simp only [maxLen]; omega) (by omega) (by simp; omega) ?_; intro v' w2 hown' hgrow _; obtain ⟨g', cap', rfl⟩ := ownsRow_succ hown'; obtain ⟨hv1, hv2, hr2, hb2, hx2, hs2⟩ := appended3 hv (by decide) hr hn1 hn2 hbl hown' hgrow; have hc1 := hv1.cell; have hf1 := hv1.frozen))
    go_end0
    exact ⟨rfl, ⟨(hx2 bh hbh hne).trans S1.head, ⟨_, hv2, by simpa using hr2⟩, S1.below.trans hb2⟩, Nat.le_trans hb1.size hs2⟩
end Go.Proofs.YtbkhmkcmbaffoaaGreatDoor.S11


/-
  DERIVED: THE SHELF's CONTRACTS AT THIS DUMP, IN PLAIN WORDS (tools/lay-plain.mjs out of 'TryzSort.lean', which tools/lay-shelf.mjs wrote): THE SAME DECLARATIONS UNDER THE SAME NAMES: 'import', 'namespace', 'open', 'def', 'theorem' AND NOTHING ELSE: no command of the shelf's: FOR A HAND-IN. Each laying: the table of numbers ('.._ren') and one theorem, a field a fact of the dump's own or the kernel's comparison; each contract: ONE APPLICATION.
-/
namespace Go.Proofs
open Go.Shelf
def Tryz.sortP_ren : Go.Shelf.Ren := ⟨fun | 6 => 53 | 15 => 104 | 14 => 103 | 28 => 153 | 29 => 154 | 20 => 145 | 21 => 146 | 22 => 147 | 23 => 148 | 24 => 149 | 25 => 150 | 26 => 151 | 27 => 152 | 46 => 188 | 47 => 189 | 48 => 190 | 49 => 191 | 50 => 192 | 57 => 226 | n => n, fun | 22 => 24 | 24 => 50 | 25 => 93 | 3 => 3 | 39 => 135 | 0 => 0 | 53 => 172 | 55 => 174 | 4 => 4 | 46 => 166 | 45 => 165 | 50 => 143 | 5 => 5 | 9 => 9 | 66 => 197 | 70 => 201 | 76 => 225 | 77 => 226 | n => n, fun | n => n⟩
theorem Tryz.sortP : Go.Proofs.SlLaysF0.n6 Tryz.prog Tryz.sortP_ren := {
  mixed := by kernel_rfl
  f6 := ⟨Tryz.f53.name, by decide, Tryz.func53.trans (congrArg some (by kernel_rfl))⟩
  f14 := ⟨Tryz.f103.name, by decide, Tryz.func103.trans (congrArg some (by kernel_rfl))⟩
  f15 := Tryz.func104.trans (congrArg some (by kernel_rfl))
  f20 := ⟨Tryz.f145.name, by decide, Tryz.func145.trans (congrArg some (by kernel_rfl))⟩
  f21 := ⟨Tryz.f146.name, by decide, Tryz.func146.trans (congrArg some (by kernel_rfl))⟩
  f22 := ⟨Tryz.f147.name, by decide, Tryz.func147.trans (congrArg some (by kernel_rfl))⟩
  f23 := ⟨Tryz.f148.name, by decide, Tryz.func148.trans (congrArg some (by kernel_rfl))⟩
  f24 := ⟨Tryz.f149.name, by decide, Tryz.func149.trans (congrArg some (by kernel_rfl))⟩
  f25 := ⟨Tryz.f150.name, by decide, Tryz.func150.trans (congrArg some (by kernel_rfl))⟩
  f26 := ⟨Tryz.f151.name, by decide, Tryz.func151.trans (congrArg some (by kernel_rfl))⟩
  f27 := ⟨Tryz.f152.name, by decide, Tryz.func152.trans (congrArg some (by kernel_rfl))⟩
  f28 := Tryz.func153.trans (congrArg some (by kernel_rfl))
  f29 := Tryz.func154.trans (congrArg some (by kernel_rfl))
  f46 := ⟨Tryz.f188.name, by decide, Tryz.func188.trans (congrArg some (by kernel_rfl))⟩
  f47 := Tryz.func189.trans (congrArg some (by kernel_rfl))
  f48 := Tryz.func190.trans (congrArg some (by kernel_rfl))
  f49 := ⟨Tryz.f191.name, by decide, Tryz.func191.trans (congrArg some (by kernel_rfl))⟩
  f50 := ⟨Tryz.f192.name, by decide, Tryz.func192.trans (congrArg some (by kernel_rfl))⟩
  f57 := ⟨Tryz.f226.name, by decide, Tryz.func226.trans (congrArg some (by kernel_rfl))⟩
  t0 := Tryz.underlying0
  a0 := Tryz.isAgg0
  z0 := Tryz.sizeOf0
  v0 := Tryz.zeroValue0
  t3 := Tryz.underlying3
  a3 := Tryz.isAgg3
  z3 := Tryz.sizeOf3
  v3 := Tryz.zeroValue3
  t4 := Tryz.underlying4
  a4 := Tryz.isAgg4
  z4 := Tryz.sizeOf4
  v4 := Tryz.zeroValue4
  t5 := Tryz.underlying5
  a5 := Tryz.isAgg5
  z5 := Tryz.sizeOf5
  v5 := Tryz.zeroValue5
  t9 := Tryz.underlying9
  a9 := Tryz.isAgg9
  z9 := Tryz.sizeOf9
  v9 := Tryz.zeroValue9
  t22 := Tryz.underlying24
  a22 := Tryz.isAgg24
  z22 := Tryz.sizeOf24
  v22 := Tryz.zeroValue24
  t25 := Tryz.underlying93
  a25 := Tryz.isAgg93
  z25 := Tryz.sizeOf93
  v25 := Tryz.zeroValue93
  t39 := Tryz.underlying135
  a39 := Tryz.isAgg135
  z39 := Tryz.sizeOf135
  v39 := Tryz.zeroValue135
  t45 := Tryz.underlying165
  a45 := Tryz.isAgg165
  z45 := Tryz.sizeOf165
  v45 := Tryz.zeroValue165
  t46 := Tryz.underlying166
  a46 := Tryz.isAgg166
  z46 := Tryz.sizeOf166
  v46 := Tryz.zeroValue166
  t50 := Tryz.underlying143
  a50 := Tryz.isAgg143
  z50 := Tryz.sizeOf143
  v50 := Tryz.zeroValue143
  t53 := Tryz.underlying172
  a53 := Tryz.isAgg172
  z53 := Tryz.sizeOf172
  v53 := Tryz.zeroValue172
  t55 := Tryz.underlying174
  a55 := Tryz.isAgg174
  z55 := Tryz.sizeOf174
  v55 := Tryz.zeroValue174
  t66 := Tryz.underlying197
  a66 := Tryz.isAgg197
  z66 := Tryz.sizeOf197
  v66 := Tryz.zeroValue197
  t70 := Tryz.underlying201
  a70 := Tryz.isAgg201
  z70 := Tryz.sizeOf201
  v70 := Tryz.zeroValue201
  t76 := Tryz.underlying225
  a76 := Tryz.isAgg225
  z76 := Tryz.sizeOf225
  v76 := Tryz.zeroValue225
  t77 := Tryz.underlying226
  a77 := Tryz.isAgg226
  z77 := Tryz.sizeOf226
  v77 := Tryz.zeroValue226 }
end Go.Proofs


/- Overlays in plain words, part 2: laid one by one. No program. -/
set_option linter.unusedVariables false
set_option linter.unusedSimpArgs false
namespace Go.Proofs.YtbkhmkcmbaffoaaGreatDoor.Eng.U
open Go Go.Proofs Go.Proofs.YtbkhmkcmbaffoaaGreatDoor.Eng

/-- A pair laid over an overlay. -/
def layOne : List Pair → Pair → List Pair
  | [], p => if p.val = [] then [] else [p]
  | q :: r, p => if q.key = p.key then (if p.val = [] then r else p :: r) else if Op.bytesLess q.key p.key = true then q :: layOne r p else (if p.val = [] then q :: r else p :: q :: r)
/-- The value of a key; empty, if it has none. -/
def valOf : List Pair → Tx → Tx
  | [], _ => []
  | p :: l, k => if p.key = k then p.val else valOf l k
theorem gtO_irr (k : Tx) : gtO (some k) k = false := lt_irr k
theorem valOf_out : ∀ {l : List Pair} {a : Option Tx} {k : Tx}, okSt a l = true → gtO a k = false → valOf l k = []
  | [], a, k, _, _ => rfl
  | p :: l, a, k, ho, hk => by
    have hf := okSt_facts _ _ ho
    have hp := (hf.1 p (.head _)).1
    have ho2 : okSt (some p.key) l = true := by simp only [okSt, Bool.and_eq_true] at ho; exact ho.2
    unfold valOf
    have hne : p.key ≠ k := by rintro rfl; rw [hp] at hk; cases hk
    rw [if_neg hne]
    refine valOf_out (a := a) ?_ hk
    exact okSt_mono hp ho2
theorem valOf_ne {l : List Pair} {a : Option Tx} (ho : okSt a l = true) : ∀ p ∈ l, valOf l p.key = p.val := by
  induction l generalizing a with
  | nil => intro p hp; cases hp
  | cons q l ih =>
    intro p hp
    have hf := okSt_facts _ _ ho
    have ho2 : okSt (some q.key) l = true := by simp only [okSt, Bool.and_eq_true] at ho; exact ho.2
    unfold valOf
    rcases List.mem_cons.1 hp with rfl | hp
    · rw [if_pos rfl]
    · have hlt := List.rel_of_pairwise_cons hf.2 hp
      rw [if_neg (by intro e; rw [e, lt_irr] at hlt; cases hlt)]
      exact ih ho2 p hp
/-- Overlays that have the same values are the same. -/
theorem over_ext : ∀ {x y : List Pair} {a : Option Tx}, okSt a x = true → okSt a y = true → (∀ k, valOf x k = valOf y k) → x = y
  | [], [], _, _, _, _ => rfl
  | [], q :: y, a, hx, hy, h => by
    have hf := (okSt_facts _ _ hy).1 q (.head _)
    have := h q.key
    unfold valOf at this
    rw [if_pos rfl] at this
    exact absurd this.symm hf.2
  | p :: x, [], a, hx, hy, h => by
    have hf := (okSt_facts _ _ hx).1 p (.head _)
    have := h p.key
    unfold valOf at this
    rw [if_pos rfl] at this
    exact absurd this hf.2
  | p :: x, q :: y, a, hx, hy, h => by
    have fp := okSt_facts _ _ hx
    have fq := okSt_facts _ _ hy
    have hx2 : okSt (some p.key) x = true := by simp only [okSt, Bool.and_eq_true] at hx; exact hx.2
    have hy2 : okSt (some q.key) y = true := by simp only [okSt, Bool.and_eq_true] at hy; exact hy.2
    have hpv := (fp.1 p (.head _)).2
    have hqv := (fq.1 q (.head _)).2
    have hk : p.key = q.key := by
      by_cases e : p.key = q.key
      · exact e
      · exfalso
        cases hl : Op.bytesLess p.key q.key with
        | true =>
          have h1 := h p.key
          have h2 : valOf (q :: y) p.key = [] := by
            unfold valOf
            rw [if_neg (fun h => e h.symm)]
            exact valOf_out hy2 (lt_asym hl)
          rw [h2] at h1
          unfold valOf at h1
          rw [if_pos rfl] at h1
          exact hpv h1
        | false =>
          have hl2 := lt_tot hl e
          have h1 := h q.key
          have h2 : valOf (p :: x) q.key = [] := by
            unfold valOf
            rw [if_neg e]
            exact valOf_out hx2 (lt_asym hl2)
          rw [h2] at h1
          unfold valOf at h1
          rw [if_pos rfl] at h1
          exact hqv h1.symm
    have hv : p.val = q.val := by
      have h1 := h p.key
      unfold valOf at h1
      rw [if_pos rfl, if_pos hk.symm] at h1
      exact h1
    have hpq : p = q := by cases p; cases q; simp_all
    subst hpq
    congr 1
    refine over_ext hx2 hy2 fun k => ?_
    by_cases e : p.key = k
    · subst e
      rw [valOf_out hx2 (gtO_irr _), valOf_out hy2 (gtO_irr _)]
    · have h1 := h k
      unfold valOf at h1
      rw [if_neg e, if_neg e] at h1
      exact h1
theorem layOne_ok : ∀ {l : List Pair} {a : Option Tx} (p : Pair), okSt a l = true → gtO a p.key = true → okSt a (layOne l p) = true
  | [], a, p, _, hg => by
    unfold layOne
    split
    · rfl
    · rename_i h; simp only [okSt, hg, decide_eq_true h, Bool.and_self]
  | q :: l, a, p, ho, hg => by
    have hq := (okSt_facts _ _ ho).1 q (.head _)
    have ho2 : okSt (some q.key) l = true := by simp only [okSt, Bool.and_eq_true] at ho; exact ho.2
    unfold layOne
    by_cases e : q.key = p.key
    · rw [if_pos e]
      split
      · exact okSt_mono hq.1 ho2
      · rename_i h
        simp only [okSt, ← e, hq.1, decide_eq_true h, ho2, Bool.and_self]
    · rw [if_neg e]
      by_cases hl : Op.bytesLess q.key p.key = true
      · rw [if_pos hl]
        have := layOne_ok p ho2 hl
        simp only [okSt, hq.1, decide_eq_true hq.2, this, Bool.and_self]
      · rw [if_neg hl]
        split
        · exact ho
        · rename_i h
          have h2 : Op.bytesLess p.key q.key = true := lt_tot (by simpa using hl) e
          have : gtO (some p.key) q.key = true := h2
          simp only [okSt, hg, decide_eq_true h, this, decide_eq_true hq.2, ho2, Bool.and_self]
theorem layOne_val : ∀ {l : List Pair} {a : Option Tx} (p : Pair) (k : Tx), okSt a l = true → valOf (layOne l p) k = if p.key = k then p.val else valOf l k
  | [], a, p, k, _ => by
    unfold layOne
    by_cases h : p.val = []
    · rw [if_pos h, h]; simp [valOf]
    · rw [if_neg h]; rfl
  | q :: l, a, p, k, ho => by
    have ho2 : okSt (some q.key) l = true := by simp only [okSt, Bool.and_eq_true] at ho; exact ho.2
    unfold layOne
    by_cases e : q.key = p.key
    · rw [if_pos e]
      by_cases h : p.val = []
      · rw [if_pos h]
        by_cases ek : p.key = k
        · rw [if_pos ek, h, ← ek, ← e]
          exact valOf_out ho2 (gtO_irr _)
        · rw [if_neg ek]
          conv => rhs; unfold valOf
          rw [if_neg (by rw [e]; exact ek)]
      · rw [if_neg h]
        unfold valOf
        by_cases ek : p.key = k
        · rw [if_pos ek, if_pos ek]
        · rw [if_neg ek, if_neg ek, if_neg (by rw [e]; exact ek)]
    · rw [if_neg e]
      by_cases hl : Op.bytesLess q.key p.key = true
      · rw [if_pos hl]
        unfold valOf
        rw [layOne_val p k ho2]
        by_cases ek : p.key = k
        · rw [if_pos ek, if_neg (by rw [← ek]; exact e), if_pos ek]
        · rw [if_neg ek, if_neg ek]
      · rw [if_neg hl]
        by_cases h : p.val = []
        · rw [if_pos h]
          by_cases ek : p.key = k
          · rw [if_pos ek, h]
            have h2 : Op.bytesLess p.key q.key = true := lt_tot (by simpa using hl) e
            unfold valOf
            rw [if_neg (by rw [← ek]; exact e)]
            exact valOf_out ho2 (by rw [← ek]; exact lt_asym h2)
          · rw [if_neg ek]
        · rw [if_neg h]
          conv => lhs; unfold valOf
theorem last_none (key : Tx) (l : List Pair) (h : ∀ q ∈ l, q.key ≠ key) : lastL l key = [] := last_skip key l [] h
def layAll (l : List Pair) : List Pair := l.foldl layOne []
theorem layAll_ok (l : List Pair) : ∀ (x : List Pair), okSt none x = true → okSt none (l.foldl layOne x) = true := by
  induction l with
  | nil => intro x h; exact h
  | cons p l ih => intro x h; rw [List.foldl_cons]; exact ih _ (layOne_ok p h rfl)
theorem layAll_val (l : List Pair) : ∀ (x : List Pair), okSt none x = true → ∀ k, valOf (l.foldl layOne x) k = l.foldl (fun v p => if p.key = k then p.val else v) (valOf x k) := by
  induction l with
  | nil => intro x h k; rfl
  | cons p l ih => intro x h k; rw [List.foldl_cons, List.foldl_cons, ih _ (layOne_ok p h rfl), layOne_val p k h]
theorem layOne_len (p : Pair) : ∀ x : List Pair, (layOne x p).length ≤ x.length + 1
  | [] => by unfold layOne; split <;> simp
  | q :: x => by
    have ih := layOne_len p x
    unfold layOne
    repeat' split
    all_goals simp only [List.length_cons]; omega
/-- The order that strings.Compare tells. -/
theorem compare_lt : ∀ a b : Tx, Lib.compareBytes a b < 0 ↔ Op.bytesLess a b = true
  | [], [] => by simp [Lib.compareBytes, Op.bytesLess]
  | [], _ :: _ => by simp [Lib.compareBytes, Op.bytesLess]
  | _ :: _, [] => by simp [Lib.compareBytes, Op.bytesLess]
  | a :: x, b :: y => by
    have ih := compare_lt x y
    rw [lt_cons]
    unfold Lib.compareBytes
    by_cases h1 : a < b
    · rw [if_pos h1]
      rw [UInt8.lt_iff_toNat_lt] at h1
      simp [h1]
    · rw [if_neg h1]
      by_cases h2 : b < a
      · rw [if_pos h2]
        rw [UInt8.lt_iff_toNat_lt] at h1 h2
        constructor
        · intro h; omega
        · rintro (h | ⟨rfl, _⟩)
          · exact absurd h h1
          · omega
      · rw [if_neg h2, ih]
        rw [UInt8.lt_iff_toNat_lt] at h1 h2
        have e : a = b := UInt8.toNat_inj.1 (by omega)
        subst e
        simp
end Go.Proofs.YtbkhmkcmbaffoaaGreatDoor.Eng.U


/- The sort of pairs by their keys, at the library's own sort. -/
set_option linter.unusedVariables false
set_option linter.unusedSectionVars false
set_option linter.unusedSimpArgs false
namespace Go.Proofs.YtbkhmkcmbaffoaaGreatDoor.S11
open Go Go.RowKit Go.Shelf Go.Proofs Go.Proofs.YtbkhmkcmbaffoaaGreatDoor.Eng Go.Proofs.YtbkhmkcmbaffoaaGreatDoor.Eng.U

def flatP (l : List Pair) : List Value := l.flatMap fun p => [.string (str p.key), .string (str p.val)]
theorem flatP_snoc (l : List Pair) (p : Pair) : flatP (l ++ [p]) = flatP l ++ [.string (str p.key), .string (str p.val)] := by simp [flatP]
theorem flatP_len (l : List Pair) : (flatP l).length = l.length * 2 := by
  induction l with
  | nil => rfl
  | cons p l ih =>
    show ([_, _] ++ flatP l).length = _
    rw [List.length_append, ih, List.length_cons]
    simp; omega
def Sorted (l : List Pair) : Prop := l.Pairwise fun p q => ¬ Lib.compareBytes q.key p.key < 0
def encP (p : Pair) : List Value := [.string (str p.key), .string (str p.val)]
def cmpP (x y : Pair) : Int := Lib.compareBytes x.key y.key
theorem flat_at : ∀ (l : List Pair) (t : Nat), t < l.length * 2 → (flatP l)[t]? = (encP (l.getD (t / 2) default))[t % 2]?
  | [], t, h => by simp at h
  | p :: l, 0, h => rfl
  | p :: l, 1, h => rfl
  | p :: l, t + 2, h => by
    have ih := flat_at l t (by simp at h; omega)
    have e1 : (t + 2) / 2 = t / 2 + 1 := by omega
    have e2 : (t + 2) % 2 = t % 2 := by omega
    rw [e1, e2]
    exact ih
theorem flatK_P (l : List Pair) : Go.Sort.flatK encP 2 l.toArray = (flatP l).toArray := by
  apply Array.ext
  · simp [flatP_len]
  · intro t h1 h2
    have h1' : t < l.length * 2 := by simpa using h1
    have hf := flat_at l t h1'
    have hg : (Go.Sort.flatK encP 2 l.toArray)[t]! = (encP l.toArray[t / 2]!)[t % 2]! := Go.Sort.get_flatK encP 2 l.toArray t (by simpa using h1')
    have hl : l.toArray[t / 2]! = l.getD (t / 2) default := by
      simp [Array.getElem!_eq_getD, Array.getD_eq_getD_getElem?, List.getD_eq_getElem?_getD]
    rw [getElem!_pos _ t h1] at hg
    rw [hg, hl]
    have h3 : t % 2 < (encP (l.getD (t / 2) default)).length := by
      show t % 2 < 2
      omega
    have h4 : (flatP l).toArray[t] = (flatP l)[t]'(by simpa using h2) := by simp
    rw [h4]
    rw [List.getElem?_eq_getElem (by simpa using h2), List.getElem?_eq_getElem h3] at hf
    rw [getElem!_pos (encP (l.getD (t / 2) default)) (t % 2) h3]
    exact (Option.some.inj hf).symm
theorem holds_id {w : World} {g : Nat} {cur : Array Value} {e : TypeId} {vs : List Value} (hb : w.heap[g]? = some (.cells cur e (0, 0))) (ht : cur.toList.take vs.length = vs) : Go.Sort.Holds id w g 0 vs.toArray := by
  intro j hj
  have hj' : j < vs.length := by simpa using hj
  refine ⟨?_, by simp [World.frozen?, hb]⟩
  have h1 : (cur.toList.take vs.length)[j]? = vs[j]? := by rw [ht]
  rw [List.getElem?_take_of_lt hj'] at h1
  simp only [World.cell?, hb, Nat.zero_add]
  simp only [Option.isSome_none, Bool.false_eq_true, if_false]
  rw [← Array.getElem?_toList, h1]
  simp [hj']
theorem heap_sorted_id {w : World} {g n : Nat} {os : Array Obj} {cur : Array Value} {e : TypeId} {fr : Nat × Nat} (d : Array Value) (hb : w.heap[g]? = some (.cells cur e fr)) :
    (Go.Sort.grow (Go.Sort.putRow id (Go.Sort.ahead w n) g 0 d) os).heap[g]? = some (.cells (Go.Sort.putCells id 0 d cur) e fr) := by
  have hg : g < w.heap.size := (Array.getElem?_eq_some_iff.1 hb).1
  rw [Go.Sort.heap_grow_old _ _ (by simpa using hg)]
  simp [Go.Sort.putRow, Go.Sort.mapBlock, Go.Sort.ahead, Array.getElem?_modify, hb, Go.Sort.onCells]
theorem grown_sorted_id {w : World} {g n : Nat} {os : Array Obj} (d : Array Value) : w.grownBy (Go.Sort.grow (Go.Sort.putRow id (Go.Sort.ahead w n) g 0 d) os) (some g) := by
  refine ⟨rfl, rfl, rfl, by simp, fun k hk hne => ?_⟩
  rw [Go.Sort.heap_grow_old _ _ (by simpa using hk)]
  have : g ≠ k := fun e => hne (by rw [e])
  simp [Go.Sort.putRow, Go.Sort.mapBlock, Go.Sort.ahead, Array.getElem?_modify, this]
theorem take_put_id (cur : Array Value) (ts : List Value) (h : ts.length ≤ cur.size) : (Go.Sort.putCells id 0 ts.toArray cur).toList.take ts.length = ts := by
  apply List.ext_getElem?
  intro j
  by_cases hj : j < ts.length
  · rw [List.getElem?_take_of_lt hj, Array.getElem?_toList]
    simp [Go.Sort.putCells, hj, show j < cur.size by omega]
  · rw [List.getElem?_take_eq_none (by omega), List.getElem?_eq_none (by omega)]
set_option maxHeartbeats 1000000 in
theorem cmp_walk (x y : Pair) (W : World) : Calls Tryz.prog 54 #[.agg #[.string (str x.key), .string (str x.val)], .agg #[.string (str y.key), .string (str y.val)]] W fun e w' => e = .returned (.int .i64 (cmpP x y)) ∧ ∃ q os', w' = Go.Sort.grow (W.drewN q) os' := by
  have hcon := fun W' => Tryz.strings_Compare (str x.key) (str y.key) W'
  change ∀ W', Calls Tryz.prog 55 _ _ (fun e w' => e = .returned (.int .i64 (cmpP x y)) ∧ _) at hcon
  generalize cmpP x y = r at hcon ⊢
  go_enter Tryz.func54, Tryz.ntmps54
  go_wp2_with (go_at_call 55; refine (hcon _).mono ?_; rintro e w' ⟨rfl, rfl⟩)
  go_ret
  exact ⟨rfl, 0, _, by rw [Go.Sort.alloc_eq_grow, Go.Sort.alloc_eq_grow, Go.Sort.grow_grow]; rfl⟩
theorem ltP (x y : Pair) : Go.Proofs.ltOf cmpP x y = Op.bytesLess x.key y.key := by
  unfold Go.Proofs.ltOf cmpP
  rw [Bool.eq_iff_iff, decide_eq_true_eq]
  exact compare_lt _ _
theorem swoP : Go.Sort.SWO (Go.Proofs.ltOf cmpP) where
  irrefl x := by rw [ltP]; exact lt_irr _
  trans x y z h1 h2 := by rw [ltP] at *; exact lt_tr h1 h2
  ntrans x y z h1 h2 := by
    rw [ltP] at *
    cases h : Op.bytesLess x.key z.key with
    | false => rfl
    | true =>
      by_cases e1 : x.key = y.key
      · rw [e1] at h; rw [h] at h2; exact h2
      · have h3 := lt_tot h1 e1
        rw [lt_tr h3 h] at h2
        exact h2
set_option maxRecDepth 1000000 in
theorem sort_calls (l : List Pair) (w : World) (g cap n1 : Nat) (cur : Array Value) (hbase : n1 ≤ g) (hb : w.heap[g]? = some (.cells cur 50 (0, 0))) (h1 : l.length ≤ cap) (h2 : cap ≤ maxLen) (h3 : cur.size = cap * 2) (h4 : cur.toList.take (l.length * 2) = flatP l) (hl : l.length ≤ 1000000) :
    Calls Tryz.prog 53 #[.slice (some ⟨g, 0, none⟩) l.length cap, .func (.func 54) #[] #[]] w fun e w' =>
      e = .returned (.tuple #[]) ∧ ∃ l', l'.Perm l ∧ Sorted l' ∧ w'.ownsRow n1 50 2 (.slice (some ⟨g, 0, none⟩) l.length cap) l'.length (flatP l') ∧ w.grownBy w' (some g) := by
  have eg : ∀ args w, (callFunc 54 args).run Tryz.prog w = .ok (.enter 54 args) w := enters_of Tryz.func54 (by kernel_rfl) rfl
  have hH : Go.Sort.HoldsK encP 2 w g 0 l.toArray := by
    unfold Go.Sort.HoldsK
    rw [flatK_P]
    exact holds_id hb (by rw [flatP_len]; exact h4)
  have hcon := Go.Proofs.AnyQ.slices_SortFunc Tryz.sortP 2 (fun w => (run_isAgg 50 Tryz.underlying50).trans (by kernel_rfl)) (fun w => (Go.Proofs.YtbkhmkcmbaffoaaGreatDoor.Eng.run_sizeOf (w := w) Tryz.underlying50).trans (by kernel_rfl)) encP (fun _ => rfl) (fun x v hv => by simp [encP] at hv; rcases hv with rfl | rfl <;> rfl) cmpP swoP 54 #[] g 0 cap l.toArray w eg (fun _ _ _ _ x y => cmp_walk x y _) hH (Array.getElem?_eq_some_iff.1 hb).1 (by simp; omega)
  change Calls Tryz.prog 53 _ _ _ at hcon
  have hs : l.toArray.size = l.length := by simp
  rw [hs] at hcon
  refine hcon.mono ?_
  rintro e w' ⟨he, d', n, os, ⟨p1, p2, p3⟩, hsd, rfl⟩
  refine ⟨he, d'.toList, ?_, ?_, ?_, ?_⟩
  · have e1 : d'.extract 0 l.length = d' := by rw [← hs, ← p1]; simp
    have e2 : l.toArray.extract 0 l.length = l.toArray := by rw [← hs]; simp
    rw [e1, e2] at p3
    simpa using p3
  · unfold Sorted
    rw [List.pairwise_iff_getElem]
    intro i j hi hj hij
    have hi' : i < d'.size := by simpa using hi
    have hj' : j < d'.size := by simpa using hj
    have := hsd i j (Nat.zero_le _) hij (by rw [p1, hs] at hj'; exact hj')
    rw [getElem!_pos d' i hi', getElem!_pos d' j hj'] at this
    unfold Go.Proofs.ltOf cmpP at this
    simpa using this
  · have hln : d'.toList.length = l.length := by rw [Array.length_toList, p1, hs]
    have hfl : (flatP d'.toList).length = l.length * 2 := by rw [flatP_len, hln]
    have hd : Go.Sort.flatK encP 2 d' = (flatP d'.toList).toArray := by rw [← flatK_P]
    refine ⟨hfl.trans (by rw [hln]), .inr ⟨g, cap, Go.Sort.putCells id 0 (flatP d'.toList).toArray cur, ?_, hbase, ?_, by rw [hln]; exact h1, h2, by simp [Go.Sort.putCells, h3], ?_⟩⟩
    · rw [hln]
    · show (Go.Sort.grow (Go.Sort.putRow id (Go.Sort.ahead w n) g 0 (Go.Sort.flatK encP 2 d')) os).heap[g]? = _
      rw [hd]
      exact heap_sorted_id _ hb
    · rw [hln, ← hfl]
      exact take_put_id cur _ (by rw [hfl, h3]; omega)
  · exact grown_sorted_id _
end Go.Proofs.YtbkhmkcmbaffoaaGreatDoor.S11


/- slices.Clone, walked: at pairs and at bytes. -/
set_option linter.unusedVariables false
set_option linter.unusedSimpArgs false
set_option linter.unusedSectionVars false
namespace Go.Proofs.YtbkhmkcmbaffoaaGreatDoor.S40
open Go Go.RowKit Go.Shelf Go.Proofs Go.Proofs.YtbkhmkcmbaffoaaGreatDoor.Eng Go.Proofs.YtbkhmkcmbaffoaaGreatDoor.Eng.U

theorem infoP : (Tryz.prog.info? 50).map (fun i => (i.zero, i.size, i.bytes)) = some (some (.agg #[.string ⟨#[]⟩, .string ⟨#[]⟩]), 2, 32) := by kernel_rfl
theorem infoB : (Tryz.prog.info? 5).map (fun i => (i.zero, i.size, i.bytes)) = some (some (.int .u8 0), 1, 1) := by kernel_rfl
theorem cell_alloc {w : World} {o : Obj} {x : Addr} {u : Value} (h : w.cell? x = some u) : (w.alloc o).cell? x = some u :=
  (World.cell?_of_block (Below.heap_alloc w o x.block (World.block_lt_of_cell? w x h))).trans h
set_option maxHeartbeats 2000000 in
set_option maxRecDepth 100000 in
theorem pairs_nil (w : World) : Calls Tryz.prog 48 #[.slice none 0 0] w fun e w' => e = .returned (.slice none 0 0) ∧ w' = w := by
  have hnil := fun (W : World) (a : Option Addr) (n c : Nat) => Go.Lib.run_eql_slice_nil (P := Tryz.prog) W 24 50 a n c 0 0 Tryz.underlying24
  go_enter Tryz.func48, Tryz.ntmps48
  go_wp2
  go_ret
  exact ⟨rfl, rfl⟩
set_option maxHeartbeats 2000000 in
set_option maxRecDepth 100000 in
theorem bytes_nil (w : World) : Calls Tryz.prog 88 #[.slice none 0 0] w fun e w' => e = .returned (.slice none 0 0) ∧ w' = w := by
  have hnil := fun (W : World) (a : Option Addr) (n c : Nat) => Go.Lib.run_eql_slice_nil (P := Tryz.prog) W 56 5 a n c 0 0 Tryz.underlying56
  go_enter Tryz.func88, Tryz.ntmps88
  go_wp2
  go_ret
  exact ⟨rfl, rfl⟩
set_option maxHeartbeats 2000000 in
set_option maxRecDepth 100000 in
theorem pairs_some (a : Addr) (m c : Nat) (news : List Value) (w : World) (hl : news.length = m * 2) (hnews : ∀ j u, news[j]? = some u → w.cell? (a.add j) = some u) (h1 : ∀ u ∈ news, u.oneCell' = true) (hm : m ≤ 1000000000) :
    Calls Tryz.prog 48 #[.slice (some a) m c] w fun e w' => ∃ v, e = .returned v ∧ w'.ownsRow w.heap.size 50 2 v m news ∧ Below w.heap.size w w' := by
  have hnil := fun (W : World) (a : Option Addr) (n c : Nat) => Go.Lib.run_eql_slice_nil (P := Tryz.prog) W 24 50 a n c 0 0 Tryz.underlying24
  obtain ⟨i0, hi, hz0, hz1, hz2⟩ := info_parts infoP
  refine (callsIn_wide (n := 3)).1 ?_
  refine callsIn_of_wp Tryz.func48 rfl trivial ?_ rfl
  simp only [Tryz.ntmps48, List.size_toArray, List.length_cons, List.length_nil, Nat.reduceAdd, Nat.reduceSub, Array.replicate_succ, Array.replicate_zero, List.push_toArray, List.append_toArray, List.nil_append, List.cons_append]
  have hrow : (w.alloc (.cells #[] 50)).ownsRow w.heap.size 50 2 (.slice (some ⟨w.heap.size, 0, none⟩) 0 0) 0 [] := World.ownsRow_made w #[] 0 (Nat.le_refl _) (Nat.zero_le _) rfl
  gi_wp2_with (gi_at_builtin; refine wpListIn_append_own _ rfl _ _ 24 rfl w.heap.size 50 i0 (.agg #[.string ⟨#[]⟩, .string ⟨#[]⟩]) 2 32 Tryz.underlying24 hi hz0 hz1 hz2 rfl (by decide) _ _ _ rfl hrow a m c news rfl hl (fun j u h => cell_alloc (hnews j u h)) h1 (by simp only [maxLen]; omega) (by omega) (by simp) ?_; intro v' w1 hown' hgrow _)
  refine bodyPost_ret (results_tmp rfl _ _ _) rfl ?_
  refine ⟨_, rfl, by simpa using hown', ((Below.refl _ w).alloc (Nat.le_refl _) _).grown hgrow (by simp) fun k e => ?_⟩
  have e : some w.heap.size = some k := e
  cases e
  exact Nat.le_refl _
set_option maxHeartbeats 2000000 in
set_option maxRecDepth 100000 in
theorem bytes_some (a : Addr) (m c : Nat) (news : List Value) (w : World) (hl : news.length = m * 1) (hnews : ∀ j u, news[j]? = some u → w.cell? (a.add j) = some u) (h1 : ∀ u ∈ news, u.oneCell' = true) (hm : m ≤ 1000000000) :
    Calls Tryz.prog 88 #[.slice (some a) m c] w fun e w' => ∃ v, e = .returned v ∧ w'.ownsRow w.heap.size 5 1 v m news ∧ Below w.heap.size w w' := by
  have hnil := fun (W : World) (a : Option Addr) (n c : Nat) => Go.Lib.run_eql_slice_nil (P := Tryz.prog) W 56 5 a n c 0 0 Tryz.underlying56
  obtain ⟨i0, hi, hz0, hz1, hz2⟩ := info_parts infoB
  refine (callsIn_wide (n := 3)).1 ?_
  refine callsIn_of_wp Tryz.func88 rfl trivial ?_ rfl
  simp only [Tryz.ntmps88, List.size_toArray, List.length_cons, List.length_nil, Nat.reduceAdd, Nat.reduceSub, Array.replicate_succ, Array.replicate_zero, List.push_toArray, List.append_toArray, List.nil_append, List.cons_append]
  have hrow : (w.alloc (.cells #[] 5)).ownsRow w.heap.size 5 1 (.slice (some ⟨w.heap.size, 0, none⟩) 0 0) 0 [] := World.ownsRow_made w #[] 0 (Nat.le_refl _) (Nat.zero_le _) rfl
  gi_wp2_with (gi_at_builtin; refine wpListIn_append_own _ rfl _ _ 56 rfl w.heap.size 5 i0 (.int .u8 0) 1 1 Tryz.underlying56 hi hz0 hz1 hz2 rfl (by decide) _ _ _ rfl hrow a m c news rfl hl (fun j u h => cell_alloc (hnews j u h)) h1 (by simp only [maxLen]; omega) (by omega) (by simp) ?_; intro v' w1 hown' hgrow _)
  refine bodyPost_ret (results_tmp rfl _ _ _) rfl ?_
  refine ⟨_, rfl, by simpa using hown', ((Below.refl _ w).alloc (Nat.le_refl _) _).grown hgrow (by simp) fun k e => ?_⟩
  have e : some w.heap.size = some k := e
  cases e
  exact Nat.le_refl _
end Go.Proofs.YtbkhmkcmbaffoaaGreatDoor.S40


/- rep.Records, walked. -/
set_option linter.unusedVariables false
set_option linter.unusedSectionVars false
set_option linter.unusedSimpArgs false
namespace Go.Proofs.YtbkhmkcmbaffoaaGreatDoor.S11
open Go Go.RowKit Go.Shelf Go.Proofs Go.Proofs.YtbkhmkcmbaffoaaGreatDoor.Eng Go.Proofs.YtbkhmkcmbaffoaaGreatDoor.Eng.U

def kPath : Tx := [112, 97, 116, 104]
def kLink : Tx := [108, 105, 110, 107, 112, 97, 116, 104]
def kUid : Tx := [117, 105, 100]
def kGid : Tx := [103, 105, 100]
def kSize : Tx := [115, 105, 122, 101]
def kTime : Tx := [109, 116, 105, 109, 101]
def kUser : Tx := [117, 110, 97, 109, 101]
def kGroup : Tx := [103, 110, 97, 109, 101]
def addP (c : Bool) (p : Pair) (l : List Pair) : List Pair := bif c then l else l ++ [p]
/-- The pairs of a head's records, as they are put. -/
def rawL (h : Head) (c : Int → Bool) (fn tu tg ts tm : Tx) : List Pair :=
  addP (c 10) ⟨kGroup, h.group⟩ (addP (c 9) ⟨kUser, h.user⟩ (addP (c 8) ⟨kTime, tm⟩ (addP (c 7) ⟨kSize, ts⟩ (addP (c 6) ⟨kGid, tg⟩ (addP (c 5) ⟨kUid, tu⟩ (addP (c 3) ⟨kLink, h.link⟩ (addP (c 2) ⟨kPath, fn⟩ h.extra)))))))
theorem addP_len (c : Bool) (p : Pair) (l : List Pair) : (addP c p l).length ≤ l.length + 1 := by cases c <;> simp [addP]
theorem add_pair (w0 : World) (n1 bh bl : Nat) (h : Head) (sv : Value) (l : List Pair) (W : World) (f : Int) (key val : Tx) (b : Bool)
    (hS : St w0 n1 bh bl h sv (flatP l) l.length W) (hn1 : w0.heap.size ≤ n1) (hbh : bh < n1) (hbl : w0.heap.size ≤ bl) (hne : bh ≠ bl) (hn : n1 ≤ W.heap.size) (hm : l.length ≤ 1000)
    (hcan : ∀ W1, Below w0.heap.size w0 W1 → Calls Tryz.prog 47 #[.int .i64 2, .agg (headV h sv), .int .i64 f] W1 fun e w' => e = .returned (.bool b) ∧ Below W1.heap.size W1 w') :
    Calls Tryz.prog 49 #[.int .i64 f, .string (str key), .string (str val), .pointer (some ⟨bh, 0, none⟩), .pointer (some ⟨bl, 0, none⟩)] W fun e W' =>
      e = .returned (.tuple #[]) ∧ St w0 n1 bh bl h sv (flatP (addP b ⟨key, val⟩ l)) (addP b ⟨key, val⟩ l).length W' ∧ n1 ≤ W'.heap.size := by
  refine (add_walk w0 n1 bh bl h sv (flatP l) l.length W f key val b hS hn1 hbh hbl hne hn hm (fun W1 hb => hcan W1 (hS.below.trans (hb.mono hS.below.size)))).mono ?_
  rintro e W' ⟨he, hs, hz⟩
  refine ⟨he, ?_, by omega⟩
  cases b with
  | true => exact hs
  | false =>
    have e1 : flatP (addP false ⟨key, val⟩ l) = flatP l ++ [.string (str key), .string (str val)] := flatP_snoc l ⟨key, val⟩
    have e2 : (addP false ⟨key, val⟩ l).length = l.length + 1 := by simp [addP]
    rw [e1, e2]
    exact hs
def fld (j : Nat) : Int := ([2, 3, 9, 10] : List Int).getD j 0
set_option maxRecDepth 100000 in
theorem idx4 (w : World) (i : Nat) (hi : i < 4) : Sem.run Tryz.prog (Instr.index 84 (.agg #[.int .i64 2, .int .i64 3, .int .i64 9, .int .i64 10]) (.int .i64 ((i : Nat) : Int))) w = .ok (.int .i64 (fld i)) w := by
  have hc : i = 0 ∨ i = 1 ∨ i = 2 ∨ i = 3 := by omega
  rcases hc with rfl | rfl | rfl | rfl <;> rfl
theorem own_low {w : World} {b b' : Nat} {e : TypeId} {size : Nat} {v : Value} {n : Nat} {xs : List Value} (h : w.ownsRow b e size v n xs) (hb : b' ≤ b) : w.ownsRow b' e size v n xs := by
  refine ⟨h.1, ?_⟩
  rcases h.2 with h | ⟨g, cap, cur, hv, hg, r⟩
  · exact .inl h
  · exact .inr ⟨g, cap, cur, hv, by omega, r⟩
theorem row_shape {w : World} {B e size n : Nat} {v : Value} {xs : List Value} (h : w.ownsRow B e size v n xs) : ∃ a m c, v = .slice a m c := by
  rcases h.2 with ⟨rfl, _⟩ | ⟨g, cap, cur, rfl, _⟩
  · exact ⟨_, _, _, rfl⟩
  · exact ⟨_, _, _, rfl⟩
structure Callees (h : Head) (sv : Value) (w : World) (wg : Int) (q3 q2 : Int → Bool) (fn tm : Tx) (tc : Int) (tx : Int → Tx) : Prop where
  wrong : ∀ W, Below w.heap.size w W → Calls Tryz.prog 12 #[.agg (headV h sv)] W fun e w' => e = .returned (.int .i64 wg) ∧ Below W.heap.size W w'
  can3 : ∀ f, f = 2 ∨ f = 3 ∨ f = 9 ∨ f = 10 → ∀ W, Below w.heap.size w W → Calls Tryz.prog 47 #[.int .i64 3, .agg (headV h sv), .int .i64 f] W fun e w' => e = .returned (.bool (q3 f)) ∧ Below W.heap.size W w'
  can2 : ∀ f, (1 ≤ f ∧ f ≤ 13) → ∀ W, Below w.heap.size w W → Calls Tryz.prog 47 #[.int .i64 2, .agg (headV h sv), .int .i64 f] W fun e w' => e = .returned (.bool (q2 f)) ∧ Below W.heap.size W w'
  print : ∀ W, Below w.heap.size w W → Calls Tryz.prog 50 #[.agg #[.int .i64 h.sec, .int .i64 h.nano]] W fun e w' => e = .returned (.tuple #[.string (str tm), .int .u8 tc]) ∧ Below W.heap.size W w'
  fulls : ∀ W, Below w.heap.size w W → Calls Tryz.prog 51 #[.agg (headV h sv)] W fun e w' => (∃ a n cap, e = .returned (.slice (some a) (n + 1) cap) ∧ w'.cell? a = some (.string (str fn))) ∧ Below W.heap.size W w'
  text : ∀ v, (v = h.uid ∨ v = h.gid ∨ v = h.size) → ∀ W, Below w.heap.size w W → Calls Tryz.prog 52 #[.int .i64 v] W fun e w' => e = .returned (.string (str (tx v))) ∧ Below W.heap.size W w'
set_option maxHeartbeats 8000000 in
set_option maxRecDepth 1000000 in
theorem records_walk (h : Head) (sv : Value) (w : World) (wg : Int) (q3 q2 : Int → Bool) (fn tm : Tx) (tc : Int) (tx : Int → Tx) (hC : Callees h sv w wg q3 q2 fn tm tc tx)
    (hclone : ∀ W, Below w.heap.size w W → Calls Tryz.prog 48 #[sv] W fun e w' => ∃ v, e = .returned v ∧ w'.ownsRow W.heap.size 50 2 v h.extra.length (flatP h.extra) ∧ Below W.heap.size W w') (hl : h.extra.length ≤ 100) :
    Calls Tryz.prog 14 #[.agg (headV h sv)] w fun e w' => Below w.heap.size w w' ∧ ((wg ≠ 0 ∧ e = .returned (.tuple #[.slice none 0 0, .int .u8 15])) ∨ (wg = 0 ∧ (∃ j, j < 4 ∧ q3 (fld j) = false) ∧ e = .returned (.tuple #[.slice none 0 0, .int .u8 13])) ∨
      (wg = 0 ∧ (∀ j, j < 4 → q3 (fld j) = true) ∧ ∃ v l', e = .returned (.tuple #[v, .int .u8 0]) ∧ w'.ownsRow w.heap.size 50 2 v l'.length (flatP l') ∧ l'.Perm (rawL h q2 fn (tx h.uid) (tx h.gid) (tx h.size) tm) ∧ Sorted l')) := by
  have hb0 : Below w.heap.size w (w.alloc (.cells (headV h sv) 26)) := (Below.refl _ w).alloc (Nat.le_refl _) _
  have hx0 : HBox (w.alloc (.cells (headV h sv) 26)) w.heap.size h sv := World.alloc_heap_new w _
  have c0 := HBox.cell hx0 0 _ rfl
  have c1 := HBox.cell hx0 1 _ rfl
  have c2 := HBox.cell hx0 2 _ rfl
  have c3 := HBox.cell hx0 3 _ rfl
  have c4 := HBox.cell hx0 4 _ rfl
  have c5 := HBox.cell hx0 5 _ rfl
  have c6 := HBox.cell hx0 6 _ rfl
  have c7 := HBox.cell hx0 7 _ rfl
  have c8 := HBox.cell hx0 8 _ rfl
  have c9 := HBox.cell hx0 9 _ rfl
  have c10 := HBox.cell hx0 10 _ rfl
  have c11 := HBox.cell hx0 11 _ rfl
  have c12 := HBox.cell hx0 12 _ rfl
  have c13 := HBox.cell hx0 13 _ rfl
  go_enter Tryz.func14, Tryz.ntmps14
  go_wp2_with (go_at_call 12; refine (hC.wrong _ hb0).mono ?_)
  rintro e w1 ⟨rfl, b1⟩
  have B1 := hb0.trans (b1.mono hb0.size)
  have hx1 : HBox w1 w.heap.size h sv := (b1.block _ (by simp)).trans hx0
  clear c0 c1 c2 c3 c4 c5 c6 c7 c8 c9 c10 c11 c12 c13
  go_wp2
  · have hw : (wg != 0) = true := by assumption
    refine bodyPost_ret (results_tmp2 rfl _ _ _) rfl ?_
    exact ⟨B1, .inl ⟨by simpa using hw, rfl⟩⟩
  have hw : (wg != 0) = false := by assumption
  have hw0 : wg = 0 := by simpa using hw
  have hwO : ∃ _ : Unit, wg = 0 := ⟨(), hw0⟩
  rw [hw]
  clear hw hw0
  go_loopw [14] (fun s14 W => ∃ i : Nat, (i = 0 ∧ s14 = .int .i64 0 ∨ i = 1 ∧ s14 = .int .i64 1 ∨ i = 2 ∧ s14 = .int .i64 2 ∨ i = 3 ∧ s14 = .int .i64 3 ∨ i = 4 ∧ s14 = .int .i64 4) ∧ (∀ j, j < i → q3 (fld j) = true) ∧ Below w.heap.size w W ∧ HBox W w.heap.size h sv) (fun s14 W => 4 - (intOf s14).toNat)
  case atStart =>
    exact ⟨0, .inl ⟨rfl, rfl⟩, fun j hj => by omega, B1, hx1⟩
  case round =>
    obtain ⟨i, hcs, hall, hBW, hxW⟩ := hrel
    have hlt : w.heap.size < wr.heap.size := (Array.getElem?_eq_some_iff.1 hxW).1
    have c0 := HBox.cell hxW 0 _ rfl
    have c1 := HBox.cell hxW 1 _ rfl
    have c2 := HBox.cell hxW 2 _ rfl
    have c3 := HBox.cell hxW 3 _ rfl
    have c4 := HBox.cell hxW 4 _ rfl
    have c5 := HBox.cell hxW 5 _ rfl
    have c6 := HBox.cell hxW 6 _ rfl
    have c7 := HBox.cell hxW 7 _ rfl
    have c8 := HBox.cell hxW 8 _ rfl
    have c9 := HBox.cell hxW 9 _ rfl
    have c10 := HBox.cell hxW 10 _ rfl
    have c11 := HBox.cell hxW 11 _ rfl
    have c12 := HBox.cell hxW 12 _ rfl
    have c13 := HBox.cell hxW 13 _ rfl
    rcases hcs with ⟨rfl, rfl⟩ | ⟨rfl, rfl⟩ | ⟨rfl, rfl⟩ | ⟨rfl, rfl⟩ | ⟨rfl, rfl⟩
    · have hix := idx4 wr 0 (by omega)
      change Sem.run _ (Instr.index _ _ (.int .i64 0)) wr = .ok (.int .i64 2) wr at hix
      go_wp2_with (first | (rw [hix]) | (go_at_call 47; refine (hC.can3 2 (by omega) _ hBW).mono ?_))
      rintro e W1 ⟨rfl, b2⟩
      have B2 := hBW.trans (b2.mono hBW.size)
      have hx2 : HBox W1 w.heap.size h sv := (b2.block _ hlt).trans hxW
      cases hc : q3 2 with
      | false =>
        go_wp2
        refine bodyPost_ret (results_tmp2 rfl _ _ _) rfl ?_
        exact ⟨B2, .inr (.inl ⟨let ⟨_, hw0⟩ := hwO; hw0, ⟨0, by omega, hc⟩, rfl⟩)⟩
      | true =>
        go_wp2
        go_roundw
        case rel =>
          refine ⟨1, by simp, fun j hj => ?_, B2, hx2⟩
          by_cases e : j = 0
          · subst e; exact hc
          · exact hall j (by omega)
        case measure =>
          show 4 - (intOf (.int .i64 1)).toNat < 4 - (intOf (.int .i64 0)).toNat
          decide
    · have hix := idx4 wr 1 (by omega)
      change Sem.run _ (Instr.index _ _ (.int .i64 1)) wr = .ok (.int .i64 3) wr at hix
      go_wp2_with (first | (rw [hix]) | (go_at_call 47; refine (hC.can3 3 (by omega) _ hBW).mono ?_))
      rintro e W1 ⟨rfl, b2⟩
      have B2 := hBW.trans (b2.mono hBW.size)
      have hx2 : HBox W1 w.heap.size h sv := (b2.block _ hlt).trans hxW
      cases hc : q3 3 with
      | false =>
        go_wp2
        refine bodyPost_ret (results_tmp2 rfl _ _ _) rfl ?_
        exact ⟨B2, .inr (.inl ⟨let ⟨_, hw0⟩ := hwO; hw0, ⟨1, by omega, hc⟩, rfl⟩)⟩
      | true =>
        go_wp2
        go_roundw
        case rel =>
          refine ⟨2, by simp, fun j hj => ?_, B2, hx2⟩
          by_cases e : j = 1
          · subst e; exact hc
          · exact hall j (by omega)
        case measure =>
          show 4 - (intOf (.int .i64 2)).toNat < 4 - (intOf (.int .i64 1)).toNat
          decide
    · have hix := idx4 wr 2 (by omega)
      change Sem.run _ (Instr.index _ _ (.int .i64 2)) wr = .ok (.int .i64 9) wr at hix
      go_wp2_with (first | (rw [hix]) | (go_at_call 47; refine (hC.can3 9 (by omega) _ hBW).mono ?_))
      rintro e W1 ⟨rfl, b2⟩
      have B2 := hBW.trans (b2.mono hBW.size)
      have hx2 : HBox W1 w.heap.size h sv := (b2.block _ hlt).trans hxW
      cases hc : q3 9 with
      | false =>
        go_wp2
        refine bodyPost_ret (results_tmp2 rfl _ _ _) rfl ?_
        exact ⟨B2, .inr (.inl ⟨let ⟨_, hw0⟩ := hwO; hw0, ⟨2, by omega, hc⟩, rfl⟩)⟩
      | true =>
        go_wp2
        go_roundw
        case rel =>
          refine ⟨3, by simp, fun j hj => ?_, B2, hx2⟩
          by_cases e : j = 2
          · subst e; exact hc
          · exact hall j (by omega)
        case measure =>
          show 4 - (intOf (.int .i64 3)).toNat < 4 - (intOf (.int .i64 2)).toNat
          decide
    · have hix := idx4 wr 3 (by omega)
      change Sem.run _ (Instr.index _ _ (.int .i64 3)) wr = .ok (.int .i64 10) wr at hix
      go_wp2_with (first | (rw [hix]) | (go_at_call 47; refine (hC.can3 10 (by omega) _ hBW).mono ?_))
      rintro e W1 ⟨rfl, b2⟩
      have B2 := hBW.trans (b2.mono hBW.size)
      have hx2 : HBox W1 w.heap.size h sv := (b2.block _ hlt).trans hxW
      cases hc : q3 10 with
      | false =>
        go_wp2
        refine bodyPost_ret (results_tmp2 rfl _ _ _) rfl ?_
        exact ⟨B2, .inr (.inl ⟨let ⟨_, hw0⟩ := hwO; hw0, ⟨3, by omega, hc⟩, rfl⟩)⟩
      | true =>
        go_wp2
        go_roundw
        case rel =>
          refine ⟨4, by simp, fun j hj => ?_, B2, hx2⟩
          by_cases e : j = 3
          · subst e; exact hc
          · exact hall j (by omega)
        case measure =>
          show 4 - (intOf (.int .i64 4)).toNat < 4 - (intOf (.int .i64 3)).toNat
          decide
    · go_wp2_with (go_at_call 48; refine (hclone _ hBW).mono ?_)
      rintro e W1 ⟨cv, rfl, hrow, b2⟩
      obtain ⟨ca, cn, cc, rfl⟩ := row_shape hrow
      have B2 := hBW.trans (b2.mono hBW.size)
      have hx2 : HBox W1 w.heap.size h sv := (b2.block _ hlt).trans hxW
      have hW1 : wr.heap.size ≤ W1.heap.size := b2.size
      have a1 := Boxed.new W1 24 (.slice ca cn cc)
      have s0 : St w wr.heap.size w.heap.size W1.heap.size h sv (flatP h.extra) h.extra.length (W1.alloc (.cells #[.slice ca cn cc] 24)) := by
        refine ⟨(Below.heap_alloc _ _ _ (Array.getElem?_eq_some_iff.1 hx2).1).trans hx2, ⟨_, a1, hrow.alloc _⟩, B2.alloc (by omega) _⟩
      clear c0 c1 c2 c3 c4 c5 c6 c7 c8 c9 c10 c11 c12 c13
      have d7 := HBox.cell s0.head 7 _ rfl
      have d8 := HBox.cell s0.head 8 _ rfl
      have z1 := (Boxed.new W1 24 (.slice none 0 0)).cell
      have z2 := (Boxed.new W1 24 (.slice none 0 0)).frozen
      go_wp2_with (go_at_call 50; refine (hC.print _ s0.below).mono ?_)
      rintro e W2 ⟨rfl, b3⟩
      have l0 : h.extra.length ≤ 100 := hl
      have l1 : (addP (q2 2) ⟨kPath, fn⟩ h.extra).length ≤ 101 := Nat.le_trans (addP_len _ _ _) (by have := l0; omega)
      have l2 : (addP (q2 3) ⟨kLink, h.link⟩ (addP (q2 2) ⟨kPath, fn⟩ h.extra)).length ≤ 102 := Nat.le_trans (addP_len _ _ _) (by have := l1; omega)
      have l3 : (addP (q2 5) ⟨kUid, tx h.uid⟩ (addP (q2 3) ⟨kLink, h.link⟩ (addP (q2 2) ⟨kPath, fn⟩ h.extra))).length ≤ 103 := Nat.le_trans (addP_len _ _ _) (by have := l2; omega)
      have l4 : (addP (q2 6) ⟨kGid, tx h.gid⟩ (addP (q2 5) ⟨kUid, tx h.uid⟩ (addP (q2 3) ⟨kLink, h.link⟩ (addP (q2 2) ⟨kPath, fn⟩ h.extra)))).length ≤ 104 := Nat.le_trans (addP_len _ _ _) (by have := l3; omega)
      have l5 : (addP (q2 7) ⟨kSize, tx h.size⟩ (addP (q2 6) ⟨kGid, tx h.gid⟩ (addP (q2 5) ⟨kUid, tx h.uid⟩ (addP (q2 3) ⟨kLink, h.link⟩ (addP (q2 2) ⟨kPath, fn⟩ h.extra))))).length ≤ 105 := Nat.le_trans (addP_len _ _ _) (by have := l4; omega)
      have l6 : (addP (q2 8) ⟨kTime, tm⟩ (addP (q2 7) ⟨kSize, tx h.size⟩ (addP (q2 6) ⟨kGid, tx h.gid⟩ (addP (q2 5) ⟨kUid, tx h.uid⟩ (addP (q2 3) ⟨kLink, h.link⟩ (addP (q2 2) ⟨kPath, fn⟩ h.extra)))))).length ≤ 106 := Nat.le_trans (addP_len _ _ _) (by have := l5; omega)
      have l7 : (addP (q2 9) ⟨kUser, h.user⟩ (addP (q2 8) ⟨kTime, tm⟩ (addP (q2 7) ⟨kSize, tx h.size⟩ (addP (q2 6) ⟨kGid, tx h.gid⟩ (addP (q2 5) ⟨kUid, tx h.uid⟩ (addP (q2 3) ⟨kLink, h.link⟩ (addP (q2 2) ⟨kPath, fn⟩ h.extra))))))).length ≤ 107 := Nat.le_trans (addP_len _ _ _) (by have := l6; omega)
      have t0 := s0.next b3
      have m0 : wr.heap.size ≤ W2.heap.size := by have := b3.size; simp at this; omega
      clear d7 d8 z1 z2 s0 b3
      have c0 := HBox.cell t0.head 0 _ rfl
      have c1 := HBox.cell t0.head 1 _ rfl
      have c2 := HBox.cell t0.head 2 _ rfl
      have c3 := HBox.cell t0.head 3 _ rfl
      have c4 := HBox.cell t0.head 4 _ rfl
      have c5 := HBox.cell t0.head 5 _ rfl
      have c6 := HBox.cell t0.head 6 _ rfl
      have c7 := HBox.cell t0.head 7 _ rfl
      have c8 := HBox.cell t0.head 8 _ rfl
      have c9 := HBox.cell t0.head 9 _ rfl
      have c10 := HBox.cell t0.head 10 _ rfl
      have c11 := HBox.cell t0.head 11 _ rfl
      have c12 := HBox.cell t0.head 12 _ rfl
      have c13 := HBox.cell t0.head 13 _ rfl
      go_wp2_with (go_at_call 51; refine (hC.fulls _ t0.below).mono ?_)
      rintro e W3 ⟨⟨fa, fm, fcap, rfl, hfc⟩, b4⟩
      clear c0 c1 c2 c3 c4 c5 c6 c7 c8 c9 c10 c11 c12 c13
      have t1 := t0.next b4
      have m1 : wr.heap.size ≤ W3.heap.size := Nat.le_trans m0 b4.size
      clear t0 m0 b4
      go_wp2_with (go_at_call 49; refine (add_pair w wr.heap.size w.heap.size W1.heap.size h sv _ _ 2 kPath fn (q2 2) t1 (Nat.le_of_lt hlt) hlt (by omega) (by omega) m1 (Nat.le_trans l0 (by omega)) (hC.can2 2 (by omega))).mono ?_)
      rintro e W4 ⟨rfl, t2, m2⟩
      clear t1 m1 hfc
      have d2 := HBox.cell t2.head 2 _ rfl
      go_wp2_with (go_at_call 49; refine (add_pair w wr.heap.size w.heap.size W1.heap.size h sv _ _ 3 kLink h.link (q2 3) t2 (Nat.le_of_lt hlt) hlt (by omega) (by omega) m2 (Nat.le_trans l1 (by omega)) (hC.can2 3 (by omega))).mono ?_)
      rintro e W5 ⟨rfl, t3, m3⟩
      clear t2 m2 d2
      have d4 := HBox.cell t3.head 4 _ rfl
      go_wp2_with (go_at_call 52; refine (hC.text _ (by simp) _ t3.below).mono ?_)
      rintro e W6 ⟨rfl, b4⟩
      clear d4
      have t4 := t3.next b4
      have m4 : wr.heap.size ≤ W6.heap.size := Nat.le_trans m3 b4.size
      clear t3 m3 b4
      go_wp2_with (go_at_call 49; refine (add_pair w wr.heap.size w.heap.size W1.heap.size h sv _ _ 5 kUid (tx h.uid) (q2 5) t4 (Nat.le_of_lt hlt) hlt (by omega) (by omega) m4 (Nat.le_trans l2 (by omega)) (hC.can2 5 (by omega))).mono ?_)
      rintro e W7 ⟨rfl, t5, m5⟩
      clear t4 m4
      have d5 := HBox.cell t5.head 5 _ rfl
      go_wp2_with (go_at_call 52; refine (hC.text _ (by simp) _ t5.below).mono ?_)
      rintro e W8 ⟨rfl, b4⟩
      clear d5
      have t6 := t5.next b4
      have m6 : wr.heap.size ≤ W8.heap.size := Nat.le_trans m5 b4.size
      clear t5 m5 b4
      go_wp2_with (go_at_call 49; refine (add_pair w wr.heap.size w.heap.size W1.heap.size h sv _ _ 6 kGid (tx h.gid) (q2 6) t6 (Nat.le_of_lt hlt) hlt (by omega) (by omega) m6 (Nat.le_trans l3 (by omega)) (hC.can2 6 (by omega))).mono ?_)
      rintro e W9 ⟨rfl, t7, m7⟩
      clear t6 m6
      have d6 := HBox.cell t7.head 6 _ rfl
      go_wp2_with (go_at_call 52; refine (hC.text _ (by simp) _ t7.below).mono ?_)
      rintro e W10 ⟨rfl, b4⟩
      clear d6
      have t8 := t7.next b4
      have m8 : wr.heap.size ≤ W10.heap.size := Nat.le_trans m7 b4.size
      clear t7 m7 b4
      go_wp2_with (go_at_call 49; refine (add_pair w wr.heap.size w.heap.size W1.heap.size h sv _ _ 7 kSize (tx h.size) (q2 7) t8 (Nat.le_of_lt hlt) hlt (by omega) (by omega) m8 (Nat.le_trans l4 (by omega)) (hC.can2 7 (by omega))).mono ?_)
      rintro e W11 ⟨rfl, t9, m9⟩
      clear t8 m8
      go_wp2_with (go_at_call 49; refine (add_pair w wr.heap.size w.heap.size W1.heap.size h sv _ _ 8 kTime tm (q2 8) t9 (Nat.le_of_lt hlt) hlt (by omega) (by omega) m9 (Nat.le_trans l5 (by omega)) (hC.can2 8 (by omega))).mono ?_)
      rintro e W12 ⟨rfl, t10, m10⟩
      clear t9 m9
      have d9 := HBox.cell t10.head 9 _ rfl
      go_wp2_with (go_at_call 49; refine (add_pair w wr.heap.size w.heap.size W1.heap.size h sv _ _ 9 kUser h.user (q2 9) t10 (Nat.le_of_lt hlt) hlt (by omega) (by omega) m10 (Nat.le_trans l6 (by omega)) (hC.can2 9 (by omega))).mono ?_)
      rintro e W13 ⟨rfl, t11, m11⟩
      clear t10 m10 d9
      have d10 := HBox.cell t11.head 10 _ rfl
      go_wp2_with (go_at_call 49; refine (add_pair w wr.heap.size w.heap.size W1.heap.size h sv _ _ 10 kGroup h.group (q2 10) t11 (Nat.le_of_lt hlt) hlt (by omega) (by omega) m11 (Nat.le_trans l7 (by omega)) (hC.can2 10 (by omega))).mono ?_)
      rintro e W14 ⟨rfl, t12, m12⟩
      clear t11 m11 d10
      have l8 := Nat.le_trans (addP_len (q2 10) ⟨kGroup, h.group⟩ _) (Nat.succ_le_succ l7)
      change (rawL h q2 fn (tx h.uid) (tx h.gid) (tx h.size) tm).length ≤ 108 at l8
      change St w wr.heap.size w.heap.size W1.heap.size h sv (flatP (rawL h q2 fn (tx h.uid) (tx h.gid) (tx h.size) tm)) (rawL h q2 fn (tx h.uid) (tx h.gid) (tx h.size) tm).length W14 at t12
      have hall' : ∀ j, j < 4 → q3 (fld j) = true := hall
      obtain ⟨_, hw0⟩ := hwO
      generalize hraw : rawL h q2 fn (tx h.uid) (tx h.gid) (tx h.size) tm = raw at l8 t12
      obtain ⟨lv, fv, fr⟩ := t12.box
      have fc := fv.cell
      have fb := t12.below
      rcases fr.2 with ⟨rfl, hz⟩ | ⟨g, cap, cur, rfl, hg, hgb, r1, r2, r3, r4⟩
      · have hr0 : raw = [] := List.eq_nil_of_length_eq_zero hz
        subst hr0
        go_wp2_with (go_at_call 53; refine (Go.Proofs.AnyF.slices_SortFunc_none { Tryz.sortP with } none 0 _ _).mono ?_)
        rintro e W' ⟨rfl, rfl⟩
        go_wp2
        refine bodyPost_ret (results_tmp2 rfl _ _ _) rfl ?_
        exact ⟨fb, .inr (.inr ⟨hw0, hall', _, [], rfl, World.ownsRow_nil _ _ _ _, by rw [hraw], List.Pairwise.nil⟩)⟩
      · have hsc := sort_calls raw W14 g cap wr.heap.size cur hg hgb r1 r2 r3 r4 (by omega)
        have hne : some W1.heap.size ≠ some g := fun e => by
          cases e
          rw [show W14.heap[W1.heap.size]? = some (.cells #[_] 24 (0, 0)) from fv] at hgb
          cases hgb
        go_wp2_with (go_at_call 53; refine hsc.mono ?_)
        rintro e W' ⟨rfl, l', hperm, hsort, hown, hgrow⟩
        have fv' : Boxed W' W1.heap.size 24 _ := fv.kept hgrow hne
        have fc' := fv'.cell
        have fb' : Below w.heap.size w W' := fb.grown hgrow fb.size fun j ej => by cases ej; omega
        go_wp2
        refine bodyPost_ret (results_tmp2 rfl _ _ _) rfl ?_
        have hln : l'.length = raw.length := hperm.length_eq
        exact ⟨fb', .inr (.inr ⟨hw0, hall', _, l', rfl, own_low (by rw [hln] at hown ⊢; exact hown) (Nat.le_of_lt hlt), by rw [hraw]; exact hperm, hsort⟩)⟩
end Go.Proofs.YtbkhmkcmbaffoaaGreatDoor.S11


/- The library's functions that the Dec laws call, in pieces: numbers to text and back, texts cut. -/
set_option linter.unusedVariables false
set_option linter.unusedSectionVars false
set_option linter.unusedSimpArgs false
namespace Go.Proofs.YtbkhmkcmbaffoaaGreatDoor.Eng.U
open Go Go.Proofs Go.Proofs.YtbkhmkcmbaffoaaGreatDoor.Eng Go.RowKit

theorem str_self (s : ByteArray) : str s.data.toList = s := by cases s; simp [str]
theorem ok_tup {f : FuncId} {args rs : List AV} (hr : rs.all (fun r => !r.isFresh && r.leaf) = true) (h : ∀ (S : Stab) (w : World) (vals : List Value), Agree S w → GlobOk glob S w → VL S args vals → Calls Tryz.prog f vals.toArray w fun e w' => ∃ vs : List Value, e = .returned (.tuple vs.toArray) ∧ rs.length = vs.length ∧ (∀ (S' : Stab) (j : Nat) (c : AV) (u : Value), rs[j]? = some c → vs[j]? = some u → V S' c u) ∧ Below w.heap.size w w') (hr2 : (args.all fun c => !c.isRes) = true := by rfl) : Ok Tryz.prog glob f args (.tup rs) := by
  refine Ok.of_plain (fun c hc => by simpa using List.all_eq_true.1 hr2 c hc) fun S w vals hag hG hV => ?_
  have key : ∀ (j : Nat) (c : AV), rs[j]? = some c → c.isFresh = false ∧ c.leaf = true := by
    intro j c hc
    have := List.all_eq_true.1 hr c (List.mem_of_getElem? hc)
    simpa using this
  refine (h S w vals hag hG hV).mono ?_
  rintro e w' ⟨vs, rfl, hl, hv, hb⟩
  refine ⟨_, S, rfl, fun _ _ h => h, agree_below hag hb, fun _ _ h => .inl h, hb, vs, rfl, hl, fun j c u hc hu => ?_, fun i j c d u v g hc hd hf => ?_⟩
  · have h1 := hv S j c u hc hu
    obtain ⟨h2, h3⟩ := key j c hc
    cases c <;> first | (cases h2; done) | (cases h3; done) | exact h1
  · rw [(key i c hc).1] at hf; cases hf
theorem V2 {S : Stab} {a b : AV} {u v : Value} (ha : V S a u) (hb : V S b v) : ∀ (j : Nat) (c : AV) (x : Value), [a, b][j]? = some c → [u, v][j]? = some x → V S c x := by
  intro j c x hc hx
  match j with
  | 0 => cases hc; cases hx; exact ha
  | 1 => cases hc; cases hx; exact hb
  | j + 2 => simp at hc
theorem eptr_inv {S : Stab} {cs : List AV} {off : Nat} {p : Value} (h : V S (.eptr cs off) p) : ∃ (a : Addr) (f : Nat → Value), p = .pointer (some (a.add off)) ∧ (∀ (j : Nat) (c : AV), cs[j]? = some c → S (a.add j) = some (f j)) ∧ (∀ (j : Nat) (c : AV), cs[j]? = some c → V S c (f j)) := by
  cases h with
  | eptr cs off a f g2 g3 g4 => exact ⟨a, f, rfl, g3, g4⟩
theorem glob_cell {S : Stab} {w : World} {g : Nat} {cs : List AV} (hag : Agree S w) (hG : GlobOk glob S w) (hg : glob g = some cs) (j : Nat) (c : AV) (hj : cs[j]? = some c) : ∃ u, w.cell? ⟨g, j, none⟩ = some u ∧ V S c u := by
  obtain ⟨h1, arr, t, f, h2, h3⟩ := hG g _ hg
  obtain ⟨a, fv, he, g3, g4⟩ := eptr_inv h1
  have ha : a.add j = ⟨g, j, none⟩ := by
    have he' : (⟨g, 0, none⟩ : Addr) = a.add 0 := by injection he with e; injection e
    obtain ⟨b, o, s⟩ := a
    cases s with
    | none => rw [add_lit', Nat.add_zero] at he'; cases he'; rw [add_lit', Nat.zero_add]
    | some s => simp [Addr.add] at he'
  have := hag _ _ (g3 j c hj)
  rw [ha] at this
  exact ⟨_, this, g4 j c hj⟩
theorem tab_of {S : Stab} {w : World} {g : Nat} {name : String} {k : IntKind} {zs : List Int} (hag : Agree S w) (hG : GlobOk glob S w) (hg : glob g = some (zs.map fun z => .int k z)) (hn : Tryz.prog.globalNamed name = some g) : Lib.TabIs Tryz.prog w name k zs := by
  obtain ⟨h1, arr, t, f, h2, h3⟩ := hG g _ hg
  unfold Lib.TabIs World.var?
  rw [hn]
  simp only [Option.bind_some, h2, Option.some.injEq]
  rw [List.length_map] at h3
  refine Array.ext' ?_
  refine List.ext_getElem? fun j => ?_
  by_cases hj : j < zs.length
  · obtain ⟨u, hu, hv⟩ := glob_cell hag hG hg j (.int k zs[j]) (by rw [List.getElem?_map, List.getElem?_eq_getElem hj]; rfl)
    rw [V_int hv] at hu
    have e : w.cell? ⟨g, j, none⟩ = arr[j]? := by simp [World.cell?, h2]
    rw [e] at hu
    rw [List.toList_toArray, List.getElem?_map, List.getElem?_eq_getElem hj]
    simpa using hu
  · rw [List.toList_toArray, List.getElem?_eq_none (by simp; omega), List.getElem?_eq_none (by simp; omega)]
theorem iface_of {S : Stab} {w : World} {g : Nat} (hag : Agree S w) (hG : GlobOk glob S w) (hg : glob g = some [.ifc]) : ∃ t v, w.cell? ⟨g, 0, none⟩ = some (.iface t v) := by
  obtain ⟨u, hu, hv⟩ := glob_cell hag hG hg 0 .ifc rfl
  cases hv
  exact ⟨_, _, hu⟩
theorem below_grow (w : World) (n : Nat) (os : Array Obj) : Below w.heap.size w (Sort.grow (w.drewN n) os) :=
  ⟨rfl, rfl, rfl, by simp [Sort.grow, World.drewN], fun k hk => by
    show (w.heap ++ os)[k]? = _
    rw [Array.getElem?_append_left hk]⟩

def pFmt : Piece := { f := strconv_FormatInt, ans := fun args => match args with
  | [.int .i64 n, .int .i64 b] => bif decide (b = 10) && decide (-9223372036854775808 ≤ n) && decide (n ≤ 9223372036854775807) then some (.str (str (Lib.itoa n))) else none
  | _ => none }
def pItoa : Piece := { f := strconv_Itoa, ans := fun args => match args with
  | [.int .i64 n] => bif decide (-9223372036854775808 ≤ n) && decide (n ≤ 9223372036854775807) then some (.str (str (Lib.itoa n))) else none
  | _ => none }
def pCutP : Piece := { f := strings_CutPrefix, ans := fun args => match args with
  | [.str s, .str p] => some (.tup [.str (str (Lib.trimPrefix s.data.toList p.data.toList)), .bool (Lib.hasPrefix s.data.toList p.data.toList)])
  | _ => none }
def one (c : ByteArray) : Option UInt8 := match c.data.toList with | [x] => some x | _ => none
theorem one_some {c : ByteArray} {x : UInt8} (h : one c = some x) : c = ⟨#[x]⟩ := by
  unfold one at h
  split at h
  · rename_i y e
    cases h
    obtain ⟨⟨l⟩⟩ := c
    simp at e
    rw [e]
  · cases h
def pTrimR : Piece := { f := strings_TrimRight, ans := fun args => match args with
  | [.str s, .str c] => (one c).bind fun x => bif decide (x.toNat < 128) && decide (s.size ≤ 9223372036854775807) then some (.str (str (Lib.trimRightB s.data.toList x))) else none
  | _ => none }
def pIndex : Piece := { f := stringslite_Index, ans := fun args => match args with
  | [.str s, .str c] => (one c).bind fun x => some (.int .i64 (Lib.indexByte s.data.toList x))
  | _ => none }
def pIndexByte : Piece := { f := strings_IndexByte, ans := fun args => match args with
  | [.str s, .int .u8 c] => some (.int .i64 (Lib.indexByte s.data.toList c.toNat.toUInt8))
  | _ => none }
def pRepeat : Piece := { f := strings_Repeat, ans := fun args => match args with
  | [.str s, .int .i64 c] => bif decide (0 ≤ c) && decide (c ≤ 9223372036854775807) && decide (s.size * c.toNat ≤ 140737488355328) then some (.str (str (Lib.repeatL s.data.toList c.toNat))) else none
  | _ => none }
def pPInt : Piece := { f := strconv_ParseInt, ans := fun args => match args with
  | [.str s, .int .i64 b, .int .i64 z] => bif decide (b = 10) && decide (z = 64) && decide (s.size ≤ 281474976710656) then some (endI (Lib.parseIntB 64 s.data.toList) (Lib.intSat 64 s.data.toList)) else none
  | _ => none }
def pPUint : Piece := { f := strconv_ParseUint, ans := fun args => match args with
  | [.str s, .int .i64 b, .int .i64 z] => bif decide (b = 10) && decide (z = 64) && decide (s.size ≤ 281474976710656) then some (endU (Lib.parseUintB 64 s.data.toList)) else none
  | _ => none }
theorem fmt_right : pFmt.Right := by
  refine ⟨⟨Tryz.f101, Tryz.func101, by kernel_rfl, by kernel_rfl⟩, fun args res h => ?_⟩
  unfold pFmt at h
  dsimp only at h
  split at h
  · rename_i n b
    obtain ⟨hc, h'⟩ := some_of_bif h
    clear h
    simp only [Bool.and_eq_true, decide_eq_true_eq] at hc
    obtain ⟨⟨rfl, h1⟩, h2⟩ := hc
    obtain rfl := Option.some.inj h'
    refine ok_pure ⟨rfl, rfl⟩ fun S w vals hag hG hV => ?_
    obtain ⟨v, u, rfl, hv, hu⟩ := VL_2 hV
    obtain rfl := V_int hv
    obtain rfl := V_int hu
    refine (Tryz.strconv_FormatInt_10 n h1 h2 w (tab_of hag hG (g := 2) (zs := Lib.pow10Tab) rfl (by kernel_rfl))).mono ?_
    rintro e w' ⟨rfl, k, os, rfl⟩
    exact ⟨_, rfl, fun S' => V.str _, below_grow _ _ _⟩
  · cases h
theorem itoa_right : pItoa.Right := by
  refine ⟨⟨Tryz.f74, Tryz.func74, by kernel_rfl, by kernel_rfl⟩, fun args res h => ?_⟩
  unfold pItoa at h
  dsimp only at h
  split at h
  · rename_i n
    obtain ⟨hc, h'⟩ := some_of_bif h
    clear h
    simp only [Bool.and_eq_true, decide_eq_true_eq] at hc
    obtain ⟨h1, h2⟩ := hc
    obtain rfl := Option.some.inj h'
    refine ok_pure ⟨rfl, rfl⟩ fun S w vals hag hG hV => ?_
    obtain ⟨v, rfl, hv⟩ := VL_1 hV
    obtain rfl := V_int hv
    refine (Tryz.strconv_Itoa n h1 h2 w (tab_of hag hG (g := 2) (zs := Lib.pow10Tab) rfl (by kernel_rfl))).mono ?_
    rintro e w' ⟨rfl, k, os, rfl⟩
    exact ⟨_, rfl, fun S' => V.str _, below_grow _ _ _⟩
  · cases h
theorem cutP_right : pCutP.Right := by
  refine ⟨⟨Tryz.f165, Tryz.func165, by kernel_rfl, by kernel_rfl⟩, fun args res h => ?_⟩
  unfold pCutP at h
  dsimp only at h
  split at h
  · rename_i s p
    obtain rfl := Option.some.inj h
    refine ok_tup rfl fun S w vals hag hG hV => ?_
    obtain ⟨v, u, rfl, hv, hu⟩ := VL_2 hV
    obtain rfl := V_str hv
    obtain rfl := V_str hu
    refine (Tryz.strings_CutPrefix s p w).mono ?_
    rintro e w' ⟨rfl, rfl⟩
    exact ⟨[_, _], rfl, rfl, fun S' => V2 (V.str _) (V.bool _), Below.refl _ _⟩
  · cases h
theorem trimR_right : pTrimR.Right := by
  refine ⟨⟨Tryz.f102, Tryz.func102, by kernel_rfl, by kernel_rfl⟩, fun args res h => ?_⟩
  unfold pTrimR at h
  dsimp only at h
  split at h
  · rename_i s c
    obtain ⟨x, hx, h⟩ := Option.bind_eq_some_iff.1 h
    obtain rfl := one_some hx
    obtain ⟨hc, h'⟩ := some_of_bif h
    clear h
    simp only [Bool.and_eq_true, decide_eq_true_eq] at hc
    obtain rfl := Option.some.inj h'
    refine ok_pure ⟨rfl, rfl⟩ fun S w vals hag hG hV => ?_
    obtain ⟨v, u, rfl, hv, hu⟩ := VL_2 hV
    obtain rfl := V_str hv
    obtain rfl := V_str hu
    refine (Tryz.strings_TrimRight_one s x hc.1 w hc.2).mono ?_
    rintro e w' ⟨rfl, rfl⟩
    exact ⟨_, rfl, fun S' => V.str _, Below.refl _ _⟩
  · cases h
theorem index_right : pIndex.Right := by
  refine ⟨⟨Tryz.f213, Tryz.func213, by kernel_rfl, by kernel_rfl⟩, fun args res h => ?_⟩
  unfold pIndex at h
  dsimp only at h
  split at h
  · rename_i s c
    obtain ⟨x, hx, h⟩ := Option.bind_eq_some_iff.1 h
    obtain rfl := one_some hx
    obtain rfl := Option.some.inj h
    refine ok_pure ⟨rfl, rfl⟩ fun S w vals hag hG hV => ?_
    obtain ⟨v, u, rfl, hv, hu⟩ := VL_2 hV
    obtain rfl := V_str hv
    obtain rfl := V_str hu
    refine (Tryz.stringslite_Index_one s x w).mono ?_
    rintro e w' ⟨rfl, rfl⟩
    exact ⟨_, rfl, fun S' => V.int _ _, Below.refl _ _⟩
  · cases h
theorem indexByte_right : pIndexByte.Right := by
  refine ⟨⟨Tryz.f138, Tryz.func138, by kernel_rfl, by kernel_rfl⟩, fun args res h => ?_⟩
  unfold pIndexByte at h
  dsimp only at h
  split at h
  · rename_i s c
    obtain rfl := Option.some.inj h
    refine ok_pure ⟨rfl, rfl⟩ fun S w vals hag hG hV => ?_
    obtain ⟨v, u, rfl, hv, hu⟩ := VL_2 hV
    obtain rfl := V_str hv
    obtain rfl := V_int hu
    refine (Tryz.strings_IndexByte s c w).mono ?_
    rintro e w' ⟨rfl, rfl⟩
    exact ⟨_, rfl, fun S' => V.int _ _, Below.refl _ _⟩
  · cases h
theorem repeat_right : pRepeat.Right := by
  refine ⟨⟨Tryz.f168, Tryz.func168, by kernel_rfl, by kernel_rfl⟩, fun args res h => ?_⟩
  unfold pRepeat at h
  dsimp only at h
  split at h
  · rename_i s c
    obtain ⟨hc, h'⟩ := some_of_bif h
    clear h
    simp only [Bool.and_eq_true, decide_eq_true_eq] at hc
    obtain ⟨⟨h1, h2⟩, h3⟩ := hc
    obtain rfl := Option.some.inj h'
    refine ok_pure ⟨rfl, rfl⟩ fun S w vals hag hG hV => ?_
    obtain ⟨v, u, rfl, hv, hu⟩ := VL_2 hV
    obtain rfl := V_str hv
    obtain rfl := V_int hu
    obtain ⟨n, rfl⟩ := Int.eq_ofNat_of_zero_le h1
    rw [Int.toNat_natCast] at h3 ⊢
    refine (Tryz.strings_Repeat s n w (by omega) h3).mono ?_
    rintro e w' ⟨rfl, hb⟩
    exact ⟨_, rfl, fun S' => V.str _, hb⟩
  · cases h
theorem pInt_right : pPInt.Right := by
  refine ⟨⟨Tryz.f167, Tryz.func167, by kernel_rfl, by kernel_rfl⟩, fun args res h => ?_⟩
  unfold pPInt at h
  dsimp only at h
  split at h
  · rename_i s b z
    obtain ⟨hc, h'⟩ := some_of_bif h
    clear h
    simp only [Bool.and_eq_true, decide_eq_true_eq] at hc
    obtain ⟨⟨rfl, rfl⟩, h3⟩ := hc
    obtain rfl := Option.some.inj h'
    cases he : Lib.parseIntB 64 s.data.toList with
    | ok v =>
      refine ok_tup rfl fun S w vals hag hG hV => ?_
      obtain ⟨v1, v2, v3, rfl, g1, g2, g3⟩ := VL_3 hV
      obtain rfl := V_str g1
      obtain rfl := V_int g2
      obtain rfl := V_int g3
      refine (Tryz.strconv_ParseInt_10_at64_ok s (by omega) v he w).mono ?_
      rintro e w' ⟨rfl, hw⟩
      refine ⟨[_, _], rfl, rfl, fun S' => V2 (V.int _ _) V.nili, ?_⟩
      rcases hw with rfl | ⟨t, rfl⟩
      · exact Below.refl _ _
      · exact Lib.bytesWorld_below _ _ _
    | range =>
      refine ok_tup rfl fun S w vals hag hG hV => ?_
      obtain ⟨v1, v2, v3, rfl, g1, g2, g3⟩ := VL_3 hV
      obtain rfl := V_str g1
      obtain rfl := V_int g2
      obtain rfl := V_int g3
      obtain ⟨t, v, hi⟩ := iface_of (g := 4) hag hG rfl
      refine (Tryz.strconv_ParseInt_10_at64_range s h3 he _ w hi (.inr ⟨_, _, rfl⟩)).mono ?_
      rintro e w' ⟨N, rfl, _, _, hb⟩
      exact ⟨[_, _], rfl, rfl, fun S' => V2 (V.int _ _) (V.ifc _ _), hb⟩
    | _ =>
      refine ok_tup rfl fun S w vals hag hG hV => ?_
      obtain ⟨v1, v2, v3, rfl, g1, g2, g3⟩ := VL_3 hV
      obtain rfl := V_str g1
      obtain rfl := V_int g2
      obtain rfl := V_int g3
      obtain ⟨t, v, hi⟩ := iface_of (g := 3) hag hG rfl
      refine (Tryz.strconv_ParseInt_10_at64_syntax s h3 he _ w hi (.inr ⟨_, _, rfl⟩)).mono ?_
      rintro e w' ⟨N, rfl, _, _, hb⟩
      exact ⟨[_, _], rfl, rfl, fun S' => V2 (V.int _ _) (V.ifc _ _), hb⟩
  · cases h
theorem pUint_right : pPUint.Right := by
  refine ⟨⟨Tryz.f202, Tryz.func202, by kernel_rfl, by kernel_rfl⟩, fun args res h => ?_⟩
  unfold pPUint at h
  dsimp only at h
  split at h
  · rename_i s b z
    obtain ⟨hc, h'⟩ := some_of_bif h
    clear h
    simp only [Bool.and_eq_true, decide_eq_true_eq] at hc
    obtain ⟨⟨rfl, rfl⟩, h3⟩ := hc
    obtain rfl := Option.some.inj h'
    cases he : Lib.parseUintB 64 s.data.toList with
    | ok v =>
      refine ok_tup rfl fun S w vals hag hG hV => ?_
      obtain ⟨v1, v2, v3, rfl, g1, g2, g3⟩ := VL_3 hV
      obtain rfl := V_str g1
      obtain rfl := V_int g2
      obtain rfl := V_int g3
      refine (Tryz.strconv_ParseUint_10_at64_ok s (by omega) v he w).mono ?_
      rintro e w' ⟨rfl, hw⟩
      refine ⟨[_, _], rfl, rfl, fun S' => V2 (V.int _ _) V.nili, ?_⟩
      rcases hw with rfl | rfl
      · exact Below.refl _ _
      · exact Lib.bytesWorld_below _ _ _
    | range =>
      refine ok_tup rfl fun S w vals hag hG hV => ?_
      obtain ⟨v1, v2, v3, rfl, g1, g2, g3⟩ := VL_3 hV
      obtain rfl := V_str g1
      obtain rfl := V_int g2
      obtain rfl := V_int g3
      obtain ⟨t, v, hi⟩ := iface_of (g := 4) hag hG rfl
      refine (Tryz.strconv_ParseUint_10_at64_range s h3 he _ w hi (.inr ⟨_, _, rfl⟩)).mono ?_
      rintro e w' ⟨N, rfl, _, _, hb⟩
      exact ⟨[_, _], rfl, rfl, fun S' => V2 (V.int _ _) (V.ifc _ _), hb⟩
    | _ =>
      refine ok_tup rfl fun S w vals hag hG hV => ?_
      obtain ⟨v1, v2, v3, rfl, g1, g2, g3⟩ := VL_3 hV
      obtain rfl := V_str g1
      obtain rfl := V_int g2
      obtain rfl := V_int g3
      obtain ⟨t, v, hi⟩ := iface_of (g := 3) hag hG rfl
      refine (Tryz.strconv_ParseUint_10_at64_syntax s h3 he _ w hi (.inr ⟨_, _, rfl⟩)).mono ?_
      rintro e w' ⟨N, rfl, _, _, hb⟩
      exact ⟨[_, _], rfl, rfl, fun S' => V2 (V.int _ _) (V.ifc _ _), hb⟩
  · cases h
def ps04 : List Piece := [pFmt, pItoa, pCutP, pTrimR, pIndex, pIndexByte, pRepeat, pPInt, pPUint]
def ext04 : Ext := extOf ps04
instance core04 : Core ext04 := core_of (by kernel_rfl)
theorem num_of {ps : List Piece} (h1 : ps.find? (fun q => q.f == pFmt.f) = some pFmt) (h2 : ps.find? (fun q => q.f == pItoa.f) = some pItoa) (h3 : ps.find? (fun q => q.f == pCutP.f) = some pCutP) (h4 : ps.find? (fun q => q.f == pTrimR.f) = some pTrimR) (h5 : ps.find? (fun q => q.f == pIndex.f) = some pIndex) (h6 : ps.find? (fun q => q.f == pIndexByte.f) = some pIndexByte) (h7 : ps.find? (fun q => q.f == pRepeat.f) = some pRepeat) (h8 : ps.find? (fun q => q.f == pPInt.f) = some pPInt) (h9 : ps.find? (fun q => q.f == pPUint.f) = some pPUint) : HasNum (extOf ps) where
  fmt k n v g0 g1 := (kp_piece (k := k) (n := n) h1).trans (by
    show (bif decide ((10 : Int) = 10) && decide (-9223372036854775808 ≤ v) && decide (v ≤ 9223372036854775807) then _ else none) = _
    rw [decide_eq_true g0, decide_eq_true g1]
    rfl)
  itoa k n v g0 g1 := (kp_piece (k := k) (n := n) h2).trans (by
    show (bif decide (-9223372036854775808 ≤ v) && decide (v ≤ 9223372036854775807) then _ else none) = _
    rw [decide_eq_true g0, decide_eq_true g1]
    rfl)
  cutP k n s p := (kp_piece (k := k) (n := n) h3).trans rfl
  trimR k n s x g0 g1 := (kp_piece (k := k) (n := n) h4).trans (by
    show (bif decide (x.toNat < 128) && decide ((str s).size ≤ 9223372036854775807) then _ else none) = _
    rw [str_size, decide_eq_true g0, decide_eq_true g1]
    rfl)
  index k n s x := (kp_piece (k := k) (n := n) h5).trans rfl
  indexB k n s c := (kp_piece (k := k) (n := n) h6).trans rfl
  rep k n s c g0 g1 := (kp_piece (k := k) (n := n) h7).trans (by
    show (bif decide ((0 : Int) ≤ (c : Int)) && decide ((c : Int) ≤ 9223372036854775807) && decide ((str s).size * (Int.toNat (c : Int)) ≤ 140737488355328) then some (AV.str (str (Lib.repeatL s (Int.toNat (c : Int))))) else none) = _
    rw [str_size, Int.toNat_natCast, decide_eq_true (show (0 : Int) ≤ (c : Int) by omega), decide_eq_true (show (c : Int) ≤ 9223372036854775807 by omega), decide_eq_true g1]
    rfl)
  pint k n s g0 := (kp_piece (k := k) (n := n) h8).trans (by
    show (bif decide ((10 : Int) = 10) && decide ((64 : Int) = 64) && decide ((str s).size ≤ 281474976710656) then _ else none) = _
    rw [str_size, decide_eq_true g0]
    rfl)
  puint k n s g0 := (kp_piece (k := k) (n := n) h9).trans (by
    show (bif decide ((10 : Int) = 10) && decide ((64 : Int) = 64) && decide ((str s).size ≤ 281474976710656) then _ else none) = _
    rw [str_size, decide_eq_true g0]
    rfl)
instance num04 : HasNum ext04 := num_of rfl rfl rfl rfl rfl rfl rfl rfl rfl
end Go.Proofs.YtbkhmkcmbaffoaaGreatDoor.Eng.U


/- Pairs out of abstract values; answers that are a row and a number; what a list is in memory. -/
set_option linter.unusedVariables false
set_option linter.unusedSectionVars false
set_option linter.unusedSimpArgs false
namespace Go.Proofs.YtbkhmkcmbaffoaaGreatDoor.Eng.U
open Go Go.RowKit Go.Proofs Go.Proofs.YtbkhmkcmbaffoaaGreatDoor.Eng Go.Proofs.YtbkhmkcmbaffoaaGreatDoor.Eng.Rdv

def toPrs : List AV → Option (List Pair)
  | [] => some []
  | .agg [.str x, .str y] :: l => (toPrs l).map fun r => ⟨x.data.toList, y.data.toList⟩ :: r
  | _ => none
theorem toPrs_prs : ∀ l : List Pair, toPrs (prs l) = some l
  | [] => rfl
  | p :: l => by
    show (toPrs (prs l)).map (fun r => (⟨(str p.key).data.toList, (str p.val).data.toList⟩ : Pair) :: r) = _
    rw [toPrs_prs l]; rfl
theorem toPrs_some : ∀ {xs : List AV} {l : List Pair}, toPrs xs = some l → xs = prs l
  | [], l, h => by cases h; rfl
  | x :: xs, l, h => by
    unfold toPrs at h
    split at h
    · rename_i e; cases e
    · rename_i a b l' e
      cases e
      obtain ⟨r, hr, he⟩ := Option.map_eq_some_iff.1 h
      cases he
      rw [toPrs_some hr]
      have : ∀ s : ByteArray, str s.data.toList = s := str_self
      show AV.agg [.str a, .str b] :: prs r = AV.agg [.str (str a.data.toList), .str (str b.data.toList)] :: prs r
      rw [this, this]
    · cases h
theorem ok_rowint {f : FuncId} {args : List AV} {e : TypeId} {sz : Nat} {xs : List AV} {kk : IntKind} {z : Int} (h : ∀ (S : Stab) (w : World) (vals : List Value), Agree S w → GlobOk glob S w → VL S args vals → Calls Tryz.prog f vals.toArray w fun en w' => ∃ v us, en = .returned (.tuple #[v, .int kk z]) ∧ w'.ownsRow w.heap.size e sz v xs.length us ∧
      (∀ (i : Nat) (x : AV), xs[i]? = some x → x.cells.length = sz ∧ ∀ (j : Nat) (c : AV), x.cells[j]? = some c → c.leaf = true ∧ ∀ u, us[i * sz + j]? = some u → V S c u) ∧ Below w.heap.size w w') (hr : (args.all fun c => !c.isRes) = true := by rfl) : Ok Tryz.prog glob f args (.tup [.list sz xs, .int kk z]) := by
  refine Ok.of_plain (fun c hc => by simpa using List.all_eq_true.1 hr c hc) fun S w vals hag hG hV => ?_
  refine (h S w vals hag hG hV).mono ?_
  rintro en w' ⟨v, us, rfl, hown, hels, hb⟩
  obtain ⟨S', h1, h2, h3, h4⟩ := row_V (agree_below hag hb) hown hels
  refine ⟨_, S', rfl, h1, h2, h3, hb, [v, .int kk z], rfl, rfl, fun j c u hc hu => ?_, fun i j c d u v g hc hd hf => ?_⟩
  · match j, hc, hu with
    | 0, hc, hu => cases hc; cases hu; exact h4
    | 1, hc, hu => cases hc; cases hu; exact V.int _ _
  · match i, hc with
    | 0, hc => cases hc; cases hf
    | 1, hc => cases hc; cases hf
theorem list_inv {S : Stab} {sz : Nat} {xs : List AV} {v : Value} (h : V S (.list sz xs) v) : ∃ (ao : Option Addr) (cap : Nat), v = .slice ao xs.length cap ∧ ∀ (i : Nat) (x : AV), xs[i]? = some x → ∃ (a : Addr) (f : Nat → Value), ao = some a ∧ ∀ (j : Nat) (c : AV), x.cells[j]? = some c → S (a.add (i * sz + j)) = some (f j) ∧ V S c (f j) := by
  cases h with
  | list0 a b c => exact ⟨some _, _, rfl, fun i x h => by simp at h⟩
  | listn a => exact ⟨none, 0, rfl, fun i x h => by simp at h⟩
  | list a b ad cap f h0 h1 h2 h3 h4 => exact ⟨some ad, cap, rfl, fun i x hx => ⟨ad, f i, rfl, fun j c hc => ⟨h3 i x j c hx hc, h4 i x j c hx hc⟩⟩⟩
end Go.Proofs.YtbkhmkcmbaffoaaGreatDoor.Eng.U


/- ItemFulls over the library's pieces: strings.IndexAny at "=\\x00", decoding beside the numbers' own. -/
set_option linter.unusedVariables false
set_option linter.unusedSectionVars false
set_option linter.unusedSimpArgs false
namespace Go.Proofs.YtbkhmkcmbaffoaaGreatDoor.Eng.U
open Go Go.Proofs Go.Proofs.YtbkhmkcmbaffoaaGreatDoor.Eng Go.RowKit

/-- The tables of the decoder, off the variables. -/
theorem utf_tabs {S : Stab} {w : World} (hag : Agree S w) (hG : GlobOk glob S w) : Lib.Utf8Tabs 7 8 w := by
  refine ⟨fun c hc => ?_, fun i hi => ?_⟩
  · obtain ⟨u, hu, hv⟩ := glob_cell (g := 7) hag hG rfl c (.int .u8 (Lib.firstT c : Int)) (by rw [List.getElem?_map, List.getElem?_range hc]; rfl)
    rw [V_int hv] at hu
    exact hu
  · obtain ⟨u, hu, hv⟩ := glob_cell (g := 8) hag hG rfl (2 * i) (.int .u8 (Lib.accLo i : Int)) (by
      rw [List.getElem?_map, List.getElem?_range (by omega)]
      show some (AV.int .u8 (((if 2 * i % 2 = 0 then Lib.accLo (2 * i / 2) else Lib.accHi (2 * i / 2) : Nat) : Int))) = _
      rw [if_pos (by omega), show 2 * i / 2 = i from by omega])
    obtain ⟨u', hu', hv'⟩ := glob_cell (g := 8) hag hG rfl (2 * i + 1) (.int .u8 (Lib.accHi i : Int)) (by
      rw [List.getElem?_map, List.getElem?_range (by omega)]
      show some (AV.int .u8 (((if (2 * i + 1) % 2 = 0 then Lib.accLo ((2 * i + 1) / 2) else Lib.accHi ((2 * i + 1) / 2) : Nat) : Int))) = _
      rw [if_neg (by omega), show (2 * i + 1) / 2 = i from by omega])
    rw [V_int hv] at hu
    rw [V_int hv'] at hu'
    exact ⟨hu, hu'⟩
def pDec : Piece := { f := unicode_utf8_DecodeRuneInString, ans := fun args => match args with
  | [.str s] => some (.tup [.int .i32 (Lib.decodeGo s).1, .int .i64 (Lib.decodeGo s).2])
  | _ => none }
theorem dec_right : pDec.Right := by
  refine ⟨⟨Tryz.f225, Tryz.func225, by kernel_rfl, by kernel_rfl⟩, fun args res h => ?_⟩
  unfold pDec at h
  dsimp only at h
  split at h
  · rename_i s
    obtain rfl := Option.some.inj h
    refine ok_tup rfl fun S w vals hag hG hV => ?_
    obtain ⟨v, rfl, hv⟩ := VL_1 hV
    obtain rfl := V_str hv
    refine (Tryz.utf8_DecodeRuneInString s w (utf_tabs hag hG)).mono ?_
    rintro e w' ⟨rfl, hb⟩
    exact ⟨[_, _], rfl, rfl, fun S' => V2 (V.int _ _) (V.int _ _), hb⟩
  · cases h
def ps09a : List Piece := [pFmt, pItoa, pCutP, pTrimR, pIndex, pIndexByte, pRepeat, pPInt, pPUint, pDec]
def ext09a : Ext := { extOf ps09a with fs := strings_IndexAny :: coreFs }
theorem good09b (k : Nat) : (bs (extOf ps09a) k).Good := good_of (fun p hp => by
  simp only [ps09a, List.mem_cons, List.not_mem_nil, or_false] at hp
  rcases hp with rfl | rfl | rfl | rfl | rfl | rfl | rfl | rfl | rfl | rfl
  · exact fmt_right
  · exact itoa_right
  · exact cutP_right
  · exact trimR_right
  · exact index_right
  · exact indexByte_right
  · exact repeat_right
  · exact pInt_right
  · exact pUint_right
  · exact dec_right) names_ok k
theorem good09a (k : Nat) : (bs ext09a k).Good := { mixed := by kernel_rfl, names := by kernel_rfl, base := (good09b k).base }
instance core09a : Core ext09a where
  isB f hf := (core_of (ps := ps09a) (by kernel_rfl)).isB f hf
  has f hf := by
    show (strings_IndexAny :: coreFs).contains f = true
    rw [List.contains_cons, hf, Bool.or_true]
instance ib09a : HasIB ext09a := ⟨fun k n s c => (kp_base (E := ext09a) (by kernel_rfl)).trans rfl⟩
noncomputable def pAny : Piece := { f := strings_IndexAny, ans := fun args => match args with
  | [.str s, .str c] => bif decide (c = str [61, 0]) && decide (s.size ≤ 1000000) then (bif decide (8 < s.size) then some (.int .i64 (Lib.indexAny s.data.toList [61, 0])) else (bs ext09a 100).kap 3 strings_IndexAny [.str s, .str c]) else none
  | _ => none }
theorem any_right : pAny.Right := by
  refine ⟨⟨Tryz.f157, Tryz.func157, by kernel_rfl, by kernel_rfl⟩, fun args res h => ?_⟩
  unfold pAny at h
  dsimp only at h
  split at h
  · rename_i s c
    obtain ⟨hc, h'⟩ := some_of_bif h
    clear h
    simp only [Bool.and_eq_true, decide_eq_true_eq] at hc
    obtain ⟨rfl, h1⟩ := hc
    by_cases h8 : 8 < s.size
    · rw [decide_eq_true h8, cond_true] at h'
      obtain rfl := Option.some.inj h'
      refine ok_pure ⟨rfl, rfl⟩ fun S w vals hag hG hV => ?_
      obtain ⟨v, u, rfl, hv, hu⟩ := VL_2 hV
      obtain rfl := V_str hv
      obtain rfl := V_str hu
      have h2 : ∀ (j : Nat) b, (str [61, 0]).data.toList[j]? = some b → b.toNat < 128 := by
        intro j b hb
        match j, hb with
        | 0, hb => cases hb; decide
        | 1, hb => cases hb; decide
        | j + 2, hb => simp [str] at hb
      refine (Tryz.strings_IndexAny_long (fun w => by kernel_rfl) s (str [61, 0]) w (by decide) h8 (by omega) (by decide) h2).mono ?_
      rintro e w' ⟨rfl, rfl⟩
      exact ⟨_, rfl, fun S' => V.int _ _, ((Below.refl _ _).alloc (Nat.le_refl _) _).alloc (by simp) _⟩
    · rw [decide_eq_false h8, cond_false] at h'
      exact Base.ok (good09a 100) h'
  · cases h
noncomputable def ps09 : List Piece := [pFmt, pItoa, pCutP, pTrimR, pIndex, pIndexByte, pRepeat, pPInt, pPUint, pDec, pAny]
noncomputable def ext09 : Ext := extOf ps09
instance core09 : Core ext09 := core_of (by kernel_rfl)
instance num09 : HasNum ext09 := num_of rfl rfl rfl rfl rfl rfl rfl rfl rfl
instance text09 : HasText ext09 where
  dec k n s := ⟨_, _, (kp_piece (ps := ps09) (p := pDec) (k := k) (n := n) (args := [.str (str s)]) rfl).trans rfl⟩
  idx k n s hs := by
    have h := kp_piece (ps := ps09) (p := pAny) (k := k) (n := n) (args := [.str (str s), .str (str [61, 0])]) rfl
    have e : pAny.ans [.str (str s), .str (str [61, 0])] = (bif decide (str [61, 0] = str [61, 0]) && decide ((str s).size ≤ 1000000) then (bif decide (8 < (str s).size) then some (.int .i64 (Lib.indexAny (str s).data.toList [61, 0])) else (bs ext09a 100).kap 3 strings_IndexAny [.str (str s), .str (str [61, 0])]) else none) := rfl
    rw [e, str_size, decide_eq_true rfl, decide_eq_true hs, Bool.true_and, cond_true] at h
    by_cases h8 : 8 < s.length
    · rw [decide_eq_true h8, cond_true] at h
      exact ⟨_, h⟩
    · rw [decide_eq_false h8, cond_false] at h
      obtain ⟨r, hr⟩ := any_short (E := ext09a) (k := 100) (n := 0) (by kernel_rfl) (by kernel_rfl) (by omega) s (by omega)
      exact ⟨r, h.trans hr⟩
theorem good09 (k : Nat) : (bs ext09 k).Good := good_of (fun p hp => by
  simp only [ps09, List.mem_cons, List.not_mem_nil, or_false] at hp
  rcases hp with rfl | rfl | rfl | rfl | rfl | rfl | rfl | rfl | rfl | rfl | rfl
  · exact fmt_right
  · exact itoa_right
  · exact cutP_right
  · exact trimR_right
  · exact index_right
  · exact indexByte_right
  · exact repeat_right
  · exact pInt_right
  · exact pUint_right
  · exact dec_right
  · exact any_right) names_ok k
instance textV09 : HasTextV ext09 where
  dec k n s := (kp_piece (ps := ps09) (p := pDec) (k := k) (n := n) (args := [.str s]) rfl).trans rfl
  idx k n s hs := by
    have h := kp_piece (ps := ps09) (p := pAny) (k := k) (n := n) (args := [.str (str s), .str (str [61, 0])]) rfl
    have e : pAny.ans [.str (str s), .str (str [61, 0])] = (bif decide (str [61, 0] = str [61, 0]) && decide ((str s).size ≤ 1000000) then (bif decide (8 < (str s).size) then some (.int .i64 (Lib.indexAny (str s).data.toList [61, 0])) else (bs ext09a 100).kap 3 strings_IndexAny [.str (str s), .str (str [61, 0])]) else none) := rfl
    rw [e, str_size, decide_eq_true rfl, decide_eq_true hs, Bool.true_and, cond_true] at h
    by_cases h8 : 8 < s.length
    · rw [decide_eq_true h8, cond_true] at h
      exact ⟨_, h, any_long_v s⟩
    · rw [decide_eq_false h8, cond_false] at h
      obtain ⟨r, hr, hv⟩ := any_short_v (E := ext09a) (k := 100) (n := 0) (by kernel_rfl) (by kernel_rfl) (by omega) s (by omega)
      exact ⟨r, h.trans hr, hv⟩
end Go.Proofs.YtbkhmkcmbaffoaaGreatDoor.Eng.U


/- Overlays in plain words, part 3: laid again, and what stays. No program. -/
set_option linter.unusedVariables false
set_option linter.unusedSimpArgs false
namespace Go.Proofs.YtbkhmkcmbaffoaaGreatDoor.Eng.U
open Go Go.Proofs Go.Proofs.YtbkhmkcmbaffoaaGreatDoor.Eng

theorem lay_okst (l : List Pair) : okSt none (layAll l) = true := layAll_ok l [] rfl
theorem lay_val (l : List Pair) (k : Tx) : valOf (layAll l) k = lastL l k := layAll_val l [] rfl k
theorem mem_layOne : ∀ (x : List Pair) (p q : Pair), q ∈ layOne x p → q ∈ x ∨ q = p
  | [], p, q, h => by
    unfold layOne at h
    split at h
    · cases h
    · exact .inr (List.mem_singleton.1 h)
  | r :: x, p, q, h => by
    unfold layOne at h
    split at h
    · split at h
      · exact .inl (.tail _ h)
      · rcases List.mem_cons.1 h with rfl | h
        · exact .inr rfl
        · exact .inl (.tail _ h)
    · split at h
      · rcases List.mem_cons.1 h with rfl | h
        · exact .inl (.head _)
        · rcases mem_layOne x p q h with h | h
          · exact .inl (.tail _ h)
          · exact .inr h
      · split at h
        · exact .inl h
        · rcases List.mem_cons.1 h with rfl | h
          · exact .inr rfl
          · exact .inl h
theorem mem_lay : ∀ (l x : List Pair) (q : Pair), q ∈ l.foldl layOne x → q ∈ x ∨ q ∈ l
  | [], x, q, h => .inl h
  | p :: l, x, q, h => by
    rw [List.foldl_cons] at h
    rcases mem_lay l (layOne x p) q h with h | h
    · rcases mem_layOne x p q h with h | rfl
      · exact .inl h
      · exact .inr (.head _)
    · exact .inr (.tail _ h)
theorem mem_layAll {l : List Pair} {q : Pair} (h : q ∈ layAll l) : q ∈ l := by
  rcases mem_lay l [] q h with h | h
  · cases h
  · exact h
theorem lay_len (l : List Pair) : (layAll l).length ≤ l.length := by
  have : ∀ (l x : List Pair), (l.foldl layOne x).length ≤ x.length + l.length := by
    intro l
    induction l with
    | nil => intro x; simp
    | cons p l ih => intro x; have := ih (layOne x p); have := layOne_len p x; rw [List.foldl_cons, List.length_cons]; omega
  have h := this l []
  rw [List.length_nil, Nat.zero_add] at h
  exact h
end Go.Proofs.YtbkhmkcmbaffoaaGreatDoor.Eng.U


/- rep.Records as a given function: the pairs in the order of their keys, a new row. -/
set_option linter.unusedVariables false
set_option linter.unusedSectionVars false
set_option linter.unusedSimpArgs false
namespace Go.Proofs.YtbkhmkcmbaffoaaGreatDoor.Eng.U
open Go Go.RowKit Go.Proofs Go.Proofs.YtbkhmkcmbaffoaaGreatDoor.Eng Go.Proofs.YtbkhmkcmbaffoaaGreatDoor.Eng.Rdv Go.Proofs.YtbkhmkcmbaffoaaGreatDoor.S11 Go.Proofs.YtbkhmkcmbaffoaaGreatDoor.P04

/-! Heads out of abstract values. -/
def toHead : List AV → Option Head
  | [.int .i64 a, .str b, .str c, .int .i64 d, .int .i64 e, .int .i64 f, .int .i64 g, .int .i64 h, .int .i64 i, .str j, .str k, .int .i64 l, .int .i64 m, .list 2 xs] =>
    (toPrs xs).map fun ps => ⟨a, b.data.toList, c.data.toList, d, e, f, g, h, i, j.data.toList, k.data.toList, l, m, ps⟩
  | _ => none
theorem toHead_enc (h : Head) : toHead (encHead h) = some h := by
  show (toPrs (prs h.extra)).map _ = _
  rw [toPrs_prs]
  rfl
theorem toHead_some {cs : List AV} {h : Head} (hh : toHead cs = some h) : cs = encHead h := by
  unfold toHead at hh
  split at hh
  · obtain ⟨ps, hp, rfl⟩ := Option.map_eq_some_iff.1 hh
    rw [toPrs_some hp]
    have e : ∀ s : ByteArray, str s.data.toList = s := fun s => by unfold str; congr 1
    unfold encHead
    simp only [e]
  · cases hh
theorem headV_inv {S : Stab} {h : Head} {v : Value} (hv : V S (.agg (encHead h)) v) : ∃ sv, v = .agg (headV h sv) ∧ V S (.list 2 (prs h.extra)) sv := by
  generalize hx : encHead h = cs at hv
  cases hv with
  | agg _ vs h1 h2 h4 =>
    subst hx
    match vs, h1 with
    | [v0, v1, v2, v3, v4, v5, v6, v7, v8, v9, v10, v11, v12, v13], _ =>
      have g0 := V_int (h4 0 _ _ rfl rfl)
      have g1 := V_str (h4 1 _ _ rfl rfl)
      have g2 := V_str (h4 2 _ _ rfl rfl)
      have g3 := V_int (h4 3 _ _ rfl rfl)
      have g4 := V_int (h4 4 _ _ rfl rfl)
      have g5 := V_int (h4 5 _ _ rfl rfl)
      have g6 := V_int (h4 6 _ _ rfl rfl)
      have g7 := V_int (h4 7 _ _ rfl rfl)
      have g8 := V_int (h4 8 _ _ rfl rfl)
      have g9 := V_str (h4 9 _ _ rfl rfl)
      have g10 := V_str (h4 10 _ _ rfl rfl)
      have g11 := V_int (h4 11 _ _ rfl rfl)
      have g12 := V_int (h4 12 _ _ rfl rfl)
      have g13 := h4 13 _ _ rfl rfl
      subst g0 g1 g2 g3 g4 g5 g6 g7 g8 g9 g10 g11 g12
      exact ⟨v13, rfl, g13⟩
theorem VL1 {S : Stab} {x : AV} {v : Value} (h : V S x v) : VL S [x] [v] := ⟨rfl, fun j c u hc hu => by
  match j, hc, hu with
  | 0, hc, hu => cases hc; cases hu; exact h⟩
theorem VL3 {S : Stab} {x y z : AV} {u v t : Value} (h1 : V S x u) (h2 : V S y v) (h3 : V S z t) : VL S [x, y, z] [u, v, t] := ⟨rfl, fun j c w hc hw => by
  match j, hc, hw with
  | 0, hc, hw => cases hc; cases hw; exact h1
  | 1, hc, hw => cases hc; cases hw; exact h2
  | 2, hc, hw => cases hc; cases hw; exact h3⟩
/-- A call of what the engine evaluates, in a later memory. -/
theorem eng_calls {E : Ext} [Core E] {k n : Nat} (hB : (bs E k).Good) {f : FuncId} {args : List AV} {res : AV} (hk : kp E k n f args = some res) {S : Stab} {w W : World} {vals : List Value} (hag : Agree S w) (hG : GlobOk glob S w) (hV : VL S args vals) (hb : Below w.heap.size w W) :
    Calls Tryz.prog f vals.toArray W fun e w' => ∃ v S', e = .returned v ∧ S.le S' ∧ Agree S' w' ∧ Below W.heap.size W w' ∧ RetR Tryz.prog S' W w' args vals res v := by
  have hok := Base.ok (B := bs E k) hB (n := n) hk
  refine (hok.plain S W vals (agree_below hag hb) (hG.mono (fun _ _ h => h) hb) hV).mono ?_
  rintro e w' ⟨v, S', he, h1, h2, _, h3, h4⟩
  exact ⟨v, S', he, h1, h2, h3, h4⟩
def inR (v : Int) : Bool := decide (-9223372036854775808 ≤ v) && decide (v ≤ 9223372036854775807)
def okHd (h : Head) : Bool := decide (h.name.length ≤ 400000) && decide (h.link.length ≤ 400000) && decide (h.user.length ≤ 400000) && decide (h.group.length ≤ 400000) && decide (h.extra.length ≤ 100) && (h.extra.all fun p => decide (p.key.length ≤ 1000000) && decide (p.val.length ≤ 1000000)) && inR h.uid && inR h.gid && inR h.size && inR h.sec
structure OkHd (h : Head) : Prop where
  bd : BdF h
  ext : h.extra.length ≤ 100
  uid : -9223372036854775808 ≤ h.uid ∧ h.uid ≤ 9223372036854775807
  gid : -9223372036854775808 ≤ h.gid ∧ h.gid ≤ 9223372036854775807
  size : -9223372036854775808 ≤ h.size ∧ h.size ≤ 9223372036854775807
  sec : -9223372036854775808 ≤ h.sec ∧ h.sec ≤ 9223372036854775807
theorem okHd_iff {h : Head} : okHd h = true ↔ OkHd h := by
  unfold okHd inR
  simp only [Bool.and_eq_true, decide_eq_true_eq, List.all_eq_true]
  constructor
  · rintro ⟨⟨⟨⟨⟨⟨⟨⟨⟨a, b⟩, c⟩, d⟩, e⟩, f⟩, g⟩, i⟩, j⟩, k⟩
    exact ⟨⟨a, b, c, d, by omega, f⟩, e, g, i, j, k⟩
  · rintro ⟨⟨a, b, c, d, e, f⟩, e', g, i, j, k⟩
    exact ⟨⟨⟨⟨⟨⟨⟨⟨⟨a, b⟩, c⟩, d⟩, e'⟩, f⟩, g⟩, i⟩, j⟩, k⟩
/-! What the records are. -/
def rawH (h : Head) : List Pair := rawL h (canB 2 h) ((fulls h.kind h.name).headD []) (Lib.itoa h.uid) (Lib.itoa h.gid) (Lib.itoa h.size) (bif rightT h.nano then printL h.sec h.nano else [])
def recsL (h : Head) : List Pair := layAll (rawH h)
def texts3 (h : Head) : Bool := canB 3 h 2 && canB 3 h 3 && canB 3 h 9 && canB 3 h 10
def recA (h : Head) : List Pair × Int := if wrongH h = 0 then (if texts3 h = true then (recsL h, 0) else ([], 13)) else ([], 15)
noncomputable def pRec : Piece := { f := rep_Records, ans := fun args => match args with
  | [.agg cs] => (toHead cs).bind fun h => bif okHd h then some (.tup [.list 2 (prs (recA h).1), .int .u8 (recA h).2]) else none
  | _ => none }
/-! Pairs whose keys are other ones, in order: one list. -/
def keysN (l : List Pair) : Prop := l.Pairwise fun p q => p.key ≠ q.key
theorem keysN_perm {l l' : List Pair} (h : l'.Perm l) (hk : keysN l) : keysN l' := hk.perm h.symm fun hab e => hab e.symm
theorem sorted_okSt : ∀ (l : List Pair) (a : Option Tx), Sorted l → keysN l → (∀ p ∈ l, p.val ≠ []) → (∀ p ∈ l, gtO a p.key = true) → okSt a l = true
  | [], a, _, _, _, _ => rfl
  | p :: l, a, hs, hk, hv, hg => by
    obtain ⟨hs1, hs2⟩ := List.pairwise_cons.1 hs
    obtain ⟨hk1, hk2⟩ := List.pairwise_cons.1 hk
    have ih := sorted_okSt l (some p.key) hs2 hk2 (fun q hq => hv q (by simp [hq])) fun q hq => by
      have h1 : ¬ Op.bytesLess q.key p.key = true := fun h => hs1 q hq ((compare_lt _ _).2 h)
      show Op.bytesLess p.key q.key = true
      exact lt_tot (by simpa using h1) (fun e => hk1 q hq e.symm)
    unfold okSt
    rw [hg p (by simp), ih]
    simpa using hv p (by simp)
theorem last_mem {p : Pair} : ∀ (l : List Pair), keysN l → p ∈ l → lastL l p.key = p.val := by
  intro l hk hp
  obtain ⟨a, b, rfl⟩ := List.append_of_mem hp
  refine last_mid a b p fun q hq e => ?_
  have h2 := (List.pairwise_append.1 hk).2.1
  exact (List.pairwise_cons.1 h2).1 q hq e.symm
theorem sorted_lay {l l' : List Pair} (hp : l'.Perm l) (hs : Sorted l') (hk : keysN l) (hv : ∀ p ∈ l, p.val ≠ []) : l' = layAll l := by
  have hk' := keysN_perm hp hk
  have hv' : ∀ p ∈ l', p.val ≠ [] := fun p h => hv p (hp.mem_iff.1 h)
  have ho := sorted_okSt l' none hs hk' hv' fun p _ => rfl
  refine over_ext ho (lay_okst l) fun k => ?_
  rw [lay_val]
  by_cases hm : ∃ p ∈ l', p.key = k
  · obtain ⟨p, hpm, rfl⟩ := hm
    rw [valOf_ne ho p hpm, last_mem l hk (hp.mem_iff.1 hpm)]
  · have h1 : ∀ q ∈ l, q.key ≠ k := fun q hq e => hm ⟨q, hp.mem_iff.2 hq, e⟩
    have h2 : valOf l' k = [] := by
      have : ∀ (l : List Pair), (∀ q ∈ l, q.key ≠ k) → valOf l k = [] := by
        intro l
        induction l with
        | nil => intro _; rfl
        | cons p l ih =>
          intro h
          unfold valOf
          rw [if_neg (h p (by simp))]
          exact ih fun q hq => h q (by simp [hq])
      exact this l' fun q hq e => hm ⟨q, hq, e⟩
    rw [h2, last_none k l h1]
end Go.Proofs.YtbkhmkcmbaffoaaGreatDoor.Eng.U


/- How many bytes a record has: both sides. -/
set_option linter.unusedVariables false
set_option linter.unusedSectionVars false
set_option linter.unusedSimpArgs false
namespace Go.Proofs.YtbkhmkcmbaffoaaGreatDoor.Eng.U
open Go Go.Proofs Go.Proofs.YtbkhmkcmbaffoaaGreatDoor.Eng Go.Proofs.YtbkhmkcmbaffoaaGreatDoor.P04
variable {E : Ext} [Core E] [HasNum E] {k n : Nat}

def dl (u : Nat) : Nat := (Lib.decDigits u).length
theorem dl_small {u : Nat} (h : u < 10) : dl u = 1 := by unfold dl; rw [Lib.decDigits, dif_pos h]; rfl
theorem dl_big {u : Nat} (h : ¬ u < 10) : dl u = dl (u / 10) + 1 := by unfold dl; rw [decDigits_rec h, List.length_append]; rfl
theorem dl_pos (u : Nat) : 1 ≤ dl u := by
  by_cases h : u < 10
  · rw [dl_small h]; exact Nat.le_refl _
  · rw [dl_big h]; omega
theorem dl_mono : ∀ (b a : Nat), a ≤ b → dl a ≤ dl b := by
  intro b
  induction b using Nat.strongRecOn with
  | ind b ih =>
    intro a h
    by_cases ha : a < 10
    · rw [dl_small ha]; exact dl_pos b
    · rw [dl_big ha, dl_big (show ¬ b < 10 by omega)]
      have := ih (b / 10) (by omega) (a / 10) (by omega)
      omega
theorem dl_le (u : Nat) (h : u ≤ 9223372036854775807) : dl u ≤ 21 := dig_len u (by omega)
def lenF : Nat → Nat → Nat → Nat
  | 0, rest, m => m
  | f + 1, rest, m => if rest + dl m = m then m else lenF f rest (rest + dl m)
def restP (p : Pair) : Nat := p.key.length + p.val.length + 3
def lenP (p : Pair) : Nat := lenF 30 (restP p) (restP p)
theorem lenF_fix (rest : Nat) (hr : rest ≤ 100000000) : ∀ (f m : Nat), m ≤ rest + dl m → rest + 21 < m + f → m ≤ rest + 21 → rest + dl (lenF f rest m) = lenF f rest m ∧ lenF f rest m ≤ rest + 21 ∧ ∀ q, rest + dl q = q → m ≤ q → lenF f rest m ≤ q
  | 0, m, h1, h2, h3 => by omega
  | f + 1, m, h1, h2, h3 => by
    unfold lenF
    split
    · rename_i h; exact ⟨h, h3, fun q _ hq => hq⟩
    · rename_i h
      have hd := dl_le m (by omega)
      have hm : m < rest + dl m := by omega
      have hmono := dl_mono (rest + dl m) m (by omega)
      obtain ⟨i1, i2, i3⟩ := lenF_fix rest hr f (rest + dl m) (by omega) (by omega) (by omega)
      exact ⟨i1, i2, fun q hq hmq => i3 q hq (by have := dl_mono q m hmq; omega)⟩
theorem itoa_nat (u : Nat) : Lib.itoa (u : Int) = Lib.decDigits u := by
  unfold Lib.itoa
  first | rw [if_neg (by omega)]; simp | simp
theorem len_loop (kap : FuncId → List AV → Option AV) (hI : ∀ u : Nat, u ≤ 9223372036854775807 → kap strconv_Itoa [.int .i64 (u : Int)] = some (.str (str (Lib.decDigits u)))) (rest : Nat) (hr : rest ≤ 100000000) :
    ∀ (f m k0 : Nat), m ≤ rest + dl m → rest + 21 < m + f → m ≤ rest + 21 → f < k0 → pax_Len_L0 kap k k0 ((rest : Nat) : Int) ((m : Nat) : Int) = some (.int .i64 (lenF f rest m : Nat))
  | 0, m, k0, h1, h2, h3, hk => by omega
  | f + 1, m, k0 + 1, h1, h2, h3, hk => by
    have hd := dl_le m (by omega)
    have hs : (Lib.decDigits m).length = dl m := rfl
    rw [pax_Len_L0_s, hI m (by omega), callS_ok, str_size, hs, i64w (by omega)]
    unfold lenF
    by_cases h : rest + dl m = m
    · rw [if_pos h, bif_t (by omega)]
    · rw [if_neg h, bif_f (by omega)]
      have hmono := dl_mono (rest + dl m) m (by omega)
      have := len_loop kap hI rest hr f (rest + dl m) k0 (by omega) (by omega) (by omega) (by omega)
      rw [← this]
      congr 1
theorem lenP_facts (p : Pair) (h1 : p.key.length ≤ 1000000) (h2 : p.val.length ≤ 1000000) : restP p + dl (lenP p) = lenP p ∧ lenP p ≤ restP p + 21 ∧ ∀ q, restP p + dl q = q → restP p ≤ q → lenP p ≤ q :=
  lenF_fix (restP p) (by unfold restP; omega) 30 (restP p) (by omega) (by omega) (by omega)
theorem paxLen_k (p : Pair) (h1 : p.key.length ≤ 1000000) (h2 : p.val.length ≤ 1000000) (hk : 100 < k) : kp E k (n + 1) pax_Len [.agg [.str (str p.key), .str (str p.val)]] = some (.int .i64 (lenP p : Nat)) := by
  have hI : ∀ u : Nat, u ≤ 9223372036854775807 → kp E k n strconv_Itoa [.int .i64 (u : Int)] = some (.str (str (Lib.decDigits u))) := fun u hu => by rw [HasNum.itoa k n _ (by omega) (by omega), itoa_nat]
  have := len_loop (k := k) (kp E k n) hI (restP p) (by unfold restP; omega) 30 (restP p) k (by omega) (by omega) (by omega) (by omega)
  rw [pax_Len_eq, str_size, str_size, i64w (x := ((p.key.length : Nat) : Int) + ((p.val.length : Nat) : Int)) (by omega), i64w (by omega)]
  rw [show ((p.key.length : Nat) : Int) + ((p.val.length : Nat) : Int) + 3 = ((restP p : Nat) : Int) by unfold restP; omega]
  exact this
end Go.Proofs.YtbkhmkcmbaffoaaGreatDoor.Eng.U


/- rep.Records as a given function: it answers so. -/
set_option linter.unusedVariables false
set_option linter.unusedSectionVars false
set_option linter.unusedSimpArgs false
namespace Go.Proofs.YtbkhmkcmbaffoaaGreatDoor.Eng.U
open Go Go.RowKit Go.Proofs Go.Proofs.YtbkhmkcmbaffoaaGreatDoor.Eng Go.Proofs.YtbkhmkcmbaffoaaGreatDoor.Eng.Rdv Go.Proofs.YtbkhmkcmbaffoaaGreatDoor.S11 Go.Proofs.YtbkhmkcmbaffoaaGreatDoor.P04

structure RightH (h : Head) : Prop where
  a1 : f1 h = true
  a2 : f2 h = true
  a3 : f3 h = true
  a4 : f4 h = true
  a5 : f5 h = true
  a6 : f6 h = true
  a7 : f7 h = true
  a8 : f8 h = true
  a9 : f9 h = true
  a10 : f10 h = true
  a11 : f11 h = true
  a12 : f12 h = true
  a13 : f13 h = true
theorem rightH_of {h : Head} (hw : wrongH h = 0) : RightH h := by
  unfold wrongH at hw
  cases g1 : f1 h with
  | false => rw [g1] at hw; cases hw
  | true => cases g2 : f2 h with
    | false => rw [g1, g2] at hw; cases hw
    | true => cases g3 : f3 h with
      | false => rw [g1, g2, g3] at hw; cases hw
      | true => cases g4 : f4 h with
        | false => rw [g1, g2, g3, g4] at hw; cases hw
        | true => cases g5 : f5 h with
          | false => rw [g1, g2, g3, g4, g5] at hw; cases hw
          | true => cases g6 : f6 h with
            | false => rw [g1, g2, g3, g4, g5, g6] at hw; cases hw
            | true => cases g7 : f7 h with
              | false => rw [g1, g2, g3, g4, g5, g6, g7] at hw; cases hw
              | true => cases g8 : f8 h with
                | false => rw [g1, g2, g3, g4, g5, g6, g7, g8] at hw; cases hw
                | true => cases g9 : f9 h with
                  | false => rw [g1, g2, g3, g4, g5, g6, g7, g8, g9] at hw; cases hw
                  | true => cases g10 : f10 h with
                    | false => rw [g1, g2, g3, g4, g5, g6, g7, g8, g9, g10] at hw; cases hw
                    | true => cases g11 : f11 h with
                      | false => rw [g1, g2, g3, g4, g5, g6, g7, g8, g9, g10, g11] at hw; cases hw
                      | true => cases g12 : f12 h with
                        | false => rw [g1, g2, g3, g4, g5, g6, g7, g8, g9, g10, g11, g12] at hw; cases hw
                        | true => cases g13 : f13 h with
                          | false => rw [g1, g2, g3, g4, g5, g6, g7, g8, g9, g10, g11, g12, g13] at hw; cases hw
                          | true => exact ⟨g1, g2, g3, g4, g5, g6, g7, g8, g9, g10, g11, g12, g13⟩
theorem right_wrong {h : Head} (r : RightH h) : wrongH h = 0 := by
  unfold wrongH
  rw [r.a1, r.a2, r.a3, r.a4, r.a5, r.a6, r.a7, r.a8, r.a9, r.a10, r.a11, r.a12, r.a13]
  rfl
theorem add_keys {K : List Tx} {l : List Pair} {c : Bool} (key val : Tx) (hk : keysN l) (hm : ∀ q ∈ l, q.key ∈ K ∨ whichL q.key < 0) (hp : key ∉ K) (hw : 0 ≤ whichL key) : keysN (addP c ⟨key, val⟩ l) ∧ ∀ q ∈ addP c ⟨key, val⟩ l, q.key ∈ key :: K ∨ whichL q.key < 0 := by
  cases c with
  | true => exact ⟨hk, fun q hq => (hm q hq).imp (fun h => List.mem_cons_of_mem _ h) fun h => h⟩
  | false =>
    refine ⟨List.pairwise_append.2 ⟨hk, List.pairwise_singleton _ _, fun a ha b hb e => ?_⟩, fun q hq => ?_⟩
    · rw [List.mem_singleton.1 hb] at e
      have e : a.key = key := e
      rcases hm a ha with h | h
      · exact hp (e ▸ h)
      · rw [e] at h; omega
    · rcases List.mem_append.1 hq with h | h
      · exact (hm q h).imp (fun h => List.mem_cons_of_mem _ h) fun h => h
      · rw [List.mem_singleton.1 h]; exact .inl (List.mem_cons_self ..)
theorem add_vals {l : List Pair} {p : Pair} {c : Bool} (hv : ∀ q ∈ l, q.val ≠ []) (hp : c = false → p.val ≠ []) : ∀ q ∈ addP c p l, q.val ≠ [] := by
  cases c with
  | true => exact hv
  | false =>
    intro q hq
    rcases List.mem_append.1 hq with h | h
    · exact hv q h
    · rw [List.mem_singleton.1 h]; exact hp rfl
theorem itoa_ne (v : Int) : Lib.itoa v ≠ [] := by
  have h : ∀ u : Nat, Lib.decDigits u ≠ [] := fun u e => by
    have := dl_pos u
    unfold dl at this
    rw [e] at this
    simp at this
  unfold Lib.itoa
  split
  · simp
  · exact h _
theorem printL_ne (s t : Int) : printL s t ≠ [] := by
  unfold printL
  split
  · exact itoa_ne s
  · split
    · simp
    · simp
theorem fulls_head_ne {kind : Int} {s : Tx} (h : s ≠ []) : (fulls kind s).headD [] ≠ [] := by
  unfold fulls
  split
  · split
    · simp
    · exact h
  · exact h
theorem long_ne {s : Tx} {m : Nat} (h : ¬ s.length ≤ m) : s ≠ [] := fun e => by rw [e] at h; simp at h
/-- Of a right head: the pairs that are put have keys of their own, and values. -/
theorem raw_facts {h : Head} (hr : RightH h) : keysN (rawH h) ∧ ∀ q ∈ rawH h, q.val ≠ [] := by
  have h13 := hr.a13
  unfold f13 overOk at h13
  simp only [Bool.and_eq_true, List.all_eq_true, decide_eq_true_eq] at h13
  obtain ⟨⟨ho, _⟩, hw⟩ := h13
  obtain ⟨hf1, hf2⟩ := okSt_facts _ _ ho
  have k0 : keysN h.extra := hf2.imp fun hab e => by rw [e, lt_irr] at hab; cases hab
  have m0 : ∀ q ∈ h.extra, q.key ∈ ([] : List Tx) ∨ whichL q.key < 0 := fun q hq => .inr (hw q hq)
  have v0 : ∀ q ∈ h.extra, q.val ≠ [] := fun q hq => (hf1 q hq).2
  have hn : h.name ≠ [] := by
    have := hr.a2
    unfold f2 nameOk at this
    simp only [Bool.and_eq_true, decide_eq_true_eq] at this
    exact this.1.1
  have ht : rightT h.nano = true := hr.a8
  obtain ⟨k1, m1⟩ := add_keys (c := canB 2 h 2) kPath ((fulls h.kind h.name).headD []) k0 m0 (by decide) (by decide)
  have v1 := add_vals (c := canB 2 h 2) (p := ⟨kPath, (fulls h.kind h.name).headD []⟩) v0 fun _ => fulls_head_ne hn
  obtain ⟨k2, m2⟩ := add_keys (c := canB 2 h 3) kLink (h.link) k1 m1 (by decide) (by decide)
  have v2 := add_vals (c := canB 2 h 3) (p := ⟨kLink, h.link⟩) v1 fun hc => by
    have hc' : (bif decide (h.link.length ≤ 100) then true else false) = false := hc
    exact long_ne (m := 100) fun hle => by rw [decide_eq_true hle] at hc'; cases hc'
  obtain ⟨k3, m3⟩ := add_keys (c := canB 2 h 5) kUid (Lib.itoa h.uid) k2 m2 (by decide) (by decide)
  have v3 := add_vals (c := canB 2 h 5) (p := ⟨kUid, Lib.itoa h.uid⟩) v2 fun _ => itoa_ne _
  obtain ⟨k4, m4⟩ := add_keys (c := canB 2 h 6) kGid (Lib.itoa h.gid) k3 m3 (by decide) (by decide)
  have v4 := add_vals (c := canB 2 h 6) (p := ⟨kGid, Lib.itoa h.gid⟩) v3 fun _ => itoa_ne _
  obtain ⟨k5, m5⟩ := add_keys (c := canB 2 h 7) kSize (Lib.itoa h.size) k4 m4 (by decide) (by decide)
  have v5 := add_vals (c := canB 2 h 7) (p := ⟨kSize, Lib.itoa h.size⟩) v4 fun _ => itoa_ne _
  obtain ⟨k6, m6⟩ := add_keys (c := canB 2 h 8) kTime (bif rightT h.nano then printL h.sec h.nano else []) k5 m5 (by decide) (by decide)
  have v6 := add_vals (c := canB 2 h 8) (p := ⟨kTime, bif rightT h.nano then printL h.sec h.nano else []⟩) v5 fun _ => by rw [ht]; exact printL_ne _ _
  obtain ⟨k7, m7⟩ := add_keys (c := canB 2 h 9) kUser (h.user) k6 m6 (by decide) (by decide)
  have v7 := add_vals (c := canB 2 h 9) (p := ⟨kUser, h.user⟩) v6 fun hc => by
    have hc' : (bif decide (h.user.length ≤ 32) then true else false) = false := hc
    exact long_ne (m := 32) fun hle => by rw [decide_eq_true hle] at hc'; cases hc'
  obtain ⟨k8, m8⟩ := add_keys (c := canB 2 h 10) kGroup (h.group) k7 m7 (by decide) (by decide)
  have v8 := add_vals (c := canB 2 h 10) (p := ⟨kGroup, h.group⟩) v7 fun hc => by
    have hc' : (bif decide (h.group.length ≤ 32) then true else false) = false := hc
    exact long_ne (m := 32) fun hle => by rw [decide_eq_true hle] at hc'; cases hc'
  exact ⟨k8, v8⟩
theorem flat_V {S : Stab} (l : List Pair) (i : Nat) (x : AV) (hx : (prs l)[i]? = some x) : x.cells.length = 2 ∧ ∀ (j : Nat) (c : AV), x.cells[j]? = some c → c.leaf = true ∧ ∀ u, (flatP l)[i * 2 + j]? = some u → V S c u := by
  unfold prs at hx
  rw [List.getElem?_map] at hx
  obtain ⟨p, hp, rfl⟩ := Option.map_eq_some_iff.1 hx
  have hi : i < l.length := (List.getElem?_eq_some_iff.1 hp).1
  refine ⟨rfl, fun j c hc => ?_⟩
  have hg : l.getD i default = p := by rw [List.getD_eq_getElem?_getD, hp]; rfl
  match j, hc with
  | 0, hc =>
    cases hc
    refine ⟨rfl, fun u hu => ?_⟩
    rw [flat_at l _ (by omega), show (i * 2 + 0) / 2 = i by omega, show (i * 2 + 0) % 2 = 0 by omega, hg] at hu
    cases hu
    exact V.str _
  | 1, hc =>
    cases hc
    refine ⟨rfl, fun u hu => ?_⟩
    rw [flat_at l _ (by omega), show (i * 2 + 1) / 2 = i by omega, show (i * 2 + 1) % 2 = 1 by omega, hg] at hu
    cases hu
    exact V.str _
theorem clone_calls {S : Stab} {w W : World} {l : List Pair} {sv : Value} (hl : l.length ≤ 100) (hag : Agree S w) (hv : V S (.list 2 (prs l)) sv) (hb : Below w.heap.size w W) :
    Calls Tryz.prog 48 #[sv] W fun e w' => ∃ v, e = .returned v ∧ w'.ownsRow W.heap.size 50 2 v l.length (flatP l) ∧ Below W.heap.size W w' := by
  obtain ⟨ao, cap, rfl, hc⟩ := list_inv hv
  have hag' := agree_below hag hb
  rw [prs_len]
  cases ao with
  | none =>
    have hn : l = [] := by
      cases l with
      | nil => rfl
      | cons p l =>
        obtain ⟨a, _, ha, _⟩ := hc 0 (elPair p) rfl
        cases ha
    subst hn
    have hcap : cap = 0 := by cases hv; rfl
    subst hcap
    refine (S40.pairs_nil W).mono ?_
    rintro e w' ⟨rfl, rfl⟩
    exact ⟨_, rfl, World.ownsRow_nil _ _ _ _, Below.refl _ _⟩
  | some a =>
    refine (S40.pairs_some a l.length cap (flatP l) W (flatP_len l) (fun j u hu => ?_) (fun u hu => ?_) (by omega)).mono ?_
    · have hj : j < l.length * 2 := by rw [← flatP_len]; exact (List.getElem?_eq_some_iff.1 hu).1
      have hi : j / 2 < l.length := by omega
      obtain ⟨a', f, ha, hf⟩ := hc (j / 2) (elPair l[j / 2]) (by unfold prs; rw [List.getElem?_map, List.getElem?_eq_getElem hi]; rfl)
      cases ha
      rw [flat_at l j hj, List.getD_eq_getElem?_getD, List.getElem?_eq_getElem hi] at hu
      have hm : j % 2 = 0 ∨ j % 2 = 1 := by omega
      rcases hm with hm | hm
      · rw [hm] at hu
        cases hu
        obtain ⟨h1, h2⟩ := hf 0 _ rfl
        have h3 := hag' _ _ h1
        rw [V_str h2, show j / 2 * 2 + 0 = j by omega] at h3
        exact h3
      · rw [hm] at hu
        cases hu
        obtain ⟨h1, h2⟩ := hf 1 _ rfl
        have h3 := hag' _ _ h1
        rw [V_str h2, show j / 2 * 2 + 1 = j by omega] at h3
        exact h3
    · unfold flatP at hu
      obtain ⟨p, _, hp⟩ := List.mem_flatMap.1 hu
      simp at hp
      rcases hp with rfl | rfl <;> rfl
    · rintro e w' ⟨v, rfl, h1, h2⟩
      exact ⟨v, rfl, h1, h2⟩
theorem can_calls {E : Ext} [Core E] [HasNum E] [HasTextV E] {k : Nat} (hB : (bs E k).Good) (hk : 1000000 < k) {S : Stab} {w W : World} {h : Head} {sv : Value} (ho : OkHd h) (hag : Agree S w) (hG : GlobOk glob S w) (hv : V S (.agg (encHead h)) (.agg (headV h sv))) (hb : Below w.heap.size w W) (d f : Int) (hf : 1 ≤ f ∧ f ≤ 13) :
    Calls Tryz.prog 47 #[.int .i64 d, .agg (headV h sv), .int .i64 f] W fun e w' => e = .returned (.bool (canB d h f)) ∧ Below W.heap.size W w' := by
  have hkp := can_k (E := E) (k := k) (n := 0) d h f true ho.bd.1 ho.bd.2.1 ho.bd.2.2.1 ho.bd.2.2.2.1 hk fun _ hn => absurd hf hn
  refine (eng_calls hB hkp hag hG (VL3 (V.int .i64 d) hv (V.int .i64 f)) hb).mono ?_
  rintro e w' ⟨v, S', rfl, _, _, h1, h2⟩
  obtain rfl : v = .bool (canB d h f) := by cases (show V S' (.bool (canB d h f)) v from h2); rfl
  exact ⟨rfl, h1⟩
theorem callees_of {E : Ext} [Core E] [HasNum E] [HasTextV E] {k : Nat} (hB : (bs E k).Good) (hk : 5000000 < k) {S : Stab} {w : World} {h : Head} {sv : Value} (ho : OkHd h) (hag : Agree S w) (hG : GlobOk glob S w) (hv : V S (.agg (encHead h)) (.agg (headV h sv))) :
    Callees h sv w (wrongH h) (canB 3 h) (canB 2 h) ((fulls h.kind h.name).headD []) (bif rightT h.nano then printL h.sec h.nano else []) (bif rightT h.nano then 0 else 15) Lib.itoa where
  wrong W hb := by
    refine (eng_calls hB (wrong_kv (E := E) (k := k) (n := 0) h ho.bd (by omega)) hag hG (VL1 hv) hb).mono ?_
    rintro e w' ⟨v, S', rfl, _, _, h1, h2⟩
    obtain rfl : v = .int .i64 (wrongH h) := by cases (show V S' (.int .i64 (wrongH h)) v from h2); rfl
    exact ⟨rfl, h1⟩
  can3 f hf W hb := can_calls hB (by omega) ho hag hG hv hb 3 f (by omega)
  can2 f hf W hb := can_calls hB (by omega) ho hag hG hv hb 2 f hf
  print W hb := by
    have hvt : V S (.agg [.int .i64 h.sec, .int .i64 h.nano]) (.agg #[.int .i64 h.sec, .int .i64 h.nano]) := V.agg _ [.int .i64 h.sec, .int .i64 h.nano] rfl (fun j c hc => by
      match j, hc with
      | 0, hc => cases hc; rfl
      | 1, hc => cases hc; rfl) (V2 (V.int _ _) (V.int _ _))
    refine (eng_calls hB (print_k (E := E) (k := k) (n := 0) h.sec h.nano ho.sec.1 ho.sec.2) hag hG (VL1 hvt) hb).mono ?_
    rintro e w' ⟨v, S', rfl, _, _, h1, h2⟩
    refine ⟨?_, h1⟩
    cases hr : rightT h.nano with
    | true =>
      rw [hr] at h2
      obtain ⟨vs, rfl, hl, hvs, _⟩ := h2
      match vs, hl with
      | [x, y], _ =>
        have q0 : V S' (.str (str (printL h.sec h.nano))) x := hvs 0 _ _ rfl rfl
        have q1 : V S' (.int .u8 0) y := hvs 1 _ _ rfl rfl
        rw [V_str q0, V_int q1]
        rfl
    | false =>
      rw [hr] at h2
      obtain ⟨vs, rfl, hl, hvs, _⟩ := h2
      match vs, hl with
      | [x, y], _ =>
        have q0 : V S' (.str (str [])) x := hvs 0 _ _ rfl rfl
        have q1 : V S' (.int .u8 15) y := hvs 1 _ _ rfl rfl
        rw [V_str q0, V_int q1]
        rfl
  fulls W hb := by
    refine (eng_calls hB (fulls_k (E := E) (k := k) (n := 0) h (by have := ho.bd.1; omega)) hag hG (VL1 hv) hb).mono ?_
    rintro e w' ⟨v, S', rfl, _, hag', h1, h2⟩
    have h2 : V S' (.list 1 (svs (fulls h.kind h.name))) v := h2
    obtain ⟨ao, cap, rfl, hc⟩ := list_inv h2
    refine ⟨?_, h1⟩
    have hne := fulls_ne h.kind h.name
    rw [svs_len]
    cases hf : fulls h.kind h.name with
    | nil => exact absurd hf hne
    | cons x l =>
      rw [hf] at hc
      obtain ⟨a, f, ha, hcf⟩ := hc 0 (Go.Proofs.YtbkhmkcmbaffoaaGreatDoor.Eng.sv x) rfl
      obtain ⟨q1, q2⟩ := hcf 0 _ rfl
      have q3 := hag' _ _ q1
      rw [V_str q2] at q3
      refine ⟨a, l.length, cap, by rw [ha]; rfl, ?_⟩
      have e : a.add (0 * 1 + 0) = a := by simp [Addr.add]
      rw [e] at q3
      exact q3
  text v hv' W hb := by
    have hr : -9223372036854775808 ≤ v ∧ v ≤ 9223372036854775807 := by
      rcases hv' with rfl | rfl | rfl
      · exact ho.uid
      · exact ho.gid
      · exact ho.size
    refine (eng_calls hB (text_k (E := E) (k := k) (n := 0) v hr.1 hr.2) hag hG (VL1 (V.int .i64 v)) hb).mono ?_
    rintro e w' ⟨u, S', rfl, _, _, h1, h2⟩
    obtain rfl : u = .string (str (Lib.itoa v)) := by cases (show V S' (.str (str (Lib.itoa v))) u from h2); rfl
    exact ⟨rfl, h1⟩
theorem rec_right : pRec.Right := by
  refine ⟨⟨Tryz.f14, Tryz.func14, by kernel_rfl, by kernel_rfl⟩, fun args res hr => ?_⟩
  unfold pRec at hr
  dsimp only at hr
  split at hr
  · rename_i cs
    obtain ⟨h, hh, h2⟩ := Option.bind_eq_some_iff.1 hr
    clear hr
    obtain rfl := toHead_some hh
    obtain ⟨hok, h3⟩ := some_of_bif h2
    clear h2
    obtain rfl := Option.some.inj h3
    have ho := okHd_iff.1 hok
    refine ok_rowint (e := 50) fun S w vals hag hG hV => ?_
    obtain ⟨v, rfl, hv⟩ := VL_1 hV
    obtain ⟨sv, rfl, hsv⟩ := headV_inv hv
    have hC := callees_of (E := ext09) (k := 6000000) (good09 6000000) (by omega) ho hag hG hv
    refine (records_walk h sv w _ _ _ _ _ _ _ hC (fun W hb => clone_calls ho.ext hag hsv hb) ho.ext).mono ?_
    rintro e w' ⟨hb, hcase⟩
    rcases hcase with ⟨hw, rfl⟩ | ⟨hw, ⟨j, hj, hf⟩, rfl⟩ | ⟨hw, hall, u, l', rfl, hown, hperm, hsort⟩
    · have e1 : recA h = ([], 15) := by unfold recA; rw [if_neg hw]
      rw [e1]
      exact ⟨_, [], rfl, World.ownsRow_nil _ _ _ _, fun i x hx => by simp [prs] at hx, hb⟩
    · have ht : ¬ texts3 h = true := by
        unfold texts3
        simp only [Bool.and_eq_true]
        rintro ⟨⟨⟨g1, g2⟩, g3⟩, g4⟩
        have hc : j = 0 ∨ j = 1 ∨ j = 2 ∨ j = 3 := by omega
        rcases hc with rfl | rfl | rfl | rfl
        · rw [show fld 0 = 2 from rfl, g1] at hf; cases hf
        · rw [show fld 1 = 3 from rfl, g2] at hf; cases hf
        · rw [show fld 2 = 9 from rfl, g3] at hf; cases hf
        · rw [show fld 3 = 10 from rfl, g4] at hf; cases hf
      have e1 : recA h = ([], 13) := by unfold recA; rw [if_pos hw, if_neg ht]
      rw [e1]
      exact ⟨_, [], rfl, World.ownsRow_nil _ _ _ _, fun i x hx => by simp [prs] at hx, hb⟩
    · have ht : texts3 h = true := by
        unfold texts3
        rw [show canB 3 h 2 = true from hall 0 (by omega), show canB 3 h 3 = true from hall 1 (by omega), show canB 3 h 9 = true from hall 2 (by omega), show canB 3 h 10 = true from hall 3 (by omega)]
        rfl
      have e1 : recA h = (recsL h, 0) := by unfold recA; rw [if_pos hw, if_pos ht]
      obtain ⟨hk, hvs⟩ := raw_facts (rightH_of hw)
      have hl' : l' = recsL h := sorted_lay hperm hsort hk hvs
      rw [e1]
      subst hl'
      exact ⟨u, flatP (recsL h), rfl, by rw [prs_len]; exact hown, fun i x hx => flat_V _ i x hx, hb⟩
  · cases hr
class HasRec (E : Ext) : Prop where
  recs : ∀ (k n : Nat) (h : Head), OkHd h → kp E k n rep_Records [.agg (encHead h)] = some (.tup [.list 2 (prs (recA h).1), .int .u8 (recA h).2])
end Go.Proofs.YtbkhmkcmbaffoaaGreatDoor.Eng.U


/- Paths in plain words: the pieces between slashes, the parts, the clean form as a stack and as taking pairs off. No program in sight. -/
set_option linter.unusedVariables false
set_option linter.unusedSectionVars false
set_option linter.unusedSimpArgs false
namespace Go.Proofs.YtbkhmkcmbaffoaaGreatDoor.P24

abbrev Tx := List UInt8
/-- A text cut at the first slash: what stands ahead of it, what stands behind it. -/
def cutAt : Tx → Option (Tx × Tx)
  | [] => none
  | c :: l => if c = 47 then some ([], l) else (cutAt l).map fun p => (c :: p.1, p.2)
/-- The pieces between slashes. -/
def pieces : Tx → List Tx
  | [] => [[]]
  | c :: l => if c = 47 then [] :: pieces l else match pieces l with
    | [] => [[c]]
    | p :: ps => (c :: p) :: ps
def good (p : Tx) : Bool := p != [] && p != [46]
def flt (pre : List Tx) : List Tx := pre.filter good
def partsL (l : Tx) : List Tx := flt (pieces l)
theorem pieces_cons (c : UInt8) (l : Tx) : pieces (c :: l) = if c = 47 then [] :: pieces l else match pieces l with
    | [] => [[c]]
    | p :: ps => (c :: p) :: ps := rfl
theorem cutAt_cons (c : UInt8) (l : Tx) : cutAt (c :: l) = if c = 47 then some ([], l) else (cutAt l).map fun p => (c :: p.1, p.2) := rfl
theorem pieces_cut : ∀ l, pieces l = match cutAt l with | none => [l] | some (a, b) => a :: pieces b
  | [] => rfl
  | c :: l => by
    rw [pieces_cons, cutAt_cons]
    split
    · rfl
    · rw [pieces_cut l]
      cases cutAt l with
      | none => rfl
      | some p => rfl
theorem cutAt_eq : ∀ {l a b}, cutAt l = some (a, b) → l = a ++ 47 :: b
  | [], a, b, h => by cases h
  | c :: l, a, b, h => by
    rw [cutAt_cons] at h
    split at h
    · rename_i hc
      subst hc
      cases h
      rfl
    · obtain ⟨⟨x, y⟩, hp, e⟩ := Option.map_eq_some_iff.1 h
      cases e
      rw [cutAt_eq hp]
      rfl
theorem pieces_len : ∀ l, (pieces l).length ≤ l.length + 1
  | [] => by simp [pieces]
  | c :: l => by
    have := pieces_len l
    rw [pieces_cons]
    split
    · simp; omega
    · split
      · simp
      · rename_i h; rw [h] at this; simp at this ⊢; omega
theorem flt_snoc (pre : List Tx) (x : Tx) : flt (pre ++ [x]) = if good x then flt pre ++ [x] else flt pre := by
  unfold flt
  by_cases h : good x <;> simp [h]
theorem flt_len (pre : List Tx) : (flt pre).length ≤ pre.length := List.length_filter_le _ _
theorem parts_len (l : Tx) : (partsL l).length ≤ l.length + 1 := Nat.le_trans (flt_len _) (pieces_len l)

/-! Texts of parts. -/
def joinL : List Tx → Tx
  | [] => []
  | [p] => p
  | p :: q :: l => p ++ 47 :: joinL (q :: l)
def isAbs : Tx → Bool
  | c :: _ => c == 47
  | [] => false
def formL (root : Bool) (l : List Tx) : Tx := if root then 47 :: joinL l else if joinL l = [] then [46] else joinL l
/-! The stack of a clean form: how many '..' ahead, and the parts behind them. -/
def dd : Tx := [46, 46]
def step (s : Nat × List Tx) (p : Tx) : Nat × List Tx := if p ≠ dd then (s.1, s.2 ++ [p]) else if s.2 ≠ [] then (s.1, s.2.dropLast) else (s.1 + 1, [])
def nf (ps : List Tx) : Nat × List Tx := ps.foldl step (0, [])
def stOf (abs : Bool) (s : Nat × List Tx) : List Tx := (if abs then [] else List.replicate s.1 dd) ++ s.2
def stk (s : Tx) : List Tx := stOf (isAbs s) (nf (partsL s))
def cleanL (s : Tx) : Tx := formL (isAbs s) (stk s)
/-- The program's own step. -/
def push (abs : Bool) (st : List Tx) (p : Tx) : List Tx := if p ≠ dd then st ++ [p] else if st ≠ [] ∧ st.getLast? ≠ some dd then st.dropLast else if abs then st else st ++ [p]
def inOrder (s : Nat × List Tx) : Prop := ∀ p ∈ s.2, p ≠ dd
theorem step_order {s : Nat × List Tx} (h : inOrder s) (p : Tx) : inOrder (step s p) := by
  unfold step
  split
  · rename_i hp
    intro q hq
    rcases List.mem_append.1 hq with hq | hq
    · exact h q hq
    · rw [List.mem_singleton.1 hq]; exact hp
  · split
    · intro q hq
      exact h q ((List.dropLast_sublist _).subset hq)
    · intro q hq; cases hq
theorem push_step (abs : Bool) {s : Nat × List Tx} (h : inOrder s) (p : Tx) : push abs (stOf abs s) p = stOf abs (step s p) := by
  obtain ⟨k, n⟩ := s
  unfold push step stOf
  by_cases hp : p ≠ dd
  · rw [if_pos hp, if_pos hp, List.append_assoc]
  · rw [if_neg hp, if_neg hp]
    have hp : p = dd := by simpa using hp
    subst hp
    by_cases hn : n ≠ []
    · have hl : n.getLast? ≠ some dd := by
        intro e
        exact h dd (List.mem_of_getLast? e) rfl
      have hl2 : ∀ l : List Tx, (l ++ n).getLast? ≠ some dd := by
        intro l
        rw [List.getLast?_append]
        cases hg : n.getLast? with
        | none => exact absurd (List.getLast?_eq_none_iff.1 hg) hn
        | some x => rw [hg] at hl; exact hl
      rw [if_pos ⟨by simp [hn], hl2 _⟩, if_pos hn]
      rw [List.dropLast_append_of_ne_nil hn]
    · rw [if_neg hn]
      have hn : n = [] := by simpa using hn
      subst hn
      simp only [List.append_nil]
      cases abs with
      | true => simp
      | false =>
        simp only [Bool.false_eq_true, if_false]
        rw [if_neg, List.replicate_succ']
        rintro ⟨h1, h2⟩
        apply h2
        cases k with
        | zero => simp at h1
        | succ k => rw [List.replicate_succ', List.getLast?_append]; simp
theorem push_fold (abs : Bool) : ∀ (ps : List Tx) {s : Nat × List Tx}, inOrder s → ps.foldl (push abs) (stOf abs s) = stOf abs (ps.foldl step s)
  | [], s, _ => rfl
  | p :: ps, s, h => by
    rw [List.foldl_cons, List.foldl_cons, push_step abs h, push_fold abs ps (step_order h p)]
theorem stk_fold (s : Tx) : (partsL s).foldl (push (isAbs s)) [] = stk s := by
  have := push_fold (isAbs s) (partsL s) (s := (0, [])) (fun _ h => by cases h)
  rw [show stOf (isAbs s) (0, []) = [] from by unfold stOf; cases isAbs s <;> rfl] at this
  exact this

/-! Taking pairs off. -/
/-! What is clean. -/
/-- What is above. -/
def upL (s : Tx) : Tx × Tx := if stk s = [] then (cleanL s, cleanL s) else (formL (isAbs s) (stk s).dropLast, (stk s).getLast?.getD [])
theorem join_len : ∀ l : List Tx, (joinL l).length ≤ l.flatten.length + l.length
  | [] => by simp [joinL]
  | [p] => by simp [joinL]
  | p :: q :: l => by
    have := join_len (q :: l)
    simp only [joinL, List.length_append, List.length_cons, List.flatten_cons] at this ⊢
    omega
theorem pieces_sum : ∀ l : Tx, (pieces l).flatten.length ≤ l.length
  | [] => by simp [pieces]
  | c :: l => by
    have := pieces_sum l
    rw [pieces_cons]
    split
    · simp at this ⊢; omega
    · split
      · simp
      · rename_i h
        rw [h] at this
        simp at this ⊢; omega
theorem flt_sum : ∀ l : List Tx, (flt l).flatten.length ≤ l.flatten.length
  | [] => by simp [flt]
  | p :: l => by
    have := flt_sum l
    unfold flt at this ⊢
    rw [List.filter_cons]
    split <;> simp at this ⊢ <;> omega
theorem parts_sum (s : Tx) : (partsL s).flatten.length ≤ s.length := Nat.le_trans (flt_sum _) (pieces_sum s)
/-- How much a stack weighs. -/
def wt (s : Nat × List Tx) : Nat := 2 * s.1 + s.2.flatten.length
theorem step_wt (s : Nat × List Tx) (p : Tx) : wt (step s p) ≤ wt s + p.length ∧ (step s p).1 + (step s p).2.length ≤ s.1 + s.2.length + 1 := by
  obtain ⟨k, m⟩ := s
  unfold step wt
  by_cases hp : p ≠ dd
  · rw [if_pos hp]; simp; omega
  · rw [if_neg hp]
    have hp : p = dd := by simpa using hp
    subst hp
    by_cases hm : m ≠ []
    · rw [if_pos hm]
      have e : m.dropLast.flatten.length ≤ m.flatten.length := by
        conv => rhs; rw [← List.dropLast_concat_getLast hm]
        simp
      simp only [List.length_dropLast]
      omega
    · rw [if_neg hm]
      have hm : m = [] := by simpa using hm
      subst hm
      simp [dd]; omega
theorem fold_wt : ∀ (ps : List Tx) (s : Nat × List Tx), wt (ps.foldl step s) ≤ wt s + ps.flatten.length ∧ (ps.foldl step s).1 + (ps.foldl step s).2.length ≤ s.1 + s.2.length + ps.length
  | [], s => by simp
  | p :: ps, s => by
    have h1 := fold_wt ps (step s p)
    have h2 := step_wt s p
    rw [List.foldl_cons, List.flatten_cons, List.length_append, List.length_cons]
    omega
theorem stk_sum (s : Tx) : (stk s).flatten.length ≤ s.length ∧ (stk s).length ≤ s.length + 1 := by
  have h := fold_wt (partsL s) (0, [])
  have h1 := parts_sum s
  have h2 := parts_len s
  unfold wt at h
  simp only [List.flatten_nil, List.length_nil, Nat.mul_zero, Nat.zero_add, Nat.add_zero] at h
  unfold stk stOf nf
  generalize (partsL s).foldl step (0, []) = t at h
  cases isAbs s with
  | true => simp only [if_true, List.nil_append]; omega
  | false =>
    simp only [Bool.false_eq_true, if_false, List.flatten_append, List.length_append, List.length_replicate]
    have : (List.replicate t.1 dd).flatten.length = 2 * t.1 := by
      induction t.1 with
      | zero => rfl
      | succ m ih => rw [List.replicate_succ, List.flatten_cons, List.length_append, ih]; simp [dd]; omega
    omega
end Go.Proofs.YtbkhmkcmbaffoaaGreatDoor.P24

