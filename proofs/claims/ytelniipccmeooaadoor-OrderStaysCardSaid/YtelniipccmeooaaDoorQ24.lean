/- Paths in plain words: the pieces between slashes, the parts, the clean form as a stack and as taking pairs off. No program in sight. -/
set_option linter.unusedVariables false
set_option linter.unusedSectionVars false
set_option linter.unusedSimpArgs false
namespace Go.Proofs.YtelniipccmeooaaDoor.P24

abbrev Tx := List UInt8
/-- A text cut at the first slash: what stands ahead of it, what stands behind it. -/
def cutAt : Tx → Option (Tx × Tx)
  | [] => none
  | c :: l => if c = 47 then some ([], l) else (cutAt l).map fun p => (c :: p.1, p.2)
/-- The pieces between slashes. -/
def pieces : Tx → List Tx
  | [] => [[]]
  | c :: l => if c = 47 then [] :: pieces l else match pieces l with
    | [] => [[c]]
    | p :: ps => (c :: p) :: ps
def good (p : Tx) : Bool := p != [] && p != [46]
def flt (pre : List Tx) : List Tx := pre.filter good
def partsL (l : Tx) : List Tx := flt (pieces l)
theorem pieces_cons (c : UInt8) (l : Tx) : pieces (c :: l) = if c = 47 then [] :: pieces l else match pieces l with
    | [] => [[c]]
    | p :: ps => (c :: p) :: ps := rfl
theorem cutAt_cons (c : UInt8) (l : Tx) : cutAt (c :: l) = if c = 47 then some ([], l) else (cutAt l).map fun p => (c :: p.1, p.2) := rfl
theorem pieces_ne : ∀ l, pieces l ≠ []
  | [] => by simp [pieces]
  | c :: l => by
    rw [pieces_cons]
    split
    · simp
    · split <;> simp
theorem pieces_cut : ∀ l, pieces l = match cutAt l with | none => [l] | some (a, b) => a :: pieces b
  | [] => rfl
  | c :: l => by
    rw [pieces_cons, cutAt_cons]
    split
    · rfl
    · rw [pieces_cut l]
      cases cutAt l with
      | none => rfl
      | some p => rfl
theorem cutAt_eq : ∀ {l a b}, cutAt l = some (a, b) → l = a ++ 47 :: b
  | [], a, b, h => by cases h
  | c :: l, a, b, h => by
    rw [cutAt_cons] at h
    split at h
    · rename_i hc
      subst hc
      cases h
      rfl
    · obtain ⟨⟨x, y⟩, hp, e⟩ := Option.map_eq_some_iff.1 h
      cases e
      rw [cutAt_eq hp]
      rfl
theorem pieces_len : ∀ l, (pieces l).length ≤ l.length + 1
  | [] => by simp [pieces]
  | c :: l => by
    have := pieces_len l
    rw [pieces_cons]
    split
    · simp; omega
    · split
      · simp
      · rename_i h; rw [h] at this; simp at this ⊢; omega
theorem flt_snoc (pre : List Tx) (x : Tx) : flt (pre ++ [x]) = if good x then flt pre ++ [x] else flt pre := by
  unfold flt
  by_cases h : good x <;> simp [h]
theorem flt_len (pre : List Tx) : (flt pre).length ≤ pre.length := List.length_filter_le _ _
theorem flt_app (a b : List Tx) : flt (a ++ b) = flt a ++ flt b := by simp [flt]
theorem parts_len (l : Tx) : (partsL l).length ≤ l.length + 1 := Nat.le_trans (flt_len _) (pieces_len l)

/-- Pieces of a text with a slash in its midst. -/
theorem pieces_slash : ∀ (a b : Tx), pieces (a ++ 47 :: b) = pieces a ++ pieces b
  | [], b => by simp [pieces]
  | c :: a, b => by
    rw [List.cons_append, pieces_cons, pieces_cons, pieces_slash a b]
    by_cases hc : c = 47
    · rw [if_pos hc, if_pos hc]; rfl
    · rw [if_neg hc, if_neg hc]
      cases h : pieces a with
      | nil => exact absurd h (pieces_ne a)
      | cons p ps => rfl
theorem parts_slash (a b : Tx) : partsL (a ++ 47 :: b) = partsL a ++ partsL b := by rw [partsL, pieces_slash, flt_app]; rfl
theorem pieces_plain : ∀ {p : Tx}, 47 ∉ p → pieces p = [p]
  | [], _ => rfl
  | c :: p, h => by
    rw [pieces_cons, if_neg (fun e => h (by simp [e])), pieces_plain (fun hp => h (by simp [hp]))]
theorem pieces_noslash : ∀ {l p : Tx}, p ∈ pieces l → 47 ∉ p
  | [], p, h => by simp [pieces] at h; subst h; simp
  | c :: l, p, h => by
    rw [pieces_cons] at h
    split at h
    · rcases List.mem_cons.1 h with rfl | h
      · simp
      · exact pieces_noslash h
    · rename_i hc
      split at h
      · have : p = [c] := by simpa using h
        subst this
        simpa using fun e => hc e.symm
      · rename_i q qs he
        rcases List.mem_cons.1 h with rfl | h
        · have := pieces_noslash (l := l) (p := q) (by rw [he]; simp)
          simp only [List.mem_cons, not_or]
          exact ⟨fun e => hc e.symm, this⟩
        · exact pieces_noslash (l := l) (by rw [he]; simp [h])
/-- A part: not empty, no point, no slash in it. -/
def isPart (p : Tx) : Prop := good p = true ∧ 47 ∉ p
theorem parts_part {l p : Tx} (h : p ∈ partsL l) : isPart p := by
  unfold partsL flt at h
  rw [List.mem_filter] at h
  exact ⟨h.2, pieces_noslash h.1⟩
theorem parts_one {p : Tx} (h : isPart p) : partsL p = [p] := by
  rw [partsL, pieces_plain h.2, flt]
  simp [h.1]

/-! Texts of parts. -/
def joinL : List Tx → Tx
  | [] => []
  | [p] => p
  | p :: q :: l => p ++ 47 :: joinL (q :: l)
theorem parts_join : ∀ {l : List Tx}, (∀ p ∈ l, isPart p) → partsL (joinL l) = l
  | [], _ => rfl
  | [p], h => parts_one (h p (by simp))
  | p :: q :: l, h => by
    rw [joinL, parts_slash, parts_one (h p (by simp)), parts_join (fun x hx => h x (by simp at hx ⊢; exact .inr hx))]
    rfl
theorem part_ne {p : Tx} (h : isPart p) : p ≠ [] := by rintro rfl; exact absurd h.1 (by decide)
theorem join_nil {l : List Tx} (h : ∀ p ∈ l, isPart p) : joinL l = [] ↔ l = [] := by
  constructor
  · intro e
    match l, h with
    | [], _ => rfl
    | [p], h => exact absurd e (part_ne (h p (by simp)))
    | p :: q :: l, h => simp [joinL] at e
  · rintro rfl; rfl
def isAbs : Tx → Bool
  | c :: _ => c == 47
  | [] => false
theorem abs_join {l : List Tx} (h : ∀ p ∈ l, isPart p) : isAbs (joinL l) = false := by
  have key : ∀ (p r : Tx), isPart p → isAbs (p ++ r) = false := by
    intro p r hp
    match p, hp with
    | [], hp => exact absurd rfl (part_ne hp)
    | c :: p, hp =>
      have : c ≠ 47 := fun e => hp.2 (by simp [e])
      simp [isAbs, this]
  match l, h with
  | [], _ => rfl
  | [p], h => simpa [joinL] using key p [] (h p (by simp))
  | p :: q :: l, h => exact key p _ (h p (by simp))
def formL (root : Bool) (l : List Tx) : Tx := if root then 47 :: joinL l else if joinL l = [] then [46] else joinL l
theorem parts_form {root : Bool} {l : List Tx} (h : ∀ p ∈ l, isPart p) : partsL (formL root l) = l := by
  unfold formL
  cases root with
  | true =>
    rw [if_pos rfl, show (47 :: joinL l : Tx) = [] ++ 47 :: joinL l from rfl, parts_slash, parts_join h]
    rfl
  | false =>
    rw [if_neg (by simp)]
    split
    · rename_i e
      rw [join_nil h] at e
      subst e
      rfl
    · exact parts_join h
theorem abs_form {root : Bool} {l : List Tx} (h : ∀ p ∈ l, isPart p) : isAbs (formL root l) = root := by
  unfold formL
  cases root with
  | true => rfl
  | false =>
    rw [if_neg (by simp)]
    split
    · rfl
    · exact abs_join h
theorem form_ne (root : Bool) (l : List Tx) : formL root l ≠ [] := by
  unfold formL
  split
  · simp
  · split
    · simp
    · assumption

/-! The stack of a clean form: how many '..' ahead, and the parts behind them. -/
def dd : Tx := [46, 46]
def step (s : Nat × List Tx) (p : Tx) : Nat × List Tx := if p ≠ dd then (s.1, s.2 ++ [p]) else if s.2 ≠ [] then (s.1, s.2.dropLast) else (s.1 + 1, [])
def nf (ps : List Tx) : Nat × List Tx := ps.foldl step (0, [])
def stOf (abs : Bool) (s : Nat × List Tx) : List Tx := (if abs then [] else List.replicate s.1 dd) ++ s.2
def stk (s : Tx) : List Tx := stOf (isAbs s) (nf (partsL s))
def cleanL (s : Tx) : Tx := formL (isAbs s) (stk s)
/-- The program's own step. -/
def push (abs : Bool) (st : List Tx) (p : Tx) : List Tx := if p ≠ dd then st ++ [p] else if st ≠ [] ∧ st.getLast? ≠ some dd then st.dropLast else if abs then st else st ++ [p]
def inOrder (s : Nat × List Tx) : Prop := ∀ p ∈ s.2, p ≠ dd
theorem step_order {s : Nat × List Tx} (h : inOrder s) (p : Tx) : inOrder (step s p) := by
  unfold step
  split
  · rename_i hp
    intro q hq
    rcases List.mem_append.1 hq with hq | hq
    · exact h q hq
    · rw [List.mem_singleton.1 hq]; exact hp
  · split
    · intro q hq
      exact h q ((List.dropLast_sublist _).subset hq)
    · intro q hq; cases hq
theorem fold_order {s : Nat × List Tx} (h : inOrder s) : ∀ ps : List Tx, inOrder (ps.foldl step s)
  | [] => h
  | p :: ps => by
    rw [List.foldl_cons]
    exact fold_order (step_order h p) ps
theorem nf_order (ps : List Tx) : inOrder (nf ps) := fold_order (fun _ h => by cases h) ps
theorem push_step (abs : Bool) {s : Nat × List Tx} (h : inOrder s) (p : Tx) : push abs (stOf abs s) p = stOf abs (step s p) := by
  obtain ⟨k, n⟩ := s
  unfold push step stOf
  by_cases hp : p ≠ dd
  · rw [if_pos hp, if_pos hp, List.append_assoc]
  · rw [if_neg hp, if_neg hp]
    have hp : p = dd := by simpa using hp
    subst hp
    by_cases hn : n ≠ []
    · have hl : n.getLast? ≠ some dd := by
        intro e
        exact h dd (List.mem_of_getLast? e) rfl
      have hl2 : ∀ l : List Tx, (l ++ n).getLast? ≠ some dd := by
        intro l
        rw [List.getLast?_append]
        cases hg : n.getLast? with
        | none => exact absurd (List.getLast?_eq_none_iff.1 hg) hn
        | some x => rw [hg] at hl; exact hl
      rw [if_pos ⟨by simp [hn], hl2 _⟩, if_pos hn]
      rw [List.dropLast_append_of_ne_nil hn]
    · rw [if_neg hn]
      have hn : n = [] := by simpa using hn
      subst hn
      simp only [List.append_nil]
      cases abs with
      | true => simp
      | false =>
        simp only [Bool.false_eq_true, if_false]
        rw [if_neg, List.replicate_succ']
        rintro ⟨h1, h2⟩
        apply h2
        cases k with
        | zero => simp at h1
        | succ k => rw [List.replicate_succ', List.getLast?_append]; simp
theorem push_fold (abs : Bool) : ∀ (ps : List Tx) {s : Nat × List Tx}, inOrder s → ps.foldl (push abs) (stOf abs s) = stOf abs (ps.foldl step s)
  | [], s, _ => rfl
  | p :: ps, s, h => by
    rw [List.foldl_cons, List.foldl_cons, push_step abs h, push_fold abs ps (step_order h p)]
theorem stk_fold (s : Tx) : (partsL s).foldl (push (isAbs s)) [] = stk s := by
  have := push_fold (isAbs s) (partsL s) (s := (0, [])) (fun _ h => by cases h)
  rw [show stOf (isAbs s) (0, []) = [] from by unfold stOf; cases isAbs s <;> rfl] at this
  exact this

/-! Taking pairs off. -/
theorem fold_pair (a b : List Tx) {x : Tx} (hx : x ≠ dd) (s : Nat × List Tx) : (a ++ x :: dd :: b).foldl step s = (a ++ b).foldl step s := by
  rw [List.foldl_append, List.foldl_append, List.foldl_cons, List.foldl_cons]
  congr 1
  generalize a.foldl step s = t
  unfold step
  rw [if_pos hx, if_neg (by simp), if_pos (by simp)]
  simp
theorem nf_pair (a b : List Tx) {x : Tx} (hx : x ≠ dd) : nf (a ++ x :: dd :: b) = nf (a ++ b) := fold_pair a b hx _
/-- No pair of a part and '..' behind it. -/
def noPair (l : List Tx) : Prop := ∀ i x y, l[i]? = some x → l[i + 1]? = some y → x ≠ dd → y ≠ dd
theorem noPair_tail {p : Tx} {l : List Tx} (h : noPair (p :: l)) : noPair l := fun i x y hx hy => h (i + 1) x y (by simpa using hx) (by simpa using hy)
theorem noPair_parts : ∀ {l : List Tx}, noPair l → (∀ p, l.head? = some p → p ≠ dd) → ∀ p ∈ l, p ≠ dd
  | [], _, _, p, h => by cases h
  | q :: l, h, hh, p, hp => by
    have hq : q ≠ dd := hh q rfl
    rcases List.mem_cons.1 hp with rfl | hp
    · exact hq
    · refine noPair_parts (noPair_tail h) (fun x hx => ?_) p hp
      cases l with
      | nil => cases hx
      | cons y l =>
        obtain rfl : y = x := by simpa using hx
        exact h 0 q y rfl rfl hq
theorem fold_plain : ∀ (l : List Tx) (k : Nat) (n : List Tx), (∀ p ∈ l, p ≠ dd) → l.foldl step (k, n) = (k, n ++ l)
  | [], k, n, _ => by simp
  | p :: l, k, n, h => by
    rw [List.foldl_cons]
    have : step (k, n) p = (k, n ++ [p]) := by unfold step; rw [if_pos (h p (by simp))]
    rw [this, fold_plain l k _ (fun q hq => h q (by simp [hq]))]
    simp
theorem fold_noPair : ∀ {l : List Tx} (k : Nat), noPair l → ∃ j, l.foldl step (k, []) = (k + j, l.drop j) ∧ l = List.replicate j dd ++ l.drop j ∧ ∀ p ∈ l.drop j, p ≠ dd
  | [], k, _ => ⟨0, by simp, by simp, by simp⟩
  | p :: l, k, h => by
    by_cases hp : p = dd
    · obtain ⟨j, h1, h2, h3⟩ := fold_noPair (l := l) (k + 1) (noPair_tail h)
      refine ⟨j + 1, ?_, ?_, by simpa using h3⟩
      · rw [List.foldl_cons]
        have : step (k, []) p = (k + 1, []) := by unfold step; rw [if_neg (by simp [hp]), if_neg (by simp)]
        rw [this, h1]
        simp; omega
      · rw [List.replicate_succ, List.drop_succ_cons, List.cons_append, ← h2, hp]
    · have hall := noPair_parts h (fun q hq => by cases hq; exact hp)
      exact ⟨0, by rw [fold_plain _ _ _ hall]; simp, by simp, by simpa using hall⟩
/-- A list without pairs is the stack of itself. -/
theorem noPair_stk {l : List Tx} (h : noPair l) : stOf false (nf l) = l := by
  obtain ⟨j, h1, h2, h3⟩ := fold_noPair 0 h
  unfold nf
  rw [h1]
  unfold stOf
  simp only [Nat.zero_add, Bool.false_eq_true, if_false]
  exact h2.symm
theorem stk_true (l : List Tx) : stOf true (nf l) = (stOf false (nf l)).dropWhile (· == dd) := by
  have h := nf_order l
  generalize nf l = s at h
  obtain ⟨k, n⟩ := s
  unfold stOf
  simp only [if_true, Bool.false_eq_true, if_false, List.nil_append]
  have hn : n.dropWhile (· == dd) = n := by
    cases n with
    | nil => rfl
    | cons p n => rw [List.dropWhile_cons_of_neg]; simpa using h p (by simp)
  induction k with
  | zero => simp [hn]
  | succ k ih => rw [List.replicate_succ, List.cons_append, List.dropWhile_cons_of_pos (by simp)]; exact ih h

/-! What is clean. -/
theorem step_mem {s : Nat × List Tx} {p q : Tx} (h : q ∈ (step s p).2) : q ∈ s.2 ∨ q = p := by
  unfold step at h
  split at h
  · rcases List.mem_append.1 h with h | h
    · exact .inl h
    · exact .inr (List.mem_singleton.1 h)
  · split at h
    · exact .inl ((List.dropLast_sublist _).subset h)
    · cases h
theorem fold_mem : ∀ (ps : List Tx) {s : Nat × List Tx} {q : Tx}, q ∈ (ps.foldl step s).2 → q ∈ s.2 ∨ q ∈ ps
  | [], s, q, h => .inl h
  | p :: ps, s, q, h => by
    rw [List.foldl_cons] at h
    rcases fold_mem ps h with h | h
    · rcases step_mem h with h | h
      · exact .inl h
      · exact .inr (by simp [h])
    · exact .inr (by simp [h])
theorem dd_part : isPart dd := ⟨rfl, by decide⟩
theorem stOf_part {abs : Bool} {ps : List Tx} (h : ∀ p ∈ ps, isPart p) : ∀ p ∈ stOf abs (nf ps), isPart p := by
  intro p hp
  unfold stOf at hp
  rcases List.mem_append.1 hp with hp | hp
  · cases abs with
    | true => cases hp
    | false => rw [(List.mem_replicate.1 hp).2]; exact dd_part
  · rcases fold_mem ps hp with h' | h'
    · cases h'
    · exact h p h'
theorem stk_part (s : Tx) : ∀ p ∈ stk s, isPart p := stOf_part fun p hp => parts_part hp
theorem fold_dd : ∀ (k j : Nat), (List.replicate j dd).foldl step (k, []) = (k + j, [])
  | k, 0 => rfl
  | k, j + 1 => by
    rw [List.replicate_succ, List.foldl_cons]
    have : step (k, []) dd = (k + 1, []) := by unfold step; rw [if_neg (by simp), if_neg (by simp)]
    rw [this, fold_dd (k + 1) j]
    congr 1; omega
/-- A stack is the stack of itself. -/
theorem nf_stk (abs : Bool) {s : Nat × List Tx} (h : inOrder s) : stOf abs (nf (stOf abs s)) = stOf abs s := by
  obtain ⟨k, n⟩ := s
  unfold nf
  cases abs with
  | true =>
    have e : stOf true (k, n) = n := rfl
    rw [e, fold_plain n 0 [] h]
    rfl
  | false =>
    have e : stOf false (k, n) = List.replicate k dd ++ n := rfl
    rw [e, List.foldl_append, fold_dd, fold_plain n _ [] h]
    simp [stOf]
theorem parts_clean (s : Tx) : partsL (cleanL s) = stk s := parts_form (stk_part s)
theorem abs_clean (s : Tx) : isAbs (cleanL s) = isAbs s := abs_form (stk_part s)
theorem stk_clean (s : Tx) : stk (cleanL s) = stk s := by
  unfold stk
  rw [abs_clean, parts_clean]
  exact nf_stk _ (nf_order _)
theorem clean_clean (s : Tx) : cleanL (cleanL s) = cleanL s := by
  show formL (isAbs (cleanL s)) (stk (cleanL s)) = cleanL s
  rw [stk_clean, abs_clean]
  rfl
theorem clean_inj {s t : Tx} (h : cleanL s = cleanL t) : stk s = stk t := by
  rw [← parts_clean s, ← parts_clean t, h]
def safeL (s : Tx) : Bool := !isAbs s && !(stk s).contains dd
theorem safe_clean (s : Tx) : safeL (cleanL s) = safeL s := by unfold safeL; rw [abs_clean, stk_clean]
theorem safe_nf {s : Tx} (h : safeL s = true) : isAbs s = false ∧ (nf (partsL s)).1 = 0 := by
  unfold safeL at h
  simp only [Bool.and_eq_true, Bool.not_eq_true'] at h
  refine ⟨h.1, ?_⟩
  have h2 := h.2
  unfold stk stOf at h2
  rw [h.1] at h2
  apply Classical.byContradiction
  intro hk
  have : dd ∈ (List.replicate (nf (partsL s)).1 dd ++ (nf (partsL s)).2) := List.mem_append.2 (.inl (List.mem_replicate.2 ⟨hk, rfl⟩))
  simp only [Bool.false_eq_true, if_false] at h2
  rw [List.contains_iff_mem.2 this] at h2
  cases h2
/-- What never goes below where it began goes on from anywhere. -/
theorem fold_above : ∀ (ps : List Tx) (k k' : Nat) (n m : List Tx), (ps.foldl step (k, m)).1 = k → ps.foldl step (k', n ++ m) = (k', n ++ (ps.foldl step (k, m)).2)
  | [], k, k', n, m, _ => rfl
  | p :: ps, k, k', n, m, h => by
    rw [List.foldl_cons] at h ⊢
    rw [List.foldl_cons]
    have mono : ∀ (ps : List Tx) (s : Nat × List Tx), s.1 ≤ (ps.foldl step s).1 := by
      intro ps
      induction ps with
      | nil => intro s; exact Nat.le_refl _
      | cons q ps ih =>
        intro s
        rw [List.foldl_cons]
        refine Nat.le_trans ?_ (ih _)
        unfold step
        split
        · exact Nat.le_refl _
        · split
          · exact Nat.le_refl _
          · exact Nat.le_succ _
    by_cases hp : p ≠ dd
    · have e1 : step (k, m) p = (k, m ++ [p]) := by unfold step; rw [if_pos hp]
      have e2 : step (k', n ++ m) p = (k', n ++ (m ++ [p])) := by unfold step; rw [if_pos hp]; simp
      rw [e1] at h ⊢
      rw [e2]
      exact fold_above ps k k' n _ h
    · by_cases hm : m ≠ []
      · have e1 : step (k, m) p = (k, m.dropLast) := by unfold step; rw [if_neg hp, if_pos hm]
        have e2 : step (k', n ++ m) p = (k', n ++ m.dropLast) := by unfold step; rw [if_neg hp, if_pos (by simp [hm]), List.dropLast_append_of_ne_nil hm]
        rw [e1] at h ⊢
        rw [e2]
        exact fold_above ps k k' n _ h
      · have e1 : step (k, m) p = (k + 1, []) := by unfold step; rw [if_neg hp, if_neg hm]
        rw [e1] at h
        have := mono ps (k + 1, [])
        simp only at this
        omega
def joinP (dir s : Tx) : Tx := if dir = [] ∨ isAbs s = true then cleanL s else cleanL (dir ++ 47 :: s)
theorem abs_app {dir : Tx} (h : dir ≠ []) (s : Tx) : isAbs (dir ++ s) = isAbs dir := by
  cases dir with
  | nil => exact absurd rfl h
  | cons c d => rfl
/-- A dir and a safe name. -/
theorem stk_join {dir s : Tx} (hd : dir ≠ []) (hs : safeL s = true) : stk (dir ++ 47 :: s) = stk dir ++ (nf (partsL s)).2 := by
  obtain ⟨_, h0⟩ := safe_nf hs
  unfold stk
  rw [abs_app hd, parts_slash]
  unfold nf at *
  rw [List.foldl_append]
  generalize hf : (partsL dir).foldl step (0, []) = d
  obtain ⟨k', n⟩ := d
  have := fold_above (partsL s) 0 k' n [] h0
  rw [List.append_nil] at this
  rw [this]
  simp [stOf]
def inL (s dir : Tx) : Bool := isAbs s == isAbs dir && decide ((stk s).length > (stk dir).length) && decide ((stk s).take (stk dir).length = stk dir)
theorem join_in {dir s : Tx} (hd : dir ≠ []) (hs : safeL s = true) : joinP dir s = cleanL dir ∨ inL (joinP dir s) dir = true := by
  obtain ⟨ha, _⟩ := safe_nf hs
  have e : joinP dir s = cleanL (dir ++ 47 :: s) := by unfold joinP; rw [if_neg (by simp [hd, ha])]
  rw [e]
  have hst := stk_join hd hs
  have hab := abs_app hd (47 :: s)
  by_cases hm : (nf (partsL s)).2 = []
  · left
    unfold cleanL
    rw [hst, hab, hm, List.append_nil]
  · right
    unfold inL
    rw [abs_clean, stk_clean, hst, hab]
    have hl : 0 < (nf (partsL s)).2.length := List.length_pos_iff.2 hm
    simp; omega
theorem in_not {s dir : Tx} (h : inL s dir = true) : inL dir s = false ∧ cleanL s ≠ cleanL dir := by
  unfold inL at h
  simp only [Bool.and_eq_true, decide_eq_true_eq, beq_iff_eq] at h
  refine ⟨?_, fun e => ?_⟩
  · unfold inL
    rw [Bool.eq_false_iff]
    simp only [ne_eq, Bool.and_eq_true, decide_eq_true_eq]
    omega
  · have := clean_inj e
    have h2 := h.1.2
    rw [this] at h2
    omega
/-- What is above. -/
def upL (s : Tx) : Tx × Tx := if stk s = [] then (cleanL s, cleanL s) else (formL (isAbs s) (stk s).dropLast, (stk s).getLast?.getD [])
theorem up_join (s : Tx) : (upL s).2 = cleanL s ∨ joinP (upL s).1 (upL s).2 = cleanL s := by
  unfold upL
  split
  · exact .inl rfl
  · rename_i hn
    right
    have hp := stk_part s
    have hdl : ∀ p ∈ (stk s).dropLast, isPart p := fun p hp' => hp p ((List.dropLast_sublist _).subset hp')
    have hlast : (stk s).getLast?.getD [] = (stk s).getLast hn := by rw [List.getLast?_eq_some_getLast hn]; rfl
    simp only
    rw [hlast]
    have hlp := hp _ (List.getLast_mem hn)
    have hla : isAbs ((stk s).getLast hn) = false := by
      have := abs_join (l := [(stk s).getLast hn]) (by simpa using hlp)
      simpa [joinL] using this
    unfold joinP
    rw [if_neg (by simp [form_ne, hla])]
    have e1 : isAbs (formL (isAbs s) (stk s).dropLast ++ 47 :: (stk s).getLast hn) = isAbs s := by rw [abs_app (form_ne _ _), abs_form hdl]
    have e2 : partsL (formL (isAbs s) (stk s).dropLast ++ 47 :: (stk s).getLast hn) = stk s := by
      rw [parts_slash, parts_form hdl, parts_one hlp, List.dropLast_concat_getLast hn]
    unfold cleanL
    rw [e1]
    congr 1
    show stOf (isAbs (formL (isAbs s) (stk s).dropLast ++ 47 :: (stk s).getLast hn)) (nf (partsL (formL (isAbs s) (stk s).dropLast ++ 47 :: (stk s).getLast hn))) = stk s
    rw [e1, e2]
    exact nf_stk _ (nf_order _)
/-- Where the first pair is. -/
def findPair : List Tx → Option Nat
  | [] => none
  | [_] => none
  | x :: y :: l => if x ≠ dd ∧ y = dd then some 0 else (findPair (y :: l)).map (· + 1)
theorem findPair_cons (x y : Tx) (l : List Tx) : findPair (x :: y :: l) = if x ≠ dd ∧ y = dd then some 0 else (findPair (y :: l)).map (· + 1) := rfl
theorem findPair_none : ∀ {l : List Tx}, findPair l = none → noPair l
  | [], _ => fun i x y hx hy => by simp at hx
  | [_], _ => fun i x y hx hy => by simp at hy
  | p :: q :: l, h => by
    rw [findPair_cons] at h
    split at h
    · cases h
    · rename_i hn
      have ih := findPair_none (l := q :: l) (by simpa using h)
      intro i x y hx hy hxd
      cases i with
      | zero =>
        obtain rfl : p = x := by simpa using hx
        obtain rfl : q = y := by simpa using hy
        exact fun e => hn ⟨hxd, e⟩
      | succ i => exact ih i x y (by simpa using hx) (by simpa using hy) hxd
theorem findPair_some : ∀ {l : List Tx} {j : Nat}, findPair l = some j → ∃ a x b, l = a ++ x :: dd :: b ∧ a.length = j ∧ x ≠ dd
  | [], j, h => by cases h
  | [_], j, h => by cases h
  | p :: q :: l, j, h => by
    rw [findPair_cons] at h
    split at h
    · rename_i hp
      obtain rfl : 0 = j := by simpa using h
      exact ⟨[], p, l, by rw [hp.2]; rfl, rfl, hp.1⟩
    · obtain ⟨i, hi, rfl⟩ := Option.map_eq_some_iff.1 h
      obtain ⟨a, x, b, e, hl, hx⟩ := findPair_some hi
      exact ⟨p :: a, x, b, by rw [e]; rfl, by simp [hl], hx⟩
def leftP (abs : Bool) (l : List Tx) : List Tx := if abs then l.dropWhile (· == dd) else l
theorem left_stk (abs : Bool) (l : List Tx) : leftP abs (stOf false (nf l)) = stOf abs (nf l) := by
  cases abs with
  | true => rw [stk_true]; rfl
  | false => rfl
theorem left_pair (abs : Bool) (a b : List Tx) {x : Tx} (hx : x ≠ dd) : leftP abs (stOf false (nf (a ++ x :: dd :: b))) = leftP abs (stOf false (nf (a ++ b))) := by rw [nf_pair a b hx]
theorem left_none (abs : Bool) {l : List Tx} (h : findPair l = none) : leftP abs l = leftP abs (stOf false (nf l)) := by rw [noPair_stk (findPair_none h)]
theorem cut_pair (a b : List Tx) (x : Tx) : (a ++ x :: dd :: b).take a.length ++ (a ++ x :: dd :: b).drop (a.length + 2) = a ++ b := by
  rw [List.take_left' rfl, ← List.drop_drop, List.drop_left' rfl]
  rfl
theorem join_len : ∀ l : List Tx, (joinL l).length ≤ l.flatten.length + l.length
  | [] => by simp [joinL]
  | [p] => by simp [joinL]
  | p :: q :: l => by
    have := join_len (q :: l)
    simp only [joinL, List.length_append, List.length_cons, List.flatten_cons] at this ⊢
    omega
theorem pieces_sum : ∀ l : Tx, (pieces l).flatten.length ≤ l.length
  | [] => by simp [pieces]
  | c :: l => by
    have := pieces_sum l
    rw [pieces_cons]
    split
    · simp at this ⊢; omega
    · split
      · simp
      · rename_i h
        rw [h] at this
        simp at this ⊢; omega
theorem flt_sum : ∀ l : List Tx, (flt l).flatten.length ≤ l.flatten.length
  | [] => by simp [flt]
  | p :: l => by
    have := flt_sum l
    unfold flt at this ⊢
    rw [List.filter_cons]
    split <;> simp at this ⊢ <;> omega
theorem parts_sum (s : Tx) : (partsL s).flatten.length ≤ s.length := Nat.le_trans (flt_sum _) (pieces_sum s)
/-- How much a stack weighs. -/
def wt (s : Nat × List Tx) : Nat := 2 * s.1 + s.2.flatten.length
theorem step_wt (s : Nat × List Tx) (p : Tx) : wt (step s p) ≤ wt s + p.length ∧ (step s p).1 + (step s p).2.length ≤ s.1 + s.2.length + 1 := by
  obtain ⟨k, m⟩ := s
  unfold step wt
  by_cases hp : p ≠ dd
  · rw [if_pos hp]; simp; omega
  · rw [if_neg hp]
    have hp : p = dd := by simpa using hp
    subst hp
    by_cases hm : m ≠ []
    · rw [if_pos hm]
      have e : m.dropLast.flatten.length ≤ m.flatten.length := by
        conv => rhs; rw [← List.dropLast_concat_getLast hm]
        simp
      simp only [List.length_dropLast]
      omega
    · rw [if_neg hm]
      have hm : m = [] := by simpa using hm
      subst hm
      simp [dd]; omega
theorem fold_wt : ∀ (ps : List Tx) (s : Nat × List Tx), wt (ps.foldl step s) ≤ wt s + ps.flatten.length ∧ (ps.foldl step s).1 + (ps.foldl step s).2.length ≤ s.1 + s.2.length + ps.length
  | [], s => by simp
  | p :: ps, s => by
    have h1 := fold_wt ps (step s p)
    have h2 := step_wt s p
    rw [List.foldl_cons, List.flatten_cons, List.length_append, List.length_cons]
    omega
theorem stk_sum (s : Tx) : (stk s).flatten.length ≤ s.length ∧ (stk s).length ≤ s.length + 1 := by
  have h := fold_wt (partsL s) (0, [])
  have h1 := parts_sum s
  have h2 := parts_len s
  unfold wt at h
  simp only [List.flatten_nil, List.length_nil, Nat.mul_zero, Nat.zero_add, Nat.add_zero] at h
  unfold stk stOf nf
  generalize (partsL s).foldl step (0, []) = t at h
  cases isAbs s with
  | true => simp only [if_true, List.nil_append]; omega
  | false =>
    simp only [Bool.false_eq_true, if_false, List.flatten_append, List.length_append, List.length_replicate]
    have : (List.replicate t.1 dd).flatten.length = 2 * t.1 := by
      induction t.1 with
      | zero => rfl
      | succ m ih => rw [List.replicate_succ, List.flatten_cons, List.length_append, ih]; simp [dd]; omega
    omega
end Go.Proofs.YtelniipccmeooaaDoor.P24
