/- The order of items in plain words: picking, again and again, the first place that leans on none that is left. No program in sight. -/
import Derived.Test.YtelniipccmeooaaDoorQ24
set_option linter.unusedVariables false
set_option linter.unusedSectionVars false
namespace Go.Proofs.YtelniipccmeooaaDoor.P40

/-- May place i be taken? t: what is taken; R: what leans on which. -/
def free (n : Nat) (R : Nat → Nat → Bool) (t : Nat → Bool) (i : Nat) : Bool := (List.range n).all (fun k => t k || !R i k) && !t i
def pick (n : Nat) (R : Nat → Nat → Bool) (t : Nat → Bool) : Nat := match (List.range n).find? (free n R t) with
  | some i => i
  | none => ((List.range n).find? fun i => !t i).getD 0
def sortGo (n : Nat) (R : Nat → Nat → Bool) : Nat → List Nat → List Nat
  | 0, out => out
  | m + 1, out => sortGo n R m (out ++ [pick n R out.contains])
def sorted (n : Nat) (R : Nat → Nat → Bool) : List Nat := sortGo n R n []

/-- The program's way: the first place met that is not taken is kept in mind. -/
def choose (n : Nat) (R : Nat → Nat → Bool) (t : Nat → Bool) : List Nat → Option Nat → Option Nat
  | [], nx => nx
  | i :: l, nx => if t i then choose n R t l nx else if (List.range n).all (fun k => t k || !R i k) then some i else choose n R t l (nx.or (some i))
theorem choose_eq (n : Nat) (R : Nat → Nat → Bool) (t : Nat → Bool) : ∀ (l : List Nat) (nx : Option Nat), choose n R t l nx = match l.find? (free n R t) with
    | some i => some i
    | none => nx.or (l.find? fun i => !t i)
  | [], nx => by cases nx <;> rfl
  | i :: l, nx => by
    rw [choose, List.find?_cons, List.find?_cons, choose_eq n R t l nx]
    unfold free
    cases ht : t i with
    | true => simp only [Bool.not_true, Bool.and_false, if_true]
    | false =>
      simp only [Bool.not_false, Bool.and_true, Bool.false_eq_true, if_false]
      cases ha : (List.range n).all (fun k => t k || !R i k) with
      | true => simp
      | false =>
        simp only [Bool.false_eq_true, if_false]
        rw [choose_eq n R t l]
        unfold free
        cases l.find? (fun i => (List.range n).all (fun k => t k || !R i k) && !t i) with
        | some j => rfl
        | none => cases nx <;> simp
/-- The reference's way: from the end down. -/
def down (p : Nat → Bool) : Nat → Option Nat → Option Nat
  | 0, acc => acc
  | i + 1, acc => down p i (if p i then some i else acc)
theorem down_eq (p : Nat → Bool) : ∀ (m : Nat) (acc : Option Nat), down p m acc = ((List.range m).find? p).or acc
  | 0, acc => by simp [down]
  | m + 1, acc => by
    rw [down, down_eq p m, List.range_succ, List.find?_append]
    cases hf : (List.range m).find? p with
    | some i => simp
    | none =>
      simp only [Option.none_or, List.find?_cons, List.find?_nil]
      cases p m <;> simp

theorem find_none {n : Nat} {p : Nat → Bool} : (List.range n).find? p = none ↔ ∀ i, i < n → p i = false := by simp [List.find?_eq_none]
theorem find_some {n i : Nat} {p : Nat → Bool} (h : (List.range n).find? p = some i) : i < n ∧ p i = true ∧ ∀ j, j < i → p j = false := by
  have h1 := List.find?_some h
  have h2 : i ∈ List.range n := List.mem_of_find?_eq_some h
  rw [List.find?_range_eq_some] at h
  refine ⟨by simpa using h2, h1, fun j hj => ?_⟩
  have := h.2.2 j hj
  simpa using this
theorem any_left {n : Nat} {out : List Nat} (hl : out.length < n) : ∃ i, i < n ∧ out.contains i = false := by
  apply Classical.byContradiction
  intro h
  have hsub : ∀ i ∈ List.range n, i ∈ out := by
    intro i hi
    apply Classical.byContradiction
    intro hn
    exact h ⟨i, by simpa using hi, by rw [Bool.eq_false_iff]; intro hc; exact hn (List.contains_iff_mem.1 hc)⟩
  have := (List.nodup_range (n := n)).length_le_of_subset hsub
  rw [List.length_range] at this
  omega
theorem pick_lt {n : Nat} {R : Nat → Nat → Bool} {out : List Nat} (hl : out.length < n) : pick n R out.contains < n ∧ out.contains (pick n R out.contains) = false := by
  unfold pick
  cases hf : (List.range n).find? (free n R out.contains) with
  | some i =>
    obtain ⟨h1, h2, _⟩ := find_some hf
    unfold free at h2
    simp only [Bool.and_eq_true, Bool.not_eq_true'] at h2
    exact ⟨h1, h2.2⟩
  | none =>
    obtain ⟨i, hi, hc⟩ := any_left hl
    cases hg : (List.range n).find? (fun i => !out.contains i) with
    | none =>
      have := find_none.1 hg i hi
      rw [hc] at this
      cases this
    | some j =>
      obtain ⟨h1, h2, _⟩ := find_some hg
      exact ⟨h1, by simpa using h2⟩
/-- What the picking has gathered at each time. -/
structure Gone (n : Nat) (out : List Nat) : Prop where
  lt : ∀ i ∈ out, i < n
  nd : out.Nodup
theorem Gone.snoc {n : Nat} {R : Nat → Nat → Bool} {out : List Nat} (h : Gone n out) (hl : out.length < n) : Gone n (out ++ [pick n R out.contains]) := by
  obtain ⟨h1, h2⟩ := pick_lt (R := R) hl
  refine ⟨fun i hi => ?_, ?_⟩
  · rcases List.mem_append.1 hi with hi | hi
    · exact h.lt i hi
    · rw [List.mem_singleton.1 hi]; exact h1
  · rw [List.nodup_append]
    refine ⟨h.nd, by simp, fun a ha b hb => ?_⟩
    rw [List.mem_singleton.1 hb]
    rintro rfl
    rw [List.contains_iff_mem.2 ha] at h2
    cases h2
theorem sortGo_gone {n : Nat} {R : Nat → Nat → Bool} : ∀ (m : Nat) {out : List Nat}, Gone n out → out.length + m ≤ n → Gone n (sortGo n R m out) ∧ (sortGo n R m out).length = out.length + m
  | 0, out, h, _ => ⟨h, rfl⟩
  | m + 1, out, h, hl => by
    have := sortGo_gone (R := R) m (h.snoc (R := R) (by omega)) (by simp; omega)
    rw [sortGo]
    refine ⟨this.1, ?_⟩
    rw [this.2]
    simp; omega
theorem sorted_gone (n : Nat) (R : Nat → Nat → Bool) : Gone n (sorted n R) ∧ (sorted n R).length = n := by
  have h : Gone n [] := ⟨by simp, by simp⟩
  have := sortGo_gone (R := R) n h (by simp)
  unfold sorted
  exact ⟨this.1, by simpa using this.2⟩

/-- With a rank that falls along every lean, there is a free place as long as one is left. -/
theorem pick_free {n : Nat} {R : Nat → Nat → Bool} (rk : Nat → Nat) (hr : ∀ i k, i < n → k < n → R i k = true → rk k < rk i) {out : List Nat} (hl : out.length < n) : free n R out.contains (pick n R out.contains) = true := by
  unfold pick
  cases hf : (List.range n).find? (free n R out.contains) with
  | some i => exact (find_some hf).2.1
  | none =>
    exfalso
    have hall := find_none.1 hf
    -- a place left of least rank
    have : ∀ b, ∀ i, i < n → out.contains i = false → rk i ≤ b → False := by
      intro b
      induction b with
      | zero =>
        intro i hi hc hb
        have := hall i hi
        unfold free at this
        rw [hc] at this
        simp only [Bool.not_false, Bool.and_true] at this
        rw [List.all_eq_false] at this
        obtain ⟨k, hk, h⟩ := this
        have hk : k < n := by simpa using hk
        simp only [Bool.not_eq_true, Bool.or_eq_false_iff, Bool.not_eq_false'] at h
        have := hr i k hi hk h.2
        omega
      | succ b ih =>
        intro i hi hc hb
        have := hall i hi
        unfold free at this
        rw [hc] at this
        simp only [Bool.not_false, Bool.and_true] at this
        rw [List.all_eq_false] at this
        obtain ⟨k, hk, h⟩ := this
        have hk : k < n := by simpa using hk
        simp only [Bool.not_eq_true, Bool.or_eq_false_iff, Bool.not_eq_false'] at h
        have := hr i k hi hk h.2
        exact ih k hk h.1 (by omega)
    obtain ⟨i, hi, hc⟩ := any_left hl
    exact this (rk i) i hi hc (Nat.le_refl _)
/-- Of what is gathered, none leans on one that came later, or is still left. -/
def Fine (n : Nat) (R : Nat → Nat → Bool) (out : List Nat) : Prop := ∀ pre a suf, out = pre ++ a :: suf → ∀ k, k < n → k ∉ pre → R a k = false
theorem sortGo_fine {n : Nat} {R : Nat → Nat → Bool} (rk : Nat → Nat) (hr : ∀ i k, i < n → k < n → R i k = true → rk k < rk i) : ∀ (m : Nat) {out : List Nat}, Fine n R out → out.length + m ≤ n → Fine n R (sortGo n R m out)
  | 0, out, h, _ => h
  | m + 1, out, h, hl => by
    rw [sortGo]
    refine sortGo_fine rk hr m ?_ (by simp; omega)
    intro pre a suf e k hk hp
    rcases List.append_eq_append_iff.1 e with ⟨c, h1, h2⟩ | ⟨c, h1, h2⟩
    · -- out is a beginning of pre, or pre ends within
      cases c with
      | nil =>
        simp only [List.nil_append, List.cons.injEq] at h2
        rw [List.append_nil] at h1
        subst h1
        have hf := pick_free rk hr (out := pre) (by omega)
        rw [h2.1] at hf
        unfold free at hf
        simp only [Bool.and_eq_true] at hf
        have := List.all_eq_true.1 hf.1 k (by simpa using hk)
        have hc : pre.contains k = false := by rw [Bool.eq_false_iff]; intro h; exact hp (List.contains_iff_mem.1 h)
        rw [hc] at this
        simpa using this
      | cons x c =>
        simp at h2
    · cases c with
      | nil =>
        simp only [List.nil_append, List.cons.injEq] at h2
        rw [List.append_nil] at h1
        subst h1
        have hf := pick_free rk hr (out := out) (by omega)
        rw [← h2.1] at hf
        unfold free at hf
        simp only [Bool.and_eq_true] at hf
        have := List.all_eq_true.1 hf.1 k (by simpa using hk)
        have hc : out.contains k = false := by rw [Bool.eq_false_iff]; intro h; exact hp (List.contains_iff_mem.1 h)
        rw [hc] at this
        simpa using this
      | cons x c =>
        simp only [List.cons_append, List.cons.injEq] at h2
        obtain ⟨rfl, _⟩ := h2
        exact h pre a c h1 k hk hp
theorem sorted_fine {n : Nat} {R : Nat → Nat → Bool} (rk : Nat → Nat) (hr : ∀ i k, i < n → k < n → R i k = true → rk k < rk i) {a b : Nat} (hab : a < b) (hb : b < n) : R ((sorted n R).getD a 0) ((sorted n R).getD b 0) = false := by
  obtain ⟨hg, hlen⟩ := sorted_gone n R
  have hfine := sortGo_fine (R := R) rk hr n (out := []) (fun pre a suf e => by simp at e) (by simp)
  have hfine : Fine n R (sorted n R) := hfine
  generalize sorted n R = s at *
  have ha : a < s.length := by omega
  have hb' : b < s.length := by omega
  rw [List.getD_eq_getElem?_getD, List.getD_eq_getElem?_getD, List.getElem?_eq_getElem ha, List.getElem?_eq_getElem hb', Option.getD_some, Option.getD_some]
  refine hfine (s.take a) s[a] (s.drop (a + 1)) (by rw [List.getElem_cons_drop, List.take_append_drop]) s[b] (hg.lt _ (List.getElem_mem hb')) fun hm => ?_
  obtain ⟨j, hj, e⟩ := List.getElem_of_mem hm
  rw [List.length_take] at hj
  rw [List.getElem_take] at e
  have := (List.getElem?_inj (i := j) (j := b) (by omega) hg.nd).1 (by rw [List.getElem?_eq_getElem (by omega), List.getElem?_eq_getElem hb', e])
  omega
/-- What is in order stays. -/
theorem sortGo_id {n : Nat} {R : Nat → Nat → Bool} (h0 : ∀ i, R i i = false) (h : ∀ i k, i < k → k < n → R i k = false) : ∀ (m j : Nat), j + m ≤ n → sortGo n R m (List.range j) = List.range (j + m)
  | 0, j, _ => rfl
  | m + 1, j, hj => by
    have hp : pick n R (List.range j).contains = j := by
      have hc : ∀ i, (List.range j).contains i = decide (i < j) := by intro i; rw [Bool.eq_iff_iff]; simp
      have : (List.range n).find? (free n R (List.range j).contains) = some j := by
        rw [List.find?_range_eq_some]
        refine ⟨?_, List.mem_range.2 (by omega), fun i hi => ?_⟩
        · unfold free
          rw [hc j]
          simp only [Nat.lt_irrefl, decide_false, Bool.not_false, Bool.and_true]
          rw [List.all_eq_true]
          intro k hk
          have hk : k < n := by simpa using hk
          rw [hc k]
          by_cases hkj : k < j
          · simp [hkj]
          · by_cases hjk : j = k
            · subst hjk
              rw [h0 j]; simp
            · rw [h j k (by omega) hk]; simp
        · unfold free
          rw [hc i]
          simp [hi]
      unfold pick
      rw [this]
    rw [sortGo, hp, ← List.range_succ, sortGo_id h0 h m (j + 1) (by omega)]
    congr 1; omega
theorem sorted_id {n : Nat} {R : Nat → Nat → Bool} (h0 : ∀ i, R i i = false) (h : ∀ i k, i < k → k < n → R i k = false) : sorted n R = List.range n := by
  have := sortGo_id h0 h n 0 (Nat.le_of_eq (Nat.zero_add n))
  simpa [sorted] using this
end Go.Proofs.YtelniipccmeooaaDoor.P40
