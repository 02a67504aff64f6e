/- From a datum, as a row reads it, to a kind (Kd): every value that a row hands in is of its type's kind, with bounds. -/
import Derived.Test.YtelniipccmeooaaWWords
import Derived.SizedLaws
import Derived.ChangeSlices
import Derived.Deep.Slices
import Derived.ChangeSame
set_option linter.unusedVariables false
namespace Go.Proofs.Ytelniipccmeooaa.Rdr
open Go.ChangeShapes Go.WideShapes Go.Deep Go.Proofs.YtelniipccmeooaaW.PrintWords

/-- Whatever reads as a datum of type t, and weighs no more than can be reached, is of kind d, and G. -/
structure Rd (P : Program) (t : TypeId) {α : Type} (d : Kd α) (G : α → Prop) : Prop where
  out : ∀ {H : Type} {enc : TypeId × Value → H} {w : World} {base : Nat} {spare : Nat → Bool} {held : Bool} {fuel : Nat} {cs : List Value} {x : DataW H × List MemPlace},
    DataW.trod enc P w base spare held fuel t cs = some x → (∀ n ∈ x.1.weights P t, n ≤ reachBytes) → ∃ r, d.K w r cs ∧ G r

theorem int {P : Program} {t : TypeId} {k : IntKind} (hu : P.underlying t = some (.int k)) : Rd P t (Kd.int k) (fun r => (Lit.int k r).wf = true) :=
  ⟨fun h _ => by
    obtain ⟨n, rfl, _, hw⟩ := DataW.trod_int hu h
    exact ⟨n, rfl, hw⟩⟩
theorem bool {P : Program} {t : TypeId} (hu : P.underlying t = some .bool) : Rd P t Kd.bool (fun _ => True) :=
  ⟨fun h _ => by
    obtain ⟨n, rfl, _⟩ := DataW.trod_bool hu h
    exact ⟨n, rfl, trivial⟩⟩
theorem string {P : Program} {t : TypeId} (hu : P.underlying t = some .string) : Rd P t Kd.string (fun s => s.size ≤ 140737488351232) :=
  ⟨fun h hw => by
    obtain ⟨s, rfl, rfl, _⟩ := DataW.trod_string hu h
    refine ⟨s, rfl, ?_⟩
    have := hw s.data.toList.length (by simp [DataW.weights])
    rw [Array.length_toList] at this
    exact this⟩

theorem weights_all {H : Type} {P : Program} {e : TypeId} : ∀ {ds : List (DataW H)} {d : DataW H}, d ∈ ds → ∀ n ∈ d.weights P e, n ∈ DataW.weightsAll P e ds
  | [], _, h, _, _ => by cases h
  | d0 :: ds, d, h, n, hn => by
    simp only [DataW.weightsAll, List.mem_append]
    rcases List.mem_cons.1 h with rfl | h
    · exact .inl hn
    · exact .inr (weights_all h n hn)

theorem all_reads {α : Type} {G : α → Prop} {R : Nat → α → List Value → Prop} (n : Nat) (h : ∀ i, i < n → ∃ r c, R i r c ∧ G r) :
    ∃ l : List α, l.length = n ∧ (∀ x ∈ l, G x) ∧ ∀ j p, l[j]? = some p → ∃ c, R j p c := by
  induction n with
  | zero => exact ⟨[], rfl, by simp, by simp⟩
  | succ n ih =>
    obtain ⟨l, hl, hg, hr⟩ := ih (fun i hi => h i (by omega))
    obtain ⟨r, c, h1, h2⟩ := h n (by omega)
    refine ⟨l ++ [r], by simp [hl], ?_, ?_⟩
    · intro x hx
      rcases List.mem_append.1 hx with hx | hx
      · exact hg x hx
      · rw [List.mem_singleton.1 hx]; exact h2
    · intro j p hj
      by_cases hjl : j < l.length
      · rw [List.getElem?_append_left hjl] at hj
        exact hr j p hj
      · have e : j = n := by
          have := (List.getElem?_eq_some_iff.1 hj).1
          rw [List.length_append, List.length_singleton] at this
          omega
        subst e
        rw [← hl, List.getElem?_append_right (by omega)] at hj
        simp at hj
        subst hj
        exact ⟨c, h1⟩

theorem slice {P : Program} {t e : TypeId} {α : Type} {d : Kd α} {G : α → Prop} {B : Nat} (q : Nat) (hu : P.underlying t = some (.slice e)) (hC : P.cellsOf e = d.sz) (hB : P.bytesOf e = B) (he : Rd P e d G) :
    Rd P t (Kd.slice q d) (fun l => l.length * B ≤ 140737488351232 ∧ ∀ x ∈ l, G x) :=
  ⟨fun {H enc w base spare held fuel cs x} h hw => by
    rcases Go.Deep.open_slice hu h with ⟨rfl, rfl⟩ | ⟨a, len, cap, m, n, D, Pl, rfl, hb, hl, hm, hmm, rfl, hx⟩
    · exact ⟨[], ⟨none, 0, rfl, Nat.le_refl _, rfl, by simp, fun h => absurd h (by simp)⟩, by simp, by simp⟩
    · have hlm : len ≤ m := by rw [hmm]; split <;> omega
      have hel : ∀ i, i < len → ∃ r c, (c.length = d.sz ∧ d.K w r c ∧ ∀ k u, c[k]? = some u → w.cell? (a.add (i * d.sz + k)) = some u) ∧ G r := by
        intro i hi
        obtain ⟨cs', h1, h2⟩ := hx i (by omega)
        obtain ⟨r, hr, hg⟩ := he.out h2 (fun n hn => hw n (by
          simp only [DataW.weights, hu, List.mem_cons, List.mem_append]
          exact .inr (.inl (weights_all (List.mem_map.2 ⟨i, List.mem_range.2 hi, rfl⟩) n hn))))
        obtain ⟨_, hcl, hat⟩ := World.cells?_some h1
        rw [hC] at hcl hat
        refine ⟨r, cs', ⟨hcl, hr, fun k u hk => ?_⟩, hg⟩
        have hk' : k < d.sz := by rw [← hcl]; exact (List.getElem?_eq_some_iff.1 hk).1
        rw [← Go.Deep.add_add, hat k hk', hk]
      obtain ⟨l, hll, hg, hr⟩ := all_reads (R := fun i r c => c.length = d.sz ∧ d.K w r c ∧ ∀ k u, c[k]? = some u → w.cell? (a.add (i * d.sz + k)) = some u) len hel
      have hz : len * B ≤ 140737488351232 := by
        have := hw ((len + (m - len)) * B) (by simp [DataW.weights, hu, hB])
        exact Nat.le_trans (Nat.mul_le_mul_right _ (by omega)) this
      refine ⟨l, ⟨some a, cap, by rw [hll], by rw [hll]; exact hl, rfl, ?_, fun _ => ⟨a, rfl, hr⟩⟩, by rw [hll]; exact hz, hg⟩
      rw [hll]
      have : maxLen = 9223372036854775807 := rfl
      omega⟩

/-- Fields in line, from the cell o on. -/
structure RdF (P : Program) (ts : List TypeId) {α : Type} (d : Kd α) (G : α → Prop) : Prop where
  out : ∀ {H : Type} {enc : TypeId × Value → H} {w : World} {base : Nat} {spare : Nat → Bool} {held : Bool} {fuel : Nat} {cs : List Value} {ys : List (DataW H × List MemPlace)},
    cs.length = d.sz → ys.length = ts.length → (∀ (i : Nat) (t : TypeId), ts[i]? = some t → DataW.trod enc P w base spare held fuel t ((cs.drop ((ts.take i).map P.cellsOf).sum).take (P.cellsOf t)) = ys[i]?) →
    (∀ n ∈ DataW.weightsEach P ts (ys.map (·.1)), n ≤ reachBytes) → ∃ r, d.K w r cs ∧ G r
theorem one {P : Program} {t : TypeId} {α : Type} {d : Kd α} {G : α → Prop} (hC : P.cellsOf t = d.sz) (h : Rd P t d G) : RdF P [t] d G :=
  ⟨fun {H enc w base spare held fuel cs ys} hcs hys hg hw => by
    match ys, hys with
    | [y], _ =>
      have h0 := hg 0 t rfl
      simp only [List.take_zero, List.map_nil, List.sum_nil, List.drop_zero, List.getElem?_cons_zero, hC, ← hcs, List.take_length] at h0
      exact h.out h0 (fun n hn => hw n (by simp only [List.map_cons, DataW.weightsEach, List.mem_append]; exact .inl hn))⟩
theorem cons {P : Program} {t t' : TypeId} {ts : List TypeId} {α β : Type} {a : Kd α} {b : Kd β} {G : α → Prop} {G' : β → Prop} (hC : P.cellsOf t = a.sz) (h : Rd P t a G) (h' : RdF P (t' :: ts) b G') :
    RdF P (t :: t' :: ts) (Kd.pair a b) (fun x => G x.1 ∧ G' x.2) :=
  ⟨fun {H enc w base spare held fuel cs ys} hcs hys hg hw => by
    match ys, hys with
    | y :: ys, hys =>
      have hsz : cs.length = a.sz + b.sz := hcs
      have h0 := hg 0 t rfl
      simp only [List.take_zero, List.map_nil, List.sum_nil, List.drop_zero, List.getElem?_cons_zero, hC] at h0
      obtain ⟨r, hr, gr⟩ := h.out h0 (fun n hn => hw n (by simp only [List.map_cons, DataW.weightsEach, List.mem_append]; exact .inl hn))
      obtain ⟨r', hr', gr'⟩ := h'.out (cs := cs.drop a.sz) (ys := ys) (by rw [List.length_drop]; omega) (by simpa using hys) (fun i u hi => by
        have := hg (i + 1) u (by simpa using hi)
        simp only [List.take_succ_cons, List.map_cons, List.sum_cons, List.getElem?_cons_succ, hC] at this
        rw [List.drop_drop]
        exact this) (fun n hn => hw n (by simp only [List.map_cons, DataW.weightsEach, List.mem_append] at hn ⊢; exact .inr hn))
      exact ⟨(r, r'), ⟨cs.take a.sz, cs.drop a.sz, (List.take_append_drop _ _).symm, hr, hr'⟩, gr, gr'⟩⟩
theorem iso {P : Program} {ts : List TypeId} {α β : Type} {d : Kd α} {G : α → Prop} (f : β → α) (g : α → β) (hfg : ∀ x, f (g x) = x) (h : RdF P ts d G) : RdF P ts (Kd.iso d f) (fun y => G (f y)) :=
  ⟨fun {H enc w base spare held fuel cs ys} hcs hys hg hw => by
    obtain ⟨r, hr, gr⟩ := h.out hcs hys hg hw
    exact ⟨g r, by show d.K w (f (g r)) cs; rw [hfg]; exact hr, by show G (f (g r)); rw [hfg]; exact gr⟩⟩
/-- The fields' offsets are the sums of the cells ahead. -/
def offs (P : Program) : Nat → List Field → Bool
  | _, [] => true
  | o, f :: fs => f.offset == o && offs P (o + P.cellsOf f.type) fs
theorem offs_at {P : Program} : ∀ {fs : List Field} {o : Nat}, offs P o fs = true → ∀ (i : Nat) (f : Field), fs[i]? = some f → f.offset = o + (((fs.map (·.type)).take i).map P.cellsOf).sum
  | [], _, _, _, _, h => by simp at h
  | f0 :: fs, o, ho, 0, f, h => by
    simp only [List.getElem?_cons_zero, Option.some.injEq] at h
    subst h
    simp only [offs, Bool.and_eq_true, beq_iff_eq] at ho
    simp [ho.1]
  | f0 :: fs, o, ho, i + 1, f, h => by
    simp only [offs, Bool.and_eq_true, beq_iff_eq] at ho
    have := offs_at ho.2 i f (by simpa using h)
    simp only [List.map_cons, List.take_succ_cons, List.sum_cons]
    omega
theorem struct {P : Program} {t : TypeId} {fs : List Field} {ts : List TypeId} {α : Type} {d : Kd α} {G : α → Prop} (hu : P.underlying t = some (.struct fs.toArray)) (hts : fs.map (·.type) = ts) (ho : offs P 0 fs = true) (hC : P.cellsOf t = d.sz)
    (h : RdF P ts d G) : Rd P t d G :=
  ⟨fun {H enc w base spare held fuel cs x} hx hw => by
    obtain ⟨xs, n, _, rfl, hcl, hxl, hi⟩ := DataW.trod_struct hu hx
    subst hts
    refine h.out (enc := enc) (w := w) (base := base) (spare := spare) (held := held) (fuel := n) (ys := xs) (by rw [hcl, hC]) (by rw [hxl]; simp) (fun i t' hi' => ?_) (fun n hn => hw n (by simpa [DataW.weights, hu] using hn))
    rw [List.getElem?_map, Option.map_eq_some_iff] at hi'
    obtain ⟨f, hf, rfl⟩ := hi'
    have hoff := offs_at ho i f hf
    have := hi i f (by simpa using hf)
    rw [hoff, Nat.zero_add] at this
    exact this⟩

/-- A weight of the whole, of one argument. -/
theorem weights_one {H : Type} {P : Program} {ts : List TypeId} {ds : List (DataW H)} {j : Nat} {t : TypeId} {d : DataW H} (hsz : (DataW.weightsEach P ts ds).all (· ≤ reachBytes) = true) (ht : ts[j]? = some t) (hd : ds[j]? = some d) :
    ∀ n ∈ d.weights P t, n ≤ reachBytes := fun n hn => by
  have := List.all_eq_true.1 hsz n (DataW.weights_mem_each ht hd n hn)
  simpa using this
theorem of_slice {H : Type} {enc : TypeId × Value → H} {P : Program} {w : World} {base : Nat} {spare : Nat → Bool} {held : Bool} {t q : TypeId} {α : Type} {d : Kd α} {G : List α → Prop} {v : Value} {x : DataW H} {ps : List MemPlace} (hR : Rd P t (Kd.slice q d) G)
    (h : DataW.Trod enc P w base spare held t v x ps) (hv : ∃ a len cap, v = .slice a len cap) (hw : ∀ n ∈ x.weights P t, n ≤ reachBytes) : ∃ A l c, v = .slice A l.length c ∧ l.length ≤ c ∧ d.C w A l.length l ∧ G l := by
  obtain ⟨fuel, hf⟩ := h
  obtain ⟨a, len, cap, rfl⟩ := hv
  obtain ⟨l, ⟨A, c, hcs, hl, hC⟩, hG⟩ := hR.out hf hw
  simp only [Value.cells, List.cons.injEq, and_true] at hcs
  exact ⟨A, l, c, hcs, hl, hC, hG⟩
theorem of_struct {H : Type} {enc : TypeId × Value → H} {P : Program} {w : World} {base : Nat} {spare : Nat → Bool} {held : Bool} {t : TypeId} {α : Type} {d : Kd α} {G : α → Prop} {v : Value} {x : DataW H} {ps : List MemPlace} (hR : Rd P t d G)
    (h : DataW.Trod enc P w base spare held t v x ps) (hv : ∃ cs n, v = .agg cs ∧ cs.size = n) (hw : ∀ n ∈ x.weights P t, n ≤ reachBytes) : ∃ (cs : List Value) (r : α), v = .agg cs.toArray ∧ d.K w r cs ∧ G r := by
  obtain ⟨fuel, hf⟩ := h
  obtain ⟨cs, _, rfl, _⟩ := hv
  obtain ⟨r, hr, hG⟩ := hR.out hf hw
  exact ⟨cs.toList, r, by simp, hr, hG⟩
end Go.Proofs.Ytelniipccmeooaa.Rdr
