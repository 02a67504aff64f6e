/- The engine, part 25: from a datum, as a row reads it, to abstract values: every value that a row hands in is of its type's make, with bounds. -/
import Derived.Test.YtilbahgfjfcikaaDoorE23
import Derived.SizedLaws
import Derived.ChangeSlices
import Derived.Deep.Slices
import Derived.ChangeSame
set_option linter.unusedVariables false
set_option linter.unusedSectionVars false
namespace Go.Proofs.YtilbahgfjfcikaaDoor.Eng.Rdv
open Go Go.ChangeShapes Go.WideShapes Go.Deep Go.Proofs.YtilbahgfjfcikaaDoor.Eng

/-- The memory that a call begins with, as what stays. -/
def stab (W : World) : Stab := fun x => W.cell? x
theorem agree_stab (W : World) : Agree (stab W) W := fun _ _ h => h
/-- Cells that hold abstract leaves. -/
def CV (S : Stab) (l : List AV) (cs : List Value) : Prop := l.length = cs.length ∧ ∀ (j : Nat) (c : AV) (v : Value), l[j]? = some c → cs[j]? = some v → c.leaf = true ∧ V S c v
theorem CV.one {S : Stab} {c : AV} {v : Value} (h : V S c v) (hl : c.leaf = true) : CV S [c] [v] := ⟨rfl, fun j c' v' hc hv => by
  cases j with
  | zero => simp only [List.getElem?_cons_zero, Option.some.injEq] at hc hv; subst hc; subst hv; exact ⟨hl, h⟩
  | succ j => simp at hc⟩
theorem CV.app {S : Stab} {l m : List AV} {cs ds : List Value} (h : CV S l cs) (k : CV S m ds) : CV S (l ++ m) (cs ++ ds) := by
  refine ⟨by simp [h.1, k.1], fun j c v hc hv => ?_⟩
  by_cases hj : j < l.length
  · rw [List.getElem?_append_left hj] at hc
    rw [List.getElem?_append_left (by rw [← h.1]; exact hj)] at hv
    exact h.2 j c v hc hv
  · rw [List.getElem?_append_right (by omega)] at hc
    rw [List.getElem?_append_right (by rw [← h.1]; omega), ← h.1] at hv
    exact k.2 _ c v hc hv
/-- Whatever reads as a datum of type t, and weighs no more than can be reached, is told by some r. -/
structure Rd (P : Program) (t : TypeId) {α : Type} (e : α → List AV) (G : α → Prop) : Prop where
  len : ∀ a, (e a).length = P.cellsOf t
  out : ∀ {H : Type} {enc : TypeId × Value → H} {w : World} {base : Nat} {spare : Nat → Bool} {held : Bool} {fuel : Nat} {cs : List Value} {x : DataW H × List MemPlace},
    DataW.trod enc P w base spare held fuel t cs = some x → (∀ n ∈ x.1.weights P t, n ≤ reachBytes) → ∃ r, CV (stab w) (e r) cs ∧ G r

theorem int {P : Program} {t : TypeId} {k : IntKind} (hu : P.underlying t = some (.int k)) (hc : P.cellsOf t = 1) : Rd P t (fun n : Int => [.int k n]) (fun r => k.min ≤ r ∧ r ≤ k.max) :=
  ⟨fun _ => hc.symm, fun h _ => by
    obtain ⟨n, rfl, _, hw⟩ := DataW.trod_int hu h
    refine ⟨n, CV.one (.int _ _) rfl, ?_⟩
    simpa [Lit.wf] using hw⟩
theorem bool {P : Program} {t : TypeId} (hu : P.underlying t = some .bool) (hc : P.cellsOf t = 1) : Rd P t (fun b : Bool => [.bool b]) (fun _ => True) :=
  ⟨fun _ => hc.symm, fun h _ => by
    obtain ⟨n, rfl, _⟩ := DataW.trod_bool hu h
    exact ⟨n, CV.one (.bool _) rfl, trivial⟩⟩
theorem string {P : Program} {t : TypeId} (hu : P.underlying t = some .string) (hc : P.cellsOf t = 1) : Rd P t (fun s : List UInt8 => [.str (str s)]) (fun s => s.length ≤ 140737488351232) :=
  ⟨fun _ => hc.symm, fun h hw => by
    obtain ⟨s, rfl, rfl, _⟩ := DataW.trod_string hu h
    refine ⟨s.data.toList, ?_, ?_⟩
    · have e : str s.data.toList = s := by cases s; simp [str]
      rw [e]
      exact CV.one (.str _) rfl
    · have := hw s.data.toList.length (by simp [DataW.weights])
      exact this⟩

theorem weights_all {H : Type} {P : Program} {e : TypeId} : ∀ {ds : List (DataW H)} {d : DataW H}, d ∈ ds → ∀ n ∈ d.weights P e, n ∈ DataW.weightsAll P e ds
  | [], _, h, _, _ => by cases h
  | d0 :: ds, d, h, n, hn => by
    simp only [DataW.weightsAll, List.mem_append]
    rcases List.mem_cons.1 h with rfl | h
    · exact .inl hn
    · exact .inr (weights_all h n hn)


theorem all_reads {α : Type} {G : α → Prop} {R : Nat → α → List Value → Prop} (n : Nat) (h : ∀ i, i < n → ∃ r c, R i r c ∧ G r) :
    ∃ l : List α, l.length = n ∧ (∀ x ∈ l, G x) ∧ ∀ j p, l[j]? = some p → ∃ c, R j p c := by
  induction n with
  | zero => exact ⟨[], rfl, by simp, by simp⟩
  | succ n ih =>
    obtain ⟨l, hl, hg, hr⟩ := ih (fun i hi => h i (by omega))
    obtain ⟨r, c, h1, h2⟩ := h n (by omega)
    refine ⟨l ++ [r], by simp [hl], ?_, ?_⟩
    · intro x hx
      rcases List.mem_append.1 hx with hx | hx
      · exact hg x hx
      · rw [List.mem_singleton.1 hx]; exact h2
    · intro j p hj
      by_cases hjl : j < l.length
      · rw [List.getElem?_append_left hjl] at hj
        exact hr j p hj
      · have e : j = n := by
          have := (List.getElem?_eq_some_iff.1 hj).1
          rw [List.length_append, List.length_singleton] at this
          omega
        subst e
        rw [← hl, List.getElem?_append_right (by omega)] at hj
        simp at hj
        subst hj
        exact ⟨c, h1⟩


/-- A slice, over its elements' make. -/
theorem slice {P : Program} {t e : TypeId} {α : Type} {en : α → List AV} {G : α → Prop} {B : Nat} (el : α → AV) (hel : ∀ a, (el a).cells = en a) (hu : P.underlying t = some (.slice e)) (hc : P.cellsOf t = 1) (hB : P.bytesOf e = B) (he : Rd P e en G) :
    Rd P t (fun l : List α => [.list (P.cellsOf e) (l.map el)]) (fun l => l.length * B ≤ 140737488351232 ∧ ∀ x ∈ l, G x) :=
  ⟨fun _ => hc.symm, fun {H enc w base spare held fuel cs x} h hw => by
    rcases Go.Deep.open_slice hu h with ⟨rfl, rfl⟩ | ⟨a, len, cap, m, n, D, Pl, rfl, hb, hl, hm, hmm, rfl, hx⟩
    · exact ⟨[], CV.one (.listn _) rfl, by simp, by simp⟩
    · have hlm : len ≤ m := by rw [hmm]; split <;> omega
      have hel' : ∀ i, i < len → ∃ r c, (CV (stab w) (en r) c ∧ ∀ k u, c[k]? = some u → w.cell? (a.add (i * P.cellsOf e + k)) = some u) ∧ G r := by
        intro i hi
        obtain ⟨cs', h1, h2⟩ := hx i (by omega)
        obtain ⟨r, hr, hg⟩ := he.out h2 (fun n hn => hw n (by
          simp only [DataW.weights, hu, List.mem_cons, List.mem_append]
          exact .inr (.inl (weights_all (List.mem_map.2 ⟨i, List.mem_range.2 hi, rfl⟩) n hn))))
        obtain ⟨_, hcl, hat⟩ := World.cells?_some h1
        refine ⟨r, cs', ⟨hr, fun k u hk => ?_⟩, hg⟩
        have hk' : k < P.cellsOf e := by rw [← hcl]; exact (List.getElem?_eq_some_iff.1 hk).1
        rw [← Go.Deep.add_add, hat k hk', hk]
      obtain ⟨l, hll, hg, hr⟩ := all_reads (R := fun i r c => CV (stab w) (en r) c ∧ ∀ k u, c[k]? = some u → w.cell? (a.add (i * P.cellsOf e + k)) = some u) len hel'
      have hz : len * B ≤ 140737488351232 := by
        have := hw ((len + (m - len)) * B) (by simp [DataW.weights, hu, hB])
        exact Nat.le_trans (Nat.mul_le_mul_right _ (by omega)) this
      refine ⟨l, CV.one ?_ rfl, by rw [hll]; exact hz, hg⟩
      have key : ∀ (i : Nat) (y : AV), (l.map el)[i]? = some y → ∃ p, l[i]? = some p ∧ y = el p := by
        intro i y hy
        rw [List.getElem?_map] at hy
        obtain ⟨p, hp, rfl⟩ := Option.map_eq_some_iff.1 hy
        exact ⟨p, hp, rfl⟩
      have cell : ∀ (i : Nat) (y : AV) (j : Nat) (c : AV), (l.map el)[i]? = some y → y.cells[j]? = some c → ∃ v, w.cell? (a.add (i * P.cellsOf e + j)) = some v ∧ c.leaf = true ∧ V (stab w) c v := by
        intro i y j c hy hc
        obtain ⟨p, hp, rfl⟩ := key i y hy
        obtain ⟨cs, h1, h2⟩ := hr i p hp
        rw [hel] at hc
        have hj : j < cs.length := by rw [← h1.1]; exact (List.getElem?_eq_some_iff.1 hc).1
        obtain ⟨q1, q2⟩ := h1.2 j c cs[j] hc (List.getElem?_eq_getElem hj)
        exact ⟨cs[j], h2 j _ (List.getElem?_eq_getElem hj), q1, q2⟩
      have hlen : (l.map el).length = len := by simp [hll]
      have := V.list (S := stab w) (P.cellsOf e) (l.map el) a cap (fun i j => (w.cell? (a.add (i * P.cellsOf e + j))).getD undef) (by rw [hlen]; exact hl)
        (fun i y hy => by obtain ⟨p, _, rfl⟩ := key i y hy; rw [hel, he.len]) (fun i y j c hy hc => by obtain ⟨v, _, h, _⟩ := cell i y j c hy hc; exact h)
        (fun i y j c hy hc => by obtain ⟨v, h, _⟩ := cell i y j c hy hc; show w.cell? _ = _; rw [h]; rfl) (fun i y j c hy hc => by obtain ⟨v, h, _, hv⟩ := cell i y j c hy hc; rw [h]; exact hv)
      rw [hlen] at this
      exact this⟩

theorem sliceAt {P : Program} {t e : TypeId} {α : Type} {en : α → List AV} {G : α → Prop} {B sz : Nat} (el : α → AV) (hel : ∀ a, (el a).cells = en a) (hu : P.underlying t = some (.slice e)) (hc : P.cellsOf t = 1) (hB : P.bytesOf e = B) (hz : P.cellsOf e = sz) (he : Rd P e en G) :
    Rd P t (fun l : List α => [.list sz (l.map el)]) (fun l => l.length * B ≤ 140737488351232 ∧ ∀ x ∈ l, G x) := by
  subst hz
  exact slice el hel hu hc hB he
/-- Fields in line, from the cell o on. -/
structure RdF (P : Program) (ts : List TypeId) {α : Type} (e : α → List AV) (G : α → Prop) : Prop where
  len : ∀ a, (e a).length = (ts.map P.cellsOf).sum
  out : ∀ {H : Type} {enc : TypeId × Value → H} {w : World} {base : Nat} {spare : Nat → Bool} {held : Bool} {fuel : Nat} {cs : List Value} {ys : List (DataW H × List MemPlace)},
    cs.length = (ts.map P.cellsOf).sum → ys.length = ts.length → (∀ (i : Nat) (t : TypeId), ts[i]? = some t → DataW.trod enc P w base spare held fuel t ((cs.drop ((ts.take i).map P.cellsOf).sum).take (P.cellsOf t)) = ys[i]?) →
    (∀ n ∈ DataW.weightsEach P ts (ys.map (·.1)), n ≤ reachBytes) → ∃ r, CV (stab w) (e r) cs ∧ G r
theorem one {P : Program} {t : TypeId} {α : Type} {e : α → List AV} {G : α → Prop} (h : Rd P t e G) : RdF P [t] e G :=
  ⟨fun a => by simpa using h.len a, fun {H enc w base spare held fuel cs ys} hcs hys hg hw => by
    match ys, hys with
    | [y], _ =>
      have h0 := hg 0 t rfl
      have hcs : cs.length = P.cellsOf t := by simpa using hcs
      simp only [List.take_zero, List.map_nil, List.sum_nil, List.drop_zero, List.getElem?_cons_zero, ← hcs, List.take_length] at h0
      exact h.out h0 (fun n hn => hw n (by simp only [List.map_cons, DataW.weightsEach, List.mem_append]; exact .inl hn))⟩
theorem cons {P : Program} {t t' : TypeId} {ts : List TypeId} {α β : Type} {a : α → List AV} {b : β → List AV} {G : α → Prop} {G' : β → Prop} (h : Rd P t a G) (h' : RdF P (t' :: ts) b G') :
    RdF P (t :: t' :: ts) (fun x : α × β => a x.1 ++ b x.2) (fun x => G x.1 ∧ G' x.2) :=
  ⟨fun x => by rw [List.length_append, h.len, h'.len]; simp, fun {H enc w base spare held fuel cs ys} hcs hys hg hw => by
    match ys, hys with
    | y :: ys, hys =>
      have hsz : cs.length = P.cellsOf t + ((t' :: ts).map P.cellsOf).sum := by simpa using hcs
      have h0 := hg 0 t rfl
      simp only [List.take_zero, List.map_nil, List.sum_nil, List.drop_zero, List.getElem?_cons_zero] at h0
      obtain ⟨r, hr, gr⟩ := h.out h0 (fun n hn => hw n (by simp only [List.map_cons, DataW.weightsEach, List.mem_append]; exact .inl hn))
      obtain ⟨r', hr', gr'⟩ := h'.out (cs := cs.drop (P.cellsOf t)) (ys := ys) (by rw [List.length_drop]; omega) (by simpa using hys) (fun i u hi => by
        have := hg (i + 1) u (by simpa using hi)
        simp only [List.take_succ_cons, List.map_cons, List.sum_cons, List.getElem?_cons_succ] at this
        rw [List.drop_drop]
        exact this) (fun n hn => hw n (by simp only [List.map_cons, DataW.weightsEach, List.mem_append] at hn ⊢; exact .inr hn))
      refine ⟨(r, r'), ?_, gr, gr'⟩
      have := hr.app hr'
      rwa [List.take_append_drop] at this⟩
theorem iso {P : Program} {ts : List TypeId} {α β : Type} {e : α → List AV} {G : α → Prop} (e' : β → List AV) (f : β → α) (g : α → β) (hfg : ∀ x, f (g x) = x) (he : ∀ x, e' x = e (f x)) (h : RdF P ts e G) : RdF P ts e' (fun y => G (f y)) :=
  ⟨fun y => by rw [he]; exact h.len _, fun {H enc w base spare held fuel cs ys} hcs hys hg hw => by
    obtain ⟨r, hr, gr⟩ := h.out hcs hys hg hw
    exact ⟨g r, by rw [he, hfg]; exact hr, by show G (f (g r)); rw [hfg]; exact gr⟩⟩
/-- The fields' offsets are the sums of the cells ahead. -/
def offs (P : Program) : Nat → List Field → Bool
  | _, [] => true
  | o, f :: fs => f.offset == o && offs P (o + P.cellsOf f.type) fs
theorem offs_at {P : Program} : ∀ {fs : List Field} {o : Nat}, offs P o fs = true → ∀ (i : Nat) (f : Field), fs[i]? = some f → f.offset = o + (((fs.map (·.type)).take i).map P.cellsOf).sum
  | [], _, _, _, _, h => by simp at h
  | f0 :: fs, o, ho, 0, f, h => by
    simp only [List.getElem?_cons_zero, Option.some.injEq] at h
    subst h
    simp only [offs, Bool.and_eq_true, beq_iff_eq] at ho
    simp [ho.1]
  | f0 :: fs, o, ho, i + 1, f, h => by
    simp only [offs, Bool.and_eq_true, beq_iff_eq] at ho
    have := offs_at ho.2 i f (by simpa using h)
    simp only [List.map_cons, List.take_succ_cons, List.sum_cons]
    omega
theorem struct {P : Program} {t : TypeId} {fs : List Field} {ts : List TypeId} {α : Type} {e : α → List AV} {G : α → Prop} (hu : P.underlying t = some (.struct fs.toArray)) (hts : fs.map (·.type) = ts) (ho : offs P 0 fs = true) (hC : P.cellsOf t = (ts.map P.cellsOf).sum)
    (h : RdF P ts e G) : Rd P t e G :=
  ⟨fun a => by rw [h.len, hC], fun {H enc w base spare held fuel cs x} hx hw => by
    obtain ⟨xs, n, _, rfl, hcl, hxl, hi⟩ := DataW.trod_struct hu hx
    subst hts
    refine h.out (enc := enc) (w := w) (base := base) (spare := spare) (held := held) (fuel := n) (ys := xs) (by rw [hcl, hC]) (by rw [hxl]; simp) (fun i t' hi' => ?_) (fun n hn => hw n (by simpa [DataW.weights, hu] using hn))
    rw [List.getElem?_map, Option.map_eq_some_iff] at hi'
    obtain ⟨f, hf, rfl⟩ := hi'
    have hoff := offs_at ho i f hf
    have := hi i f (by simpa using hf)
    rw [hoff, Nat.zero_add] at this
    exact this⟩
theorem weaken {P : Program} {t : TypeId} {α : Type} {e : α → List AV} {G G' : α → Prop} (h : Rd P t e G) (hg : ∀ x, G x → G' x) : Rd P t e G' :=
  ⟨h.len, fun a b => let ⟨r, h1, h2⟩ := h.out a b; ⟨r, h1, hg r h2⟩⟩

/-- A weight of the whole, of one argument. -/
theorem weights_one {H : Type} {P : Program} {ts : List TypeId} {ds : List (DataW H)} {j : Nat} {t : TypeId} {d : DataW H} (hsz : (DataW.weightsEach P ts ds).all (· ≤ reachBytes) = true) (ht : ts[j]? = some t) (hd : ds[j]? = some d) :
    ∀ n ∈ d.weights P t, n ≤ reachBytes := fun n hn => by
  have := List.all_eq_true.1 hsz n (DataW.weights_mem_each ht hd n hn)
  simpa using this
/-- An argument of one cell. -/
theorem of_one {H : Type} {enc : TypeId × Value → H} {P : Program} {w : World} {base : Nat} {spare : Nat → Bool} {held : Bool} {t : TypeId} {α : Type} {el : α → AV} {G : α → Prop} {v : Value} {x : DataW H} {ps : List MemPlace} (hR : Rd P t (fun a => [el a]) G)
    (h : DataW.Trod enc P w base spare held t v x ps) (hv : v.cells.toList = [v]) (hw : ∀ n ∈ x.weights P t, n ≤ reachBytes) : ∃ r, V (stab w) (el r) v ∧ G r := by
  obtain ⟨fuel, hf⟩ := h
  obtain ⟨r, hr, hG⟩ := hR.out hf hw
  rw [hv] at hr
  exact ⟨r, (hr.2 0 _ _ rfl rfl).2, hG⟩
/-- An argument of many cells. -/
theorem of_agg {H : Type} {enc : TypeId × Value → H} {P : Program} {w : World} {base : Nat} {spare : Nat → Bool} {held : Bool} {t : TypeId} {α : Type} {e : α → List AV} {G : α → Prop} {v : Value} {x : DataW H} {ps : List MemPlace} (hR : Rd P t e G)
    (h : DataW.Trod enc P w base spare held t v x ps) (hv : ∃ cs, v = .agg cs) (hw : ∀ n ∈ x.weights P t, n ≤ reachBytes) : ∃ r, V (stab w) (.agg (e r)) v ∧ G r := by
  obtain ⟨fuel, hf⟩ := h
  obtain ⟨cs, rfl⟩ := hv
  obtain ⟨r, hr, hG⟩ := hR.out hf hw
  refine ⟨r, ?_, hG⟩
  have e : (Value.agg cs).cells.toList = cs.toList := rfl
  rw [e] at hr
  have := V.agg (S := stab w) _ cs.toList hr.1 (fun j c hc => ?_) (fun j c u hc hu => (hr.2 j c u hc hu).2)
  · simpa using this
  · have hj : j < cs.toList.length := by rw [← hr.1]; exact (List.getElem?_eq_some_iff.1 hc).1
    exact (hr.2 j c _ hc (List.getElem?_eq_getElem hj)).1
end Go.Proofs.YtilbahgfjfcikaaDoor.Eng.Rdv
