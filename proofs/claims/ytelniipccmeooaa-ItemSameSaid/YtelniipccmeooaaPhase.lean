/- Several events (calls, allocs) that may come up in many orders: one law for all orders. What holds on the way is told by an invariant over what has come up. -/
import Derived.Test.YtelniipccmeooaaWTab
set_option linter.unusedVariables false
set_option linter.unusedSimpArgs false
namespace Go.Proofs.YtelniipccmeooaaW.PrintLast
open Go.RowKit Go.Proofs.YtelniipccmeooaaW.PrintWords
/-- From l on n operations of evs come up, in whatever order, each where 'pre' says yes; then lend has come up. -/
def phaseT (T2 : List (List Nat × List Nat)) (evs : List Nat) (pre : Nat → List Bool → Bool) (lend : List Bool) : Nat → List Bool → Bool
  | 0, l => l == lend
  | n + 1, l => !(readyT T2 l).isEmpty && (readyT T2 l).all fun i => evs.contains i && pre i l && phaseT T2 evs pre lend n (l.set i true)
theorem put_comm {a : Act} {n m : Tmp} {x y : Value} (h : n ≠ m) : (a.put (some n) x).put (some m) y = (a.put (some m) y).put (some n) x := by
  simp only [Act.put]
  rw [Array.setIfInBounds_comm _ _ h]
theorem put_put {a : Act} {n : Tmp} {x y : Value} : (a.put (some n) x).put (some n) y = a.put (some n) y := by
  simp only [Act.put, Array.setIfInBounds_setIfInBounds]
theorem put_away {n : Tmp} {v : Value} : ∀ (r : List (Tmp × Value)) (a : Act), (r.all fun p => p.1 != n) = true → (putAll a r).put (some n) v = putAll (a.put (some n) v) r
  | [], _, _ => rfl
  | (m, x) :: r, a, h => by
    simp only [List.all_cons, Bool.and_eq_true, bne_iff_ne] at h
    simp only [putAll]
    rw [put_away r _ h.2, put_comm h.1]
/-- One letter more is put: the same list with that letter in its place. -/
def putsOk (n : Tmp) (v : Value) : List (Tmp × Value) → List (Tmp × Value) → Prop
  | (m, x) :: r, (m', x') :: r' => (m = n ∧ m' = n ∧ x' = v ∧ r' = r ∧ (r.all fun p => p.1 != n) = true) ∨ (m' = m ∧ x' = x ∧ putsOk n v r r')
  | _, _ => False
theorem put_in {n : Tmp} {v : Value} : ∀ (r r' : List (Tmp × Value)) (a : Act), putsOk n v r r' → (putAll a r).put (some n) v = putAll a r'
  | (m, x) :: r, (m', x') :: r', a, h => by
    rcases h with ⟨rfl, rfl, rfl, rfl, h⟩ | ⟨rfl, rfl, h⟩
    · simp only [putAll]
      rw [put_away _ _ h, put_put]
    · simp only [putAll]
      exact put_in r r' _ h
  | [], [], _, h => h.elim
  | [], _ :: _, _, h => h.elim
  | _ :: _, [], _, h => h.elim
section
variable {P : Program} {md : Region.Mode} {ops : Array Oper} {Q : Exit → Act → World → Prop} {S : World → Prop} {ds : List Nat}
theorem phase_all {fuel : Nat} {listed : Array Bool} {a : Act} {w : World} : ∀ {rs : List Nat}, (∀ i ∈ rs, ∃ o, ops[i]? = some o ∧ i ∉ ds ∧ ∀ K' : Act → World → Prop, Shut (∀ a w, S w → (S w → wpAnyLast P md ops Q S ds fuel (listed.setIfInBounds i true) a w) → K' a w) → if Region.wanted o (yielded ops a.tmps) = true then Oper.wp P o a w K' Q else K' (a.put o.dst undef) w) →
    AllReadyL P md ops Q S ds fuel listed a w rs
  | [], _ => AllReadyL.nil
  | i :: rs, h => by
    obtain ⟨o, ho, hd, hk⟩ := h i List.mem_cons_self
    exact AllReadyL.cons ho hd hk (phase_all fun j hj => h j (List.mem_cons_of_mem _ hj))
theorem phase_ {T : Bool × List (List Nat × List Nat)} (hT : rtab md ops = T) {fe : Nat} {lend : Array Bool} (evs : List Nat) (pre : Nat → List Bool → Bool) (Inv : List Bool → Act → World → Prop)
    (hfin : ∀ a w, Inv lend.toList a w → wpAnyLast P md ops Q S ds fe lend a w)
    (hop : ∀ i ∈ evs, ∀ (l : List Bool) (a : Act) (w : World), pre i l = true → Inv l a w → ∃ o, ops[i]? = some o ∧ i ∉ ds ∧ ∀ K : Act → World → Prop, Shut (∀ a' w', S w' → Inv (l.set i true) a' w' → K a' w') → if Region.wanted o (yielded ops a.tmps) = true then Oper.wp P o a w K Q else K (a.put o.dst undef) w) :
    ∀ (n : Nat) (l : Array Bool) (a : Act) (w : World), phaseT T.2 evs pre lend.toList n l.toList = true → Inv l.toList a w → wpAnyLast P md ops Q S ds (fe + n) l a w := by
  intro n
  induction n with
  | zero =>
    intro l a w h hi
    have e : l = lend := by
      simp only [phaseT, beq_iff_eq] at h
      exact Array.toList_inj.1 h
    subst e
    exact hfin a w hi
  | succ n ih =>
    intro l a w h hi
    simp only [phaseT, Bool.and_eq_true, List.all_eq_true, Bool.not_eq_true', List.isEmpty_eq_false_iff] at h
    obtain ⟨hne, hall⟩ := h
    have hr : Region.ready md ops l = readyT T.2 l.toList := by
      subst hT
      exact ready_eq ..
    refine wpAnyLast_ready hr hne (phase_all fun i hir => ?_)
    obtain ⟨⟨hev, hpre⟩, hnext⟩ := hall i hir
    obtain ⟨o, ho, hd, hk⟩ := hop i (List.contains_iff_mem.1 hev) l.toList a w hpre hi
    refine ⟨o, ho, hd, fun K' hK => hk K' (fun a' w' hS hInv => hK.out a' w' hS fun _ => ih _ _ _ ?_ ?_)⟩
    · rw [Array.toList_setIfInBounds]; exact hnext
    · rw [Array.toList_setIfInBounds]; exact hInv
/-- The same with the act told by what was put into it. -/
theorem phaseA_ {σ : Type} {T : Bool × List (List Nat × List Nat)} (hT : rtab md ops = T) (n fe : Nat) (lend : Array Bool) (evs : List Nat) (pre : Nat → List Bool → Bool) (ns : σ → List (Tmp × Value)) (F : List Bool → σ → World → Prop)
    {l : Array Bool} {a : Act} {w : World} (hl : phaseT T.2 evs pre lend.toList n l.toList = true) (s0 : σ) (ha : putAll a (ns s0) = a) (hs : F l.toList s0 w)
    (hfin : ∀ s w, F lend.toList s w → wpAnyLast P md ops Q S ds fe lend (putAll a (ns s)) w)
    (hop : ∀ i ∈ evs, ∀ (l : List Bool) (s : σ) (w : World), pre i l = true → F l s w → ∃ o, ops[i]? = some o ∧ i ∉ ds ∧
      ∀ K : Act → World → Prop, Shut (∀ (s' : σ) (v : Value) (w' : World), S w' → (putAll a (ns s)).put o.dst v = putAll a (ns s') → F (l.set i true) s' w' → K ((putAll a (ns s)).put o.dst v) w') →
        if Region.wanted o (yielded ops (putAll a (ns s)).tmps) = true then Oper.wp P o (putAll a (ns s)) w K Q else K ((putAll a (ns s)).put o.dst undef) w) :
    wpAnyLast P md ops Q S ds (fe + n) l a w := by
  refine phase_ hT (fe := fe) (lend := lend) evs pre (fun l a' w' => ∃ s, a' = putAll a (ns s) ∧ F l s w') ?_ ?_ n l a w hl ⟨s0, ha.symm, hs⟩
  · rintro a' w' ⟨s, rfl, hF⟩
    exact hfin s w' hF
  · rintro i hi l a' w' hp ⟨s, rfl, hF⟩
    obtain ⟨o, ho, hd, hk⟩ := hop i hi l s w' hp hF
    exact ⟨o, ho, hd, fun K hK => hk K (fun s' v w2 hS he hF2 => hK.out _ _ hS ⟨s', he, hF2⟩)⟩
end
end Go.Proofs.YtelniipccmeooaaW.PrintLast
