/- Laws for a row of guarded operations ('a && b && c'), carried out without parting the ways: each guarded value gets a letter, known where its guard says yes. -/
import Derived.Test.YtelniipccmeooaaWMore
set_option linter.unusedVariables false
set_option linter.unusedSimpArgs false
namespace Go.Proofs.Ytelniipccmeooaa.Lazy
open Go.RowKit
variable {P : Program} {ops : Array Oper} {rest : List Oper} {o : Oper} {a : Act} {Q : Exit → Act → World → Prop} {w : World}
/-- A guarded operation that only computes: its value gets a letter. -/
theorem lazy_ {g : Nat} {want b : Bool} {v : Value} (hg : o.guard = some (g, want)) (hy : yielded ops a.tmps g = some b)
    (hrun : b = want → (execOp a.eval o).run P w = .ok (.value v) w)
    (h : ∀ u, (b = want → u = v) → wpList P ops Q rest (a.put o.dst u) w) : wpList P ops Q (o :: rest) a w := by
  have hgd : Region.wanted o (yielded ops a.tmps) = decide (b = want) := by
    simp only [Region.wanted, hg, hy]
    cases b <;> cases want <;> rfl
  refine wpList_step fun K hK => ?_
  rw [hgd]
  by_cases hb : b = want
  · rw [if_pos (by simp [hb])]
    unfold Oper.wp
    rw [hrun hb]
    exact hK _ _ (h v fun _ => rfl)
  · rw [if_neg (by simp [hb])]
    exact hK _ _ (h undef fun e => absurd e hb)
/-- 'c && x'. -/
theorem pick_and {c x : Operand} {b e : Bool} (hg : o.guard = none) (ho : o.op = .pick c x (.const (.bool false))) (hc : a.eval c = .bool b) (hx : b = true → a.eval x = .bool e)
    (h : wpList P ops Q rest (a.put o.dst (.bool (b && e))) w) : wpList P ops Q (o :: rest) a w := by
  refine wpList_plain hg fun K hK => ?_
  unfold Oper.wp execOp
  cases b with
  | false =>
    simp only [ho, hc]
    exact hK _ _ h
  | true =>
    have hx := hx rfl
    simp only [ho, hc, hx]
    exact hK _ _ h
/-- 'c || x'. -/
theorem pick_or {c x : Operand} {b e : Bool} (hg : o.guard = none) (ho : o.op = .pick c (.const (.bool true)) x) (hc : a.eval c = .bool b) (hx : b = false → a.eval x = .bool e)
    (h : wpList P ops Q rest (a.put o.dst (.bool (b || e))) w) : wpList P ops Q (o :: rest) a w := by
  refine wpList_plain hg fun K hK => ?_
  unfold Oper.wp execOp
  cases b with
  | false =>
    have hx := hx rfl
    simp only [ho, hc, hx]
    exact hK _ _ h
  | true =>
    simp only [ho, hc]
    exact hK _ _ h
end Go.Proofs.Ytelniipccmeooaa.Lazy
