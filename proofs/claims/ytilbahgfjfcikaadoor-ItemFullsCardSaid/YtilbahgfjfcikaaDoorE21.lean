/- The engine, part 21: what all functions of a program answer, each by its own code; and that runs answer so. -/
import Derived.Test.YtilbahgfjfcikaaDoorE20
set_option linter.unusedVariables false
set_option linter.unusedSimpArgs false
namespace Go.Proofs.YtilbahgfjfcikaaDoor.Eng
open Go Go.RowKit

/-- A program, the functions that are evaluated by their code, and those whose answers are given. -/
structure Base where
  P : Program
  fs : List FuncId
  isBase : FuncId → Bool
  base : FuncId → List AV → Option AV
  fl : FuncId → List Bool
  glob : Nat → Option (List AV)
  dirs : FuncId → Nat → Option Dir
  k : Nat
def Base.cfg (B : Base) (kap : FuncId → List AV → Option AV) (f : FuncId) : Cfg := { P := B.P, kap := kap, fl := B.fl, glob := B.glob, dirs := B.dirs f, k := B.k }
def Base.at (B : Base) (kap : FuncId → List AV → Option AV) (f : FuncId) (args : List AV) : Option AV :=
  match B.P.funcs[f]? with
  | some fn => body (B.cfg kap f) (B.fl f) fn args
  | none => none
def Base.kap (B : Base) : Nat → FuncId → List AV → Option AV
  | 0, f, args => bif B.isBase f then B.base f args else none
  | n + 1, f, args => bif B.isBase f then B.base f args else bif B.fs.contains f then B.at (B.kap n) f args else none
def namedOk (P : Program) (f : FuncId) : Bool := match P.funcs[f]? with | some fn => !(fn.name == "runtime.NumGoroutine") && fn.body.isSome | none => true
structure Base.Good (B : Base) : Prop where
  mixed : B.P.follows .mixedOrders = true
  names : B.fs.all (namedOk B.P) = true
  base : ∀ f args res, B.isBase f = true → B.base f args = some res → Enters B.P f ∧ Ok B.P B.glob f args res

theorem Base.sound {B : Base} (hB : B.Good) : ∀ n f' f args res, B.kap n f args = some res → Enters (B.cfg (B.kap n) f').P f ∧ Ok (B.cfg (B.kap n) f').P (B.cfg (B.kap n) f').glob f args res
  | 0, f', f, args, res, h => by
    simp only [Base.kap] at h
    obtain ⟨h1, h2⟩ := some_of_bif h
    exact hB.base f args res h1 h2
  | n + 1, f', f, args, res, h => by
    simp only [Base.kap] at h
    cases hb : B.isBase f with
    | true => rw [hb] at h; exact hB.base f args res hb h
    | false =>
      rw [hb, cond_false] at h
      obtain ⟨h1, h⟩ := some_of_bif h
      unfold Base.at at h
      cases hf : B.P.funcs[f]? with
      | none => rw [hf] at h; cases h
      | some fn =>
        rw [hf] at h
        refine ⟨⟨fn, hf, ?_⟩, ok_of (C := B.cfg (B.kap n) f) hB.mixed (fun g as rs hg => Base.sound hB n f g as rs hg) hf h⟩
        have := List.all_eq_true.1 hB.names f (List.contains_iff_mem.1 h1)
        simp only [namedOk, hf, Bool.and_eq_true, Bool.not_eq_true'] at this
        refine ⟨this.1, ?_⟩
        rw [Option.isNone_eq_false_iff]
        exact this.2
theorem Base.ok {B : Base} (hB : B.Good) {n : Nat} {f : FuncId} {args : List AV} {res : AV} (h : B.kap n f args = some res) : Ok B.P B.glob f args res := (Base.sound hB n 0 f args res h).2
end Go.Proofs.YtilbahgfjfcikaaDoor.Eng
