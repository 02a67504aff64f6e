/- What the rows of a seat with laid variables share: the decoder's tables, the witness. -/
import Derived.Test.YtelniipccmeooaaDoorCards
import Derived.Test.YtelniipccmeooaaDoorTie
import Derived.Test.YtelniipccmeooaaDoorCore
import Derived.Test.YtelniipccmeooaaDoorE25
import Derived.Test.YtelniipccmeooaaDoorShelf
import Derived.Lib.LaidIn
import Derived.Lib.LaidU8
import Derived.PinnedBridge
import Derived.Deep.DeepHandedRow
import Derived.ChangeSlices
import Derived.WalkKit
import Derived.ProofKit
import Derived.OpenShut
import Derived.ShutString
import Derived.ChangeOld
import Derived.ChangeSame
import Derived.Below
set_option linter.unusedVariables false
set_option linter.unusedSimpArgs false
namespace Go.Proofs.YtelniipccmeooaaDoor.row
open Go Go.ChangeShapes Go.WideShapes Go.ChangeAt Go.RowKit Go.Proofs Go.Shelf Go.Proofs.YtelniipccmeooaaDoor.Eng Go.Proofs.YtelniipccmeooaaDoor.Eng.Rdv

theorem own : ownKnob Tryd.prog.godebug = none := by kernel_rfl
theorem laidOut : laidOutB Tryd.prog = true := by kernel_rfl
/-- What a row that lists the decoder's two tables gives. -/
theorem tables {W : World} {l : List (String × DataW Unit)} (hl : l = [("unicode/utf8.acceptRanges", Rows.laid_unicode_utf8_acceptRanges), ("unicode/utf8.first", Rows.laid_unicode_utf8_first)]) (h : laidMetH Tryd.prog l W) : Lib.Utf8Tabs 0 1 W := by
  subst hl
  have h' : laidMet Tryd.prog [("unicode/utf8.acceptRanges", Lib.acceptData), ("unicode/utf8.first", Lib.firstData)] W := by
    have e1 : (Rows.laid_unicode_utf8_acceptRanges : DataW Unit) = Lib.acceptData := by kernel_rfl
    have e2 : Rows.laid_unicode_utf8_first = Lib.firstData := by kernel_rfl
    rw [← e1, ← e2]
    exact h
  exact Go.Proofs.utf8Tabs_of_reads (P := Tryd.prog) (ρ := Tryd.lays197_ren) { Tryd.lays197 with } ⟨by kernel_rfl, by kernel_rfl, by kernel_rfl, by kernel_rfl, by kernel_rfl, by kernel_rfl, by kernel_rfl⟩ (Lib.laidMet.reads h' (.tail _ (.head _))) (Lib.laidMet.reads h' (.head _))
theorem add0 (g j : Nat) : (⟨g, 0, none⟩ : Addr).add j = ⟨g, j, none⟩ := by rw [add_lit', Nat.zero_add]
theorem glob_ok {W : World} (h : Lib.Utf8Tabs 0 1 W) : GlobOk U.glob (stab W) := by
  intro g cs hg
  unfold U.glob at hg
  have mk : ∀ (n : Nat) (f : Nat → Int), (∀ j, j < n → W.cell? ⟨g, j, none⟩ = some (.int .u8 (f j))) → V (stab W) (.eptr ((List.range n).map fun j => .int .u8 (f j)) 0) (.pointer (some ⟨g, 0, none⟩)) := by
    intro n f hc
    have key : ∀ (j : Nat) (c : AV), ((List.range n).map fun j => AV.int .u8 (f j))[j]? = some c → j < n ∧ c = .int .u8 (f j) := by
      intro j c h
      rw [List.getElem?_map] at h
      obtain ⟨x, hx, rfl⟩ := Option.map_eq_some_iff.1 h
      obtain ⟨hl, rfl⟩ := List.getElem?_eq_some_iff.1 hx
      simp only [List.length_range] at hl
      exact ⟨hl, by simp⟩
    have := V.eptr (S := stab W) ((List.range n).map fun j => AV.int .u8 (f j)) 0 ⟨g, 0, none⟩ (fun j => .int .u8 (f j)) (fun j c h => by rw [(key j c h).2]; rfl) (fun j c h => by rw [add0]; exact hc j (key j c h).1) (fun j c h => by rw [(key j c h).2]; exact V.int _ _)
    rwa [add0] at this
  split at hg
  · rename_i h0
    subst h0
    obtain rfl := Option.some.inj hg
    exact mk 256 (fun c => (Lib.firstT c : Int)) fun j hj => h.1 j hj
  · split at hg
    · rename_i h1
      subst h1
      obtain rfl := Option.some.inj hg
      refine mk 32 (fun i => ((if i % 2 = 0 then Lib.accLo (i / 2) else Lib.accHi (i / 2) : Nat) : Int)) fun j hj => ?_
      obtain ⟨h2, h3⟩ := h.2 (j / 2) (by omega)
      by_cases hm : j % 2 = 0
      · rw [if_pos hm]
        rwa [show 2 * (j / 2) = j from by omega] at h2
      · rw [if_neg hm]
        rwa [show 2 * (j / 2) + 1 = j from by omega] at h3
    · cases hg
/-- The witness: the settled memory, the two variables holding what their initialisers lay. -/
noncomputable def laidWorld (os : Os) : World :=
  let w0 := World.holding Tryd.prog os ⟨#[], #[], []⟩
  let put (h : Array Obj) (g : Nat) (cs : Array Value) : Array Obj := h.modify g fun
    | .cells _ t frozen => .cells cs t frozen
    | o => o
  let h1 := put w0.heap 0 (Lib.firstTab.map fun z => Value.int .u8 z).toArray
  let h2 := put h1 1 ((List.range 16).flatMap fun i => [Value.int .u8 (Lib.accLo i), Value.int .u8 (Lib.accHi i)]).toArray
  { w0 with heap := h2 }
theorem cells_str (s : ByteArray) : (Value.string s).cells.toList = [Value.string s] := rfl
theorem cells_int (k : IntKind) (n : Int) : (Value.int k n).cells.toList = [Value.int k n] := rfl
theorem cells_bool (b : Bool) : (Value.bool b).cells.toList = [Value.bool b] := rfl
theorem cells_slice (a : Option Addr) (l c : Nat) : (Value.slice a l c).cells.toList = [Value.slice a l c] := rfl
end Go.Proofs.YtelniipccmeooaaDoor.row
