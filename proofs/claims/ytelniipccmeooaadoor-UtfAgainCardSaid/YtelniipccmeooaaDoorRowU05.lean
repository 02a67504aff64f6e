/- What the rows of the Utf laws share: the tables, bytes that come in, the witness. -/
import Derived.Test.YtelniipccmeooaaDoorCards
import Derived.Test.YtelniipccmeooaaDoorTie
import Derived.Test.YtelniipccmeooaaDoorG05
import Derived.Lib.LaidIn
import Derived.Lib.LaidU8
import Derived.PinnedBridge
import Derived.Deep.DeepHandedRow
import Derived.ChangeSlices
import Derived.WalkKit
import Derived.ProofKit
import Derived.OpenShut
import Derived.ChangeOld
import Derived.ChangeSame
import Derived.Below
set_option linter.unusedVariables false
set_option linter.unusedSimpArgs false
namespace Go.Proofs.YtelniipccmeooaaDoor.utf
open Go Go.ChangeShapes Go.WideShapes Go.ChangeAt Go.RowKit Go.Proofs Go.Shelf Go.Proofs.YtelniipccmeooaaDoor.Eng

theorem own : ownKnob Tryd.prog.godebug = none := by kernel_rfl
theorem laidOut : laidOutB Tryd.prog = true := by kernel_rfl
/-- What a row that lists the decoder's two tables gives. -/
theorem tables {W : World} {l : List (String × DataW Unit)} (hl : l = [("unicode/utf8.acceptRanges", Rows.laid_unicode_utf8_acceptRanges), ("unicode/utf8.first", Rows.laid_unicode_utf8_first)]) (h : laidMetH Tryd.prog l W) : Lib.Utf8Tabs 0 1 W := by
  subst hl
  have h' : laidMet Tryd.prog [("unicode/utf8.acceptRanges", Lib.acceptData), ("unicode/utf8.first", Lib.firstData)] W := by
    have e1 : (Rows.laid_unicode_utf8_acceptRanges : DataW Unit) = Lib.acceptData := by kernel_rfl
    have e2 : Rows.laid_unicode_utf8_first = Lib.firstData := by kernel_rfl
    rw [← e1, ← e2]
    exact h
  exact Go.Proofs.utf8Tabs_of_reads (P := Tryd.prog) (ρ := Tryd.lays197_ren) { Tryd.lays197 with } ⟨by kernel_rfl, by kernel_rfl, by kernel_rfl, by kernel_rfl, by kernel_rfl, by kernel_rfl, by kernel_rfl⟩ (Lib.laidMet.reads h' (.tail _ (.head _))) (Lib.laidMet.reads h' (.head _))

/-- The memory that a call begins with, as what stays. -/
def stab (W : World) : Stab := fun x => W.cell? x
theorem agree_stab (W : World) : Agree (stab W) W := fun _ _ h => h
theorem add0 (g j : Nat) : (⟨g, 0, none⟩ : Addr).add j = ⟨g, j, none⟩ := by rw [add_lit', Nat.zero_add]
theorem glob_ok {W : World} (h : Lib.Utf8Tabs 0 1 W) : GlobOk U.glob (stab W) := by
  intro g cs hg
  unfold U.glob at hg
  have mk : ∀ (n : Nat) (f : Nat → Int), (∀ j, j < n → W.cell? ⟨g, j, none⟩ = some (.int .u8 (f j))) → V (stab W) (.eptr ((List.range n).map fun j => .int .u8 (f j)) 0) (.pointer (some ⟨g, 0, none⟩)) := by
    intro n f hc
    have key : ∀ (j : Nat) (c : AV), ((List.range n).map fun j => AV.int .u8 (f j))[j]? = some c → j < n ∧ c = .int .u8 (f j) := by
      intro j c h
      rw [List.getElem?_map] at h
      obtain ⟨x, hx, rfl⟩ := Option.map_eq_some_iff.1 h
      obtain ⟨hl, rfl⟩ := List.getElem?_eq_some_iff.1 hx
      simp only [List.length_range] at hl
      exact ⟨hl, by simp⟩
    have := V.eptr (S := stab W) ((List.range n).map fun j => AV.int .u8 (f j)) 0 ⟨g, 0, none⟩ (fun j => .int .u8 (f j)) (fun j c h => by rw [(key j c h).2]; rfl) (fun j c h => by rw [add0]; exact hc j (key j c h).1) (fun j c h => by rw [(key j c h).2]; exact V.int _ _)
    rwa [add0] at this
  split at hg
  · rename_i h0
    subst h0
    obtain rfl := Option.some.inj hg
    exact mk 256 (fun c => (Lib.firstT c : Int)) fun j hj => h.1 j hj
  · split at hg
    · rename_i h1
      subst h1
      obtain rfl := Option.some.inj hg
      refine mk 32 (fun i => ((if i % 2 = 0 then Lib.accLo (i / 2) else Lib.accHi (i / 2) : Nat) : Int)) fun j hj => ?_
      obtain ⟨h2, h3⟩ := h.2 (j / 2) (by omega)
      by_cases hm : j % 2 = 0
      · rw [if_pos hm]
        rwa [show 2 * (j / 2) = j from by omega] at h2
      · rw [if_neg hm]
        rwa [show 2 * (j / 2) + 1 = j from by omega] at h3
    · cases hg
/-- Bytes that are handed in, as a list. -/
theorem bytes_in {H : Type} {enc : TypeId × Value → H} {W : World} {base : Nat} {spare : Nat → Bool} {held : Bool} {t e fuel : Nat} {a : Option Addr} {len cap : Nat} {x : DataW H × List MemPlace} (ht : Tryd.prog.underlying t = some (.slice e)) (he : Tryd.prog.underlying e = some (.int .u8)) (hc : Tryd.prog.cellsOf e = 1)
    (h : DataW.trod enc Tryd.prog W base spare held fuel t [.slice a len cap] = some x) : ∃ l : List UInt8, V (stab W) (.list 1 (l.map byteAV)) (.slice a len cap) := by
  rcases open_ints ht he hc h with ⟨hcs, _⟩ | ⟨a', len', cap', zs, hcs, _, hl, hm, hz, _, hcell, hwf⟩
  · simp only [List.cons.injEq, and_true, Value.slice.injEq] at hcs
    obtain ⟨rfl, rfl, rfl⟩ := hcs
    exact ⟨[], V.listn 1⟩
  · simp only [List.cons.injEq, and_true, Value.slice.injEq] at hcs
    obtain ⟨rfl, rfl, rfl⟩ := hcs
    have hlen : len ≤ zs.length := by rw [hz]; split <;> omega
    have hb : ∀ n ∈ zs, 0 ≤ n ∧ n < 256 := fun n hn => by
      have := hwf n hn
      simp [Lit.wf, IntKind.min, IntKind.max, IntKind.signed, IntKind.bits] at this
      omega
    have hn : ((zs.take len).map fun n => UInt8.ofNat n.toNat).length = len := by simp; omega
    have key : ∀ (i : Nat) (x : AV), (((zs.take len).map fun n => UInt8.ofNat n.toNat).map byteAV)[i]? = some x → i < len ∧ x = .int .u8 (zs.getD i 0) := by
      intro i x hx
      rw [List.getElem?_map, List.getElem?_map] at hx
      obtain ⟨y, hy, rfl⟩ := Option.map_eq_some_iff.1 hx
      obtain ⟨z, hz', rfl⟩ := Option.map_eq_some_iff.1 hy
      obtain ⟨hl', hzz⟩ := List.getElem?_eq_some_iff.1 hz'
      simp only [List.length_take] at hl'
      refine ⟨by omega, ?_⟩
      rw [List.getElem_take] at hzz
      have hi : i < zs.length := by omega
      have e : zs.getD i 0 = z := by rw [List.getD_eq_getElem?_getD, List.getElem?_eq_getElem hi, Option.getD_some]; exact hzz
      have := hb z (by rw [← hzz]; exact List.getElem_mem hi)
      rw [e]
      have h8 : (UInt8.ofNat z.toNat).toNat = z.toNat := by rw [UInt8.toNat_ofNat']; omega
      simp only [byteAV, h8, Int.toNat_of_nonneg this.1]
    refine ⟨(zs.take len).map fun n => UInt8.ofNat n.toNat, ?_⟩
    have := V.list (S := stab W) 1 (((zs.take len).map fun n => UInt8.ofNat n.toNat).map byteAV) a' cap (fun i _ => .int .u8 (zs.getD i 0)) (by rw [List.length_map, hn]; exact hl) (fun i x hx => by rw [(key i x hx).2]; rfl) (fun i x j c hx hc => ?_) (fun i x j c hx hc => ?_) (fun i x j c hx hc => ?_)
    · rwa [List.length_map, hn] at this
    · rw [(key i x hx).2] at hc
      match j, hc with
      | 0, hc => cases hc; rfl
    · rw [(key i x hx).2] at hc
      match j, hc with
      | 0, hc =>
        rw [show i * 1 + 0 = i from by omega]
        exact hcell i (by have := (key i x hx).1; omega)
    · rw [(key i x hx).2] at hc
      match j, hc with
      | 0, hc => cases hc; exact V.int _ _

/-- The witness: the settled memory, the two variables holding what their initialisers lay. -/
noncomputable def laidWorld (os : Os) : World :=
  let w0 := World.holding Tryd.prog os ⟨#[], #[], []⟩
  let put (h : Array Obj) (g : Nat) (cs : Array Value) : Array Obj := h.modify g fun
    | .cells _ t frozen => .cells cs t frozen
    | o => o
  let h1 := put w0.heap 0 (Lib.firstTab.map fun z => Value.int .u8 z).toArray
  let h2 := put h1 1 ((List.range 16).flatMap fun i => [Value.int .u8 (Lib.accLo i), Value.int .u8 (Lib.accHi i)]).toArray
  { w0 with heap := h2 }
end Go.Proofs.YtelniipccmeooaaDoor.utf
