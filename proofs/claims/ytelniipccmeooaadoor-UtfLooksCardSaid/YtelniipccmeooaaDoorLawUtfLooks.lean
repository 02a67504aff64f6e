/- UtfLooks answers true whatever bytes it is handed: the row and its tied card. No condition. -/
import Derived.Test.YtelniipccmeooaaDoorCards
import Derived.Test.YtelniipccmeooaaDoorTie
import Derived.Test.YtelniipccmeooaaDoorG05
import Derived.Test.YtelniipccmeooaaDoorU05d
import Derived.Lib.LaidIn
import Derived.Lib.LaidU8
import Derived.PinnedBridge
import Derived.Deep.DeepHandedRow
import Derived.ChangeSlices
import Derived.WalkKit
import Derived.ProofKit
import Derived.OpenShut
import Derived.ChangeOld
import Derived.ChangeSame
import Derived.Below
set_option linter.unusedVariables false
set_option linter.unusedSimpArgs false
namespace Go.Proofs.YtelniipccmeooaaDoor.utfLooks
open Go Go.ChangeShapes Go.WideShapes Go.ChangeAt Go.RowKit Go.Proofs Go.Shelf Go.Proofs.YtelniipccmeooaaDoor.Eng

theorem own : ownKnob Tryd.prog.godebug = none := by kernel_rfl
theorem laidOut : laidOutB Tryd.prog = true := by kernel_rfl
/-- What a row that lists the decoder's two tables gives. -/
theorem tables {W : World} {l : List (String × DataW Unit)} (hl : l = [("unicode/utf8.acceptRanges", Rows.laid_unicode_utf8_acceptRanges), ("unicode/utf8.first", Rows.laid_unicode_utf8_first)]) (h : laidMetH Tryd.prog l W) : Lib.Utf8Tabs 0 1 W := by
  subst hl
  have h' : laidMet Tryd.prog [("unicode/utf8.acceptRanges", Lib.acceptData), ("unicode/utf8.first", Lib.firstData)] W := by
    have e1 : (Rows.laid_unicode_utf8_acceptRanges : DataW Unit) = Lib.acceptData := by kernel_rfl
    have e2 : Rows.laid_unicode_utf8_first = Lib.firstData := by kernel_rfl
    rw [← e1, ← e2]
    exact h
  exact Go.Proofs.utf8Tabs_of_reads (P := Tryd.prog) (ρ := Tryd.lays197_ren) { Tryd.lays197 with } ⟨by kernel_rfl, by kernel_rfl, by kernel_rfl, by kernel_rfl, by kernel_rfl, by kernel_rfl, by kernel_rfl⟩ (Lib.laidMet.reads h' (.tail _ (.head _))) (Lib.laidMet.reads h' (.head _))

/-- The memory that a call begins with, as what stays. -/
def stab (W : World) : Stab := fun x => W.cell? x
theorem agree_stab (W : World) : Agree (stab W) W := fun _ _ h => h
theorem add0 (g j : Nat) : (⟨g, 0, none⟩ : Addr).add j = ⟨g, j, none⟩ := by rw [add_lit', Nat.zero_add]
theorem glob_ok {W : World} (h : Lib.Utf8Tabs 0 1 W) : GlobOk U.glob (stab W) := by
  intro g cs hg
  unfold U.glob at hg
  have mk : ∀ (n : Nat) (f : Nat → Int), (∀ j, j < n → W.cell? ⟨g, j, none⟩ = some (.int .u8 (f j))) → V (stab W) (.eptr ((List.range n).map fun j => .int .u8 (f j)) 0) (.pointer (some ⟨g, 0, none⟩)) := by
    intro n f hc
    have key : ∀ (j : Nat) (c : AV), ((List.range n).map fun j => AV.int .u8 (f j))[j]? = some c → j < n ∧ c = .int .u8 (f j) := by
      intro j c h
      rw [List.getElem?_map] at h
      obtain ⟨x, hx, rfl⟩ := Option.map_eq_some_iff.1 h
      obtain ⟨hl, rfl⟩ := List.getElem?_eq_some_iff.1 hx
      simp only [List.length_range] at hl
      exact ⟨hl, by simp⟩
    have := V.eptr (S := stab W) ((List.range n).map fun j => AV.int .u8 (f j)) 0 ⟨g, 0, none⟩ (fun j => .int .u8 (f j)) (fun j c h => by rw [(key j c h).2]; rfl) (fun j c h => by rw [add0]; exact hc j (key j c h).1) (fun j c h => by rw [(key j c h).2]; exact V.int _ _)
    rwa [add0] at this
  split at hg
  · rename_i h0
    subst h0
    obtain rfl := Option.some.inj hg
    exact mk 256 (fun c => (Lib.firstT c : Int)) fun j hj => h.1 j hj
  · split at hg
    · rename_i h1
      subst h1
      obtain rfl := Option.some.inj hg
      refine mk 32 (fun i => ((if i % 2 = 0 then Lib.accLo (i / 2) else Lib.accHi (i / 2) : Nat) : Int)) fun j hj => ?_
      obtain ⟨h2, h3⟩ := h.2 (j / 2) (by omega)
      by_cases hm : j % 2 = 0
      · rw [if_pos hm]
        rwa [show 2 * (j / 2) = j from by omega] at h2
      · rw [if_neg hm]
        rwa [show 2 * (j / 2) + 1 = j from by omega] at h3
    · cases hg
/-- Bytes that are handed in, as a list. -/
theorem bytes_in {H : Type} {enc : TypeId × Value → H} {W : World} {base : Nat} {spare : Nat → Bool} {held : Bool} {t e fuel : Nat} {a : Option Addr} {len cap : Nat} {x : DataW H × List MemPlace} (ht : Tryd.prog.underlying t = some (.slice e)) (he : Tryd.prog.underlying e = some (.int .u8)) (hc : Tryd.prog.cellsOf e = 1)
    (h : DataW.trod enc Tryd.prog W base spare held fuel t [.slice a len cap] = some x) : ∃ l : List UInt8, V (stab W) (.list 1 (l.map byteAV)) (.slice a len cap) := by
  rcases open_ints ht he hc h with ⟨hcs, _⟩ | ⟨a', len', cap', zs, hcs, _, hl, hm, hz, _, hcell, hwf⟩
  · simp only [List.cons.injEq, and_true, Value.slice.injEq] at hcs
    obtain ⟨rfl, rfl, rfl⟩ := hcs
    exact ⟨[], V.listn 1⟩
  · simp only [List.cons.injEq, and_true, Value.slice.injEq] at hcs
    obtain ⟨rfl, rfl, rfl⟩ := hcs
    have hlen : len ≤ zs.length := by rw [hz]; split <;> omega
    have hb : ∀ n ∈ zs, 0 ≤ n ∧ n < 256 := fun n hn => by
      have := hwf n hn
      simp [Lit.wf, IntKind.min, IntKind.max, IntKind.signed, IntKind.bits] at this
      omega
    have hn : ((zs.take len).map fun n => UInt8.ofNat n.toNat).length = len := by simp; omega
    have key : ∀ (i : Nat) (x : AV), (((zs.take len).map fun n => UInt8.ofNat n.toNat).map byteAV)[i]? = some x → i < len ∧ x = .int .u8 (zs.getD i 0) := by
      intro i x hx
      rw [List.getElem?_map, List.getElem?_map] at hx
      obtain ⟨y, hy, rfl⟩ := Option.map_eq_some_iff.1 hx
      obtain ⟨z, hz', rfl⟩ := Option.map_eq_some_iff.1 hy
      obtain ⟨hl', hzz⟩ := List.getElem?_eq_some_iff.1 hz'
      simp only [List.length_take] at hl'
      refine ⟨by omega, ?_⟩
      rw [List.getElem_take] at hzz
      have hi : i < zs.length := by omega
      have e : zs.getD i 0 = z := by rw [List.getD_eq_getElem?_getD, List.getElem?_eq_getElem hi, Option.getD_some]; exact hzz
      have := hb z (by rw [← hzz]; exact List.getElem_mem hi)
      rw [e]
      have h8 : (UInt8.ofNat z.toNat).toNat = z.toNat := by rw [UInt8.toNat_ofNat']; omega
      simp only [byteAV, h8, Int.toNat_of_nonneg this.1]
    refine ⟨(zs.take len).map fun n => UInt8.ofNat n.toNat, ?_⟩
    have := V.list (S := stab W) 1 (((zs.take len).map fun n => UInt8.ofNat n.toNat).map byteAV) a' cap (fun i _ => .int .u8 (zs.getD i 0)) (by rw [List.length_map, hn]; exact hl) (fun i x hx => by rw [(key i x hx).2]; rfl) (fun i x j c hx hc => ?_) (fun i x j c hx hc => ?_) (fun i x j c hx hc => ?_)
    · rwa [List.length_map, hn] at this
    · rw [(key i x hx).2] at hc
      match j, hc with
      | 0, hc => cases hc; rfl
    · rw [(key i x hx).2] at hc
      match j, hc with
      | 0, hc =>
        rw [show i * 1 + 0 = i from by omega]
        exact hcell i (by have := (key i x hx).1; omega)
    · rw [(key i x hx).2] at hc
      match j, hc with
      | 0, hc => cases hc; exact V.int _ _

set_option maxRecDepth 100000 in
theorem looks_ok (l : List UInt8) : Ok Tryd.prog U.glob 3 [.list 1 (l.map byteAV)] (.bool true) := by
  have h := Base.ok (B := U.bs 3000) (U.good 3000) (n := 6) (f := 3) (U.utfLooks_true l)
  exact h
set_option maxRecDepth 100000 in
/-- What the call comes to, for every argument and every memory that holds the tables. -/
theorem contract (H : Type) (enc : TypeId × Value → H) (W : World) (base : Nat) (args : Array Value) (ds gs : List (DataW H)) (before : List MemPlace)
    (hval : ∀ (j : Nat) t v, Tryd.f3.params[j]? = some t → args[j]? = some v → Value.okWide Tryd.prog W .any base t v)
    (hW : DataW.Whole enc Tryd.prog Tryd.f3.params.toList Rows.utfLooksSpec.vars false W args.toList ds gs before) (hL : Lib.Utf8Tabs 0 1 W) :
    Calls Tryd.prog 3 args W fun e W' => ∃ v, e = .returned v ∧ Rows.utfLooksSpec.post enc Tryd.prog Tryd.f3 false true false false W args v W' := by
  have hW' := hW
  obtain ⟨p, q, hA0, hV, rfl, hfz, hnd⟩ := hW
  have hA : DataW.TrodAll enc Tryd.prog W 0 (fun _ => true) true Tryd.f3.params.toList args.toList ds p := hA0
  rw [Tryd.params3] at hA hval
  obtain ⟨v0, vs0, d0, ds0, p0, q0, hargs, rfl, rfl, h0, r0⟩ := trodAll_cons hA
  obtain ⟨rfl, rfl, rfl⟩ := trodAll_nil r0
  obtain rfl : args = #[v0] := by cases args; simp_all
  obtain ⟨rfl, rfl⟩ := trodVars_none hV
  have t0 := h0
  have lt0 : ∀ x ∈ p0, x.block < W.heap.size := by obtain ⟨m, hm⟩ := t0; exact DataW.trod_lt m _ _ _ hm
  obtain ⟨a, len, cap, rfl⟩ := okWide_slice Tryd.underlying22 (hval 0 22 v0 rfl rfl)
  obtain ⟨fuel, hf⟩ := h0
  obtain ⟨l, hl⟩ := bytes_in Tryd.underlying22 Tryd.underlying5 (by kernel_rfl) hf
  clear hA0
  have hok := looks_ok l (stab W) W [.slice a len cap] (agree_stab W) (glob_ok hL) ⟨rfl, fun j c x hc hx => by
    match j, hc, hx with
    | 0, hc, hx => cases hc; cases hx; exact hl⟩
  refine hok.mono fun e W' ⟨v, S', he, _, _, _, bel, hv⟩ => ?_
  obtain rfl : v = .bool true := by cases (show V S' (.bool true) v from hv); rfl
  subst he
  exact ⟨_, rfl, _, _, _, [], _, [], hW', trodAll_mk1 (shut_bool Tryd.underlying4 _), trodAll_cons_mk (Below.trod laidOut (by kernel_rfl) (of_decide_eq_true (by kernel_rfl)) t0 bel lt0) trodAll_mk0, rfl, bel.frame _, fun h => by cases h⟩

/-- The witness: the settled memory, the two variables holding what their initialisers lay. -/
noncomputable def laidWorld (os : Os) : World :=
  let w0 := World.holding Tryd.prog os ⟨#[], #[], []⟩
  let put (h : Array Obj) (g : Nat) (cs : Array Value) : Array Obj := h.modify g fun
    | .cells _ t frozen => .cells cs t frozen
    | o => o
  let h1 := put w0.heap 0 (Lib.firstTab.map fun z => Value.int .u8 z).toArray
  let h2 := put h1 1 ((List.range 16).flatMap fun i => [Value.int .u8 (Lib.accLo i), Value.int .u8 (Lib.accHi i)]).toArray
  { w0 with heap := h2 }
theorem laid_met (os : Os) (args : Array Value) : laidMet Tryd.prog Rows.utfLooksRow.laid ((laidWorld os).forCall (fun _ _ => 0) ⟨#[], args, []⟩).memory :=
  (LaidIn.of_run (l := Rows.utfLooksRow.laid) [1, 0] 8 (by kernel_rfl) (by kernel_rfl) (by kernel_rfl) (by kernel_rfl)).met
theorem witness_row (os : Os) {H : Type} (enc : TypeId × Value → H) :
    (OpenSpec.ofChange Rows.utfLooksSpec).preRow enc Tryd.prog Tryd.f3 Rows.utfLooksRow.domain false Rows.utfLooksRow.laid ((laidWorld os).forCall (fun _ _ => 0) ⟨#[], #[.slice none 0 0], []⟩).memory #[.slice none 0 0] := by
  have hw : (DataW.whole enc Tryd.prog ((laidWorld os).forCall (fun _ _ => 0) ⟨#[], #[.slice none 0 0], []⟩).memory Tryd.f3.params.toList Rows.utfLooksSpec.vars false #[Value.slice none 0 0].toList 8).map (fun x => (x.1, x.2.1)) =
      some ([.nil], []) := by kernel_rfl
  obtain ⟨⟨x1, x2, x3⟩, hx, hx1⟩ := Option.map_eq_some_iff.1 hw
  simp only [Prod.mk.injEq] at hx1
  obtain ⟨rfl, rfl⟩ := hx1
  exact OpenSpec.preRow_of_cond 8 hx (by kernel_rfl) (fun k hk => by cases hk) (by kernel_rfl) (laid_met os _)
set_option maxRecDepth 100000 in
theorem lifted (os : Os) (started : os.Started) (H : Type) (enc : TypeId × Value → H) (F : Stop.Interp) :
    ReturnsInHanded {} Tryd.checked os 3 .any ((OpenSpec.ofChange Rows.utfLooksSpec).preRow enc Tryd.prog Tryd.f3 Rows.utfLooksRow.domain false Rows.utfLooksRow.laid) (((OpenSpec.ofChange Rows.utfLooksSpec).at F).post enc Tryd.prog Tryd.f3 false true false false) := by
  refine returnsInHanded_of_row (C := Tryd.checked) (s := OpenSpec.ofChange Rows.utfLooksSpec) own started (by kernel_rfl) Tryd.func3
    (witness_row_at (enc := enc) (C := Tryd.checked) false (laidWorld os) #[.slice none 0 0] rfl (by kernel_rfl) (by kernel_rfl) (by kernel_rfl) (witness_row os enc)) ?_
  intro W base args ds gs before hval hW _ _ _ hL _ _
  exact contract H enc W base args ds gs before hval hW (tables rfl hL)
theorem said : Rows.UtfLooksSaid :=
  OpenClaim.holds_of_cond 3 Tryd.f3 rfl rfl rfl rfl rfl rfl rfl ⟨rfl, rfl, rfl, rfl, rfl⟩ rfl rfl rfl rfl rfl (by kernel_rfl) Tryd.func3 (by kernel_rfl)
    (of_decide_eq_true (by kernel_rfl)) (by unfold Func.isWrapper; first | (rw [if_pos (by decide +kernel)]; kernel_rfl) | (rw [if_neg (by decide +kernel)]; exact ⟨rfl, rfl⟩))
    (fun os started H enc _ F => by rw [OpenClaim.pre_eq_preRow]; exact lifted os started H enc F)
theorem plain (f : FuncId) (fn : Func) (hf : Tryd.pinned.checked.prog.funcNamed "oakum/oakumlaw05.UtfLooks" = some f) (hfn : Tryd.pinned.checked.prog.funcs[f]? = some fn) :
    false = Tryd.pinned.checked.prog.looks [] ∧ ∀ (j : Nat) t, fn.params[j]? = some t → Tryd.pinned.checked.prog.wantsStandIn t = false := by
  obtain rfl : f = 3 := Option.some.inj ((show Tryd.prog.funcNamed "oakum/oakumlaw05.UtfLooks" = some 3 by kernel_rfl).symm.trans hf) |>.symm
  obtain rfl : fn = Tryd.f3 := (Option.some.inj (Tryd.func3.symm.trans hfn)).symm
  refine ⟨by kernel_rfl, fun j t ht => ?_⟩
  rw [Tryd.params3] at ht
  obtain rfl : t = 22 := by simpa using Array.mem_of_getElem? ht
  exact (show Tryd.prog.wantsStandIn 22 = false by kernel_rfl)
/-- The card. -/
theorem card : Rows.UtfLooksCardSaid :=
  Claim7.holds_tied_plain_at .later [] _ _ _ _ said (fun _ h => by cases h) (by kernel_rfl) (fun _ h => by cases h) utfLooks_row_tie rfl ⟨rfl, rfl⟩ (by kernel_rfl) rfl plain (by kernel_rfl)
end Go.Proofs.YtelniipccmeooaaDoor.utfLooks
namespace Go.Proofs.YtelniipccmeooaaDoor
/-- The card, under a short name, for the claim. -/
theorem utfLooks_card_holds : Rows.UtfLooksCardSaid := utfLooks.card
end Go.Proofs.YtelniipccmeooaaDoor
