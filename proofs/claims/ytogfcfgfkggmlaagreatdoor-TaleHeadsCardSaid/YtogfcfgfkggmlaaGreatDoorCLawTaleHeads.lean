/- TaleHeads answers true whatever it is handed: the row and its tied card. No condition. -/
import Derived.Test.YtogfcfgfkggmlaaGreatDoorMTaleHeads0
import Derived.Test.YtogfcfgfkggmlaaGreatDoorMTaleHeads3
set_option linter.unusedVariables false
set_option linter.unusedSimpArgs false
namespace Go.Proofs.YtogfcfgfkggmlaaGreatDoor.taleHeads
open Go Go.ChangeShapes Go.WideShapes Go.ChangeAt Go.RowKit Go.Proofs Go.Shelf Go.Proofs.YtogfcfgfkggmlaaGreatDoor.Eng Go.Proofs.YtogfcfgfkggmlaaGreatDoor.Eng.Rdv Go.Proofs.YtogfcfgfkggmlaaGreatDoor.Eng.U

set_option maxRecDepth 100000 in
theorem looks_ok (r0 : List UInt8) (g0 : r0.length ≤ 140737488351232) : Ok Tryz.prog U.glob 10 [.str (str r0)] (.bool true) := by
  have h := Base.ok (B := bs ext20 10000000000000) (good20 10000000000000) (n := 24) (f := 10) (heads20 r0 g0)
  exact h
set_option maxRecDepth 100000 in
/-- What the call comes to, for every argument and every memory that holds the tables. -/
theorem contract (H : Type) (enc : TypeId × Value → H) (W : World) (base : Nat) (args : Array Value) (ds gs : List (DataW H)) (before : List MemPlace)
    (hval : ∀ (j : Nat) t v, Tryz.f10.params[j]? = some t → args[j]? = some v → Value.okWide Tryz.prog W .any base t v)
    (hW : DataW.Whole enc Tryz.prog Tryz.f10.params.toList Rows.taleHeadsSpec.vars false W args.toList ds gs before) (hL : GlobOk U.glob (stab W) W)
    (hsz0 : (DataW.weightsEach Tryz.prog (Tryz.f10.params.toList ++ (OpenSpec.ofChange Rows.taleHeadsSpec).bare.plain.varTypes Tryz.prog) (ds ++ gs)).all (· ≤ reachBytes) = true) :
    Calls Tryz.prog 10 args W fun e W' => ∃ v, e = .returned v ∧ Rows.taleHeadsSpec.post enc Tryz.prog Tryz.f10 false true false false W args v W' := by
  have hW' := hW
  obtain ⟨p, q, hA0, hV, rfl, hfz, hnd⟩ := hW
  have hA : DataW.TrodAll enc Tryz.prog W 0 (fun _ => true) true Tryz.f10.params.toList args.toList ds p := hA0
  have hsz : (DataW.weightsEach Tryz.prog (Tryz.f10.params.toList ++ (OpenSpec.ofChange Rows.taleHeadsSpec).bare.plain.varTypes Tryz.prog) (ds ++ gs)).all (· ≤ reachBytes) = true := hsz0
  rw [Tryz.params10] at hA hval hsz
  obtain ⟨v0, vs0, d0, ds0, p0, q0, hargs, rfl, rfl, h0, k0⟩ := trodAll_cons hA
  obtain ⟨rfl, rfl, rfl⟩ := trodAll_nil k0
  obtain rfl : args = #[v0] := by cases args; simp_all
  obtain ⟨rfl, rfl⟩ := trodVars_none hV
  have t0 := h0
  have lt0 : ∀ x ∈ p0, x.block < W.heap.size := by obtain ⟨m, hm⟩ := t0; exact DataW.trod_lt m _ _ _ hm
  obtain ⟨z0, rfl⟩ := okWide_string Tryz.underlying9 (hval 0 9 v0 rfl rfl)
  obtain ⟨r0, y0, g0⟩ := of_one (el := fun r => .str (str r)) (Rdv.string (P := Tryz.prog) (t := 9) Tryz.underlying9 (by kernel_rfl)) h0 (row.cells_str _) (weights_one (j := 0) hsz rfl rfl)
  clear hA0
  have hok := (looks_ok r0 g0).plain (stab W) W [.string z0] (agree_stab W) hL ⟨rfl, fun j c x hc hx => by
    match j, hc, hx with
    | 0, hc, hx => cases hc; cases hx; exact y0⟩
  refine hok.mono fun e W' ⟨v, S', he, _, _, _, bel, hv⟩ => ?_
  obtain rfl : v = .bool true := by cases (show V S' (.bool true) v from hv); rfl
  subst he
  exact ⟨_, rfl, _, _, _, [], _, [], hW', trodAll_mk1 (shut_bool Tryz.underlying4 _), (trodAll_cons_mk (Below.trod row.laidOut (by kernel_rfl) (of_decide_eq_true (by kernel_rfl)) t0 bel lt0) trodAll_mk0), rfl, bel.frame _, fun h => by cases h⟩
theorem laid_met (os : Os) (args : Array Value) : laidMet Tryz.prog Rows.taleHeadsRow.laid ((row.laidWorld os).forCall (fun _ _ => 0) ⟨#[], args, []⟩).memory :=
  (LaidIn.of_run (l := Rows.taleHeadsRow.laid) row.laidBlocks 8 (by kernel_rfl) (by kernel_rfl) (by kernel_rfl) (by kernel_rfl)).met
set_option maxRecDepth 100000 in
theorem witness_row (os : Os) {H : Type} (enc : TypeId × Value → H) :
    (OpenSpec.ofChange Rows.taleHeadsSpec).preRow enc Tryz.prog Tryz.f10 Rows.taleHeadsRow.domain false Rows.taleHeadsRow.laid ((row.laidWorld os).forCall (fun _ _ => 0) ⟨#[], #[.string (⟨#[]⟩ : ByteArray)], []⟩).memory #[.string (⟨#[]⟩ : ByteArray)] := by
  have hw : ((DataW.whole enc Tryz.prog ((row.laidWorld os).forCall (fun _ _ => 0) ⟨#[], #[.string (⟨#[]⟩ : ByteArray)], []⟩).memory Tryz.f10.params.toList Rows.taleHeadsSpec.vars false (#[.string (⟨#[]⟩ : ByteArray)] : Array Value).toList 8).map (fun x => (x.1, x.2.1))).isSome = true := by kernel_rfl
  obtain ⟨⟨y1, y2⟩, hy⟩ := Option.isSome_iff_exists.1 hw
  obtain ⟨⟨x1, x2, x3⟩, hx, hx1⟩ := Option.map_eq_some_iff.1 hy
  exact OpenSpec.preRow_of_cond 8 hx (by kernel_rfl) (fun k hk => by cases hk) (by kernel_rfl) (laid_met os _)
set_option maxRecDepth 100000 in
theorem lifted (os : Os) (started : os.Started) (H : Type) (enc : TypeId × Value → H) (F : Stop.Interp) :
    ReturnsInHanded {} Tryz.checked os 10 .any ((OpenSpec.ofChange Rows.taleHeadsSpec).preRow enc Tryz.prog Tryz.f10 Rows.taleHeadsRow.domain false Rows.taleHeadsRow.laid) (((OpenSpec.ofChange Rows.taleHeadsSpec).at F).post enc Tryz.prog Tryz.f10 false true false false) := by
  refine returnsInHanded_of_row (C := Tryz.checked) (s := OpenSpec.ofChange Rows.taleHeadsSpec) row.own started (by kernel_rfl) Tryz.func10
    (witness_row_at (enc := enc) (C := Tryz.checked) false (row.laidWorld os) #[.string (⟨#[]⟩ : ByteArray)] rfl (by kernel_rfl) (by kernel_rfl) (by kernel_rfl) (witness_row os enc)) ?_
  intro W base args ds gs before hval hW _ _ hsz hL _ _
  exact contract H enc W base args ds gs before hval hW (row.tables rfl hL) hsz
theorem and2 {a b : Bool} (h : a = true) (k : b = true) : (a && b) = true := by rw [h, k]; rfl
theorem fact0 : (Rows.taleHeadsRow.wf (OpenSpec.ofChange (OpenSpec.ofChange Rows.taleHeadsSpec).bare)) = true := by kernel_rfl
theorem fact1 : (laidOutB Tryz.prog) = true := by kernel_rfl
theorem fact2 : (mapsRowed Tryz.prog) = true := by kernel_rfl
theorem fact3 : (Tryz.f10.params.all (Tryz.prog.readableRec ·)) = true := by kernel_rfl
theorem fact4 : (namedTie Tryz.prog Rows.taleHeadsRow.named (OpenSpec.ofChange Rows.taleHeadsSpec).bare.vars) = true := by kernel_rfl
theorem fact5 : (Rows.taleHeadsRow.stops == []) = true := by kernel_rfl
theorem fact6 : (Tryz.prog.stops == []) = true := by kernel_rfl
theorem fact7 : (Rows.taleHeadsRow.knobs == []) = true := by kernel_rfl
theorem fact8 : (Tryz.prog.stopKnobs == []) = true := by kernel_rfl
theorem fact9 : (Rows.taleHeadsRow.inPlace == Tryz.prog.inPlace 10) = true := by kernel_rfl
theorem fact10 : (Rows.taleHeadsRow.unfollowed == Tryz.prog.unfollowed 10) = true := by kernel_rfl
theorem fact11 : (Rows.taleHeadsRow.recurses == Tryz.prog.recurses 10) = true := by kernel_rfl
theorem fact12 : (Rows.taleHeadsRow.named == Tryz.prog.varsNamed 10) = true := by kernel_rfl
theorem fact13 : (Rows.taleHeadsRow.maps == (Tryz.f10.params.toList ++ (OpenSpec.ofChange Rows.taleHeadsSpec).bare.plain.varTypes Tryz.prog).any (Tryz.prog.mapsRec ·)) = true := by kernel_rfl
theorem fact14 : (Rows.taleHeadsRow.ifaces == (Tryz.f10.params.toList ++ (OpenSpec.ofChange Rows.taleHeadsSpec).bare.plain.varTypes Tryz.prog).any (Tryz.prog.ifacesRec ·)) = true := by kernel_rfl
theorem fact15 : (Rows.taleHeadsRow.mapsOut == Tryz.prog.mapsAmong Tryz.f10.resultTypes.toList) = true := by kernel_rfl
theorem fact16 : (Rows.taleHeadsRow.loops == (Tryz.f10.params.toList ++ (OpenSpec.ofChange Rows.taleHeadsSpec).bare.plain.varTypes Tryz.prog).any (Tryz.prog.loopsFrom ·)) = true := by kernel_rfl
theorem fact17 : (Rows.taleHeadsRow.wideKeys == (Tryz.f10.params.toList ++ (OpenSpec.ofChange Rows.taleHeadsSpec).bare.plain.varTypes Tryz.prog ++ Tryz.f10.resultTypes.toList).any (Tryz.prog.wideKeysFrom ·)) = true := by kernel_rfl
theorem fact18 : ((OpenSpec.ofChange Rows.taleHeadsSpec).bare.vars.all (Tryz.prog.varReadable ·)) = true := by kernel_rfl
theorem fact19 : (Tryz.f10.resultTypes.all (fun t => Tryz.prog.readableRec t && decide (t < Tryz.prog.types.size))) = true := by kernel_rfl
theorem fact20 : (Rows.taleHeadsRow.ifacesOut == Tryz.f10.resultTypes.toList.any (Tryz.prog.ifacesRec ·)) = true := by kernel_rfl
theorem fact21 : (Rows.taleHeadsRow.loopsOut == Tryz.f10.resultTypes.toList.any (Tryz.prog.loopsFrom ·)) = true := by kernel_rfl
theorem fact22 : (Rows.taleHeadsRow.plainKeys == Tryz.prog.plainKeys) = true := by kernel_rfl
theorem fact23 : (Rows.taleHeadsRow.shortTexts.isNone) = true := by kernel_rfl
theorem fact24 : (Tryz.prog.stopsHeard) = true := by kernel_rfl
theorem fact25 : (Tryz.prog.mayEnter) = true := by kernel_rfl
theorem fact26 : (Rows.taleHeadsRow.lifted == Tryz.prog.liftsFinal) = true := by kernel_rfl
theorem fact27 : (Tryz.prog.make == some Rows.taleHeadsRow.make) = true := by kernel_rfl
theorem fact28 : (Rows.taleHeadsRow.kinds == (if Rows.taleHeadsRow.domain.isEmpty then [] else Tryz.f10.params.toList.map fun t => match Tryz.prog.underlying t with | some (.int k) => some k | _ => none)) = true := by kernel_rfl
theorem fact29 : (Rows.taleHeadsRow.pinned == Rows.taleHeadsRow.pinnedBy) = true := by kernel_rfl
theorem fact30 : (Rows.taleHeadsRow.veiled == (Tryz.f10.params.toList ++ (OpenSpec.ofChange Rows.taleHeadsSpec).bare.plain.varTypes Tryz.prog ++ Tryz.f10.resultTypes.toList).any (Tryz.prog.veiledRec ·)) = true := by kernel_rfl
theorem fact31 : (Rows.taleHeadsRow.veiledFits Tryz.prog Tryz.f10.params.toList (Tryz.f10.params.toList ++ (OpenSpec.ofChange Rows.taleHeadsSpec).bare.plain.varTypes Tryz.prog ++ Tryz.f10.resultTypes.toList)) = true := by kernel_rfl
set_option maxRecDepth 100000 in
theorem closed : joinedFacts Tryz.prog 10 Tryz.f10 ((OpenSpec.ofChange Rows.taleHeadsSpec).bare) Rows.taleHeadsRow = true := by
  unfold joinedFacts
  exact (and2 (and2 (and2 (and2 (and2 (and2 (and2 (and2 (and2 (and2 (and2 (and2 (and2 (and2 (and2 (and2 (and2 (and2 (and2 (and2 (and2 (and2 (and2 (and2 (and2 (and2 (and2 (and2 (and2 (and2 (and2 fact0 fact1) fact2) fact3) fact4) fact5) fact6) fact7) fact8) fact9) fact10) fact11) fact12) fact13) fact14) fact15) fact16) fact17) fact18) fact19) fact20) fact21) fact22) fact23) fact24) fact25) fact26) fact27) fact28) fact29) fact30) fact31)
theorem named : Tryz.prog.funcNamed Rows.taleHeadsRow.func = some 10 := by kernel_rfl
theorem instance_ : Tryz.f10.isInstance Tryz.prog Rows.taleHeadsRow.origin Rows.taleHeadsRow.targs :=
  of_decide_eq_true (by kernel_rfl)
theorem wrapper_ : Tryz.f10.isWrapper Tryz.prog Rows.taleHeadsRow.wrapper Rows.taleHeadsRow.mainSum := by
  unfold Func.isWrapper; first | (rw [if_pos (by decide +kernel)]; kernel_rfl) | (rw [if_neg (by decide +kernel)]; exact ⟨rfl, rfl⟩)
theorem said : Rows.TaleHeadsSaid :=
  OpenClaim.holds_of_cond 10 Tryz.f10 rfl rfl rfl rfl rfl rfl rfl ⟨rfl, rfl, rfl, rfl, rfl⟩ rfl rfl rfl rfl rfl named Tryz.func10 closed instance_ wrapper_
    (fun os started H enc _ F => by rw [OpenClaim.pre_eq_preRow]; exact lifted os started H enc F)
theorem plain (f : FuncId) (fn : Func) (hf : Tryz.pinned.checked.prog.funcNamed "oakum/oakumlaw20.TaleHeads" = some f) (hfn : Tryz.pinned.checked.prog.funcs[f]? = some fn) :
    true = Tryz.pinned.checked.prog.looks [] ∧ ∀ (j : Nat) t, fn.params[j]? = some t → Tryz.pinned.checked.prog.wantsStandIn t = false := by
  obtain rfl : f = 10 := Option.some.inj ((show Tryz.prog.funcNamed "oakum/oakumlaw20.TaleHeads" = some 10 by kernel_rfl).symm.trans hf) |>.symm
  obtain rfl : fn = Tryz.f10 := (Option.some.inj (Tryz.func10.symm.trans hfn)).symm
  refine ⟨by kernel_rfl, fun j t ht => ?_⟩
  rw [Tryz.params10] at ht
  have ht2 : t = 9 := by simpa using Array.mem_of_getElem? ht
  subst ht2
  exact (show Tryz.prog.wantsStandIn 9 = false by kernel_rfl)
/-- The card. -/
theorem card : Rows.TaleHeadsCardSaid :=
  Claim7.holds_tied_plain_at .later [] _ _ _ _ said (fun _ h => by cases h) (by kernel_rfl) (fun _ h => by cases h) taleHeads_row_tie rfl ⟨rfl, rfl⟩ (by kernel_rfl) rfl plain (by kernel_rfl)
end Go.Proofs.YtogfcfgfkggmlaaGreatDoor.taleHeads
namespace Go.Proofs.YtogfcfgfkggmlaaGreatDoor
/-- The card, under a short name, for the claim. -/
theorem taleHeads_card_holds : Rows.TaleHeadsCardSaid := taleHeads.card
end Go.Proofs.YtogfcfgfkggmlaaGreatDoor
