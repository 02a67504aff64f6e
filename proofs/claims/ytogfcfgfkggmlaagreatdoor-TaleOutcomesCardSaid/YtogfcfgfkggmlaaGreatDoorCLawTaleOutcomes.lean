/- TaleOutcomes answers true whatever it is handed: the row and its tied card. No condition. -/
import Derived.Test.YtogfcfgfkggmlaaGreatDoorMTaleOutcomes0
import Derived.Test.YtogfcfgfkggmlaaGreatDoorMTaleOutcomes2
import Derived.Test.YtogfcfgfkggmlaaGreatDoorMTaleOutcomes1
set_option linter.unusedVariables false
set_option linter.unusedSimpArgs false
namespace Go.Proofs.YtogfcfgfkggmlaaGreatDoor.taleOutcomes
open Go Go.ChangeShapes Go.WideShapes Go.ChangeAt Go.RowKit Go.Proofs Go.Shelf Go.Proofs.YtogfcfgfkggmlaaGreatDoor.Eng Go.Proofs.YtogfcfgfkggmlaaGreatDoor.Eng.Rdv Go.Proofs.YtogfcfgfkggmlaaGreatDoor.Eng.U

set_option maxRecDepth 100000 in
theorem looks_ok (r0 : U.Outc) (r1 : Int) (r2 : List UInt8) (g0 : G_flowOutcome r0) (g1 : -9223372036854775808 ≤ r1 ∧ r1 ≤ 9223372036854775807) (g2 : r2.length ≤ 140737488351232) : Ok Tryz.prog U.glob 13 [.agg (encOut r0), .int .i64 r1, .str (str r2)] (.bool true) := by
  have h := Base.ok (B := bs ext20 10000000000000) (good20 10000000000000) (n := 23) (f := 13) (outcomes20 r0 r1 r2 g0 g1 g2)
  exact h
set_option maxRecDepth 100000 in
/-- What the call comes to, for every argument and every memory that holds the tables. -/
theorem contract (H : Type) (enc : TypeId × Value → H) (W : World) (base : Nat) (args : Array Value) (ds gs : List (DataW H)) (before : List MemPlace)
    (hval : ∀ (j : Nat) t v, Tryz.f13.params[j]? = some t → args[j]? = some v → Value.okWide Tryz.prog W .any base t v)
    (hW : DataW.Whole enc Tryz.prog Tryz.f13.params.toList Rows.taleOutcomesSpec.vars false W args.toList ds gs before) (hL : GlobOk U.glob (stab W) W)
    (hsz0 : (DataW.weightsEach Tryz.prog (Tryz.f13.params.toList ++ (OpenSpec.ofChange Rows.taleOutcomesSpec).bare.plain.varTypes Tryz.prog) (ds ++ gs)).all (· ≤ reachBytes) = true) :
    Calls Tryz.prog 13 args W fun e W' => ∃ v, e = .returned v ∧ Rows.taleOutcomesSpec.post enc Tryz.prog Tryz.f13 false true false false W args v W' := by
  have hW' := hW
  obtain ⟨p, q, hA0, hV, rfl, hfz, hnd⟩ := hW
  have hA : DataW.TrodAll enc Tryz.prog W 0 (fun _ => true) true Tryz.f13.params.toList args.toList ds p := hA0
  have hsz : (DataW.weightsEach Tryz.prog (Tryz.f13.params.toList ++ (OpenSpec.ofChange Rows.taleOutcomesSpec).bare.plain.varTypes Tryz.prog) (ds ++ gs)).all (· ≤ reachBytes) = true := hsz0
  rw [Tryz.params13] at hA hval hsz
  obtain ⟨v0, vs0, d0, ds0, p0, q0, hargs, rfl, rfl, h0, k0⟩ := trodAll_cons hA
  obtain ⟨v1, vs1, d1, ds1, p1, q1, rfl, rfl, rfl, h1, k1⟩ := trodAll_cons k0
  obtain ⟨v2, vs2, d2, ds2, p2, q2, rfl, rfl, rfl, h2, k2⟩ := trodAll_cons k1
  obtain ⟨rfl, rfl, rfl⟩ := trodAll_nil k2
  obtain rfl : args = #[v0, v1, v2] := by cases args; simp_all
  obtain ⟨rfl, rfl⟩ := trodVars_none hV
  have t0 := h0
  have lt0 : ∀ x ∈ p0, x.block < W.heap.size := by obtain ⟨m, hm⟩ := t0; exact DataW.trod_lt m _ _ _ hm
  have t1 := h1
  have lt1 : ∀ x ∈ p1, x.block < W.heap.size := by obtain ⟨m, hm⟩ := t1; exact DataW.trod_lt m _ _ _ hm
  have t2 := h2
  have lt2 : ∀ x ∈ p2, x.block < W.heap.size := by obtain ⟨m, hm⟩ := t2; exact DataW.trod_lt m _ _ _ hm
  obtain ⟨r0, y0, g0⟩ := of_agg rd_out h0 (let ⟨c, e, _⟩ := okWide_struct Tryz.underlying86 (hval 0 86 v0 rfl rfl); ⟨c, e⟩) (weights_one (j := 0) hsz rfl rfl)
  obtain ⟨z1, rfl⟩ := okWide_int Tryz.underlying3 (hval 1 3 v1 rfl rfl)
  obtain ⟨r1, y1, g1⟩ := of_one (el := fun r => .int .i64 r) (Rdv.int (P := Tryz.prog) (t := 3) (k := .i64) Tryz.underlying3 (by kernel_rfl)) h1 (row.cells_int _ _) (weights_one (j := 1) hsz rfl rfl)
  obtain ⟨z2, rfl⟩ := okWide_string Tryz.underlying9 (hval 2 9 v2 rfl rfl)
  obtain ⟨r2, y2, g2⟩ := of_one (el := fun r => .str (str r)) (Rdv.string (P := Tryz.prog) (t := 9) Tryz.underlying9 (by kernel_rfl)) h2 (row.cells_str _) (weights_one (j := 2) hsz rfl rfl)
  clear hA0
  have hok := (looks_ok r0 r1 r2 g0 g1 g2).plain (stab W) W [v0, .int .i64 z1, .string z2] (agree_stab W) hL ⟨rfl, fun j c x hc hx => by
    match j, hc, hx with
    | 0, hc, hx => cases hc; cases hx; exact y0
    | 1, hc, hx => cases hc; cases hx; exact y1
    | 2, hc, hx => cases hc; cases hx; exact y2⟩
  refine hok.mono fun e W' ⟨v, S', he, _, _, _, bel, hv⟩ => ?_
  obtain rfl : v = .bool true := by cases (show V S' (.bool true) v from hv); rfl
  subst he
  exact ⟨_, rfl, _, _, _, [], _, [], hW', trodAll_mk1 (shut_bool Tryz.underlying4 _), (trodAll_cons_mk (Below.trod row.laidOut (by kernel_rfl) (of_decide_eq_true (by kernel_rfl)) t0 bel lt0) (trodAll_cons_mk (Below.trod row.laidOut (by kernel_rfl) (of_decide_eq_true (by kernel_rfl)) t1 bel lt1) (trodAll_cons_mk (Below.trod row.laidOut (by kernel_rfl) (of_decide_eq_true (by kernel_rfl)) t2 bel lt2) trodAll_mk0))), rfl, bel.frame _, fun h => by cases h⟩
theorem laid_met (os : Os) (args : Array Value) : laidMet Tryz.prog Rows.taleOutcomesRow.laid ((row.laidWorld os).forCall (fun _ _ => 0) ⟨#[], args, []⟩).memory :=
  (LaidIn.of_run (l := Rows.taleOutcomesRow.laid) row.laidBlocks 8 (by kernel_rfl) (by kernel_rfl) (by kernel_rfl) (by kernel_rfl)).met
set_option maxRecDepth 100000 in
theorem witness_row (os : Os) {H : Type} (enc : TypeId × Value → H) :
    (OpenSpec.ofChange Rows.taleOutcomesSpec).preRow enc Tryz.prog Tryz.f13 Rows.taleOutcomesRow.domain false Rows.taleOutcomesRow.laid ((row.laidWorld os).forCall (fun _ _ => 0) ⟨#[], #[.agg #[.int .u8 0, .int .u8 0, .int .i64 0, .int .i64 0, .int .i64 0, .int .i64 0, .int .i64 0], .int .i64 0, .string (⟨#[]⟩ : ByteArray)], []⟩).memory #[.agg #[.int .u8 0, .int .u8 0, .int .i64 0, .int .i64 0, .int .i64 0, .int .i64 0, .int .i64 0], .int .i64 0, .string (⟨#[]⟩ : ByteArray)] := by
  have hw : ((DataW.whole enc Tryz.prog ((row.laidWorld os).forCall (fun _ _ => 0) ⟨#[], #[.agg #[.int .u8 0, .int .u8 0, .int .i64 0, .int .i64 0, .int .i64 0, .int .i64 0, .int .i64 0], .int .i64 0, .string (⟨#[]⟩ : ByteArray)], []⟩).memory Tryz.f13.params.toList Rows.taleOutcomesSpec.vars false (#[.agg #[.int .u8 0, .int .u8 0, .int .i64 0, .int .i64 0, .int .i64 0, .int .i64 0, .int .i64 0], .int .i64 0, .string (⟨#[]⟩ : ByteArray)] : Array Value).toList 8).map (fun x => (x.1, x.2.1))).isSome = true := by kernel_rfl
  obtain ⟨⟨y1, y2⟩, hy⟩ := Option.isSome_iff_exists.1 hw
  obtain ⟨⟨x1, x2, x3⟩, hx, hx1⟩ := Option.map_eq_some_iff.1 hy
  exact OpenSpec.preRow_of_cond 8 hx (by kernel_rfl) (fun k hk => by cases hk) (by kernel_rfl) (laid_met os _)
set_option maxRecDepth 100000 in
theorem lifted (os : Os) (started : os.Started) (H : Type) (enc : TypeId × Value → H) (F : Stop.Interp) :
    ReturnsInHanded {} Tryz.checked os 13 .any ((OpenSpec.ofChange Rows.taleOutcomesSpec).preRow enc Tryz.prog Tryz.f13 Rows.taleOutcomesRow.domain false Rows.taleOutcomesRow.laid) (((OpenSpec.ofChange Rows.taleOutcomesSpec).at F).post enc Tryz.prog Tryz.f13 false true false false) := by
  refine returnsInHanded_of_row (C := Tryz.checked) (s := OpenSpec.ofChange Rows.taleOutcomesSpec) row.own started (by kernel_rfl) Tryz.func13
    (witness_row_at (enc := enc) (C := Tryz.checked) false (row.laidWorld os) #[.agg #[.int .u8 0, .int .u8 0, .int .i64 0, .int .i64 0, .int .i64 0, .int .i64 0, .int .i64 0], .int .i64 0, .string (⟨#[]⟩ : ByteArray)] rfl (by kernel_rfl) (by kernel_rfl) (by kernel_rfl) (witness_row os enc)) ?_
  intro W base args ds gs before hval hW _ _ hsz hL _ _
  exact contract H enc W base args ds gs before hval hW (row.tables rfl hL) hsz
theorem and2 {a b : Bool} (h : a = true) (k : b = true) : (a && b) = true := by rw [h, k]; rfl
theorem fact0 : (Rows.taleOutcomesRow.wf (OpenSpec.ofChange (OpenSpec.ofChange Rows.taleOutcomesSpec).bare)) = true := by kernel_rfl
theorem fact1 : (laidOutB Tryz.prog) = true := by kernel_rfl
theorem fact2 : (mapsRowed Tryz.prog) = true := by kernel_rfl
theorem fact3 : (Tryz.f13.params.all (Tryz.prog.readableRec ·)) = true := by kernel_rfl
theorem fact4 : (namedTie Tryz.prog Rows.taleOutcomesRow.named (OpenSpec.ofChange Rows.taleOutcomesSpec).bare.vars) = true := by kernel_rfl
theorem fact5 : (Rows.taleOutcomesRow.stops == []) = true := by kernel_rfl
theorem fact6 : (Tryz.prog.stops == []) = true := by kernel_rfl
theorem fact7 : (Rows.taleOutcomesRow.knobs == []) = true := by kernel_rfl
theorem fact8 : (Tryz.prog.stopKnobs == []) = true := by kernel_rfl
theorem fact9 : (Rows.taleOutcomesRow.inPlace == Tryz.prog.inPlace 13) = true := by kernel_rfl
theorem fact10 : (Rows.taleOutcomesRow.unfollowed == Tryz.prog.unfollowed 13) = true := by kernel_rfl
theorem fact11 : (Rows.taleOutcomesRow.recurses == Tryz.prog.recurses 13) = true := by kernel_rfl
theorem fact12 : (Rows.taleOutcomesRow.named == Tryz.prog.varsNamed 13) = true := by kernel_rfl
theorem fact13 : (Rows.taleOutcomesRow.maps == (Tryz.f13.params.toList ++ (OpenSpec.ofChange Rows.taleOutcomesSpec).bare.plain.varTypes Tryz.prog).any (Tryz.prog.mapsRec ·)) = true := by kernel_rfl
theorem fact14 : (Rows.taleOutcomesRow.ifaces == (Tryz.f13.params.toList ++ (OpenSpec.ofChange Rows.taleOutcomesSpec).bare.plain.varTypes Tryz.prog).any (Tryz.prog.ifacesRec ·)) = true := by kernel_rfl
theorem fact15 : (Rows.taleOutcomesRow.mapsOut == Tryz.prog.mapsAmong Tryz.f13.resultTypes.toList) = true := by kernel_rfl
theorem fact16 : (Rows.taleOutcomesRow.loops == (Tryz.f13.params.toList ++ (OpenSpec.ofChange Rows.taleOutcomesSpec).bare.plain.varTypes Tryz.prog).any (Tryz.prog.loopsFrom ·)) = true := by kernel_rfl
theorem fact17 : (Rows.taleOutcomesRow.wideKeys == (Tryz.f13.params.toList ++ (OpenSpec.ofChange Rows.taleOutcomesSpec).bare.plain.varTypes Tryz.prog ++ Tryz.f13.resultTypes.toList).any (Tryz.prog.wideKeysFrom ·)) = true := by kernel_rfl
theorem fact18 : ((OpenSpec.ofChange Rows.taleOutcomesSpec).bare.vars.all (Tryz.prog.varReadable ·)) = true := by kernel_rfl
theorem fact19 : (Tryz.f13.resultTypes.all (fun t => Tryz.prog.readableRec t && decide (t < Tryz.prog.types.size))) = true := by kernel_rfl
theorem fact20 : (Rows.taleOutcomesRow.ifacesOut == Tryz.f13.resultTypes.toList.any (Tryz.prog.ifacesRec ·)) = true := by kernel_rfl
theorem fact21 : (Rows.taleOutcomesRow.loopsOut == Tryz.f13.resultTypes.toList.any (Tryz.prog.loopsFrom ·)) = true := by kernel_rfl
theorem fact22 : (Rows.taleOutcomesRow.plainKeys == Tryz.prog.plainKeys) = true := by kernel_rfl
theorem fact23 : (Rows.taleOutcomesRow.shortTexts.isNone) = true := by kernel_rfl
theorem fact24 : (Tryz.prog.stopsHeard) = true := by kernel_rfl
theorem fact25 : (Tryz.prog.mayEnter) = true := by kernel_rfl
theorem fact26 : (Rows.taleOutcomesRow.lifted == Tryz.prog.liftsFinal) = true := by kernel_rfl
theorem fact27 : (Tryz.prog.make == some Rows.taleOutcomesRow.make) = true := by kernel_rfl
theorem fact28 : (Rows.taleOutcomesRow.kinds == (if Rows.taleOutcomesRow.domain.isEmpty then [] else Tryz.f13.params.toList.map fun t => match Tryz.prog.underlying t with | some (.int k) => some k | _ => none)) = true := by kernel_rfl
theorem fact29 : (Rows.taleOutcomesRow.pinned == Rows.taleOutcomesRow.pinnedBy) = true := by kernel_rfl
theorem fact30 : (Rows.taleOutcomesRow.veiled == (Tryz.f13.params.toList ++ (OpenSpec.ofChange Rows.taleOutcomesSpec).bare.plain.varTypes Tryz.prog ++ Tryz.f13.resultTypes.toList).any (Tryz.prog.veiledRec ·)) = true := by kernel_rfl
theorem fact31 : (Rows.taleOutcomesRow.veiledFits Tryz.prog Tryz.f13.params.toList (Tryz.f13.params.toList ++ (OpenSpec.ofChange Rows.taleOutcomesSpec).bare.plain.varTypes Tryz.prog ++ Tryz.f13.resultTypes.toList)) = true := by kernel_rfl
set_option maxRecDepth 100000 in
theorem closed : joinedFacts Tryz.prog 13 Tryz.f13 ((OpenSpec.ofChange Rows.taleOutcomesSpec).bare) Rows.taleOutcomesRow = true := by
  unfold joinedFacts
  exact (and2 (and2 (and2 (and2 (and2 (and2 (and2 (and2 (and2 (and2 (and2 (and2 (and2 (and2 (and2 (and2 (and2 (and2 (and2 (and2 (and2 (and2 (and2 (and2 (and2 (and2 (and2 (and2 (and2 (and2 (and2 fact0 fact1) fact2) fact3) fact4) fact5) fact6) fact7) fact8) fact9) fact10) fact11) fact12) fact13) fact14) fact15) fact16) fact17) fact18) fact19) fact20) fact21) fact22) fact23) fact24) fact25) fact26) fact27) fact28) fact29) fact30) fact31)
theorem named : Tryz.prog.funcNamed Rows.taleOutcomesRow.func = some 13 := by kernel_rfl
theorem instance_ : Tryz.f13.isInstance Tryz.prog Rows.taleOutcomesRow.origin Rows.taleOutcomesRow.targs :=
  of_decide_eq_true (by kernel_rfl)
theorem wrapper_ : Tryz.f13.isWrapper Tryz.prog Rows.taleOutcomesRow.wrapper Rows.taleOutcomesRow.mainSum := by
  unfold Func.isWrapper; first | (rw [if_pos (by decide +kernel)]; kernel_rfl) | (rw [if_neg (by decide +kernel)]; exact ⟨rfl, rfl⟩)
theorem said : Rows.TaleOutcomesSaid :=
  OpenClaim.holds_of_cond 13 Tryz.f13 rfl rfl rfl rfl rfl rfl rfl ⟨rfl, rfl, rfl, rfl, rfl⟩ rfl rfl rfl rfl rfl named Tryz.func13 closed instance_ wrapper_
    (fun os started H enc _ F => by rw [OpenClaim.pre_eq_preRow]; exact lifted os started H enc F)
theorem plain (f : FuncId) (fn : Func) (hf : Tryz.pinned.checked.prog.funcNamed "oakum/oakumlaw20.TaleOutcomes" = some f) (hfn : Tryz.pinned.checked.prog.funcs[f]? = some fn) :
    true = Tryz.pinned.checked.prog.looks [] ∧ ∀ (j : Nat) t, fn.params[j]? = some t → Tryz.pinned.checked.prog.wantsStandIn t = false := by
  obtain rfl : f = 13 := Option.some.inj ((show Tryz.prog.funcNamed "oakum/oakumlaw20.TaleOutcomes" = some 13 by kernel_rfl).symm.trans hf) |>.symm
  obtain rfl : fn = Tryz.f13 := (Option.some.inj (Tryz.func13.symm.trans hfn)).symm
  refine ⟨by kernel_rfl, fun j t ht => ?_⟩
  rw [Tryz.params13] at ht
  have ht2 : t = 86 ∨ t = 3 ∨ t = 9 := by simpa using Array.mem_of_getElem? ht
  rcases ht2 with rfl | rfl | rfl
  · exact (show Tryz.prog.wantsStandIn 86 = false by kernel_rfl)
  · exact (show Tryz.prog.wantsStandIn 3 = false by kernel_rfl)
  · exact (show Tryz.prog.wantsStandIn 9 = false by kernel_rfl)
/-- The card. -/
theorem card : Rows.TaleOutcomesCardSaid :=
  Claim7.holds_tied_plain_at .later [] _ _ _ _ said (fun _ h => by cases h) (by kernel_rfl) (fun _ h => by cases h) taleOutcomes_row_tie rfl ⟨rfl, rfl⟩ (by kernel_rfl) rfl plain (by kernel_rfl)
end Go.Proofs.YtogfcfgfkggmlaaGreatDoor.taleOutcomes
namespace Go.Proofs.YtogfcfgfkggmlaaGreatDoor
/-- The card, under a short name, for the claim. -/
theorem taleOutcomes_card_holds : Rows.TaleOutcomesCardSaid := taleOutcomes.card
end Go.Proofs.YtogfcfgfkggmlaaGreatDoor
