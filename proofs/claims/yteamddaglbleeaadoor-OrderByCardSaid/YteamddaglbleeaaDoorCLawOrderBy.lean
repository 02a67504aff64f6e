/- OrderBy answers true whatever it is handed: the row and its tied card. No condition. -/
import Derived.Test.YteamddaglbleeaaDoorMOrderBy0
import Derived.Test.YteamddaglbleeaaDoorMOrderBy1
set_option linter.unusedVariables false
set_option linter.unusedSimpArgs false
namespace Go.Proofs.YteamddaglbleeaaDoor.orderBy
open Go Go.ChangeShapes Go.WideShapes Go.ChangeAt Go.RowKit Go.Proofs Go.Shelf Go.Proofs.YteamddaglbleeaaDoor.Eng Go.Proofs.YteamddaglbleeaaDoor.Eng.Rdv Go.Proofs.YteamddaglbleeaaDoor.Eng.U

set_option maxRecDepth 100000 in
theorem looks_ok (r0 : List U.Item) (r1 : Int) (g0 : G_LapiItem r0) (g1 : -9223372036854775808 ≤ r1 ∧ r1 ≤ 9223372036854775807) : Ok Tryd.prog U.glob 4 [.list 15 (its r0), .int .i64 r1] (.bool true) := by
  have h := Base.ok (B := bs ext38 10000000000000) (good38 10000000000000) (n := 10) (f := 4) (by38 r0 r1 g0 g1)
  exact h
set_option maxRecDepth 100000 in
/-- What the call comes to, for every argument and every memory that holds the tables. -/
theorem contract (H : Type) (enc : TypeId × Value → H) (W : World) (base : Nat) (args : Array Value) (ds gs : List (DataW H)) (before : List MemPlace)
    (hval : ∀ (j : Nat) t v, Tryd.f4.params[j]? = some t → args[j]? = some v → Value.okWide Tryd.prog W .any base t v)
    (hW : DataW.Whole enc Tryd.prog Tryd.f4.params.toList Rows.orderBySpec.vars false W args.toList ds gs before) (hL : GlobOk U.glob (stab W) W)
    (hsz0 : (DataW.weightsEach Tryd.prog (Tryd.f4.params.toList ++ (OpenSpec.ofChange Rows.orderBySpec).bare.plain.varTypes Tryd.prog) (ds ++ gs)).all (· ≤ reachBytes) = true) :
    Calls Tryd.prog 4 args W fun e W' => ∃ v, e = .returned v ∧ Rows.orderBySpec.post enc Tryd.prog Tryd.f4 false true false false W args v W' := by
  have hW' := hW
  obtain ⟨p, q, hA0, hV, rfl, hfz, hnd⟩ := hW
  have hA : DataW.TrodAll enc Tryd.prog W 0 (fun _ => true) true Tryd.f4.params.toList args.toList ds p := hA0
  have hsz : (DataW.weightsEach Tryd.prog (Tryd.f4.params.toList ++ (OpenSpec.ofChange Rows.orderBySpec).bare.plain.varTypes Tryd.prog) (ds ++ gs)).all (· ≤ reachBytes) = true := hsz0
  rw [Tryd.params4] at hA hval hsz
  obtain ⟨v0, vs0, d0, ds0, p0, q0, hargs, rfl, rfl, h0, k0⟩ := trodAll_cons hA
  obtain ⟨v1, vs1, d1, ds1, p1, q1, rfl, rfl, rfl, h1, k1⟩ := trodAll_cons k0
  obtain ⟨rfl, rfl, rfl⟩ := trodAll_nil k1
  obtain rfl : args = #[v0, v1] := by cases args; simp_all
  obtain ⟨rfl, rfl⟩ := trodVars_none hV
  have t0 := h0
  have lt0 : ∀ x ∈ p0, x.block < W.heap.size := by obtain ⟨m, hm⟩ := t0; exact DataW.trod_lt m _ _ _ hm
  have t1 := h1
  have lt1 : ∀ x ∈ p1, x.block < W.heap.size := by obtain ⟨m, hm⟩ := t1; exact DataW.trod_lt m _ _ _ hm
  obtain ⟨a0, b0, c0, rfl⟩ := okWide_slice Tryd.underlying22 (hval 0 22 v0 rfl rfl)
  obtain ⟨r0, y0, g0⟩ := of_one (el := fun r => .list 15 (its r)) (rd_items) h0 (row.cells_slice _ _ _) (weights_one (j := 0) hsz rfl rfl)
  obtain ⟨z1, rfl⟩ := okWide_int Tryd.underlying3 (hval 1 3 v1 rfl rfl)
  obtain ⟨r1, y1, g1⟩ := of_one (el := fun r => .int .i64 r) (Rdv.int (P := Tryd.prog) (t := 3) (k := .i64) Tryd.underlying3 (by kernel_rfl)) h1 (row.cells_int _ _) (weights_one (j := 1) hsz rfl rfl)
  clear hA0
  have hok := (looks_ok r0 r1 g0 g1).plain (stab W) W [.slice a0 b0 c0, .int .i64 z1] (agree_stab W) hL ⟨rfl, fun j c x hc hx => by
    match j, hc, hx with
    | 0, hc, hx => cases hc; cases hx; exact y0
    | 1, hc, hx => cases hc; cases hx; exact y1⟩
  refine hok.mono fun e W' ⟨v, S', he, _, _, _, bel, hv⟩ => ?_
  obtain rfl : v = .bool true := by cases (show V S' (.bool true) v from hv); rfl
  subst he
  exact ⟨_, rfl, _, _, _, [], _, [], hW', trodAll_mk1 (shut_bool Tryd.underlying4 _), (trodAll_cons_mk (Below.trod row.laidOut (by kernel_rfl) (of_decide_eq_true (by kernel_rfl)) t0 bel lt0) (trodAll_cons_mk (Below.trod row.laidOut (by kernel_rfl) (of_decide_eq_true (by kernel_rfl)) t1 bel lt1) trodAll_mk0)), rfl, bel.frame _, fun h => by cases h⟩
theorem laid_met (os : Os) (args : Array Value) : laidMet Tryd.prog Rows.orderByRow.laid ((row.laidWorld os).forCall (fun _ _ => 0) ⟨#[], args, []⟩).memory :=
  (LaidIn.of_run (l := Rows.orderByRow.laid) row.laidBlocks 8 (by kernel_rfl) (by kernel_rfl) (by kernel_rfl) (by kernel_rfl)).met
set_option maxRecDepth 100000 in
theorem witness_row (os : Os) {H : Type} (enc : TypeId × Value → H) :
    (OpenSpec.ofChange Rows.orderBySpec).preRow enc Tryd.prog Tryd.f4 Rows.orderByRow.domain false Rows.orderByRow.laid ((row.laidWorld os).forCall (fun _ _ => 0) ⟨#[], #[.slice none 0 0, .int .i64 0], []⟩).memory #[.slice none 0 0, .int .i64 0] := by
  have hw : ((DataW.whole enc Tryd.prog ((row.laidWorld os).forCall (fun _ _ => 0) ⟨#[], #[.slice none 0 0, .int .i64 0], []⟩).memory Tryd.f4.params.toList Rows.orderBySpec.vars false (#[.slice none 0 0, .int .i64 0] : Array Value).toList 8).map (fun x => (x.1, x.2.1))).isSome = true := by kernel_rfl
  obtain ⟨⟨y1, y2⟩, hy⟩ := Option.isSome_iff_exists.1 hw
  obtain ⟨⟨x1, x2, x3⟩, hx, hx1⟩ := Option.map_eq_some_iff.1 hy
  exact OpenSpec.preRow_of_cond 8 hx (by kernel_rfl) (fun k hk => by cases hk) (by kernel_rfl) (laid_met os _)
set_option maxRecDepth 100000 in
theorem lifted (os : Os) (started : os.Started) (H : Type) (enc : TypeId × Value → H) (F : Stop.Interp) :
    ReturnsInHanded {} Tryd.checked os 4 .any ((OpenSpec.ofChange Rows.orderBySpec).preRow enc Tryd.prog Tryd.f4 Rows.orderByRow.domain false Rows.orderByRow.laid) (((OpenSpec.ofChange Rows.orderBySpec).at F).post enc Tryd.prog Tryd.f4 false true false false) := by
  refine returnsInHanded_of_row (C := Tryd.checked) (s := OpenSpec.ofChange Rows.orderBySpec) row.own started (by kernel_rfl) Tryd.func4
    (witness_row_at (enc := enc) (C := Tryd.checked) false (row.laidWorld os) #[.slice none 0 0, .int .i64 0] rfl (by kernel_rfl) (by kernel_rfl) (by kernel_rfl) (witness_row os enc)) ?_
  intro W base args ds gs before hval hW _ _ hsz hL _ _
  exact contract H enc W base args ds gs before hval hW (row.tables rfl hL) hsz
theorem and2 {a b : Bool} (h : a = true) (k : b = true) : (a && b) = true := by rw [h, k]; rfl
theorem fact0 : (Rows.orderByRow.wf (OpenSpec.ofChange (OpenSpec.ofChange Rows.orderBySpec).bare)) = true := by kernel_rfl
theorem fact1 : (laidOutB Tryd.prog) = true := by kernel_rfl
theorem fact2 : (mapsRowed Tryd.prog) = true := by kernel_rfl
theorem fact3 : (Tryd.f4.params.all (Tryd.prog.readableRec ·)) = true := by kernel_rfl
theorem fact4 : (namedTie Tryd.prog Rows.orderByRow.named (OpenSpec.ofChange Rows.orderBySpec).bare.vars) = true := by kernel_rfl
theorem fact5 : (Rows.orderByRow.stops == []) = true := by kernel_rfl
theorem fact6 : (Tryd.prog.stops == []) = true := by kernel_rfl
theorem fact7 : (Rows.orderByRow.knobs == []) = true := by kernel_rfl
theorem fact8 : (Tryd.prog.stopKnobs == []) = true := by kernel_rfl
theorem fact9 : (Rows.orderByRow.inPlace == Tryd.prog.inPlace 4) = true := by kernel_rfl
theorem fact10 : (Rows.orderByRow.unfollowed == Tryd.prog.unfollowed 4) = true := by kernel_rfl
theorem fact11 : (Rows.orderByRow.recurses == Tryd.prog.recurses 4) = true := by kernel_rfl
theorem fact12 : (Rows.orderByRow.named == Tryd.prog.varsNamed 4) = true := by kernel_rfl
theorem fact13 : (Rows.orderByRow.maps == (Tryd.f4.params.toList ++ (OpenSpec.ofChange Rows.orderBySpec).bare.plain.varTypes Tryd.prog).any (Tryd.prog.mapsRec ·)) = true := by kernel_rfl
theorem fact14 : (Rows.orderByRow.ifaces == (Tryd.f4.params.toList ++ (OpenSpec.ofChange Rows.orderBySpec).bare.plain.varTypes Tryd.prog).any (Tryd.prog.ifacesRec ·)) = true := by kernel_rfl
theorem fact15 : (Rows.orderByRow.mapsOut == Tryd.prog.mapsAmong Tryd.f4.resultTypes.toList) = true := by kernel_rfl
theorem fact16 : (Rows.orderByRow.loops == (Tryd.f4.params.toList ++ (OpenSpec.ofChange Rows.orderBySpec).bare.plain.varTypes Tryd.prog).any (Tryd.prog.loopsFrom ·)) = true := by kernel_rfl
theorem fact17 : (Rows.orderByRow.wideKeys == (Tryd.f4.params.toList ++ (OpenSpec.ofChange Rows.orderBySpec).bare.plain.varTypes Tryd.prog ++ Tryd.f4.resultTypes.toList).any (Tryd.prog.wideKeysFrom ·)) = true := by kernel_rfl
theorem fact18 : ((OpenSpec.ofChange Rows.orderBySpec).bare.vars.all (Tryd.prog.varReadable ·)) = true := by kernel_rfl
theorem fact19 : (Tryd.f4.resultTypes.all (fun t => Tryd.prog.readableRec t && decide (t < Tryd.prog.types.size))) = true := by kernel_rfl
theorem fact20 : (Rows.orderByRow.ifacesOut == Tryd.f4.resultTypes.toList.any (Tryd.prog.ifacesRec ·)) = true := by kernel_rfl
theorem fact21 : (Rows.orderByRow.loopsOut == Tryd.f4.resultTypes.toList.any (Tryd.prog.loopsFrom ·)) = true := by kernel_rfl
theorem fact22 : (Rows.orderByRow.plainKeys == Tryd.prog.plainKeys) = true := by kernel_rfl
theorem fact23 : (Rows.orderByRow.shortTexts.isNone) = true := by kernel_rfl
theorem fact24 : (Tryd.prog.stopsHeard) = true := by kernel_rfl
theorem fact25 : (Tryd.prog.mayEnter) = true := by kernel_rfl
theorem fact26 : (Rows.orderByRow.lifted == Tryd.prog.liftsFinal) = true := by kernel_rfl
theorem fact27 : (Tryd.prog.make == some Rows.orderByRow.make) = true := by kernel_rfl
theorem fact28 : (Rows.orderByRow.kinds == (if Rows.orderByRow.domain.isEmpty then [] else Tryd.f4.params.toList.map fun t => match Tryd.prog.underlying t with | some (.int k) => some k | _ => none)) = true := by kernel_rfl
theorem fact29 : (Rows.orderByRow.pinned == Rows.orderByRow.pinnedBy) = true := by kernel_rfl
theorem fact30 : (Rows.orderByRow.veiled == (Tryd.f4.params.toList ++ (OpenSpec.ofChange Rows.orderBySpec).bare.plain.varTypes Tryd.prog ++ Tryd.f4.resultTypes.toList).any (Tryd.prog.veiledRec ·)) = true := by kernel_rfl
theorem fact31 : (Rows.orderByRow.veiledFits Tryd.prog Tryd.f4.params.toList (Tryd.f4.params.toList ++ (OpenSpec.ofChange Rows.orderBySpec).bare.plain.varTypes Tryd.prog ++ Tryd.f4.resultTypes.toList)) = true := by kernel_rfl
set_option maxRecDepth 100000 in
theorem closed : joinedFacts Tryd.prog 4 Tryd.f4 ((OpenSpec.ofChange Rows.orderBySpec).bare) Rows.orderByRow = true := by
  unfold joinedFacts
  exact (and2 (and2 (and2 (and2 (and2 (and2 (and2 (and2 (and2 (and2 (and2 (and2 (and2 (and2 (and2 (and2 (and2 (and2 (and2 (and2 (and2 (and2 (and2 (and2 (and2 (and2 (and2 (and2 (and2 (and2 (and2 fact0 fact1) fact2) fact3) fact4) fact5) fact6) fact7) fact8) fact9) fact10) fact11) fact12) fact13) fact14) fact15) fact16) fact17) fact18) fact19) fact20) fact21) fact22) fact23) fact24) fact25) fact26) fact27) fact28) fact29) fact30) fact31)
theorem named : Tryd.prog.funcNamed Rows.orderByRow.func = some 4 := by kernel_rfl
theorem instance_ : Tryd.f4.isInstance Tryd.prog Rows.orderByRow.origin Rows.orderByRow.targs :=
  of_decide_eq_true (by kernel_rfl)
theorem wrapper_ : Tryd.f4.isWrapper Tryd.prog Rows.orderByRow.wrapper Rows.orderByRow.mainSum := by
  unfold Func.isWrapper; first | (rw [if_pos (by decide +kernel)]; kernel_rfl) | (rw [if_neg (by decide +kernel)]; exact ⟨rfl, rfl⟩)
theorem said : Rows.OrderBySaid :=
  OpenClaim.holds_of_cond 4 Tryd.f4 rfl rfl rfl rfl rfl rfl rfl ⟨rfl, rfl, rfl, rfl, rfl⟩ rfl rfl rfl rfl rfl named Tryd.func4 closed instance_ wrapper_
    (fun os started H enc _ F => by rw [OpenClaim.pre_eq_preRow]; exact lifted os started H enc F)
theorem plain (f : FuncId) (fn : Func) (hf : Tryd.pinned.checked.prog.funcNamed "oakum/oakumlaw40.OrderBy" = some f) (hfn : Tryd.pinned.checked.prog.funcs[f]? = some fn) :
    false = Tryd.pinned.checked.prog.looks [] ∧ ∀ (j : Nat) t, fn.params[j]? = some t → Tryd.pinned.checked.prog.wantsStandIn t = false := by
  obtain rfl : f = 4 := Option.some.inj ((show Tryd.prog.funcNamed "oakum/oakumlaw40.OrderBy" = some 4 by kernel_rfl).symm.trans hf) |>.symm
  obtain rfl : fn = Tryd.f4 := (Option.some.inj (Tryd.func4.symm.trans hfn)).symm
  refine ⟨by kernel_rfl, fun j t ht => ?_⟩
  rw [Tryd.params4] at ht
  have ht2 : t = 22 ∨ t = 3 := by simpa using Array.mem_of_getElem? ht
  rcases ht2 with rfl | rfl
  · exact (show Tryd.prog.wantsStandIn 22 = false by kernel_rfl)
  · exact (show Tryd.prog.wantsStandIn 3 = false by kernel_rfl)
/-- The card. -/
theorem card : Rows.OrderByCardSaid :=
  Claim7.holds_tied_plain_at .later [] _ _ _ _ said (fun _ h => by cases h) (by kernel_rfl) (fun _ h => by cases h) orderBy_row_tie rfl ⟨rfl, rfl⟩ (by kernel_rfl) rfl plain (by kernel_rfl)
end Go.Proofs.YteamddaglbleeaaDoor.orderBy
namespace Go.Proofs.YteamddaglbleeaaDoor
/-- The card, under a short name, for the claim. -/
theorem orderBy_card_holds : Rows.OrderByCardSaid := orderBy.card
end Go.Proofs.YteamddaglbleeaaDoor
