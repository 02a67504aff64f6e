/- ItemFulls answers true whatever it is handed: the row and its tied card. No condition. -/
import Derived.Test.YtilbahgfjfcikaaDoorRowT
import Derived.Test.YtilbahgfjfcikaaDoorB09
import Derived.Test.YtilbahgfjfcikaaDoorApiR
set_option linter.unusedVariables false
set_option linter.unusedSimpArgs false
namespace Go.Proofs.YtilbahgfjfcikaaDoor.itemFulls
open Go Go.ChangeShapes Go.WideShapes Go.ChangeAt Go.RowKit Go.Proofs Go.Shelf Go.Proofs.YtilbahgfjfcikaaDoor.Eng Go.Proofs.YtilbahgfjfcikaaDoor.Eng.Rdv Go.Proofs.YtilbahgfjfcikaaDoor.Eng.U

set_option maxRecDepth 100000 in
theorem looks_ok (r0 : U.Head) (r1 : List UInt8) (g0 : G_apiHead r0) (g1 : r1.length ≤ 140737488351232) : Ok Tryd.prog U.glob 7 [.agg (encHead r0), .str (str r1)] (.bool true) := by
  have h := Base.ok (B := bs ext09 10000000000000) (good09 10000000000000) (n := 9) (f := 7) (fulls09 r0 r1 g0 g1)
  exact h
set_option maxRecDepth 100000 in
/-- What the call comes to, for every argument and every memory that holds the tables. -/
theorem contract (H : Type) (enc : TypeId × Value → H) (W : World) (base : Nat) (args : Array Value) (ds gs : List (DataW H)) (before : List MemPlace)
    (hval : ∀ (j : Nat) t v, Tryd.f7.params[j]? = some t → args[j]? = some v → Value.okWide Tryd.prog W .any base t v)
    (hW : DataW.Whole enc Tryd.prog Tryd.f7.params.toList Rows.itemFullsSpec.vars false W args.toList ds gs before) (hL : GlobOk U.glob (stab W) W)
    (hsz0 : (DataW.weightsEach Tryd.prog (Tryd.f7.params.toList ++ (OpenSpec.ofChange Rows.itemFullsSpec).bare.plain.varTypes Tryd.prog) (ds ++ gs)).all (· ≤ reachBytes) = true) :
    Calls Tryd.prog 7 args W fun e W' => ∃ v, e = .returned v ∧ Rows.itemFullsSpec.post enc Tryd.prog Tryd.f7 false true false false W args v W' := by
  have hW' := hW
  obtain ⟨p, q, hA0, hV, rfl, hfz, hnd⟩ := hW
  have hA : DataW.TrodAll enc Tryd.prog W 0 (fun _ => true) true Tryd.f7.params.toList args.toList ds p := hA0
  have hsz : (DataW.weightsEach Tryd.prog (Tryd.f7.params.toList ++ (OpenSpec.ofChange Rows.itemFullsSpec).bare.plain.varTypes Tryd.prog) (ds ++ gs)).all (· ≤ reachBytes) = true := hsz0
  rw [Tryd.params7] at hA hval hsz
  obtain ⟨v0, vs0, d0, ds0, p0, q0, hargs, rfl, rfl, h0, k0⟩ := trodAll_cons hA
  obtain ⟨v1, vs1, d1, ds1, p1, q1, rfl, rfl, rfl, h1, k1⟩ := trodAll_cons k0
  obtain ⟨rfl, rfl, rfl⟩ := trodAll_nil k1
  obtain rfl : args = #[v0, v1] := by cases args; simp_all
  obtain ⟨rfl, rfl⟩ := trodVars_none hV
  have t0 := h0
  have lt0 : ∀ x ∈ p0, x.block < W.heap.size := by obtain ⟨m, hm⟩ := t0; exact DataW.trod_lt m _ _ _ hm
  have t1 := h1
  have lt1 : ∀ x ∈ p1, x.block < W.heap.size := by obtain ⟨m, hm⟩ := t1; exact DataW.trod_lt m _ _ _ hm
  obtain ⟨r0, y0, g0⟩ := of_agg rd_head h0 (let ⟨c, e, _⟩ := okWide_struct Tryd.underlying55 (hval 0 55 v0 rfl rfl); ⟨c, e⟩) (weights_one (j := 0) hsz rfl rfl)
  obtain ⟨z1, rfl⟩ := okWide_string Tryd.underlying9 (hval 1 9 v1 rfl rfl)
  obtain ⟨r1, y1, g1⟩ := of_one (el := fun r => .str (str r)) (Rdv.string (P := Tryd.prog) (t := 9) Tryd.underlying9 (by kernel_rfl)) h1 (row.cells_str _) (weights_one (j := 1) hsz rfl rfl)
  clear hA0
  have hok := looks_ok r0 r1 g0 g1 (stab W) W [v0, .string z1] (agree_stab W) hL ⟨rfl, fun j c x hc hx => by
    match j, hc, hx with
    | 0, hc, hx => cases hc; cases hx; exact y0
    | 1, hc, hx => cases hc; cases hx; exact y1⟩
  refine hok.mono fun e W' ⟨v, S', he, _, _, _, bel, hv⟩ => ?_
  obtain rfl : v = .bool true := by cases (show V S' (.bool true) v from hv); rfl
  subst he
  exact ⟨_, rfl, _, _, _, [], _, [], hW', trodAll_mk1 (shut_bool Tryd.underlying4 _), (trodAll_cons_mk (Below.trod row.laidOut (by kernel_rfl) (of_decide_eq_true (by kernel_rfl)) t0 bel lt0) (trodAll_cons_mk (Below.trod row.laidOut (by kernel_rfl) (of_decide_eq_true (by kernel_rfl)) t1 bel lt1) trodAll_mk0)), rfl, bel.frame _, fun h => by cases h⟩
theorem laid_met (os : Os) (args : Array Value) : laidMet Tryd.prog Rows.itemFullsRow.laid ((row.laidWorld os).forCall (fun _ _ => 0) ⟨#[], args, []⟩).memory :=
  (LaidIn.of_run (l := Rows.itemFullsRow.laid) row.laidBlocks 8 (by kernel_rfl) (by kernel_rfl) (by kernel_rfl) (by kernel_rfl)).met
set_option maxRecDepth 100000 in
theorem witness_row (os : Os) {H : Type} (enc : TypeId × Value → H) :
    (OpenSpec.ofChange Rows.itemFullsSpec).preRow enc Tryd.prog Tryd.f7 Rows.itemFullsRow.domain false Rows.itemFullsRow.laid ((row.laidWorld os).forCall (fun _ _ => 0) ⟨#[], #[.agg #[.int .i64 0, .string (⟨#[]⟩ : ByteArray), .string (⟨#[]⟩ : ByteArray), .int .i64 0, .int .i64 0, .int .i64 0, .int .i64 0, .int .i64 0, .int .i64 0, .string (⟨#[]⟩ : ByteArray), .string (⟨#[]⟩ : ByteArray), .int .i64 0, .int .i64 0, .slice none 0 0], .string (⟨#[]⟩ : ByteArray)], []⟩).memory #[.agg #[.int .i64 0, .string (⟨#[]⟩ : ByteArray), .string (⟨#[]⟩ : ByteArray), .int .i64 0, .int .i64 0, .int .i64 0, .int .i64 0, .int .i64 0, .int .i64 0, .string (⟨#[]⟩ : ByteArray), .string (⟨#[]⟩ : ByteArray), .int .i64 0, .int .i64 0, .slice none 0 0], .string (⟨#[]⟩ : ByteArray)] := by
  have hw : ((DataW.whole enc Tryd.prog ((row.laidWorld os).forCall (fun _ _ => 0) ⟨#[], #[.agg #[.int .i64 0, .string (⟨#[]⟩ : ByteArray), .string (⟨#[]⟩ : ByteArray), .int .i64 0, .int .i64 0, .int .i64 0, .int .i64 0, .int .i64 0, .int .i64 0, .string (⟨#[]⟩ : ByteArray), .string (⟨#[]⟩ : ByteArray), .int .i64 0, .int .i64 0, .slice none 0 0], .string (⟨#[]⟩ : ByteArray)], []⟩).memory Tryd.f7.params.toList Rows.itemFullsSpec.vars false (#[.agg #[.int .i64 0, .string (⟨#[]⟩ : ByteArray), .string (⟨#[]⟩ : ByteArray), .int .i64 0, .int .i64 0, .int .i64 0, .int .i64 0, .int .i64 0, .int .i64 0, .string (⟨#[]⟩ : ByteArray), .string (⟨#[]⟩ : ByteArray), .int .i64 0, .int .i64 0, .slice none 0 0], .string (⟨#[]⟩ : ByteArray)] : Array Value).toList 8).map (fun x => (x.1, x.2.1))).isSome = true := by kernel_rfl
  obtain ⟨⟨y1, y2⟩, hy⟩ := Option.isSome_iff_exists.1 hw
  obtain ⟨⟨x1, x2, x3⟩, hx, hx1⟩ := Option.map_eq_some_iff.1 hy
  exact OpenSpec.preRow_of_cond 8 hx (by kernel_rfl) (fun k hk => by cases hk) (by kernel_rfl) (laid_met os _)
set_option maxRecDepth 100000 in
theorem lifted (os : Os) (started : os.Started) (H : Type) (enc : TypeId × Value → H) (F : Stop.Interp) :
    ReturnsInHanded {} Tryd.checked os 7 .any ((OpenSpec.ofChange Rows.itemFullsSpec).preRow enc Tryd.prog Tryd.f7 Rows.itemFullsRow.domain false Rows.itemFullsRow.laid) (((OpenSpec.ofChange Rows.itemFullsSpec).at F).post enc Tryd.prog Tryd.f7 false true false false) := by
  refine returnsInHanded_of_row (C := Tryd.checked) (s := OpenSpec.ofChange Rows.itemFullsSpec) row.own started (by kernel_rfl) Tryd.func7
    (witness_row_at (enc := enc) (C := Tryd.checked) false (row.laidWorld os) #[.agg #[.int .i64 0, .string (⟨#[]⟩ : ByteArray), .string (⟨#[]⟩ : ByteArray), .int .i64 0, .int .i64 0, .int .i64 0, .int .i64 0, .int .i64 0, .int .i64 0, .string (⟨#[]⟩ : ByteArray), .string (⟨#[]⟩ : ByteArray), .int .i64 0, .int .i64 0, .slice none 0 0], .string (⟨#[]⟩ : ByteArray)] rfl (by kernel_rfl) (by kernel_rfl) (by kernel_rfl) (witness_row os enc)) ?_
  intro W base args ds gs before hval hW _ _ hsz hL _ _
  exact contract H enc W base args ds gs before hval hW (row.tables rfl hL) hsz
theorem said : Rows.ItemFullsSaid :=
  OpenClaim.holds_of_cond 7 Tryd.f7 rfl rfl rfl rfl rfl rfl rfl ⟨rfl, rfl, rfl, rfl, rfl⟩ rfl rfl rfl rfl rfl (by kernel_rfl) Tryd.func7 (by kernel_rfl)
    (of_decide_eq_true (by kernel_rfl)) (by unfold Func.isWrapper; first | (rw [if_pos (by decide +kernel)]; kernel_rfl) | (rw [if_neg (by decide +kernel)]; exact ⟨rfl, rfl⟩))
    (fun os started H enc _ F => by rw [OpenClaim.pre_eq_preRow]; exact lifted os started H enc F)
theorem plain (f : FuncId) (fn : Func) (hf : Tryd.pinned.checked.prog.funcNamed "oakum/oakumlaw09.ItemFulls" = some f) (hfn : Tryd.pinned.checked.prog.funcs[f]? = some fn) :
    true = Tryd.pinned.checked.prog.looks [] ∧ ∀ (j : Nat) t, fn.params[j]? = some t → Tryd.pinned.checked.prog.wantsStandIn t = false := by
  obtain rfl : f = 7 := Option.some.inj ((show Tryd.prog.funcNamed "oakum/oakumlaw09.ItemFulls" = some 7 by kernel_rfl).symm.trans hf) |>.symm
  obtain rfl : fn = Tryd.f7 := (Option.some.inj (Tryd.func7.symm.trans hfn)).symm
  refine ⟨by kernel_rfl, fun j t ht => ?_⟩
  rw [Tryd.params7] at ht
  have ht2 : t = 55 ∨ t = 9 := by simpa using Array.mem_of_getElem? ht
  rcases ht2 with rfl | rfl
  · exact (show Tryd.prog.wantsStandIn 55 = false by kernel_rfl)
  · exact (show Tryd.prog.wantsStandIn 9 = false by kernel_rfl)
/-- The card. -/
theorem card : Rows.ItemFullsCardSaid :=
  Claim7.holds_tied_plain_at .later [] _ _ _ _ said (fun _ h => by cases h) (by kernel_rfl) (fun _ h => by cases h) itemFulls_row_tie rfl ⟨rfl, rfl⟩ (by kernel_rfl) rfl plain (by kernel_rfl)
end Go.Proofs.YtilbahgfjfcikaaDoor.itemFulls
namespace Go.Proofs.YtilbahgfjfcikaaDoor
/-- The card, under a short name, for the claim. -/
theorem itemFulls_card_holds : Rows.ItemFullsCardSaid := itemFulls.card
end Go.Proofs.YtilbahgfjfcikaaDoor
