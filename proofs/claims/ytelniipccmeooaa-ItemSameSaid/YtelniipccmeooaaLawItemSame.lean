/- The row of ItemSame: what is handed in, as kinds (Rdr); the walk; the plain law. -/
import Derived.Test.YtelniipccmeooaaRows
import Derived.Test.YtelniipccmeooaaWalkItemSame
import Derived.Test.YtelniipccmeooaaPureItemSame
import Derived.Test.YtelniipccmeooaaRdr
import Derived.WalkKit
import Derived.ProofKit
import Derived.OpenShut
import Derived.ShutString
import Derived.ChangeOld
import Derived.Below
import Derived.SizedLaws
namespace Go.Proofs.Ytelniipccmeooaa.itemSame
open Go.ChangeShapes Go.WideShapes Go.ChangeAt Go.RowKit Go.Proofs.YtelniipccmeooaaW.PrintWords Go.Proofs.Ytelniipccmeooaa.PItemSame Go.Proofs.Ytelniipccmeooaa
set_option linter.unusedVariables false
theorem own : ownKnob Try.prog.godebug = none := by kernel_rfl
theorem laidOut : laidOutB Try.prog = true := by kernel_rfl
theorem weaken {P : Program} {t : TypeId} {α : Type} {d : Kd α} {G G' : α → Prop} (h : Rdr.Rd P t d G) (hg : ∀ x, G x → G' x) : Rdr.Rd P t d G' :=
  ⟨fun a b => let ⟨r, h1, h2⟩ := h.out a b; ⟨r, h1, hg r h2⟩⟩
theorem rd_pair : Rdr.Rd Try.prog 55 k55 (fun _ => True) :=
  weaken (Rdr.struct (P := Try.prog) (t := 55) Try.underlying55 rfl (by kernel_rfl) (by kernel_rfl)
    (Rdr.iso (fun x : S55 => (x.f0, x.f1)) (fun y => ⟨y.1, y.2⟩) (fun _ => rfl)
      (Rdr.cons (by kernel_rfl) (Rdr.string (by kernel_rfl)) (Rdr.one (by kernel_rfl) (Rdr.string (by kernel_rfl)))))) (fun _ _ => trivial)
theorem rd_time : Rdr.Rd Try.prog 43 k43 (fun _ => True) :=
  weaken (Rdr.struct (P := Try.prog) (t := 43) Try.underlying43 rfl (by kernel_rfl) (by kernel_rfl)
    (Rdr.iso (fun x : S43 => (x.f0, x.f1)) (fun y => ⟨y.1, y.2⟩) (fun _ => rfl)
      (Rdr.cons (by kernel_rfl) (Rdr.int (by kernel_rfl)) (Rdr.one (by kernel_rfl) (Rdr.int (by kernel_rfl)))))) (fun _ _ => trivial)
theorem rd_head : Rdr.Rd Try.prog 46 k46 (fun h => h.f12.length * 32 ≤ 140737488351232) :=
  weaken (Rdr.struct (P := Try.prog) (t := 46) Try.underlying46 rfl (by kernel_rfl) (by kernel_rfl)
    (Rdr.iso (fun x : S46 => (x.f0, x.f1, x.f2, x.f3, x.f4, x.f5, x.f6, x.f7, x.f8, x.f9, x.f10, x.f11, x.f12))
      (fun y => ⟨y.1, y.2.1, y.2.2.1, y.2.2.2.1, y.2.2.2.2.1, y.2.2.2.2.2.1, y.2.2.2.2.2.2.1, y.2.2.2.2.2.2.2.1, y.2.2.2.2.2.2.2.2.1, y.2.2.2.2.2.2.2.2.2.1, y.2.2.2.2.2.2.2.2.2.2.1, y.2.2.2.2.2.2.2.2.2.2.2.1, y.2.2.2.2.2.2.2.2.2.2.2.2⟩) (fun _ => rfl)
      (Rdr.cons (by kernel_rfl) (Rdr.int (by kernel_rfl)) (Rdr.cons (by kernel_rfl) (Rdr.string (by kernel_rfl)) (Rdr.cons (by kernel_rfl) (Rdr.string (by kernel_rfl))
        (Rdr.cons (by kernel_rfl) (Rdr.int (by kernel_rfl)) (Rdr.cons (by kernel_rfl) (Rdr.int (by kernel_rfl)) (Rdr.cons (by kernel_rfl) (Rdr.int (by kernel_rfl)) (Rdr.cons (by kernel_rfl) (Rdr.int (by kernel_rfl))
          (Rdr.cons (by kernel_rfl) rd_time (Rdr.cons (by kernel_rfl) (Rdr.string (by kernel_rfl)) (Rdr.cons (by kernel_rfl) (Rdr.string (by kernel_rfl))
            (Rdr.cons (by kernel_rfl) (Rdr.int (by kernel_rfl)) (Rdr.cons (by kernel_rfl) (Rdr.int (by kernel_rfl))
              (Rdr.one (by kernel_rfl) (Rdr.slice 55 (e := 55) (B := 32) (by kernel_rfl) (by kernel_rfl) (by kernel_rfl) rd_pair)))))))))))))))) (fun _ h => h.2.2.2.2.2.2.2.2.2.2.2.2.1)
theorem rd_item : Rdr.Rd Try.prog 48 k48 (fun h => h.f0.f12.length * 32 ≤ 140737488351232 ∧ h.f1.length * 1 ≤ 140737488351232) :=
  weaken (Rdr.struct (P := Try.prog) (t := 48) Try.underlying48 rfl (by kernel_rfl) (by kernel_rfl)
    (Rdr.iso (fun x : S48 => (x.f0, x.f1)) (fun y => ⟨y.1, y.2⟩) (fun _ => rfl)
      (Rdr.cons (by kernel_rfl) rd_head (Rdr.one (by kernel_rfl) (Rdr.slice 5 (e := 5) (B := 1) (by kernel_rfl) (by kernel_rfl) (by kernel_rfl) (Rdr.int (k := .u8) (by kernel_rfl))))))) (fun _ h => ⟨h.1, h.2.1⟩)
set_option maxRecDepth 100000 in
theorem lifted (os : Os) (started : os.Started) (H : Type) (enc : TypeId × Value → H) :
    ReturnsInHanded {} Try.checked os 6 .any (Rows.itemSameSpec.pre6 enc Try.prog Try.f6 Rows.itemSameRow.domain false) (Rows.itemSameSpec.post enc Try.prog Try.f6 false true false false) := by
  refine returnsInHanded_of_change_sized (C := Try.checked) own started (by kernel_rfl) Try.func6
    (ChangeSpec.witness6 (enc := enc) (C := Try.checked) false ⟨#[], #[.agg #[.int .i64 0, .string (⟨#[]⟩ : ByteArray), .string (⟨#[]⟩ : ByteArray), .int .i64 0, .int .i64 0, .int .i64 0, .int .i64 0, .int .i64 0, .int .i64 0, .string (⟨#[]⟩ : ByteArray), .string (⟨#[]⟩ : ByteArray), .int .i64 0, .int .i64 0, .slice none 0 0, .slice none 0 0], .agg #[.int .i64 0, .string (⟨#[]⟩ : ByteArray), .string (⟨#[]⟩ : ByteArray), .int .i64 0, .int .i64 0, .int .i64 0, .int .i64 0, .int .i64 0, .int .i64 0, .string (⟨#[]⟩ : ByteArray), .string (⟨#[]⟩ : ByteArray), .int .i64 0, .int .i64 0, .slice none 0 0, .slice none 0 0]], []⟩ 8 (by kernel_rfl) (by kernel_rfl) (by kernel_rfl) (by kernel_rfl)) ?_
  intro W base args ds gs before hval0 hW hcnd hsz0 _
  have hsz : (DataW.weightsEach Try.prog (Try.f6.params.toList ++ Rows.itemSameSpec.plain.varTypes Try.prog) (ds ++ gs)).all (· ≤ reachBytes) = true := hsz0
  have hval : ∀ (j : Nat) t v, Try.f6.params[j]? = some t → args[j]? = some v → Value.okWide Try.prog W .any base t v := hval0
  have hW' := hW
  obtain ⟨p, q, hA0, hV, rfl, hfz, hnd⟩ := hW
  have hA : DataW.TrodAll enc Try.prog W 0 (fun _ => true) true Try.f6.params.toList args.toList ds p := hA0
  rw [Try.params6] at hA hval hsz
  obtain ⟨v0, vs0, d0, ds0, p0, q0, hargs, rfl, rfl, h0, r0⟩ := trodAll_cons hA
  obtain ⟨v1, vs1, d1, ds1, p1, q1, rfl, rfl, rfl, h1, r1⟩ := trodAll_cons r0
  obtain ⟨rfl, rfl, rfl⟩ := trodAll_nil r1
  obtain rfl : args = #[v0, v1] := by cases args; simp_all
  obtain ⟨rfl, rfl⟩ := trodVars_none hV
  have t0 := h0
  have t1 := h1
  have lt0 : ∀ x ∈ p0, x.block < W.heap.size := by obtain ⟨m, hm⟩ := t0; exact DataW.trod_lt m _ _ _ hm
  have lt1 : ∀ x ∈ p1, x.block < W.heap.size := by obtain ⟨m, hm⟩ := t1; exact DataW.trod_lt m _ _ _ hm
  have o0 := okWide_struct Try.underlying48 (hval 0 48 v0 rfl rfl)
  have o1 := okWide_struct Try.underlying48 (hval 1 48 v1 rfl rfl)
  obtain ⟨cs0, x, e0, hK0, hx0, hx1⟩ := Rdr.of_struct rd_item h0 (let ⟨c, h1, h2⟩ := o0; ⟨c, _, h1, h2⟩) (Rdr.weights_one (j := 0) hsz rfl rfl)
  obtain ⟨cs1, y, e1, hK1, hy0, hy1⟩ := Rdr.of_struct rd_item h1 (let ⟨c, h1, h2⟩ := o1; ⟨c, _, h1, h2⟩) (Rdr.weights_one (j := 1) hsz rfl rfl)
  clear hA0 hval0 hsz0 hsz hval o0 o1 h0 h1
  obtain ⟨A13, c13, A14, c14, rfl, hc13, hC13, hc14, hC14⟩ := k48_open hK0
  obtain ⟨B13, d13, B14, d14, rfl, hd13, hD13, hd14, hD14⟩ := k48_open hK1
  subst e0
  subst e1
  obtain ⟨k, ma, mb, s, a0, a1, a2, ax⟩ := Pure.ItemSame.all x.f0.f0 x.f0.f1 x.f0.f2 x.f0.f3 x.f0.f4 x.f0.f5 x.f0.f6 x.f0.f7.f0 x.f0.f7.f1 x.f0.f8 x.f0.f9 x.f0.f10 x.f0.f11 x.f0.f12 x.f1 y.f0.f0 y.f0.f1 y.f0.f2 y.f0.f3 y.f0.f4 y.f0.f5 y.f0.f6 y.f0.f7.f0 y.f0.f7.f1 y.f0.f8 y.f0.f9 y.f0.f10 y.f0.f11 y.f0.f12 y.f1 (by omega) (by omega) (by omega)
  refine (ItemSame.walk k x.f0.f0 x.f0.f1 x.f0.f2 x.f0.f3 x.f0.f4 x.f0.f5 x.f0.f6 x.f0.f7.f0 x.f0.f7.f1 x.f0.f8 x.f0.f9 x.f0.f10 x.f0.f11 A13 c13 x.f0.f12 A14 c14 x.f1 y.f0.f0 y.f0.f1 y.f0.f2 y.f0.f3 y.f0.f4 y.f0.f5 y.f0.f6 y.f0.f7.f0 y.f0.f7.f1 y.f0.f8 y.f0.f9 y.f0.f10 y.f0.f11 B13 d13 y.f0.f12 B14 d14 y.f1 ma mb s W hC13 hc13 hC14 hc14 hD13 hd13 hD14 hd14 (by omega) a0 a1 a2 (fun _ _ _ => ax)).mono fun e W' ⟨he, bel⟩ => ?_
  subst he
  exact ⟨_, rfl, _, _, _, [], _, [], hW', trodAll_mk1 (shut_bool Try.underlying4 _), (trodAll_cons_mk (Below.trod laidOut (by kernel_rfl) (of_decide_eq_true (by kernel_rfl)) t0 bel lt0) (trodAll_cons_mk (Below.trod laidOut (by kernel_rfl) (of_decide_eq_true (by kernel_rfl)) t1 bel lt1) trodAll_mk0)), rfl, bel.frame _, fun h => by cases h⟩
theorem over : Rows.itemSameRow.holds Try.pinned (OpenSpec.ofChange Rows.itemSameSpec) :=
  OpenClaim.holds_of_wide 6 Try.f6 rfl rfl rfl rfl rfl rfl rfl ⟨rfl, rfl, rfl, rfl, rfl⟩ rfl rfl rfl rfl rfl (by kernel_rfl) Try.func6 (by kernel_rfl)
    (of_decide_eq_true (by kernel_rfl)) (by unfold Func.isWrapper; first | (rw [if_pos (by decide +kernel)]; kernel_rfl) | (rw [if_neg (by decide +kernel)]; exact ⟨rfl, rfl⟩))
    (fun os started H enc _ => lifted os started H enc)
theorem proved : Rows.ItemSameSaid := over
#print axioms proved
end Go.Proofs.Ytelniipccmeooaa.itemSame
namespace Go.Proofs.Ytelniipccmeooaa
/-- The row, under a short name, for the claim. -/
theorem itemSame_holds : Rows.ItemSameSaid := itemSame.proved
end Go.Proofs.Ytelniipccmeooaa
