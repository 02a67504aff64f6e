-- Written by xprint.py (wip/xprint.py) of this work, out of Lean's own print of the translation.
import Derived.Test.YtelniipccmeooaaPItemSamex0
import Derived.Test.YtelniipccmeooaaPItemSamex1
import Derived.Test.YtelniipccmeooaaPItemSamex4
namespace Go.Proofs.Ytelniipccmeooaa.PItemSame
open Go.RowKit Go.Proofs.YtelniipccmeooaaW.PrintWords Go.Proofs.YtelniipccmeooaaW.PrintLast Go.Proofs.YtelniipccmeooaaW.PrintMore
attribute [local go_sem] max2_int min2_int max_two min_two max_three min_three max_four min_four   -- for this text's walks alone
set_option linter.unusedVariables false
set_option linter.unusedSimpArgs false

attribute [local go_sem high] eqA43
/-! ### oakumref08_SameHead: function 25 -/
-- rounds: yes
-- making: yes
-- import Derived.Lib.Hide
-- import Derived.Test.YtelniipccmeooaaLazy
-- eq: 43
def oakumref08_SameHead.b (a0_0 : Int) (a0_1 : ByteArray) (a0_2 : ByteArray) (a0_3 : Int) (a0_4 : Int) (a0_5 : Int) (a0_6 : Int) (a0_7 : Int) (a0_8 : Int) (a0_9 : ByteArray) (a0_10 : ByteArray) (a0_11 : Int) (a0_12 : Int) (a1_0 : Int) (a1_1 : ByteArray) (a1_2 : ByteArray) (a1_3 : Int) (a1_4 : Int) (a1_5 : Int) (a1_6 : Int) (a1_7 : Int) (a1_8 : Int) (a1_9 : ByteArray) (a1_10 : ByteArray) (a1_11 : Int) (a1_12 : Int) : Bool := ((((((((((((a0_0 == a1_0) && (a0_1.toList == a1_1.toList)) && (a0_2.toList == a1_2.toList)) && (a0_3 == a1_3)) && (a0_4 == a1_4)) && (a0_5 == a1_5)) && (a0_6 == a1_6)) && (a0_7 == a1_7 && (a0_8 == a1_8))) && (a0_9.toList == a1_9.toList)) && (a0_10.toList == a1_10.toList)) && (a0_11 == a1_11)) && (a0_12 == a1_12))
def oakumref08_SameHead.f (k : Nat) (a0_0 : Int) (a0_1 : ByteArray) (a0_2 : ByteArray) (a0_3 : Int) (a0_4 : Int) (a0_5 : Int) (a0_6 : Int) (a0_7 : Int) (a0_8 : Int) (a0_9 : ByteArray) (a0_10 : ByteArray) (a0_11 : Int) (a0_12 : Int) (l0_13 : List (S55)) (a1_0 : Int) (a1_1 : ByteArray) (a1_2 : ByteArray) (a1_3 : Int) (a1_4 : Int) (a1_5 : Int) (a1_6 : Int) (a1_7 : Int) (a1_8 : Int) (a1_9 : ByteArray) (a1_10 : ByteArray) (a1_11 : Int) (a1_12 : Int) (l1_13 : List (S55)) : Option (Bool) := if oakumref08_SameHead.b a0_0 a0_1 a0_2 a0_3 a0_4 a0_5 a0_6 a0_7 a0_8 a0_9 a0_10 a0_11 a0_12 a1_0 a1_1 a1_2 a1_3 a1_4 a1_5 a1_6 a1_7 a1_8 a1_9 a1_10 a1_11 a1_12 = true then oakumref07_Same.f k l0_13 l1_13 else some false
theorem oakumref08_SameHead.mono : ∀ a0_0 a0_1 a0_2 a0_3 a0_4 a0_5 a0_6 a0_7 a0_8 a0_9 a0_10 a0_11 a0_12 l0_13 a1_0 a1_1 a1_2 a1_3 a1_4 a1_5 a1_6 a1_7 a1_8 a1_9 a1_10 a1_11 a1_12 l1_13 k, LeO (oakumref08_SameHead.f k a0_0 a0_1 a0_2 a0_3 a0_4 a0_5 a0_6 a0_7 a0_8 a0_9 a0_10 a0_11 a0_12 l0_13 a1_0 a1_1 a1_2 a1_3 a1_4 a1_5 a1_6 a1_7 a1_8 a1_9 a1_10 a1_11 a1_12 l1_13) (oakumref08_SameHead.f (k + 1) a0_0 a0_1 a0_2 a0_3 a0_4 a0_5 a0_6 a0_7 a0_8 a0_9 a0_10 a0_11 a0_12 l0_13 a1_0 a1_1 a1_2 a1_3 a1_4 a1_5 a1_6 a1_7 a1_8 a1_9 a1_10 a1_11 a1_12 l1_13) := by
  intro a0_0 a0_1 a0_2 a0_3 a0_4 a0_5 a0_6 a0_7 a0_8 a0_9 a0_10 a0_11 a0_12 l0_13 a1_0 a1_1 a1_2 a1_3 a1_4 a1_5 a1_6 a1_7 a1_8 a1_9 a1_10 a1_11 a1_12 l1_13 k
  unfold oakumref08_SameHead.f
  exact LeO.ite (oakumref07_Same.mono _ _ _) (LeO.refl _)
set_option maxHeartbeats 4000000 in
set_option maxRecDepth 100000 in
theorem oakumref08_SameHead.calls (k : Nat) (a0_0 : Int) (a0_1 : ByteArray) (a0_2 : ByteArray) (a0_3 : Int) (a0_4 : Int) (a0_5 : Int) (a0_6 : Int) (a0_7 : Int) (a0_8 : Int) (a0_9 : ByteArray) (a0_10 : ByteArray) (a0_11 : Int) (a0_12 : Int) (A0_13 : Option Addr) (c0_13 : Nat) (l0_13 : List (S55)) (a1_0 : Int) (a1_1 : ByteArray) (a1_2 : ByteArray) (a1_3 : Int) (a1_4 : Int) (a1_5 : Int) (a1_6 : Int) (a1_7 : Int) (a1_8 : Int) (a1_9 : ByteArray) (a1_10 : ByteArray) (a1_11 : Int) (a1_12 : Int) (A1_13 : Option Addr) (c1_13 : Nat) (l1_13 : List (S55)) (r : Bool) (w : World) (hr0_13 : Kd.C k55 w A0_13 l0_13.length l0_13) (hc0_13 : l0_13.length ≤ c0_13) (hr1_13 : Kd.C k55 w A1_13 l1_13.length l1_13) (hc1_13 : l1_13.length ≤ c1_13) (h : oakumref08_SameHead.f k a0_0 a0_1 a0_2 a0_3 a0_4 a0_5 a0_6 a0_7 a0_8 a0_9 a0_10 a0_11 a0_12 l0_13 a1_0 a1_1 a1_2 a1_3 a1_4 a1_5 a1_6 a1_7 a1_8 a1_9 a1_10 a1_11 a1_12 l1_13 = some r) :
    Calls Try.prog 25 #[.agg #[.int .i64 a0_0, .string a0_1, .string a0_2, .int .i64 a0_3, .int .i64 a0_4, .int .i64 a0_5, .int .i64 a0_6, .int .i64 a0_7, .int .i64 a0_8, .string a0_9, .string a0_10, .int .i64 a0_11, .int .i64 a0_12, .slice A0_13 l0_13.length c0_13], .agg #[.int .i64 a1_0, .string a1_1, .string a1_2, .int .i64 a1_3, .int .i64 a1_4, .int .i64 a1_5, .int .i64 a1_6, .int .i64 a1_7, .int .i64 a1_8, .string a1_9, .string a1_10, .int .i64 a1_11, .int .i64 a1_12, .slice A1_13 l1_13.length c1_13]] w fun e w' => e = .returned (.bool r) ∧ Below w.heap.size w w' := by
  have hu46 := Try.underlying46
  have hu43 := Try.underlying43
  have HR0 := Aside0.mk hr0_13
  have HC0 := Aside0.mk hc0_13
  have HR1 := Aside0.mk hr1_13
  have HC1 := Aside0.mk hc1_13
  clear hr0_13 hc0_13 hr1_13 hc1_13
  have HF := Go.Lib.hid h
  clear h
  go_enter Try.func25, Try.ntmps25
  go_upto_region 1 with (fail)
  refine wp_region_lit ?_
  simp only [List.append_eq, List.cons_append, List.nil_append]
  clear hu46
  iterate 18 (first | go_values | go_skip | go_step | go_upon)
  refine Go.Proofs.Ytelniipccmeooaa.Lazy.lazy_ (g := 5) (want := true) (b := (a0_0 == a1_0)) (v := ?v11) rfl ?hy11 ?r11 ?_
  case hy11 => kernel_rfl
  case r11 => intro hb_; first | (go_simp; done) | (go_simp; rfl)
  intro u11 h11; have U11 := Go.Lib.hid h11; clear h11
  refine Go.Proofs.Ytelniipccmeooaa.Lazy.lazy_ (g := 5) (want := true) (b := (a0_0 == a1_0)) (v := ?v12) rfl ?hy12 ?r12 ?_
  case hy12 => kernel_rfl
  case r12 => intro hb_; have e11_ := U11.out hb_; first | (go_simp; done) | (go_simp; rfl)
  intro u12 h12; have U12 := Go.Lib.hid h12; clear h12
  refine Go.Proofs.Ytelniipccmeooaa.Lazy.lazy_ (g := 5) (want := true) (b := (a0_0 == a1_0)) (v := ?v13) rfl ?hy13 ?r13 ?_
  case hy13 => kernel_rfl
  case r13 => intro hb_; first | (go_simp; done) | (go_simp; rfl)
  intro u13 h13; have U13 := Go.Lib.hid h13; clear h13
  refine Go.Proofs.Ytelniipccmeooaa.Lazy.lazy_ (g := 5) (want := true) (b := (a0_0 == a1_0)) (v := ?v14) rfl ?hy14 ?r14 ?_
  case hy14 => kernel_rfl
  case r14 => intro hb_; have e13_ := U13.out hb_; first | (go_simp; done) | (go_simp; rfl)
  intro u14 h14; have U14 := Go.Lib.hid h14; clear h14
  refine Go.Proofs.Ytelniipccmeooaa.Lazy.lazy_ (g := 5) (want := true) (b := (a0_0 == a1_0)) (v := ?v15) rfl ?hy15 ?r15 ?_
  case hy15 => kernel_rfl
  case r15 => intro hb_; have e12_ := U12.out hb_; have e14_ := U14.out hb_; first | (go_simp; done) | (go_simp; rfl)
  intro u15 h15; have U15 := Go.Lib.hid h15; clear h15
  refine Go.Proofs.Ytelniipccmeooaa.Lazy.pick_and (b := (a0_0 == a1_0)) (e := (a0_1.toList == a1_1.toList)) rfl rfl ?hc16 ?hx16 ?_
  case hc16 => kernel_rfl
  case hx16 => exact fun hb_ => Eq.trans (b := u15) (by kernel_rfl) (U15.out hb_)
  clear U15 U11 U12 U13 U14
  simp only [Act.put, List.setIfInBounds_toArray, List.set_cons_zero, List.set_cons_succ]
  iterate 3 (first | go_values | go_skip | go_step | go_upon)
  refine Go.Proofs.Ytelniipccmeooaa.Lazy.lazy_ (g := 12) (want := true) (b := ((a0_0 == a1_0) && (a0_1.toList == a1_1.toList))) (v := ?v18) rfl ?hy18 ?r18 ?_
  case hy18 => kernel_rfl
  case r18 => intro hb_; first | (go_simp; done) | (go_simp; rfl)
  intro u18 h18; have U18 := Go.Lib.hid h18; clear h18
  refine Go.Proofs.Ytelniipccmeooaa.Lazy.lazy_ (g := 12) (want := true) (b := ((a0_0 == a1_0) && (a0_1.toList == a1_1.toList))) (v := ?v19) rfl ?hy19 ?r19 ?_
  case hy19 => kernel_rfl
  case r19 => intro hb_; have e18_ := U18.out hb_; first | (go_simp; done) | (go_simp; rfl)
  intro u19 h19; have U19 := Go.Lib.hid h19; clear h19
  refine Go.Proofs.Ytelniipccmeooaa.Lazy.lazy_ (g := 12) (want := true) (b := ((a0_0 == a1_0) && (a0_1.toList == a1_1.toList))) (v := ?v20) rfl ?hy20 ?r20 ?_
  case hy20 => kernel_rfl
  case r20 => intro hb_; first | (go_simp; done) | (go_simp; rfl)
  intro u20 h20; have U20 := Go.Lib.hid h20; clear h20
  refine Go.Proofs.Ytelniipccmeooaa.Lazy.lazy_ (g := 12) (want := true) (b := ((a0_0 == a1_0) && (a0_1.toList == a1_1.toList))) (v := ?v21) rfl ?hy21 ?r21 ?_
  case hy21 => kernel_rfl
  case r21 => intro hb_; have e20_ := U20.out hb_; first | (go_simp; done) | (go_simp; rfl)
  intro u21 h21; have U21 := Go.Lib.hid h21; clear h21
  refine Go.Proofs.Ytelniipccmeooaa.Lazy.lazy_ (g := 12) (want := true) (b := ((a0_0 == a1_0) && (a0_1.toList == a1_1.toList))) (v := ?v22) rfl ?hy22 ?r22 ?_
  case hy22 => kernel_rfl
  case r22 => intro hb_; have e19_ := U19.out hb_; have e21_ := U21.out hb_; first | (go_simp; done) | (go_simp; rfl)
  intro u22 h22; have U22 := Go.Lib.hid h22; clear h22
  refine Go.Proofs.Ytelniipccmeooaa.Lazy.pick_and (b := ((a0_0 == a1_0) && (a0_1.toList == a1_1.toList))) (e := (a0_2.toList == a1_2.toList)) rfl rfl ?hc23 ?hx23 ?_
  case hc23 => kernel_rfl
  case hx23 => exact fun hb_ => Eq.trans (b := u22) (by kernel_rfl) (U22.out hb_)
  clear U22 U18 U19 U20 U21
  simp only [Act.put, List.setIfInBounds_toArray, List.set_cons_zero, List.set_cons_succ]
  iterate 3 (first | go_values | go_skip | go_step | go_upon)
  refine Go.Proofs.Ytelniipccmeooaa.Lazy.lazy_ (g := 19) (want := true) (b := (((a0_0 == a1_0) && (a0_1.toList == a1_1.toList)) && (a0_2.toList == a1_2.toList))) (v := ?v25) rfl ?hy25 ?r25 ?_
  case hy25 => kernel_rfl
  case r25 => intro hb_; first | (go_simp; done) | (go_simp; rfl)
  intro u25 h25; have U25 := Go.Lib.hid h25; clear h25
  refine Go.Proofs.Ytelniipccmeooaa.Lazy.lazy_ (g := 19) (want := true) (b := (((a0_0 == a1_0) && (a0_1.toList == a1_1.toList)) && (a0_2.toList == a1_2.toList))) (v := ?v26) rfl ?hy26 ?r26 ?_
  case hy26 => kernel_rfl
  case r26 => intro hb_; have e25_ := U25.out hb_; first | (go_simp; done) | (go_simp; rfl)
  intro u26 h26; have U26 := Go.Lib.hid h26; clear h26
  refine Go.Proofs.Ytelniipccmeooaa.Lazy.lazy_ (g := 19) (want := true) (b := (((a0_0 == a1_0) && (a0_1.toList == a1_1.toList)) && (a0_2.toList == a1_2.toList))) (v := ?v27) rfl ?hy27 ?r27 ?_
  case hy27 => kernel_rfl
  case r27 => intro hb_; first | (go_simp; done) | (go_simp; rfl)
  intro u27 h27; have U27 := Go.Lib.hid h27; clear h27
  refine Go.Proofs.Ytelniipccmeooaa.Lazy.lazy_ (g := 19) (want := true) (b := (((a0_0 == a1_0) && (a0_1.toList == a1_1.toList)) && (a0_2.toList == a1_2.toList))) (v := ?v28) rfl ?hy28 ?r28 ?_
  case hy28 => kernel_rfl
  case r28 => intro hb_; have e27_ := U27.out hb_; first | (go_simp; done) | (go_simp; rfl)
  intro u28 h28; have U28 := Go.Lib.hid h28; clear h28
  refine Go.Proofs.Ytelniipccmeooaa.Lazy.lazy_ (g := 19) (want := true) (b := (((a0_0 == a1_0) && (a0_1.toList == a1_1.toList)) && (a0_2.toList == a1_2.toList))) (v := ?v29) rfl ?hy29 ?r29 ?_
  case hy29 => kernel_rfl
  case r29 => intro hb_; have e26_ := U26.out hb_; have e28_ := U28.out hb_; first | (go_simp; done) | (go_simp; rfl)
  intro u29 h29; have U29 := Go.Lib.hid h29; clear h29
  refine Go.Proofs.Ytelniipccmeooaa.Lazy.pick_and (b := (((a0_0 == a1_0) && (a0_1.toList == a1_1.toList)) && (a0_2.toList == a1_2.toList))) (e := (a0_3 == a1_3)) rfl rfl ?hc30 ?hx30 ?_
  case hc30 => kernel_rfl
  case hx30 => exact fun hb_ => Eq.trans (b := u29) (by kernel_rfl) (U29.out hb_)
  clear U29 U25 U26 U27 U28
  simp only [Act.put, List.setIfInBounds_toArray, List.set_cons_zero, List.set_cons_succ]
  iterate 3 (first | go_values | go_skip | go_step | go_upon)
  refine Go.Proofs.Ytelniipccmeooaa.Lazy.lazy_ (g := 26) (want := true) (b := ((((a0_0 == a1_0) && (a0_1.toList == a1_1.toList)) && (a0_2.toList == a1_2.toList)) && (a0_3 == a1_3))) (v := ?v32) rfl ?hy32 ?r32 ?_
  case hy32 => kernel_rfl
  case r32 => intro hb_; first | (go_simp; done) | (go_simp; rfl)
  intro u32 h32; have U32 := Go.Lib.hid h32; clear h32
  refine Go.Proofs.Ytelniipccmeooaa.Lazy.lazy_ (g := 26) (want := true) (b := ((((a0_0 == a1_0) && (a0_1.toList == a1_1.toList)) && (a0_2.toList == a1_2.toList)) && (a0_3 == a1_3))) (v := ?v33) rfl ?hy33 ?r33 ?_
  case hy33 => kernel_rfl
  case r33 => intro hb_; have e32_ := U32.out hb_; first | (go_simp; done) | (go_simp; rfl)
  intro u33 h33; have U33 := Go.Lib.hid h33; clear h33
  refine Go.Proofs.Ytelniipccmeooaa.Lazy.lazy_ (g := 26) (want := true) (b := ((((a0_0 == a1_0) && (a0_1.toList == a1_1.toList)) && (a0_2.toList == a1_2.toList)) && (a0_3 == a1_3))) (v := ?v34) rfl ?hy34 ?r34 ?_
  case hy34 => kernel_rfl
  case r34 => intro hb_; first | (go_simp; done) | (go_simp; rfl)
  intro u34 h34; have U34 := Go.Lib.hid h34; clear h34
  refine Go.Proofs.Ytelniipccmeooaa.Lazy.lazy_ (g := 26) (want := true) (b := ((((a0_0 == a1_0) && (a0_1.toList == a1_1.toList)) && (a0_2.toList == a1_2.toList)) && (a0_3 == a1_3))) (v := ?v35) rfl ?hy35 ?r35 ?_
  case hy35 => kernel_rfl
  case r35 => intro hb_; have e34_ := U34.out hb_; first | (go_simp; done) | (go_simp; rfl)
  intro u35 h35; have U35 := Go.Lib.hid h35; clear h35
  refine Go.Proofs.Ytelniipccmeooaa.Lazy.lazy_ (g := 26) (want := true) (b := ((((a0_0 == a1_0) && (a0_1.toList == a1_1.toList)) && (a0_2.toList == a1_2.toList)) && (a0_3 == a1_3))) (v := ?v36) rfl ?hy36 ?r36 ?_
  case hy36 => kernel_rfl
  case r36 => intro hb_; have e33_ := U33.out hb_; have e35_ := U35.out hb_; first | (go_simp; done) | (go_simp; rfl)
  intro u36 h36; have U36 := Go.Lib.hid h36; clear h36
  refine Go.Proofs.Ytelniipccmeooaa.Lazy.pick_and (b := ((((a0_0 == a1_0) && (a0_1.toList == a1_1.toList)) && (a0_2.toList == a1_2.toList)) && (a0_3 == a1_3))) (e := (a0_4 == a1_4)) rfl rfl ?hc37 ?hx37 ?_
  case hc37 => kernel_rfl
  case hx37 => exact fun hb_ => Eq.trans (b := u36) (by kernel_rfl) (U36.out hb_)
  clear U36 U32 U33 U34 U35
  simp only [Act.put, List.setIfInBounds_toArray, List.set_cons_zero, List.set_cons_succ]
  iterate 3 (first | go_values | go_skip | go_step | go_upon)
  refine Go.Proofs.Ytelniipccmeooaa.Lazy.lazy_ (g := 33) (want := true) (b := (((((a0_0 == a1_0) && (a0_1.toList == a1_1.toList)) && (a0_2.toList == a1_2.toList)) && (a0_3 == a1_3)) && (a0_4 == a1_4))) (v := ?v39) rfl ?hy39 ?r39 ?_
  case hy39 => kernel_rfl
  case r39 => intro hb_; first | (go_simp; done) | (go_simp; rfl)
  intro u39 h39; have U39 := Go.Lib.hid h39; clear h39
  refine Go.Proofs.Ytelniipccmeooaa.Lazy.lazy_ (g := 33) (want := true) (b := (((((a0_0 == a1_0) && (a0_1.toList == a1_1.toList)) && (a0_2.toList == a1_2.toList)) && (a0_3 == a1_3)) && (a0_4 == a1_4))) (v := ?v40) rfl ?hy40 ?r40 ?_
  case hy40 => kernel_rfl
  case r40 => intro hb_; have e39_ := U39.out hb_; first | (go_simp; done) | (go_simp; rfl)
  intro u40 h40; have U40 := Go.Lib.hid h40; clear h40
  refine Go.Proofs.Ytelniipccmeooaa.Lazy.lazy_ (g := 33) (want := true) (b := (((((a0_0 == a1_0) && (a0_1.toList == a1_1.toList)) && (a0_2.toList == a1_2.toList)) && (a0_3 == a1_3)) && (a0_4 == a1_4))) (v := ?v41) rfl ?hy41 ?r41 ?_
  case hy41 => kernel_rfl
  case r41 => intro hb_; first | (go_simp; done) | (go_simp; rfl)
  intro u41 h41; have U41 := Go.Lib.hid h41; clear h41
  refine Go.Proofs.Ytelniipccmeooaa.Lazy.lazy_ (g := 33) (want := true) (b := (((((a0_0 == a1_0) && (a0_1.toList == a1_1.toList)) && (a0_2.toList == a1_2.toList)) && (a0_3 == a1_3)) && (a0_4 == a1_4))) (v := ?v42) rfl ?hy42 ?r42 ?_
  case hy42 => kernel_rfl
  case r42 => intro hb_; have e41_ := U41.out hb_; first | (go_simp; done) | (go_simp; rfl)
  intro u42 h42; have U42 := Go.Lib.hid h42; clear h42
  refine Go.Proofs.Ytelniipccmeooaa.Lazy.lazy_ (g := 33) (want := true) (b := (((((a0_0 == a1_0) && (a0_1.toList == a1_1.toList)) && (a0_2.toList == a1_2.toList)) && (a0_3 == a1_3)) && (a0_4 == a1_4))) (v := ?v43) rfl ?hy43 ?r43 ?_
  case hy43 => kernel_rfl
  case r43 => intro hb_; have e40_ := U40.out hb_; have e42_ := U42.out hb_; first | (go_simp; done) | (go_simp; rfl)
  intro u43 h43; have U43 := Go.Lib.hid h43; clear h43
  refine Go.Proofs.Ytelniipccmeooaa.Lazy.pick_and (b := (((((a0_0 == a1_0) && (a0_1.toList == a1_1.toList)) && (a0_2.toList == a1_2.toList)) && (a0_3 == a1_3)) && (a0_4 == a1_4))) (e := (a0_5 == a1_5)) rfl rfl ?hc44 ?hx44 ?_
  case hc44 => kernel_rfl
  case hx44 => exact fun hb_ => Eq.trans (b := u43) (by kernel_rfl) (U43.out hb_)
  clear U43 U39 U40 U41 U42
  simp only [Act.put, List.setIfInBounds_toArray, List.set_cons_zero, List.set_cons_succ]
  iterate 3 (first | go_values | go_skip | go_step | go_upon)
  refine Go.Proofs.Ytelniipccmeooaa.Lazy.lazy_ (g := 40) (want := true) (b := ((((((a0_0 == a1_0) && (a0_1.toList == a1_1.toList)) && (a0_2.toList == a1_2.toList)) && (a0_3 == a1_3)) && (a0_4 == a1_4)) && (a0_5 == a1_5))) (v := ?v46) rfl ?hy46 ?r46 ?_
  case hy46 => kernel_rfl
  case r46 => intro hb_; first | (go_simp; done) | (go_simp; rfl)
  intro u46 h46; have U46 := Go.Lib.hid h46; clear h46
  refine Go.Proofs.Ytelniipccmeooaa.Lazy.lazy_ (g := 40) (want := true) (b := ((((((a0_0 == a1_0) && (a0_1.toList == a1_1.toList)) && (a0_2.toList == a1_2.toList)) && (a0_3 == a1_3)) && (a0_4 == a1_4)) && (a0_5 == a1_5))) (v := ?v47) rfl ?hy47 ?r47 ?_
  case hy47 => kernel_rfl
  case r47 => intro hb_; have e46_ := U46.out hb_; first | (go_simp; done) | (go_simp; rfl)
  intro u47 h47; have U47 := Go.Lib.hid h47; clear h47
  refine Go.Proofs.Ytelniipccmeooaa.Lazy.lazy_ (g := 40) (want := true) (b := ((((((a0_0 == a1_0) && (a0_1.toList == a1_1.toList)) && (a0_2.toList == a1_2.toList)) && (a0_3 == a1_3)) && (a0_4 == a1_4)) && (a0_5 == a1_5))) (v := ?v48) rfl ?hy48 ?r48 ?_
  case hy48 => kernel_rfl
  case r48 => intro hb_; first | (go_simp; done) | (go_simp; rfl)
  intro u48 h48; have U48 := Go.Lib.hid h48; clear h48
  refine Go.Proofs.Ytelniipccmeooaa.Lazy.lazy_ (g := 40) (want := true) (b := ((((((a0_0 == a1_0) && (a0_1.toList == a1_1.toList)) && (a0_2.toList == a1_2.toList)) && (a0_3 == a1_3)) && (a0_4 == a1_4)) && (a0_5 == a1_5))) (v := ?v49) rfl ?hy49 ?r49 ?_
  case hy49 => kernel_rfl
  case r49 => intro hb_; have e48_ := U48.out hb_; first | (go_simp; done) | (go_simp; rfl)
  intro u49 h49; have U49 := Go.Lib.hid h49; clear h49
  refine Go.Proofs.Ytelniipccmeooaa.Lazy.lazy_ (g := 40) (want := true) (b := ((((((a0_0 == a1_0) && (a0_1.toList == a1_1.toList)) && (a0_2.toList == a1_2.toList)) && (a0_3 == a1_3)) && (a0_4 == a1_4)) && (a0_5 == a1_5))) (v := ?v50) rfl ?hy50 ?r50 ?_
  case hy50 => kernel_rfl
  case r50 => intro hb_; have e47_ := U47.out hb_; have e49_ := U49.out hb_; first | (go_simp; done) | (go_simp; rfl)
  intro u50 h50; have U50 := Go.Lib.hid h50; clear h50
  refine Go.Proofs.Ytelniipccmeooaa.Lazy.pick_and (b := ((((((a0_0 == a1_0) && (a0_1.toList == a1_1.toList)) && (a0_2.toList == a1_2.toList)) && (a0_3 == a1_3)) && (a0_4 == a1_4)) && (a0_5 == a1_5))) (e := (a0_6 == a1_6)) rfl rfl ?hc51 ?hx51 ?_
  case hc51 => kernel_rfl
  case hx51 => exact fun hb_ => Eq.trans (b := u50) (by kernel_rfl) (U50.out hb_)
  clear U50 U46 U47 U48 U49
  simp only [Act.put, List.setIfInBounds_toArray, List.set_cons_zero, List.set_cons_succ]
  iterate 3 (first | go_values | go_skip | go_step | go_upon)
  refine Go.Proofs.Ytelniipccmeooaa.Lazy.lazy_ (g := 47) (want := true) (b := (((((((a0_0 == a1_0) && (a0_1.toList == a1_1.toList)) && (a0_2.toList == a1_2.toList)) && (a0_3 == a1_3)) && (a0_4 == a1_4)) && (a0_5 == a1_5)) && (a0_6 == a1_6))) (v := ?v53) rfl ?hy53 ?r53 ?_
  case hy53 => kernel_rfl
  case r53 => intro hb_; first | (go_simp; done) | (go_simp; rfl)
  intro u53 h53; have U53 := Go.Lib.hid h53; clear h53
  refine Go.Proofs.Ytelniipccmeooaa.Lazy.lazy_ (g := 47) (want := true) (b := (((((((a0_0 == a1_0) && (a0_1.toList == a1_1.toList)) && (a0_2.toList == a1_2.toList)) && (a0_3 == a1_3)) && (a0_4 == a1_4)) && (a0_5 == a1_5)) && (a0_6 == a1_6))) (v := ?v54) rfl ?hy54 ?r54 ?_
  case hy54 => kernel_rfl
  case r54 => intro hb_; have e53_ := U53.out hb_; first | (go_simp; done) | (go_simp; rfl)
  intro u54 h54; have U54 := Go.Lib.hid h54; clear h54
  refine Go.Proofs.Ytelniipccmeooaa.Lazy.lazy_ (g := 47) (want := true) (b := (((((((a0_0 == a1_0) && (a0_1.toList == a1_1.toList)) && (a0_2.toList == a1_2.toList)) && (a0_3 == a1_3)) && (a0_4 == a1_4)) && (a0_5 == a1_5)) && (a0_6 == a1_6))) (v := ?v55) rfl ?hy55 ?r55 ?_
  case hy55 => kernel_rfl
  case r55 => intro hb_; first | (go_simp; done) | (go_simp; rfl)
  intro u55 h55; have U55 := Go.Lib.hid h55; clear h55
  refine Go.Proofs.Ytelniipccmeooaa.Lazy.lazy_ (g := 47) (want := true) (b := (((((((a0_0 == a1_0) && (a0_1.toList == a1_1.toList)) && (a0_2.toList == a1_2.toList)) && (a0_3 == a1_3)) && (a0_4 == a1_4)) && (a0_5 == a1_5)) && (a0_6 == a1_6))) (v := ?v56) rfl ?hy56 ?r56 ?_
  case hy56 => kernel_rfl
  case r56 => intro hb_; have e55_ := U55.out hb_; first | (go_simp; done) | (go_simp; rfl)
  intro u56 h56; have U56 := Go.Lib.hid h56; clear h56
  refine Go.Proofs.Ytelniipccmeooaa.Lazy.lazy_ (g := 47) (want := true) (b := (((((((a0_0 == a1_0) && (a0_1.toList == a1_1.toList)) && (a0_2.toList == a1_2.toList)) && (a0_3 == a1_3)) && (a0_4 == a1_4)) && (a0_5 == a1_5)) && (a0_6 == a1_6))) (v := ?v57) rfl ?hy57 ?r57 ?_
  case hy57 => kernel_rfl
  case r57 => intro hb_; have e54_ := U54.out hb_; have e56_ := U56.out hb_; first | (go_simp; done) | (go_simp; rfl)
  intro u57 h57; have U57 := Go.Lib.hid h57; clear h57
  refine Go.Proofs.Ytelniipccmeooaa.Lazy.pick_and (b := (((((((a0_0 == a1_0) && (a0_1.toList == a1_1.toList)) && (a0_2.toList == a1_2.toList)) && (a0_3 == a1_3)) && (a0_4 == a1_4)) && (a0_5 == a1_5)) && (a0_6 == a1_6))) (e := (a0_7 == a1_7 && (a0_8 == a1_8))) rfl rfl ?hc58 ?hx58 ?_
  case hc58 => kernel_rfl
  case hx58 => exact fun hb_ => Eq.trans (b := u57) (by kernel_rfl) (U57.out hb_)
  clear U57 U53 U54 U55 U56
  simp only [Act.put, List.setIfInBounds_toArray, List.set_cons_zero, List.set_cons_succ]
  iterate 3 (first | go_values | go_skip | go_step | go_upon)
  refine Go.Proofs.Ytelniipccmeooaa.Lazy.lazy_ (g := 54) (want := true) (b := ((((((((a0_0 == a1_0) && (a0_1.toList == a1_1.toList)) && (a0_2.toList == a1_2.toList)) && (a0_3 == a1_3)) && (a0_4 == a1_4)) && (a0_5 == a1_5)) && (a0_6 == a1_6)) && (a0_7 == a1_7 && (a0_8 == a1_8)))) (v := ?v60) rfl ?hy60 ?r60 ?_
  case hy60 => kernel_rfl
  case r60 => intro hb_; first | (go_simp; done) | (go_simp; rfl)
  intro u60 h60; have U60 := Go.Lib.hid h60; clear h60
  refine Go.Proofs.Ytelniipccmeooaa.Lazy.lazy_ (g := 54) (want := true) (b := ((((((((a0_0 == a1_0) && (a0_1.toList == a1_1.toList)) && (a0_2.toList == a1_2.toList)) && (a0_3 == a1_3)) && (a0_4 == a1_4)) && (a0_5 == a1_5)) && (a0_6 == a1_6)) && (a0_7 == a1_7 && (a0_8 == a1_8)))) (v := ?v61) rfl ?hy61 ?r61 ?_
  case hy61 => kernel_rfl
  case r61 => intro hb_; have e60_ := U60.out hb_; first | (go_simp; done) | (go_simp; rfl)
  intro u61 h61; have U61 := Go.Lib.hid h61; clear h61
  refine Go.Proofs.Ytelniipccmeooaa.Lazy.lazy_ (g := 54) (want := true) (b := ((((((((a0_0 == a1_0) && (a0_1.toList == a1_1.toList)) && (a0_2.toList == a1_2.toList)) && (a0_3 == a1_3)) && (a0_4 == a1_4)) && (a0_5 == a1_5)) && (a0_6 == a1_6)) && (a0_7 == a1_7 && (a0_8 == a1_8)))) (v := ?v62) rfl ?hy62 ?r62 ?_
  case hy62 => kernel_rfl
  case r62 => intro hb_; first | (go_simp; done) | (go_simp; rfl)
  intro u62 h62; have U62 := Go.Lib.hid h62; clear h62
  refine Go.Proofs.Ytelniipccmeooaa.Lazy.lazy_ (g := 54) (want := true) (b := ((((((((a0_0 == a1_0) && (a0_1.toList == a1_1.toList)) && (a0_2.toList == a1_2.toList)) && (a0_3 == a1_3)) && (a0_4 == a1_4)) && (a0_5 == a1_5)) && (a0_6 == a1_6)) && (a0_7 == a1_7 && (a0_8 == a1_8)))) (v := ?v63) rfl ?hy63 ?r63 ?_
  case hy63 => kernel_rfl
  case r63 => intro hb_; have e62_ := U62.out hb_; first | (go_simp; done) | (go_simp; rfl)
  intro u63 h63; have U63 := Go.Lib.hid h63; clear h63
  refine Go.Proofs.Ytelniipccmeooaa.Lazy.lazy_ (g := 54) (want := true) (b := ((((((((a0_0 == a1_0) && (a0_1.toList == a1_1.toList)) && (a0_2.toList == a1_2.toList)) && (a0_3 == a1_3)) && (a0_4 == a1_4)) && (a0_5 == a1_5)) && (a0_6 == a1_6)) && (a0_7 == a1_7 && (a0_8 == a1_8)))) (v := ?v64) rfl ?hy64 ?r64 ?_
  case hy64 => kernel_rfl
  case r64 => intro hb_; have e61_ := U61.out hb_; have e63_ := U63.out hb_; first | (go_simp; done) | (go_simp; rfl)
  intro u64 h64; have U64 := Go.Lib.hid h64; clear h64
  refine Go.Proofs.Ytelniipccmeooaa.Lazy.pick_and (b := ((((((((a0_0 == a1_0) && (a0_1.toList == a1_1.toList)) && (a0_2.toList == a1_2.toList)) && (a0_3 == a1_3)) && (a0_4 == a1_4)) && (a0_5 == a1_5)) && (a0_6 == a1_6)) && (a0_7 == a1_7 && (a0_8 == a1_8)))) (e := (a0_9.toList == a1_9.toList)) rfl rfl ?hc65 ?hx65 ?_
  case hc65 => kernel_rfl
  case hx65 => exact fun hb_ => Eq.trans (b := u64) (by kernel_rfl) (U64.out hb_)
  clear U64 U60 U61 U62 U63
  simp only [Act.put, List.setIfInBounds_toArray, List.set_cons_zero, List.set_cons_succ]
  iterate 3 (first | go_values | go_skip | go_step | go_upon)
  refine Go.Proofs.Ytelniipccmeooaa.Lazy.lazy_ (g := 61) (want := true) (b := (((((((((a0_0 == a1_0) && (a0_1.toList == a1_1.toList)) && (a0_2.toList == a1_2.toList)) && (a0_3 == a1_3)) && (a0_4 == a1_4)) && (a0_5 == a1_5)) && (a0_6 == a1_6)) && (a0_7 == a1_7 && (a0_8 == a1_8))) && (a0_9.toList == a1_9.toList))) (v := ?v67) rfl ?hy67 ?r67 ?_
  case hy67 => kernel_rfl
  case r67 => intro hb_; first | (go_simp; done) | (go_simp; rfl)
  intro u67 h67; have U67 := Go.Lib.hid h67; clear h67
  refine Go.Proofs.Ytelniipccmeooaa.Lazy.lazy_ (g := 61) (want := true) (b := (((((((((a0_0 == a1_0) && (a0_1.toList == a1_1.toList)) && (a0_2.toList == a1_2.toList)) && (a0_3 == a1_3)) && (a0_4 == a1_4)) && (a0_5 == a1_5)) && (a0_6 == a1_6)) && (a0_7 == a1_7 && (a0_8 == a1_8))) && (a0_9.toList == a1_9.toList))) (v := ?v68) rfl ?hy68 ?r68 ?_
  case hy68 => kernel_rfl
  case r68 => intro hb_; have e67_ := U67.out hb_; first | (go_simp; done) | (go_simp; rfl)
  intro u68 h68; have U68 := Go.Lib.hid h68; clear h68
  refine Go.Proofs.Ytelniipccmeooaa.Lazy.lazy_ (g := 61) (want := true) (b := (((((((((a0_0 == a1_0) && (a0_1.toList == a1_1.toList)) && (a0_2.toList == a1_2.toList)) && (a0_3 == a1_3)) && (a0_4 == a1_4)) && (a0_5 == a1_5)) && (a0_6 == a1_6)) && (a0_7 == a1_7 && (a0_8 == a1_8))) && (a0_9.toList == a1_9.toList))) (v := ?v69) rfl ?hy69 ?r69 ?_
  case hy69 => kernel_rfl
  case r69 => intro hb_; first | (go_simp; done) | (go_simp; rfl)
  intro u69 h69; have U69 := Go.Lib.hid h69; clear h69
  refine Go.Proofs.Ytelniipccmeooaa.Lazy.lazy_ (g := 61) (want := true) (b := (((((((((a0_0 == a1_0) && (a0_1.toList == a1_1.toList)) && (a0_2.toList == a1_2.toList)) && (a0_3 == a1_3)) && (a0_4 == a1_4)) && (a0_5 == a1_5)) && (a0_6 == a1_6)) && (a0_7 == a1_7 && (a0_8 == a1_8))) && (a0_9.toList == a1_9.toList))) (v := ?v70) rfl ?hy70 ?r70 ?_
  case hy70 => kernel_rfl
  case r70 => intro hb_; have e69_ := U69.out hb_; first | (go_simp; done) | (go_simp; rfl)
  intro u70 h70; have U70 := Go.Lib.hid h70; clear h70
  refine Go.Proofs.Ytelniipccmeooaa.Lazy.lazy_ (g := 61) (want := true) (b := (((((((((a0_0 == a1_0) && (a0_1.toList == a1_1.toList)) && (a0_2.toList == a1_2.toList)) && (a0_3 == a1_3)) && (a0_4 == a1_4)) && (a0_5 == a1_5)) && (a0_6 == a1_6)) && (a0_7 == a1_7 && (a0_8 == a1_8))) && (a0_9.toList == a1_9.toList))) (v := ?v71) rfl ?hy71 ?r71 ?_
  case hy71 => kernel_rfl
  case r71 => intro hb_; have e68_ := U68.out hb_; have e70_ := U70.out hb_; first | (go_simp; done) | (go_simp; rfl)
  intro u71 h71; have U71 := Go.Lib.hid h71; clear h71
  refine Go.Proofs.Ytelniipccmeooaa.Lazy.pick_and (b := (((((((((a0_0 == a1_0) && (a0_1.toList == a1_1.toList)) && (a0_2.toList == a1_2.toList)) && (a0_3 == a1_3)) && (a0_4 == a1_4)) && (a0_5 == a1_5)) && (a0_6 == a1_6)) && (a0_7 == a1_7 && (a0_8 == a1_8))) && (a0_9.toList == a1_9.toList))) (e := (a0_10.toList == a1_10.toList)) rfl rfl ?hc72 ?hx72 ?_
  case hc72 => kernel_rfl
  case hx72 => exact fun hb_ => Eq.trans (b := u71) (by kernel_rfl) (U71.out hb_)
  clear U71 U67 U68 U69 U70
  simp only [Act.put, List.setIfInBounds_toArray, List.set_cons_zero, List.set_cons_succ]
  iterate 3 (first | go_values | go_skip | go_step | go_upon)
  refine Go.Proofs.Ytelniipccmeooaa.Lazy.lazy_ (g := 68) (want := true) (b := ((((((((((a0_0 == a1_0) && (a0_1.toList == a1_1.toList)) && (a0_2.toList == a1_2.toList)) && (a0_3 == a1_3)) && (a0_4 == a1_4)) && (a0_5 == a1_5)) && (a0_6 == a1_6)) && (a0_7 == a1_7 && (a0_8 == a1_8))) && (a0_9.toList == a1_9.toList)) && (a0_10.toList == a1_10.toList))) (v := ?v74) rfl ?hy74 ?r74 ?_
  case hy74 => kernel_rfl
  case r74 => intro hb_; first | (go_simp; done) | (go_simp; rfl)
  intro u74 h74; have U74 := Go.Lib.hid h74; clear h74
  refine Go.Proofs.Ytelniipccmeooaa.Lazy.lazy_ (g := 68) (want := true) (b := ((((((((((a0_0 == a1_0) && (a0_1.toList == a1_1.toList)) && (a0_2.toList == a1_2.toList)) && (a0_3 == a1_3)) && (a0_4 == a1_4)) && (a0_5 == a1_5)) && (a0_6 == a1_6)) && (a0_7 == a1_7 && (a0_8 == a1_8))) && (a0_9.toList == a1_9.toList)) && (a0_10.toList == a1_10.toList))) (v := ?v75) rfl ?hy75 ?r75 ?_
  case hy75 => kernel_rfl
  case r75 => intro hb_; have e74_ := U74.out hb_; first | (go_simp; done) | (go_simp; rfl)
  intro u75 h75; have U75 := Go.Lib.hid h75; clear h75
  refine Go.Proofs.Ytelniipccmeooaa.Lazy.lazy_ (g := 68) (want := true) (b := ((((((((((a0_0 == a1_0) && (a0_1.toList == a1_1.toList)) && (a0_2.toList == a1_2.toList)) && (a0_3 == a1_3)) && (a0_4 == a1_4)) && (a0_5 == a1_5)) && (a0_6 == a1_6)) && (a0_7 == a1_7 && (a0_8 == a1_8))) && (a0_9.toList == a1_9.toList)) && (a0_10.toList == a1_10.toList))) (v := ?v76) rfl ?hy76 ?r76 ?_
  case hy76 => kernel_rfl
  case r76 => intro hb_; first | (go_simp; done) | (go_simp; rfl)
  intro u76 h76; have U76 := Go.Lib.hid h76; clear h76
  refine Go.Proofs.Ytelniipccmeooaa.Lazy.lazy_ (g := 68) (want := true) (b := ((((((((((a0_0 == a1_0) && (a0_1.toList == a1_1.toList)) && (a0_2.toList == a1_2.toList)) && (a0_3 == a1_3)) && (a0_4 == a1_4)) && (a0_5 == a1_5)) && (a0_6 == a1_6)) && (a0_7 == a1_7 && (a0_8 == a1_8))) && (a0_9.toList == a1_9.toList)) && (a0_10.toList == a1_10.toList))) (v := ?v77) rfl ?hy77 ?r77 ?_
  case hy77 => kernel_rfl
  case r77 => intro hb_; have e76_ := U76.out hb_; first | (go_simp; done) | (go_simp; rfl)
  intro u77 h77; have U77 := Go.Lib.hid h77; clear h77
  refine Go.Proofs.Ytelniipccmeooaa.Lazy.lazy_ (g := 68) (want := true) (b := ((((((((((a0_0 == a1_0) && (a0_1.toList == a1_1.toList)) && (a0_2.toList == a1_2.toList)) && (a0_3 == a1_3)) && (a0_4 == a1_4)) && (a0_5 == a1_5)) && (a0_6 == a1_6)) && (a0_7 == a1_7 && (a0_8 == a1_8))) && (a0_9.toList == a1_9.toList)) && (a0_10.toList == a1_10.toList))) (v := ?v78) rfl ?hy78 ?r78 ?_
  case hy78 => kernel_rfl
  case r78 => intro hb_; have e75_ := U75.out hb_; have e77_ := U77.out hb_; first | (go_simp; done) | (go_simp; rfl)
  intro u78 h78; have U78 := Go.Lib.hid h78; clear h78
  refine Go.Proofs.Ytelniipccmeooaa.Lazy.pick_and (b := ((((((((((a0_0 == a1_0) && (a0_1.toList == a1_1.toList)) && (a0_2.toList == a1_2.toList)) && (a0_3 == a1_3)) && (a0_4 == a1_4)) && (a0_5 == a1_5)) && (a0_6 == a1_6)) && (a0_7 == a1_7 && (a0_8 == a1_8))) && (a0_9.toList == a1_9.toList)) && (a0_10.toList == a1_10.toList))) (e := (a0_11 == a1_11)) rfl rfl ?hc79 ?hx79 ?_
  case hc79 => kernel_rfl
  case hx79 => exact fun hb_ => Eq.trans (b := u78) (by kernel_rfl) (U78.out hb_)
  clear U78 U74 U75 U76 U77
  simp only [Act.put, List.setIfInBounds_toArray, List.set_cons_zero, List.set_cons_succ]
  iterate 3 (first | go_values | go_skip | go_step | go_upon)
  refine Go.Proofs.Ytelniipccmeooaa.Lazy.lazy_ (g := 75) (want := true) (b := (((((((((((a0_0 == a1_0) && (a0_1.toList == a1_1.toList)) && (a0_2.toList == a1_2.toList)) && (a0_3 == a1_3)) && (a0_4 == a1_4)) && (a0_5 == a1_5)) && (a0_6 == a1_6)) && (a0_7 == a1_7 && (a0_8 == a1_8))) && (a0_9.toList == a1_9.toList)) && (a0_10.toList == a1_10.toList)) && (a0_11 == a1_11))) (v := ?v81) rfl ?hy81 ?r81 ?_
  case hy81 => kernel_rfl
  case r81 => intro hb_; first | (go_simp; done) | (go_simp; rfl)
  intro u81 h81; have U81 := Go.Lib.hid h81; clear h81
  refine Go.Proofs.Ytelniipccmeooaa.Lazy.lazy_ (g := 75) (want := true) (b := (((((((((((a0_0 == a1_0) && (a0_1.toList == a1_1.toList)) && (a0_2.toList == a1_2.toList)) && (a0_3 == a1_3)) && (a0_4 == a1_4)) && (a0_5 == a1_5)) && (a0_6 == a1_6)) && (a0_7 == a1_7 && (a0_8 == a1_8))) && (a0_9.toList == a1_9.toList)) && (a0_10.toList == a1_10.toList)) && (a0_11 == a1_11))) (v := ?v82) rfl ?hy82 ?r82 ?_
  case hy82 => kernel_rfl
  case r82 => intro hb_; have e81_ := U81.out hb_; first | (go_simp; done) | (go_simp; rfl)
  intro u82 h82; have U82 := Go.Lib.hid h82; clear h82
  refine Go.Proofs.Ytelniipccmeooaa.Lazy.lazy_ (g := 75) (want := true) (b := (((((((((((a0_0 == a1_0) && (a0_1.toList == a1_1.toList)) && (a0_2.toList == a1_2.toList)) && (a0_3 == a1_3)) && (a0_4 == a1_4)) && (a0_5 == a1_5)) && (a0_6 == a1_6)) && (a0_7 == a1_7 && (a0_8 == a1_8))) && (a0_9.toList == a1_9.toList)) && (a0_10.toList == a1_10.toList)) && (a0_11 == a1_11))) (v := ?v83) rfl ?hy83 ?r83 ?_
  case hy83 => kernel_rfl
  case r83 => intro hb_; first | (go_simp; done) | (go_simp; rfl)
  intro u83 h83; have U83 := Go.Lib.hid h83; clear h83
  refine Go.Proofs.Ytelniipccmeooaa.Lazy.lazy_ (g := 75) (want := true) (b := (((((((((((a0_0 == a1_0) && (a0_1.toList == a1_1.toList)) && (a0_2.toList == a1_2.toList)) && (a0_3 == a1_3)) && (a0_4 == a1_4)) && (a0_5 == a1_5)) && (a0_6 == a1_6)) && (a0_7 == a1_7 && (a0_8 == a1_8))) && (a0_9.toList == a1_9.toList)) && (a0_10.toList == a1_10.toList)) && (a0_11 == a1_11))) (v := ?v84) rfl ?hy84 ?r84 ?_
  case hy84 => kernel_rfl
  case r84 => intro hb_; have e83_ := U83.out hb_; first | (go_simp; done) | (go_simp; rfl)
  intro u84 h84; have U84 := Go.Lib.hid h84; clear h84
  refine Go.Proofs.Ytelniipccmeooaa.Lazy.lazy_ (g := 75) (want := true) (b := (((((((((((a0_0 == a1_0) && (a0_1.toList == a1_1.toList)) && (a0_2.toList == a1_2.toList)) && (a0_3 == a1_3)) && (a0_4 == a1_4)) && (a0_5 == a1_5)) && (a0_6 == a1_6)) && (a0_7 == a1_7 && (a0_8 == a1_8))) && (a0_9.toList == a1_9.toList)) && (a0_10.toList == a1_10.toList)) && (a0_11 == a1_11))) (v := ?v85) rfl ?hy85 ?r85 ?_
  case hy85 => kernel_rfl
  case r85 => intro hb_; have e82_ := U82.out hb_; have e84_ := U84.out hb_; first | (go_simp; done) | (go_simp; rfl)
  intro u85 h85; have U85 := Go.Lib.hid h85; clear h85
  refine Go.Proofs.Ytelniipccmeooaa.Lazy.pick_and (b := (((((((((((a0_0 == a1_0) && (a0_1.toList == a1_1.toList)) && (a0_2.toList == a1_2.toList)) && (a0_3 == a1_3)) && (a0_4 == a1_4)) && (a0_5 == a1_5)) && (a0_6 == a1_6)) && (a0_7 == a1_7 && (a0_8 == a1_8))) && (a0_9.toList == a1_9.toList)) && (a0_10.toList == a1_10.toList)) && (a0_11 == a1_11))) (e := (a0_12 == a1_12)) rfl rfl ?hc86 ?hx86 ?_
  case hc86 => kernel_rfl
  case hx86 => exact fun hb_ => Eq.trans (b := u85) (by kernel_rfl) (U85.out hb_)
  clear U85 U81 U82 U83 U84
  simp only [Act.put, List.setIfInBounds_toArray, List.set_cons_zero, List.set_cons_succ]
  have hbel : Below w.heap.size w ((w.alloc (.cells #[.int .i64 a0_0, .string a0_1, .string a0_2, .int .i64 a0_3, .int .i64 a0_4, .int .i64 a0_5, .int .i64 a0_6, .int .i64 a0_7, .int .i64 a0_8, .string a0_9, .string a0_10, .int .i64 a0_11, .int .i64 a0_12, .slice A0_13 l0_13.length c0_13] 46)).alloc (.cells #[.int .i64 a1_0, .string a1_1, .string a1_2, .int .i64 a1_3, .int .i64 a1_4, .int .i64 a1_5, .int .i64 a1_6, .int .i64 a1_7, .int .i64 a1_8, .string a1_9, .string a1_10, .int .i64 a1_11, .int .i64 a1_12, .slice A1_13 l1_13.length c1_13] 46)) := below_alloc (below_alloc (Below.refl _ _) _) _
  have HB := Go.Lib.hid hbel
  clear hbel
  cases hch : ((((((((((((a0_0 == a1_0) && (a0_1.toList == a1_1.toList)) && (a0_2.toList == a1_2.toList)) && (a0_3 == a1_3)) && (a0_4 == a1_4)) && (a0_5 == a1_5)) && (a0_6 == a1_6)) && (a0_7 == a1_7 && (a0_8 == a1_8))) && (a0_9.toList == a1_9.toList)) && (a0_10.toList == a1_10.toList)) && (a0_11 == a1_11)) && (a0_12 == a1_12)) with
  | false =>
    have hr : r = false := by
      have h1 := HF.out
      unfold oakumref08_SameHead.f oakumref08_SameHead.b at h1
      rw [hch, if_neg (by decide)] at h1
      exact (Option.some.inj h1).symm
    subst hr
    clear hch HF
    go_wp2
    go_ret
    exact ⟨rfl, HB.out⟩
  | true =>
    have hr : oakumref07_Same.f k l0_13 l1_13 = some r := by
      have h1 := HF.out
      unfold oakumref08_SameHead.f oakumref08_SameHead.b at h1
      rw [hch, if_pos rfl] at h1
      exact h1
    have HS := Go.Lib.hid hr
    clear hch HF hr
    go_wp2_with fail
    refine (oakumref07_Same.calls k _ _ l0_13 _ _ l1_13 r _ (Kd.C_alloc (Kd.C_alloc HR0.out _) _) HC0.out (Kd.C_alloc (Kd.C_alloc HR1.out _) _) HC1.out HS.out).mono ?_
    rintro e w' ⟨rfl, ⟨nd, rfl⟩⟩
    go_wp2
    go_ret
    exact ⟨rfl, pw_below_drewN HB.out _⟩

/-! ### oakumref01_Same: function 26 -/
def oakumref01_Same.f (l0 : List Int) (l1 : List Int) : Option (Bool) := some ((strOfNums l0).toList == (strOfNums l1).toList)
set_option maxHeartbeats 8000000 in
set_option maxRecDepth 100000 in
theorem oakumref01_Same.calls (A0 : Option Addr) (c0 : Nat) (l0 : List Int) (A1 : Option Addr) (c1 : Nat) (l1 : List Int) (r : Bool) (w : World) (hr0 : Kd.C (Kd.int .u8) w A0 l0.length l0) (hc0 : l0.length ≤ c0) (hr1 : Kd.C (Kd.int .u8) w A1 l1.length l1) (hc1 : l1.length ≤ c1) (h : oakumref01_Same.f l0 l1 = some r) :
    Calls Try.prog 26 #[.slice A0 l0.length c0, .slice A1 l1.length c1] w fun e w' => e = .returned (.bool r) ∧ Drawn0 w w' := by
  have HR0 := Aside0.mk hr0
  have HC0 := Aside0.mk hc0
  clear hr0 hc0
  have HR1 := Aside0.mk hr1
  have HC1 := Aside0.mk hc1
  clear hr1 hc1
  have H : (some ((strOfNums l0).toList == (strOfNums l1).toList)) = some r := h
  clear h
  obtain rfl := Option.some.inj H
  have hcv3 := Kd.C_string (P := Try.prog) (A := A0) (c := c0) Try.underlying22 Try.underlying5 Try.underlying9 HR0.out
  have hcv4 := Kd.C_string (P := Try.prog) (A := A1) (c := c1) Try.underlying22 Try.underlying5 Try.underlying9 HR1.out
  go_enter Try.func26, Try.ntmps26
  go_wp2
  go_ret
  exact ⟨by first | rfl | (simp; done) | (simp [*]; done), by repeat (first | exact Drawn0.refl _ | apply Drawn0.step)⟩

/-! ### oakumref09_Same: function 23 -/
def oakumref09_Same.f (k : Nat) (a0_0 : Int) (a0_1 : ByteArray) (a0_2 : ByteArray) (a0_3 : Int) (a0_4 : Int) (a0_5 : Int) (a0_6 : Int) (a0_7 : Int) (a0_8 : Int) (a0_9 : ByteArray) (a0_10 : ByteArray) (a0_11 : Int) (a0_12 : Int) (l0_13 : List (S55)) (l0_14 : List Int) (a1_0 : Int) (a1_1 : ByteArray) (a1_2 : ByteArray) (a1_3 : Int) (a1_4 : Int) (a1_5 : Int) (a1_6 : Int) (a1_7 : Int) (a1_8 : Int) (a1_9 : ByteArray) (a1_10 : ByteArray) (a1_11 : Int) (a1_12 : Int) (l1_13 : List (S55)) (l1_14 : List Int) : Option (Bool) := (oakumref08_SameHead.f k a0_0 a0_1 a0_2 a0_3 a0_4 a0_5 a0_6 a0_7 a0_8 a0_9 a0_10 a0_11 a0_12 l0_13 a1_0 a1_1 a1_2 a1_3 a1_4 a1_5 a1_6 a1_7 a1_8 a1_9 a1_10 a1_11 a1_12 l1_13).bind fun t133 => (if t133 = true then ((oakumref01_Same.f l0_14 l1_14).bind fun t134 => (some t134)) else (some false))
theorem oakumref09_Same.mono : ∀ a0 a1 a2 a3 a4 a5 a6 a7 a8 a9 a10 a11 a12 a13 a14 a15 a16 a17 a18 a19 a20 a21 a22 a23 a24 a25 a26 a27 a28 a29 k, LeO (oakumref09_Same.f k a0 a1 a2 a3 a4 a5 a6 a7 a8 a9 a10 a11 a12 a13 a14 a15 a16 a17 a18 a19 a20 a21 a22 a23 a24 a25 a26 a27 a28 a29) (oakumref09_Same.f (k + 1) a0 a1 a2 a3 a4 a5 a6 a7 a8 a9 a10 a11 a12 a13 a14 a15 a16 a17 a18 a19 a20 a21 a22 a23 a24 a25 a26 a27 a28 a29) := by
  intro a0 a1 a2 a3 a4 a5 a6 a7 a8 a9 a10 a11 a12 a13 a14 a15 a16 a17 a18 a19 a20 a21 a22 a23 a24 a25 a26 a27 a28 a29 k
  unfold oakumref09_Same.f
  repeat' first
      | (with_reducible exact oakumref08_SameHead.mono _ _ _ _ _ _ _ _ _ _ _ _ _ _ _ _ _ _ _ _ _ _ _ _ _ _ _ _ _)
      | (with_reducible exact LeO.refl _)
      | (with_reducible exact LeO.none _)
      | (with_reducible refine LeO.ite ?_ ?_)
      | (with_reducible refine LeO.bind ?_ (fun _ => ?_))
      | exact oakumref08_SameHead.mono _ _ _ _ _ _ _ _ _ _ _ _ _ _ _ _ _ _ _ _ _ _ _ _ _ _ _ _ _
      | exact LeO.none _
      | refine LeO.ite ?_ ?_
      | refine LeO.bind ?_ (fun _ => ?_)
set_option maxHeartbeats 8000000 in
set_option maxRecDepth 100000 in
theorem oakumref09_Same.calls (k : Nat) (a0_0 : Int) (a0_1 : ByteArray) (a0_2 : ByteArray) (a0_3 : Int) (a0_4 : Int) (a0_5 : Int) (a0_6 : Int) (a0_7 : Int) (a0_8 : Int) (a0_9 : ByteArray) (a0_10 : ByteArray) (a0_11 : Int) (a0_12 : Int) (A0_13 : Option Addr) (c0_13 : Nat) (l0_13 : List (S55)) (A0_14 : Option Addr) (c0_14 : Nat) (l0_14 : List Int) (a1_0 : Int) (a1_1 : ByteArray) (a1_2 : ByteArray) (a1_3 : Int) (a1_4 : Int) (a1_5 : Int) (a1_6 : Int) (a1_7 : Int) (a1_8 : Int) (a1_9 : ByteArray) (a1_10 : ByteArray) (a1_11 : Int) (a1_12 : Int) (A1_13 : Option Addr) (c1_13 : Nat) (l1_13 : List (S55)) (A1_14 : Option Addr) (c1_14 : Nat) (l1_14 : List Int) (r : Bool) (w : World) (hr0_13 : Kd.C k55 w A0_13 l0_13.length l0_13) (hc0_13 : l0_13.length ≤ c0_13) (hr0_14 : Kd.C (Kd.int .u8) w A0_14 l0_14.length l0_14) (hc0_14 : l0_14.length ≤ c0_14) (hr1_13 : Kd.C k55 w A1_13 l1_13.length l1_13) (hc1_13 : l1_13.length ≤ c1_13) (hr1_14 : Kd.C (Kd.int .u8) w A1_14 l1_14.length l1_14) (hc1_14 : l1_14.length ≤ c1_14) (h : oakumref09_Same.f k a0_0 a0_1 a0_2 a0_3 a0_4 a0_5 a0_6 a0_7 a0_8 a0_9 a0_10 a0_11 a0_12 l0_13 l0_14 a1_0 a1_1 a1_2 a1_3 a1_4 a1_5 a1_6 a1_7 a1_8 a1_9 a1_10 a1_11 a1_12 l1_13 l1_14 = some r) :
    Calls Try.prog 23 #[.agg #[.int .i64 a0_0, .string a0_1, .string a0_2, .int .i64 a0_3, .int .i64 a0_4, .int .i64 a0_5, .int .i64 a0_6, .int .i64 a0_7, .int .i64 a0_8, .string a0_9, .string a0_10, .int .i64 a0_11, .int .i64 a0_12, .slice A0_13 l0_13.length c0_13, .slice A0_14 l0_14.length c0_14], .agg #[.int .i64 a1_0, .string a1_1, .string a1_2, .int .i64 a1_3, .int .i64 a1_4, .int .i64 a1_5, .int .i64 a1_6, .int .i64 a1_7, .int .i64 a1_8, .string a1_9, .string a1_10, .int .i64 a1_11, .int .i64 a1_12, .slice A1_13 l1_13.length c1_13, .slice A1_14 l1_14.length c1_14]] w fun e w' => e = .returned (.bool r) ∧ Below w.heap.size w w' := by
  have hu48 := Try.underlying48
  have hu46 := Try.underlying46
  have HR0_13 := Aside0.mk hr0_13
  have HC0_13 := Aside0.mk hc0_13
  clear hr0_13 hc0_13
  have HR0_14 := Aside0.mk hr0_14
  have HC0_14 := Aside0.mk hc0_14
  clear hr0_14 hc0_14
  have HR1_13 := Aside0.mk hr1_13
  have HC1_13 := Aside0.mk hc1_13
  clear hr1_13 hc1_13
  have HR1_14 := Aside0.mk hr1_14
  have HC1_14 := Aside0.mk hc1_14
  clear hr1_14 hc1_14
  have HB := Aside0.mk (Below.refl w.heap.size w)
  have H : ((oakumref08_SameHead.f k a0_0 a0_1 a0_2 a0_3 a0_4 a0_5 a0_6 a0_7 a0_8 a0_9 a0_10 a0_11 a0_12 l0_13 a1_0 a1_1 a1_2 a1_3 a1_4 a1_5 a1_6 a1_7 a1_8 a1_9 a1_10 a1_11 a1_12 l1_13).bind fun t133 => (if t133 = true then ((oakumref01_Same.f l0_14 l1_14).bind fun t134 => (some t134)) else (some false))) = some r := h
  clear h
  replace H := Option.bind_eq_some_iff.mp H
  obtain ⟨t133, A30, H⟩ := H
  replace H : (if t133 = true then ((oakumref01_Same.f l0_14 l1_14).bind fun t134 => (some t134)) else (some false)) = some r := H
  have A3 := Aside0.mk A30
  clear A30
  by_cases c4 : t133 = true
  · subst c4
    have H1 : ((oakumref01_Same.f l0_14 l1_14).bind fun t134 => (some t134)) = some r := by rw [if_pos rfl] at H; exact H
    clear H
    have H := H1
    clear H1
    replace H := Option.bind_eq_some_iff.mp H
    obtain ⟨t134, A50, H⟩ := H
    replace H : (some t134) = some r := H
    have A5 := Aside0.mk A50
    clear A50
    obtain rfl := Option.some.inj H
    go_enter Try.func23, Try.ntmps23
    go_wp2_with (first | ((with_reducible refine gate_dst (N := 2) rfl ?_); refine box_event ?hg (N := 2) ?hd (cs := #[.int .i64 a0_0, .string a0_1, .string a0_2, .int .i64 a0_3, .int .i64 a0_4, .int .i64 a0_5, .int .i64 a0_6, .int .i64 a0_7, .int .i64 a0_8, .string a0_9, .string a0_10, .int .i64 a0_11, .int .i64 a0_12, .slice A0_13 l0_13.length c0_13, .slice A0_14 l0_14.length c0_14]) (t := 48) ?hr ?_; (case hd => rfl); (case hg => rfl); (case hr => first | (go_simp; done) | (go_simp; rfl)); intro gb131 hg w6 hbox hb; have n0_ := Aside0.mk (below_step (by repeat (first | (with_reducible first | exact HB.out | apply below_alloc | apply pw_below_drewN | apply below_drew1) | exact HB.out)) hb); have n1_ := Aside0.mk (hbox); have n2_ := Aside0.mk ((by rw [hg]; exact (below_size (by repeat (first | (with_reducible first | exact HB.out | apply below_alloc | apply pw_below_drewN | apply below_drew1) | exact HB.out))) : w.heap.size ≤ gb131)); have n3_ := Aside0.mk ((by rw [hg]; exact (below_size (by repeat (first | (with_reducible first | exact HB.out | apply below_alloc | apply pw_below_drewN | apply below_drew1) | exact HB.out))) : w.heap.size ≤ gb131)); clear HB; have HB := n0_; have BK131 := n1_; have GW131 := n2_; have GE131 := n3_; clear n0_ n1_ n2_ n3_; clear hb hbox hg) | ((with_reducible refine gate_dst (N := 3) rfl ?_); refine box_event ?hg (N := 3) ?hd (cs := #[.int .i64 a1_0, .string a1_1, .string a1_2, .int .i64 a1_3, .int .i64 a1_4, .int .i64 a1_5, .int .i64 a1_6, .int .i64 a1_7, .int .i64 a1_8, .string a1_9, .string a1_10, .int .i64 a1_11, .int .i64 a1_12, .slice A1_13 l1_13.length c1_13, .slice A1_14 l1_14.length c1_14]) (t := 48) ?hr ?_; (case hd => rfl); (case hg => rfl); (case hr => first | (go_simp; done) | (go_simp; rfl)); intro gb132 hg w7 hbox hb; have n0_ := Aside0.mk (blk_below (g := gb131) (o := .cells #[.int .i64 a0_0, .string a0_1, .string a0_2, .int .i64 a0_3, .int .i64 a0_4, .int .i64 a0_5, .int .i64 a0_6, .int .i64 a0_7, .int .i64 a0_8, .string a0_9, .string a0_10, .int .i64 a0_11, .int .i64 a0_12, .slice A0_13 l0_13.length c0_13, .slice A0_14 l0_14.length c0_14] 48 (0, 0)) (by (with_reducible repeat (first | refine blk_drewN ?_ _ | refine blk_drew ?_ | refine blk_alloc ?_ _)); exact BK131.out) hb); have n1_ := Aside0.mk (below_step (by repeat (first | (with_reducible first | exact HB.out | apply below_alloc | apply pw_below_drewN | apply below_drew1 | refine below_set ?_ GE131.out) | exact HB.out)) hb); have n2_ := Aside0.mk (hbox); have n3_ := Aside0.mk ((by rw [hg]; exact (below_size (by repeat (first | (with_reducible first | exact HB.out | apply below_alloc | apply pw_below_drewN | apply below_drew1 | refine below_set ?_ GE131.out) | exact HB.out))) : w.heap.size ≤ gb132)); have n4_ := Aside0.mk ((by rw [hg]; exact (below_size (by repeat (first | (with_reducible first | exact HB.out | apply below_alloc | apply pw_below_drewN | apply below_drew1 | refine below_set ?_ GE131.out) | exact HB.out))) : w.heap.size ≤ gb132)); have n5_ := Aside0.mk ((by rw [hg]; exact Nat.ne_of_lt (blk_lt (g := gb131) (o := .cells #[.int .i64 a0_0, .string a0_1, .string a0_2, .int .i64 a0_3, .int .i64 a0_4, .int .i64 a0_5, .int .i64 a0_6, .int .i64 a0_7, .int .i64 a0_8, .string a0_9, .string a0_10, .int .i64 a0_11, .int .i64 a0_12, .slice A0_13 l0_13.length c0_13, .slice A0_14 l0_14.length c0_14] 48 (0, 0)) (by (with_reducible repeat (first | refine blk_drewN ?_ _ | refine blk_drew ?_ | refine blk_alloc ?_ _)); exact BK131.out)) : gb131 ≠ gb132)); have n6_ := Aside0.mk ((by rw [hg]; exact Nat.ne_of_gt (blk_lt (g := gb131) (o := .cells #[.int .i64 a0_0, .string a0_1, .string a0_2, .int .i64 a0_3, .int .i64 a0_4, .int .i64 a0_5, .int .i64 a0_6, .int .i64 a0_7, .int .i64 a0_8, .string a0_9, .string a0_10, .int .i64 a0_11, .int .i64 a0_12, .slice A0_13 l0_13.length c0_13, .slice A0_14 l0_14.length c0_14] 48 (0, 0)) (by (with_reducible repeat (first | refine blk_drewN ?_ _ | refine blk_drew ?_ | refine blk_alloc ?_ _)); exact BK131.out)) : gb132 ≠ gb131)); clear BK131; clear HB; have BK131 := n0_; have HB := n1_; have BK132 := n2_; have GW132 := n3_; have GE132 := n4_; have NB131_132 := n5_; have NB132_131 := n6_; clear n0_ n1_ n2_ n3_ n4_ n5_ n6_; clear hb hbox hg; have hnb8 := NB131_132.out; have hnc8 := NB132_131.out; have hcz9_0 : w7.cell? ⟨gb131, 0, none⟩ = some (.int .i64 a0_0) := (blk_cell BK131.out 0).trans rfl; have hcz9_1 : w7.cell? ⟨gb131, 1, none⟩ = some (.string a0_1) := (blk_cell BK131.out 1).trans rfl; have hcz9_2 : w7.cell? ⟨gb131, 2, none⟩ = some (.string a0_2) := (blk_cell BK131.out 2).trans rfl; have hcz9_3 : w7.cell? ⟨gb131, 3, none⟩ = some (.int .i64 a0_3) := (blk_cell BK131.out 3).trans rfl; have hcz9_4 : w7.cell? ⟨gb131, 4, none⟩ = some (.int .i64 a0_4) := (blk_cell BK131.out 4).trans rfl; have hcz9_5 : w7.cell? ⟨gb131, 5, none⟩ = some (.int .i64 a0_5) := (blk_cell BK131.out 5).trans rfl; have hcz9_6 : w7.cell? ⟨gb131, 6, none⟩ = some (.int .i64 a0_6) := (blk_cell BK131.out 6).trans rfl; have hcz9_7 : w7.cell? ⟨gb131, 7, none⟩ = some (.int .i64 a0_7) := (blk_cell BK131.out 7).trans rfl; have hcz9_8 : w7.cell? ⟨gb131, 8, none⟩ = some (.int .i64 a0_8) := (blk_cell BK131.out 8).trans rfl; have hcz9_9 : w7.cell? ⟨gb131, 9, none⟩ = some (.string a0_9) := (blk_cell BK131.out 9).trans rfl; have hcz9_10 : w7.cell? ⟨gb131, 10, none⟩ = some (.string a0_10) := (blk_cell BK131.out 10).trans rfl; have hcz9_11 : w7.cell? ⟨gb131, 11, none⟩ = some (.int .i64 a0_11) := (blk_cell BK131.out 11).trans rfl; have hcz9_12 : w7.cell? ⟨gb131, 12, none⟩ = some (.int .i64 a0_12) := (blk_cell BK131.out 12).trans rfl; have hcz9_13 : w7.cell? ⟨gb131, 13, none⟩ = some (.slice A0_13 l0_13.length c0_13) := (blk_cell BK131.out 13).trans rfl; have hcz9_14 : w7.cell? ⟨gb131, 14, none⟩ = some (.slice A0_14 l0_14.length c0_14) := (blk_cell BK131.out 14).trans rfl; have hfz9_0 := blk_frozen BK131.out 0; have hfz9_1 := blk_frozen BK131.out 1; have hfz9_2 := blk_frozen BK131.out 2; have hfz9_3 := blk_frozen BK131.out 3; have hfz9_4 := blk_frozen BK131.out 4; have hfz9_5 := blk_frozen BK131.out 5; have hfz9_6 := blk_frozen BK131.out 6; have hfz9_7 := blk_frozen BK131.out 7; have hfz9_8 := blk_frozen BK131.out 8; have hfz9_9 := blk_frozen BK131.out 9; have hfz9_10 := blk_frozen BK131.out 10; have hfz9_11 := blk_frozen BK131.out 11; have hfz9_12 := blk_frozen BK131.out 12; have hfz9_13 := blk_frozen BK131.out 13; have hfz9_14 := blk_frozen BK131.out 14; have hcz10_0 : w7.cell? ⟨gb132, 0, none⟩ = some (.int .i64 a1_0) := (blk_cell BK132.out 0).trans rfl; have hcz10_1 : w7.cell? ⟨gb132, 1, none⟩ = some (.string a1_1) := (blk_cell BK132.out 1).trans rfl; have hcz10_2 : w7.cell? ⟨gb132, 2, none⟩ = some (.string a1_2) := (blk_cell BK132.out 2).trans rfl; have hcz10_3 : w7.cell? ⟨gb132, 3, none⟩ = some (.int .i64 a1_3) := (blk_cell BK132.out 3).trans rfl; have hcz10_4 : w7.cell? ⟨gb132, 4, none⟩ = some (.int .i64 a1_4) := (blk_cell BK132.out 4).trans rfl; have hcz10_5 : w7.cell? ⟨gb132, 5, none⟩ = some (.int .i64 a1_5) := (blk_cell BK132.out 5).trans rfl; have hcz10_6 : w7.cell? ⟨gb132, 6, none⟩ = some (.int .i64 a1_6) := (blk_cell BK132.out 6).trans rfl; have hcz10_7 : w7.cell? ⟨gb132, 7, none⟩ = some (.int .i64 a1_7) := (blk_cell BK132.out 7).trans rfl; have hcz10_8 : w7.cell? ⟨gb132, 8, none⟩ = some (.int .i64 a1_8) := (blk_cell BK132.out 8).trans rfl; have hcz10_9 : w7.cell? ⟨gb132, 9, none⟩ = some (.string a1_9) := (blk_cell BK132.out 9).trans rfl; have hcz10_10 : w7.cell? ⟨gb132, 10, none⟩ = some (.string a1_10) := (blk_cell BK132.out 10).trans rfl; have hcz10_11 : w7.cell? ⟨gb132, 11, none⟩ = some (.int .i64 a1_11) := (blk_cell BK132.out 11).trans rfl; have hcz10_12 : w7.cell? ⟨gb132, 12, none⟩ = some (.int .i64 a1_12) := (blk_cell BK132.out 12).trans rfl; have hcz10_13 : w7.cell? ⟨gb132, 13, none⟩ = some (.slice A1_13 l1_13.length c1_13) := (blk_cell BK132.out 13).trans rfl; have hcz10_14 : w7.cell? ⟨gb132, 14, none⟩ = some (.slice A1_14 l1_14.length c1_14) := (blk_cell BK132.out 14).trans rfl; have hfz10_0 := blk_frozen BK132.out 0; have hfz10_1 := blk_frozen BK132.out 1; have hfz10_2 := blk_frozen BK132.out 2; have hfz10_3 := blk_frozen BK132.out 3; have hfz10_4 := blk_frozen BK132.out 4; have hfz10_5 := blk_frozen BK132.out 5; have hfz10_6 := blk_frozen BK132.out 6; have hfz10_7 := blk_frozen BK132.out 7; have hfz10_8 := blk_frozen BK132.out 8; have hfz10_9 := blk_frozen BK132.out 9; have hfz10_10 := blk_frozen BK132.out 10; have hfz10_11 := blk_frozen BK132.out 11; have hfz10_12 := blk_frozen BK132.out 12; have hfz10_13 := blk_frozen BK132.out 13; have hfz10_14 := blk_frozen BK132.out 14) | ((with_reducible refine gate_callee (f := 25) rfl ?_); refine goesL_ (some 9) rfl rfl Try.func25 (by kernel_rfl) rfl #[.agg #[.int .i64 a0_0, .string a0_1, .string a0_2, .int .i64 a0_3, .int .i64 a0_4, .int .i64 a0_5, .int .i64 a0_6, .int .i64 a0_7, .int .i64 a0_8, .string a0_9, .string a0_10, .int .i64 a0_11, .int .i64 a0_12, .slice A0_13 l0_13.length c0_13], .agg #[.int .i64 a1_0, .string a1_1, .string a1_2, .int .i64 a1_3, .int .i64 a1_4, .int .i64 a1_5, .int .i64 a1_6, .int .i64 a1_7, .int .i64 a1_8, .string a1_9, .string a1_10, .int .i64 a1_11, .int .i64 a1_12, .slice A1_13 l1_13.length c1_13]] rfl (by (try simp only [List.map_toArray, List.map_cons, List.map_nil]); first | done | rfl | (simp only [List.length_drop, List.length_take]; rfl)) ?_; (with_reducible refine (oakumref08_SameHead.calls k a0_0 a0_1 a0_2 a0_3 a0_4 a0_5 a0_6 a0_7 a0_8 a0_9 a0_10 a0_11 a0_12 _ _ l0_13 a1_0 a1_1 a1_2 a1_3 a1_4 a1_5 a1_6 a1_7 a1_8 a1_9 a1_10 a1_11 a1_12 _ _ l1_13 true _ ?side1 ?side2 ?side3 ?side4 A3.out).mono ?_); (case side1 => repeat (first | exact (Kd.C_below HR0_13.out HB.out) | (with_reducible refine Kd.C_alloc ?_ _) | (with_reducible refine Kd.C_drewN ?_ _) | (with_reducible refine Kd.C_drew ?_))); (case side2 => exact HC0_13.out); (case side3 => repeat (first | exact (Kd.C_below HR1_13.out HB.out) | (with_reducible refine Kd.C_alloc ?_ _) | (with_reducible refine Kd.C_drewN ?_ _) | (with_reducible refine Kd.C_drew ?_))); (case side4 => exact HC1_13.out); rintro e w11 ⟨rfl, hb⟩; refine ⟨_, rfl, ?_⟩; have n0_ := Aside0.mk (blk_below (g := gb131) (o := .cells #[.int .i64 a0_0, .string a0_1, .string a0_2, .int .i64 a0_3, .int .i64 a0_4, .int .i64 a0_5, .int .i64 a0_6, .int .i64 a0_7, .int .i64 a0_8, .string a0_9, .string a0_10, .int .i64 a0_11, .int .i64 a0_12, .slice A0_13 l0_13.length c0_13, .slice A0_14 l0_14.length c0_14] 48 (0, 0)) (by (with_reducible repeat (first | refine blk_drewN ?_ _ | refine blk_drew ?_ | refine blk_alloc ?_ _)); exact BK131.out) hb); have n1_ := Aside0.mk (blk_below (g := gb132) (o := .cells #[.int .i64 a1_0, .string a1_1, .string a1_2, .int .i64 a1_3, .int .i64 a1_4, .int .i64 a1_5, .int .i64 a1_6, .int .i64 a1_7, .int .i64 a1_8, .string a1_9, .string a1_10, .int .i64 a1_11, .int .i64 a1_12, .slice A1_13 l1_13.length c1_13, .slice A1_14 l1_14.length c1_14] 48 (0, 0)) (by (with_reducible repeat (first | refine blk_drewN ?_ _ | refine blk_drew ?_ | refine blk_alloc ?_ _)); exact BK132.out) hb); have n2_ := Aside0.mk (below_step (by repeat (first | (with_reducible first | exact HB.out | apply below_alloc | apply pw_below_drewN | apply below_drew1 | refine below_set ?_ GE131.out | refine below_set ?_ GE132.out) | exact HB.out)) hb); clear BK131; clear BK132; clear HB; have BK131 := n0_; have BK132 := n1_; have HB := n2_; clear n0_ n1_ n2_; (try clear hb); (try clear hb2); (try clear hk); (try clear hi); have hcz12_0 : w11.cell? ⟨gb131, 0, none⟩ = some (.int .i64 a0_0) := (blk_cell BK131.out 0).trans rfl; have hcz12_1 : w11.cell? ⟨gb131, 1, none⟩ = some (.string a0_1) := (blk_cell BK131.out 1).trans rfl; have hcz12_2 : w11.cell? ⟨gb131, 2, none⟩ = some (.string a0_2) := (blk_cell BK131.out 2).trans rfl; have hcz12_3 : w11.cell? ⟨gb131, 3, none⟩ = some (.int .i64 a0_3) := (blk_cell BK131.out 3).trans rfl; have hcz12_4 : w11.cell? ⟨gb131, 4, none⟩ = some (.int .i64 a0_4) := (blk_cell BK131.out 4).trans rfl; have hcz12_5 : w11.cell? ⟨gb131, 5, none⟩ = some (.int .i64 a0_5) := (blk_cell BK131.out 5).trans rfl; have hcz12_6 : w11.cell? ⟨gb131, 6, none⟩ = some (.int .i64 a0_6) := (blk_cell BK131.out 6).trans rfl; have hcz12_7 : w11.cell? ⟨gb131, 7, none⟩ = some (.int .i64 a0_7) := (blk_cell BK131.out 7).trans rfl; have hcz12_8 : w11.cell? ⟨gb131, 8, none⟩ = some (.int .i64 a0_8) := (blk_cell BK131.out 8).trans rfl; have hcz12_9 : w11.cell? ⟨gb131, 9, none⟩ = some (.string a0_9) := (blk_cell BK131.out 9).trans rfl; have hcz12_10 : w11.cell? ⟨gb131, 10, none⟩ = some (.string a0_10) := (blk_cell BK131.out 10).trans rfl; have hcz12_11 : w11.cell? ⟨gb131, 11, none⟩ = some (.int .i64 a0_11) := (blk_cell BK131.out 11).trans rfl; have hcz12_12 : w11.cell? ⟨gb131, 12, none⟩ = some (.int .i64 a0_12) := (blk_cell BK131.out 12).trans rfl; have hcz12_13 : w11.cell? ⟨gb131, 13, none⟩ = some (.slice A0_13 l0_13.length c0_13) := (blk_cell BK131.out 13).trans rfl; have hcz12_14 : w11.cell? ⟨gb131, 14, none⟩ = some (.slice A0_14 l0_14.length c0_14) := (blk_cell BK131.out 14).trans rfl; have hfz12_0 := blk_frozen BK131.out 0; have hfz12_1 := blk_frozen BK131.out 1; have hfz12_2 := blk_frozen BK131.out 2; have hfz12_3 := blk_frozen BK131.out 3; have hfz12_4 := blk_frozen BK131.out 4; have hfz12_5 := blk_frozen BK131.out 5; have hfz12_6 := blk_frozen BK131.out 6; have hfz12_7 := blk_frozen BK131.out 7; have hfz12_8 := blk_frozen BK131.out 8; have hfz12_9 := blk_frozen BK131.out 9; have hfz12_10 := blk_frozen BK131.out 10; have hfz12_11 := blk_frozen BK131.out 11; have hfz12_12 := blk_frozen BK131.out 12; have hfz12_13 := blk_frozen BK131.out 13; have hfz12_14 := blk_frozen BK131.out 14; have hcz13_0 : w11.cell? ⟨gb132, 0, none⟩ = some (.int .i64 a1_0) := (blk_cell BK132.out 0).trans rfl; have hcz13_1 : w11.cell? ⟨gb132, 1, none⟩ = some (.string a1_1) := (blk_cell BK132.out 1).trans rfl; have hcz13_2 : w11.cell? ⟨gb132, 2, none⟩ = some (.string a1_2) := (blk_cell BK132.out 2).trans rfl; have hcz13_3 : w11.cell? ⟨gb132, 3, none⟩ = some (.int .i64 a1_3) := (blk_cell BK132.out 3).trans rfl; have hcz13_4 : w11.cell? ⟨gb132, 4, none⟩ = some (.int .i64 a1_4) := (blk_cell BK132.out 4).trans rfl; have hcz13_5 : w11.cell? ⟨gb132, 5, none⟩ = some (.int .i64 a1_5) := (blk_cell BK132.out 5).trans rfl; have hcz13_6 : w11.cell? ⟨gb132, 6, none⟩ = some (.int .i64 a1_6) := (blk_cell BK132.out 6).trans rfl; have hcz13_7 : w11.cell? ⟨gb132, 7, none⟩ = some (.int .i64 a1_7) := (blk_cell BK132.out 7).trans rfl; have hcz13_8 : w11.cell? ⟨gb132, 8, none⟩ = some (.int .i64 a1_8) := (blk_cell BK132.out 8).trans rfl; have hcz13_9 : w11.cell? ⟨gb132, 9, none⟩ = some (.string a1_9) := (blk_cell BK132.out 9).trans rfl; have hcz13_10 : w11.cell? ⟨gb132, 10, none⟩ = some (.string a1_10) := (blk_cell BK132.out 10).trans rfl; have hcz13_11 : w11.cell? ⟨gb132, 11, none⟩ = some (.int .i64 a1_11) := (blk_cell BK132.out 11).trans rfl; have hcz13_12 : w11.cell? ⟨gb132, 12, none⟩ = some (.int .i64 a1_12) := (blk_cell BK132.out 12).trans rfl; have hcz13_13 : w11.cell? ⟨gb132, 13, none⟩ = some (.slice A1_13 l1_13.length c1_13) := (blk_cell BK132.out 13).trans rfl; have hcz13_14 : w11.cell? ⟨gb132, 14, none⟩ = some (.slice A1_14 l1_14.length c1_14) := (blk_cell BK132.out 14).trans rfl; have hfz13_0 := blk_frozen BK132.out 0; have hfz13_1 := blk_frozen BK132.out 1; have hfz13_2 := blk_frozen BK132.out 2; have hfz13_3 := blk_frozen BK132.out 3; have hfz13_4 := blk_frozen BK132.out 4; have hfz13_5 := blk_frozen BK132.out 5; have hfz13_6 := blk_frozen BK132.out 6; have hfz13_7 := blk_frozen BK132.out 7; have hfz13_8 := blk_frozen BK132.out 8; have hfz13_9 := blk_frozen BK132.out 9; have hfz13_10 := blk_frozen BK132.out 10; have hfz13_11 := blk_frozen BK132.out 11; have hfz13_12 := blk_frozen BK132.out 12; have hfz13_13 := blk_frozen BK132.out 13; have hfz13_14 := blk_frozen BK132.out 14) | (go_at_call 26; (with_reducible refine (oakumref01_Same.calls _ _ l0_14 _ _ l1_14 t134 _ ?side1 ?side2 ?side3 ?side4 A5.out).mono ?_); (case side1 => repeat (first | exact (Kd.C_below HR0_14.out HB.out) | (with_reducible refine Kd.C_alloc ?_ _) | (with_reducible refine Kd.C_drewN ?_ _) | (with_reducible refine Kd.C_drew ?_))); (case side2 => exact HC0_14.out); (case side3 => repeat (first | exact (Kd.C_below HR1_14.out HB.out) | (with_reducible refine Kd.C_alloc ?_ _) | (with_reducible refine Kd.C_drewN ?_ _) | (with_reducible refine Kd.C_drew ?_))); (case side4 => exact HC1_14.out); rintro e w' ⟨rfl, ⟨nd, rfl⟩⟩))
    go_ret
    exact ⟨by first | rfl | (simp [errW_none, errW_some] <;> rfl) | (simp [*, errW_none, errW_some] <;> rfl), by repeat (first | (with_reducible first | exact HB.out | apply below_alloc | apply pw_below_drewN | apply below_drew1 | refine below_set ?_ GE131.out | refine below_set ?_ GE132.out) | exact HB.out)⟩
  · replace c4 := Bool.eq_false_iff.mpr c4
    subst c4
    have H1 : (some false) = some r := by rw [if_neg (show ¬ (false = true) by decide)] at H; exact H
    clear H
    have H := H1
    clear H1
    obtain rfl := Option.some.inj H
    go_enter Try.func23, Try.ntmps23
    go_wp2_with (first | ((with_reducible refine gate_dst (N := 2) rfl ?_); refine box_event ?hg (N := 2) ?hd (cs := #[.int .i64 a0_0, .string a0_1, .string a0_2, .int .i64 a0_3, .int .i64 a0_4, .int .i64 a0_5, .int .i64 a0_6, .int .i64 a0_7, .int .i64 a0_8, .string a0_9, .string a0_10, .int .i64 a0_11, .int .i64 a0_12, .slice A0_13 l0_13.length c0_13, .slice A0_14 l0_14.length c0_14]) (t := 48) ?hr ?_; (case hd => rfl); (case hg => rfl); (case hr => first | (go_simp; done) | (go_simp; rfl)); intro gb131 hg w14 hbox hb; have n0_ := Aside0.mk (below_step (by repeat (first | (with_reducible first | exact HB.out | apply below_alloc | apply pw_below_drewN | apply below_drew1) | exact HB.out)) hb); have n1_ := Aside0.mk (hbox); have n2_ := Aside0.mk ((by rw [hg]; exact (below_size (by repeat (first | (with_reducible first | exact HB.out | apply below_alloc | apply pw_below_drewN | apply below_drew1) | exact HB.out))) : w.heap.size ≤ gb131)); have n3_ := Aside0.mk ((by rw [hg]; exact (below_size (by repeat (first | (with_reducible first | exact HB.out | apply below_alloc | apply pw_below_drewN | apply below_drew1) | exact HB.out))) : w.heap.size ≤ gb131)); clear HB; have HB := n0_; have BK131 := n1_; have GW131 := n2_; have GE131 := n3_; clear n0_ n1_ n2_ n3_; clear hb hbox hg) | ((with_reducible refine gate_dst (N := 3) rfl ?_); refine box_event ?hg (N := 3) ?hd (cs := #[.int .i64 a1_0, .string a1_1, .string a1_2, .int .i64 a1_3, .int .i64 a1_4, .int .i64 a1_5, .int .i64 a1_6, .int .i64 a1_7, .int .i64 a1_8, .string a1_9, .string a1_10, .int .i64 a1_11, .int .i64 a1_12, .slice A1_13 l1_13.length c1_13, .slice A1_14 l1_14.length c1_14]) (t := 48) ?hr ?_; (case hd => rfl); (case hg => rfl); (case hr => first | (go_simp; done) | (go_simp; rfl)); intro gb132 hg w15 hbox hb; have n0_ := Aside0.mk (blk_below (g := gb131) (o := .cells #[.int .i64 a0_0, .string a0_1, .string a0_2, .int .i64 a0_3, .int .i64 a0_4, .int .i64 a0_5, .int .i64 a0_6, .int .i64 a0_7, .int .i64 a0_8, .string a0_9, .string a0_10, .int .i64 a0_11, .int .i64 a0_12, .slice A0_13 l0_13.length c0_13, .slice A0_14 l0_14.length c0_14] 48 (0, 0)) (by (with_reducible repeat (first | refine blk_drewN ?_ _ | refine blk_drew ?_ | refine blk_alloc ?_ _)); exact BK131.out) hb); have n1_ := Aside0.mk (below_step (by repeat (first | (with_reducible first | exact HB.out | apply below_alloc | apply pw_below_drewN | apply below_drew1 | refine below_set ?_ GE131.out) | exact HB.out)) hb); have n2_ := Aside0.mk (hbox); have n3_ := Aside0.mk ((by rw [hg]; exact (below_size (by repeat (first | (with_reducible first | exact HB.out | apply below_alloc | apply pw_below_drewN | apply below_drew1 | refine below_set ?_ GE131.out) | exact HB.out))) : w.heap.size ≤ gb132)); have n4_ := Aside0.mk ((by rw [hg]; exact (below_size (by repeat (first | (with_reducible first | exact HB.out | apply below_alloc | apply pw_below_drewN | apply below_drew1 | refine below_set ?_ GE131.out) | exact HB.out))) : w.heap.size ≤ gb132)); have n5_ := Aside0.mk ((by rw [hg]; exact Nat.ne_of_lt (blk_lt (g := gb131) (o := .cells #[.int .i64 a0_0, .string a0_1, .string a0_2, .int .i64 a0_3, .int .i64 a0_4, .int .i64 a0_5, .int .i64 a0_6, .int .i64 a0_7, .int .i64 a0_8, .string a0_9, .string a0_10, .int .i64 a0_11, .int .i64 a0_12, .slice A0_13 l0_13.length c0_13, .slice A0_14 l0_14.length c0_14] 48 (0, 0)) (by (with_reducible repeat (first | refine blk_drewN ?_ _ | refine blk_drew ?_ | refine blk_alloc ?_ _)); exact BK131.out)) : gb131 ≠ gb132)); have n6_ := Aside0.mk ((by rw [hg]; exact Nat.ne_of_gt (blk_lt (g := gb131) (o := .cells #[.int .i64 a0_0, .string a0_1, .string a0_2, .int .i64 a0_3, .int .i64 a0_4, .int .i64 a0_5, .int .i64 a0_6, .int .i64 a0_7, .int .i64 a0_8, .string a0_9, .string a0_10, .int .i64 a0_11, .int .i64 a0_12, .slice A0_13 l0_13.length c0_13, .slice A0_14 l0_14.length c0_14] 48 (0, 0)) (by (with_reducible repeat (first | refine blk_drewN ?_ _ | refine blk_drew ?_ | refine blk_alloc ?_ _)); exact BK131.out)) : gb132 ≠ gb131)); clear BK131; clear HB; have BK131 := n0_; have HB := n1_; have BK132 := n2_; have GW132 := n3_; have GE132 := n4_; have NB131_132 := n5_; have NB132_131 := n6_; clear n0_ n1_ n2_ n3_ n4_ n5_ n6_; clear hb hbox hg; have hnb16 := NB131_132.out; have hnc16 := NB132_131.out; have hcz17_0 : w15.cell? ⟨gb131, 0, none⟩ = some (.int .i64 a0_0) := (blk_cell BK131.out 0).trans rfl; have hcz17_1 : w15.cell? ⟨gb131, 1, none⟩ = some (.string a0_1) := (blk_cell BK131.out 1).trans rfl; have hcz17_2 : w15.cell? ⟨gb131, 2, none⟩ = some (.string a0_2) := (blk_cell BK131.out 2).trans rfl; have hcz17_3 : w15.cell? ⟨gb131, 3, none⟩ = some (.int .i64 a0_3) := (blk_cell BK131.out 3).trans rfl; have hcz17_4 : w15.cell? ⟨gb131, 4, none⟩ = some (.int .i64 a0_4) := (blk_cell BK131.out 4).trans rfl; have hcz17_5 : w15.cell? ⟨gb131, 5, none⟩ = some (.int .i64 a0_5) := (blk_cell BK131.out 5).trans rfl; have hcz17_6 : w15.cell? ⟨gb131, 6, none⟩ = some (.int .i64 a0_6) := (blk_cell BK131.out 6).trans rfl; have hcz17_7 : w15.cell? ⟨gb131, 7, none⟩ = some (.int .i64 a0_7) := (blk_cell BK131.out 7).trans rfl; have hcz17_8 : w15.cell? ⟨gb131, 8, none⟩ = some (.int .i64 a0_8) := (blk_cell BK131.out 8).trans rfl; have hcz17_9 : w15.cell? ⟨gb131, 9, none⟩ = some (.string a0_9) := (blk_cell BK131.out 9).trans rfl; have hcz17_10 : w15.cell? ⟨gb131, 10, none⟩ = some (.string a0_10) := (blk_cell BK131.out 10).trans rfl; have hcz17_11 : w15.cell? ⟨gb131, 11, none⟩ = some (.int .i64 a0_11) := (blk_cell BK131.out 11).trans rfl; have hcz17_12 : w15.cell? ⟨gb131, 12, none⟩ = some (.int .i64 a0_12) := (blk_cell BK131.out 12).trans rfl; have hcz17_13 : w15.cell? ⟨gb131, 13, none⟩ = some (.slice A0_13 l0_13.length c0_13) := (blk_cell BK131.out 13).trans rfl; have hcz17_14 : w15.cell? ⟨gb131, 14, none⟩ = some (.slice A0_14 l0_14.length c0_14) := (blk_cell BK131.out 14).trans rfl; have hfz17_0 := blk_frozen BK131.out 0; have hfz17_1 := blk_frozen BK131.out 1; have hfz17_2 := blk_frozen BK131.out 2; have hfz17_3 := blk_frozen BK131.out 3; have hfz17_4 := blk_frozen BK131.out 4; have hfz17_5 := blk_frozen BK131.out 5; have hfz17_6 := blk_frozen BK131.out 6; have hfz17_7 := blk_frozen BK131.out 7; have hfz17_8 := blk_frozen BK131.out 8; have hfz17_9 := blk_frozen BK131.out 9; have hfz17_10 := blk_frozen BK131.out 10; have hfz17_11 := blk_frozen BK131.out 11; have hfz17_12 := blk_frozen BK131.out 12; have hfz17_13 := blk_frozen BK131.out 13; have hfz17_14 := blk_frozen BK131.out 14; have hcz18_0 : w15.cell? ⟨gb132, 0, none⟩ = some (.int .i64 a1_0) := (blk_cell BK132.out 0).trans rfl; have hcz18_1 : w15.cell? ⟨gb132, 1, none⟩ = some (.string a1_1) := (blk_cell BK132.out 1).trans rfl; have hcz18_2 : w15.cell? ⟨gb132, 2, none⟩ = some (.string a1_2) := (blk_cell BK132.out 2).trans rfl; have hcz18_3 : w15.cell? ⟨gb132, 3, none⟩ = some (.int .i64 a1_3) := (blk_cell BK132.out 3).trans rfl; have hcz18_4 : w15.cell? ⟨gb132, 4, none⟩ = some (.int .i64 a1_4) := (blk_cell BK132.out 4).trans rfl; have hcz18_5 : w15.cell? ⟨gb132, 5, none⟩ = some (.int .i64 a1_5) := (blk_cell BK132.out 5).trans rfl; have hcz18_6 : w15.cell? ⟨gb132, 6, none⟩ = some (.int .i64 a1_6) := (blk_cell BK132.out 6).trans rfl; have hcz18_7 : w15.cell? ⟨gb132, 7, none⟩ = some (.int .i64 a1_7) := (blk_cell BK132.out 7).trans rfl; have hcz18_8 : w15.cell? ⟨gb132, 8, none⟩ = some (.int .i64 a1_8) := (blk_cell BK132.out 8).trans rfl; have hcz18_9 : w15.cell? ⟨gb132, 9, none⟩ = some (.string a1_9) := (blk_cell BK132.out 9).trans rfl; have hcz18_10 : w15.cell? ⟨gb132, 10, none⟩ = some (.string a1_10) := (blk_cell BK132.out 10).trans rfl; have hcz18_11 : w15.cell? ⟨gb132, 11, none⟩ = some (.int .i64 a1_11) := (blk_cell BK132.out 11).trans rfl; have hcz18_12 : w15.cell? ⟨gb132, 12, none⟩ = some (.int .i64 a1_12) := (blk_cell BK132.out 12).trans rfl; have hcz18_13 : w15.cell? ⟨gb132, 13, none⟩ = some (.slice A1_13 l1_13.length c1_13) := (blk_cell BK132.out 13).trans rfl; have hcz18_14 : w15.cell? ⟨gb132, 14, none⟩ = some (.slice A1_14 l1_14.length c1_14) := (blk_cell BK132.out 14).trans rfl; have hfz18_0 := blk_frozen BK132.out 0; have hfz18_1 := blk_frozen BK132.out 1; have hfz18_2 := blk_frozen BK132.out 2; have hfz18_3 := blk_frozen BK132.out 3; have hfz18_4 := blk_frozen BK132.out 4; have hfz18_5 := blk_frozen BK132.out 5; have hfz18_6 := blk_frozen BK132.out 6; have hfz18_7 := blk_frozen BK132.out 7; have hfz18_8 := blk_frozen BK132.out 8; have hfz18_9 := blk_frozen BK132.out 9; have hfz18_10 := blk_frozen BK132.out 10; have hfz18_11 := blk_frozen BK132.out 11; have hfz18_12 := blk_frozen BK132.out 12; have hfz18_13 := blk_frozen BK132.out 13; have hfz18_14 := blk_frozen BK132.out 14) | ((with_reducible refine gate_callee (f := 25) rfl ?_); refine goesL_ (some 9) rfl rfl Try.func25 (by kernel_rfl) rfl #[.agg #[.int .i64 a0_0, .string a0_1, .string a0_2, .int .i64 a0_3, .int .i64 a0_4, .int .i64 a0_5, .int .i64 a0_6, .int .i64 a0_7, .int .i64 a0_8, .string a0_9, .string a0_10, .int .i64 a0_11, .int .i64 a0_12, .slice A0_13 l0_13.length c0_13], .agg #[.int .i64 a1_0, .string a1_1, .string a1_2, .int .i64 a1_3, .int .i64 a1_4, .int .i64 a1_5, .int .i64 a1_6, .int .i64 a1_7, .int .i64 a1_8, .string a1_9, .string a1_10, .int .i64 a1_11, .int .i64 a1_12, .slice A1_13 l1_13.length c1_13]] rfl (by (try simp only [List.map_toArray, List.map_cons, List.map_nil]); first | done | rfl | (simp only [List.length_drop, List.length_take]; rfl)) ?_; (with_reducible refine (oakumref08_SameHead.calls k a0_0 a0_1 a0_2 a0_3 a0_4 a0_5 a0_6 a0_7 a0_8 a0_9 a0_10 a0_11 a0_12 _ _ l0_13 a1_0 a1_1 a1_2 a1_3 a1_4 a1_5 a1_6 a1_7 a1_8 a1_9 a1_10 a1_11 a1_12 _ _ l1_13 false _ ?side1 ?side2 ?side3 ?side4 A3.out).mono ?_); (case side1 => repeat (first | exact (Kd.C_below HR0_13.out HB.out) | (with_reducible refine Kd.C_alloc ?_ _) | (with_reducible refine Kd.C_drewN ?_ _) | (with_reducible refine Kd.C_drew ?_))); (case side2 => exact HC0_13.out); (case side3 => repeat (first | exact (Kd.C_below HR1_13.out HB.out) | (with_reducible refine Kd.C_alloc ?_ _) | (with_reducible refine Kd.C_drewN ?_ _) | (with_reducible refine Kd.C_drew ?_))); (case side4 => exact HC1_13.out); rintro e w19 ⟨rfl, hb⟩; refine ⟨_, rfl, ?_⟩; have n0_ := Aside0.mk (blk_below (g := gb131) (o := .cells #[.int .i64 a0_0, .string a0_1, .string a0_2, .int .i64 a0_3, .int .i64 a0_4, .int .i64 a0_5, .int .i64 a0_6, .int .i64 a0_7, .int .i64 a0_8, .string a0_9, .string a0_10, .int .i64 a0_11, .int .i64 a0_12, .slice A0_13 l0_13.length c0_13, .slice A0_14 l0_14.length c0_14] 48 (0, 0)) (by (with_reducible repeat (first | refine blk_drewN ?_ _ | refine blk_drew ?_ | refine blk_alloc ?_ _)); exact BK131.out) hb); have n1_ := Aside0.mk (blk_below (g := gb132) (o := .cells #[.int .i64 a1_0, .string a1_1, .string a1_2, .int .i64 a1_3, .int .i64 a1_4, .int .i64 a1_5, .int .i64 a1_6, .int .i64 a1_7, .int .i64 a1_8, .string a1_9, .string a1_10, .int .i64 a1_11, .int .i64 a1_12, .slice A1_13 l1_13.length c1_13, .slice A1_14 l1_14.length c1_14] 48 (0, 0)) (by (with_reducible repeat (first | refine blk_drewN ?_ _ | refine blk_drew ?_ | refine blk_alloc ?_ _)); exact BK132.out) hb); have n2_ := Aside0.mk (below_step (by repeat (first | (with_reducible first | exact HB.out | apply below_alloc | apply pw_below_drewN | apply below_drew1 | refine below_set ?_ GE131.out | refine below_set ?_ GE132.out) | exact HB.out)) hb); clear BK131; clear BK132; clear HB; have BK131 := n0_; have BK132 := n1_; have HB := n2_; clear n0_ n1_ n2_; (try clear hb); (try clear hb2); (try clear hk); (try clear hi)))
    go_ret
    exact ⟨by first | rfl | (simp [errW_none, errW_some] <;> rfl) | (simp [*, errW_none, errW_some] <;> rfl), by repeat (first | (with_reducible first | exact HB.out | apply below_alloc | apply pw_below_drewN | apply below_drew1 | refine below_set ?_ GE131.out | refine below_set ?_ GE132.out) | exact HB.out)⟩

/-! ### slices_Clone_api_Pair_api_Pair: function 38 -/
-- rounds: no
-- making: yes
-- import Derived.Lib.SliceRun
-- info: 55
def slices_Clone_api_Pair_api_Pair.f (l0 : List S55) : Option (List S55) := if l0.length < 4398046511104 then some l0 else none
set_option maxHeartbeats 1000000 in
theorem slices_Clone_api_Pair_api_Pair.calls (A0 : Option Addr) (c0 : Nat) (l0 : List S55) (r : List S55) (w : World) (hr0 : Kd.C k55 w A0 l0.length l0) (hc0 : l0.length ≤ c0) (h : slices_Clone_api_Pair_api_Pair.f l0 = some r) :
    Calls Try.prog 38 #[.slice A0 l0.length c0] w fun e w' => ∃ v0_ : Value, e = .returned (v0_) ∧ Kd.R k55 55 w' w.heap.size (fun _ => True) v0_ r ∧ Below w.heap.size w w' := by
  have hnil := fun (W : World) (a : Option Addr) (n c : Nat) => Go.Lib.run_eql_slice_nil (P := Try.prog) W 44 55 a n c 0 0 Try.underlying44
  unfold slices_Clone_api_Pair_api_Pair.f at h
  by_cases hl : l0.length < 4398046511104
  · rw [if_pos hl] at h
    obtain rfl := Option.some.inj h
    have HR := Aside0.mk hr0
    have HL := Aside0.mk hl
    clear h hl hc0
    cases A0 with
    | none =>
      have h0 : l0 = [] := by
        rcases Nat.eq_zero_or_pos l0.length with h0 | h0
        · exact List.eq_nil_of_length_eq_zero h0
        · obtain ⟨ad, e, _⟩ := hr0.2.2 h0; cases e
      clear hr0
      subst h0
      go_enter Try.func38, Try.ntmps38
      go_wp2
      go_ret
      exact ⟨_, rfl, Kd.R_nil _ _ _ _ _, Below.refl _ _⟩
    | some ad =>
      clear hr0
      go_enter Try.func38, Try.ntmps38
      go_wp2_with ((with_reducible refine gate_builtin (b := .append) (xs := #[.tmp 5, .tmp 6]) rfl ?_); at_builtin; refine Kd.R_append_rows k55 (Rr := Kd.K k55 (w.alloc (.cells #[] 55))) (w0 := w) w.heap.size rfl (.tmp 5) (.tmp 6) 44 55 (.agg #[(.string ⟨#[]⟩), (.string ⟨#[]⟩)]) 32 rfl Try.underlying44 info55 rfl (by decide) (by omega) (.slice (some ⟨w.heap.size, 0, none⟩) 0 0) [] l0 (some ad) l0.length c0 (fun _ => True) (fun _ => False) rfl rfl ?aO ?aR ?aK (fun _ hk => hk.elim) (fun _ _ => trivial) ?aB ?aS ?aL ?_; (case aO => exact ⟨fun _ _ => trivial, [], by simpa using World.ownsRow_lit (base := w.heap.size) (e := 55) (size := Kd.sz k55) w #[] 0 (Nat.le_refl _) (by simp [maxLen]) (by simp), ⟨by simp, fun j p hp => by simp at hp⟩⟩); (case aR => exact Kd.C_alloc HR.out _); (case aK => exact fun x cs hk => by obtain rfl := k55_open hk; exact k55_mkM _ _ _ x); (case aB => exact (Below.refl _ _).alloc (Nat.le_refl _) _); (case aS => simp); (case aL => have := HL.out; simp; omega); intro v1 w1 ho hb hg hat; have HO := Aside0.mk ho; have HB := Aside0.mk hb; clear ho hb hg hat)
      go_ret
      exact ⟨_, rfl, HO.out, HB.out⟩
  · rw [if_neg hl] at h; cases h

/-! ### slices_Clone_byte_byte: function 39 -/
-- rounds: no
-- making: yes
-- import Derived.Lib.SliceRun
-- info: 5
def slices_Clone_byte_byte.f (l0 : List Int) : Option (List Int) := if l0.length < 140737488355328 then some l0 else none
set_option maxHeartbeats 1000000 in
theorem slices_Clone_byte_byte.calls (A0 : Option Addr) (c0 : Nat) (l0 : List Int) (r : List Int) (w : World) (hr0 : Kd.C (Kd.int .u8) w A0 l0.length l0) (hc0 : l0.length ≤ c0) (h : slices_Clone_byte_byte.f l0 = some r) :
    Calls Try.prog 39 #[.slice A0 l0.length c0] w fun e w' => ∃ v0_ : Value, e = .returned (v0_) ∧ Kd.R (Kd.int .u8) 5 w' w.heap.size (fun _ => True) v0_ r ∧ Below w.heap.size w w' := by
  have hnil := fun (W : World) (a : Option Addr) (n c : Nat) => Go.Lib.run_eql_slice_nil (P := Try.prog) W 22 5 a n c 0 0 Try.underlying22
  unfold slices_Clone_byte_byte.f at h
  by_cases hl : l0.length < 140737488355328
  · rw [if_pos hl] at h
    obtain rfl := Option.some.inj h
    have HR := Aside0.mk hr0
    have HL := Aside0.mk hl
    clear h hl hc0
    cases A0 with
    | none =>
      have h0 : l0 = [] := by
        rcases Nat.eq_zero_or_pos l0.length with h0 | h0
        · exact List.eq_nil_of_length_eq_zero h0
        · obtain ⟨ad, e, _⟩ := hr0.2.2 h0; cases e
      clear hr0
      subst h0
      go_enter Try.func39, Try.ntmps39
      go_wp2
      go_ret
      exact ⟨_, rfl, Kd.R_nil _ _ _ _ _, Below.refl _ _⟩
    | some ad =>
      clear hr0
      go_enter Try.func39, Try.ntmps39
      go_wp2_with ((with_reducible refine gate_builtin (b := .append) (xs := #[.tmp 5, .tmp 6]) rfl ?_); at_builtin; refine Kd.R_append_rows (Kd.int .u8) (Rr := Kd.K (Kd.int .u8) (w.alloc (.cells #[] 5))) (w0 := w) w.heap.size rfl (.tmp 5) (.tmp 6) 22 5 (.int .u8 0) 1 rfl Try.underlying22 info5 rfl (by decide) (by omega) (.slice (some ⟨w.heap.size, 0, none⟩) 0 0) [] l0 (some ad) l0.length c0 (fun _ => True) (fun _ => False) rfl rfl ?aO ?aR ?aK (fun _ hk => hk.elim) (fun _ _ => trivial) ?aB ?aS ?aL ?_; (case aO => exact ⟨fun _ _ => trivial, [], by simpa using World.ownsRow_lit (base := w.heap.size) (e := 5) (size := Kd.sz (Kd.int .u8)) w #[] 0 (Nat.le_refl _) (by simp [maxLen]) (by simp), ⟨by simp, fun j p hp => by simp at hp⟩⟩); (case aR => exact Kd.C_alloc HR.out _); (case aK => exact fun x cs hk => hk); (case aB => exact (Below.refl _ _).alloc (Nat.le_refl _) _); (case aS => simp); (case aL => have := HL.out; simp; omega); intro v1 w1 ho hb hg hat; have HO := Aside0.mk ho; have HB := Aside0.mk hb; clear ho hb hg hat)
      go_ret
      exact ⟨_, rfl, HO.out, HB.out⟩
  · rw [if_neg hl] at h; cases h

/-! ### item_Copy: function 24 -/
def item_Copy.f (a0_0 : Int) (a0_1 : ByteArray) (a0_2 : ByteArray) (a0_3 : Int) (a0_4 : Int) (a0_5 : Int) (a0_6 : Int) (a0_7 : Int) (a0_8 : Int) (a0_9 : ByteArray) (a0_10 : ByteArray) (a0_11 : Int) (a0_12 : Int) (l0_13 : List (S55)) (l0_14 : List Int) : Option (Int × ByteArray × ByteArray × Int × Int × Int × Int × Int × Int × ByteArray × ByteArray × Int × Int × (List (S55)) × List Int) := (slices_Clone_api_Pair_api_Pair.f l0_13).bind fun t137 => ((slices_Clone_byte_byte.f l0_14).bind fun t140 => (some (a0_0, a0_1, a0_2, a0_3, a0_4, a0_5, a0_6, a0_7, a0_8, a0_9, a0_10, a0_11, a0_12, t137, t140)))
def item_Copy.T1 : Bool × List (List Nat × List Nat) := (true, [([], []), ([0], [0]), ([1], [1]), ([2], [2]), ([], []), ([4], [4]), ([5, 3], [5]), ([0, 1, 2, 3, 4, 5], []), ([7, 0, 1, 2, 3, 4, 5], [7]), ([8, 3, 6, 0, 1, 2, 3, 4, 5], [3, 8]), ([0, 1, 2, 3, 4, 5, 6, 7, 8, 9], []), ([10, 6, 9, 0, 1, 2, 3, 4, 5, 6, 7, 8, 9], [6, 10])])
def item_Copy.B1 : List Nat := [0, 1, 3, 7, 0, 16, 63, 63, 191, 511, 1023, 2047]
theorem item_Copy.tab1 : rtab .any (opsOf Try.f24 1) = item_Copy.T1 := by kernel_rfl
theorem item_Copy.bits1 : waitsOk item_Copy.T1.2 item_Copy.B1 = true := by kernel_rfl
set_option maxHeartbeats 8000000 in
set_option maxRecDepth 100000 in
theorem item_Copy.calls (a0_0 : Int) (a0_1 : ByteArray) (a0_2 : ByteArray) (a0_3 : Int) (a0_4 : Int) (a0_5 : Int) (a0_6 : Int) (a0_7 : Int) (a0_8 : Int) (a0_9 : ByteArray) (a0_10 : ByteArray) (a0_11 : Int) (a0_12 : Int) (A0_13 : Option Addr) (c0_13 : Nat) (l0_13 : List (S55)) (A0_14 : Option Addr) (c0_14 : Nat) (l0_14 : List Int) (r1 : Int) (r2 : ByteArray) (r3 : ByteArray) (r4 : Int) (r5 : Int) (r6 : Int) (r7 : Int) (r8 : Int) (r9 : Int) (r10 : ByteArray) (r11 : ByteArray) (r12 : Int) (r13 : Int) (r14 : List (S55)) (r15 : List Int) (w : World) (hr0_13 : Kd.C k55 w A0_13 l0_13.length l0_13) (hc0_13 : l0_13.length ≤ c0_13) (hr0_14 : Kd.C (Kd.int .u8) w A0_14 l0_14.length l0_14) (hc0_14 : l0_14.length ≤ c0_14) (h : item_Copy.f a0_0 a0_1 a0_2 a0_3 a0_4 a0_5 a0_6 a0_7 a0_8 a0_9 a0_10 a0_11 a0_12 l0_13 l0_14 = some (r1, r2, r3, r4, r5, r6, r7, r8, r9, r10, r11, r12, r13, r14, r15)) :
    Calls Try.prog 24 #[.agg #[.int .i64 a0_0, .string a0_1, .string a0_2, .int .i64 a0_3, .int .i64 a0_4, .int .i64 a0_5, .int .i64 a0_6, .int .i64 a0_7, .int .i64 a0_8, .string a0_9, .string a0_10, .int .i64 a0_11, .int .i64 a0_12, .slice A0_13 l0_13.length c0_13, .slice A0_14 l0_14.length c0_14]] w fun e w' => ∃ v13_ v14_ : Value, e = .returned (.agg #[.int .i64 r1, .string r2, .string r3, .int .i64 r4, .int .i64 r5, .int .i64 r6, .int .i64 r7, .int .i64 r8, .int .i64 r9, .string r10, .string r11, .int .i64 r12, .int .i64 r13, v13_, v14_]) ∧ Kd.R k55 55 w' w.heap.size (fun _ => True) v13_ r14 ∧ Kd.R (Kd.int .u8) 5 w' w.heap.size (fun _ => True) v14_ r15 ∧ Below w.heap.size w w' := by
  have hu48 := Try.underlying48
  have HR0_13 := Aside0.mk hr0_13
  have HC0_13 := Aside0.mk hc0_13
  clear hr0_13 hc0_13
  have HR0_14 := Aside0.mk hr0_14
  have HC0_14 := Aside0.mk hc0_14
  clear hr0_14 hc0_14
  have HB := Aside0.mk (Below.refl w.heap.size w)
  have H : ((slices_Clone_api_Pair_api_Pair.f l0_13).bind fun t137 => ((slices_Clone_byte_byte.f l0_14).bind fun t140 => (some (a0_0, a0_1, a0_2, a0_3, a0_4, a0_5, a0_6, a0_7, a0_8, a0_9, a0_10, a0_11, a0_12, t137, t140)))) = some (r1, r2, r3, r4, r5, r6, r7, r8, r9, r10, r11, r12, r13, r14, r15) := h
  clear h
  replace H := Option.bind_eq_some_iff.mp H
  obtain ⟨t137, A20, H⟩ := H
  replace H : ((slices_Clone_byte_byte.f l0_14).bind fun t140 => (some (a0_0, a0_1, a0_2, a0_3, a0_4, a0_5, a0_6, a0_7, a0_8, a0_9, a0_10, a0_11, a0_12, t137, t140))) = some (r1, r2, r3, r4, r5, r6, r7, r8, r9, r10, r11, r12, r13, r14, r15) := H
  have A2 := Aside0.mk A20
  clear A20
  replace H := Option.bind_eq_some_iff.mp H
  obtain ⟨t140, A30, H⟩ := H
  replace H : (some (a0_0, a0_1, a0_2, a0_3, a0_4, a0_5, a0_6, a0_7, a0_8, a0_9, a0_10, a0_11, a0_12, t137, t140)) = some (r1, r2, r3, r4, r5, r6, r7, r8, r9, r10, r11, r12, r13, r14, r15) := H
  have A3 := Aside0.mk A30
  clear A30
  simp only [Option.some.injEq, Prod.mk.injEq] at H
  obtain ⟨rfl, rfl, rfl, rfl, rfl, rfl, rfl, rfl, rfl, rfl, rfl, rfl, rfl, rfl, rfl⟩ := H
  go_enter Try.func24, Try.ntmps24
  try go_wp2_with (first | ((with_reducible refine gate_dst (N := 1) rfl ?_); refine box_event ?hg (N := 1) ?hd (cs := #[.int .i64 a0_0, .string a0_1, .string a0_2, .int .i64 a0_3, .int .i64 a0_4, .int .i64 a0_5, .int .i64 a0_6, .int .i64 a0_7, .int .i64 a0_8, .string a0_9, .string a0_10, .int .i64 a0_11, .int .i64 a0_12, .slice A0_13 l0_13.length c0_13, .slice A0_14 l0_14.length c0_14]) (t := 48) ?hr ?_; (case hd => rfl); (case hg => rfl); (case hr => first | (go_simp; done) | (go_simp; rfl)); intro gb135 hg w4 hbox hb; have n0_ := Aside0.mk (below_step (by repeat (first | (with_reducible first | exact HB.out | apply below_alloc | apply pw_below_drewN | apply below_drew1) | exact HB.out)) hb); have n1_ := Aside0.mk (hbox); have n2_ := Aside0.mk ((by rw [hg]; exact (below_size (by repeat (first | (with_reducible first | exact HB.out | apply below_alloc | apply pw_below_drewN | apply below_drew1) | exact HB.out))) : w.heap.size ≤ gb135)); have n3_ := Aside0.mk ((by rw [hg]; exact (below_size (by repeat (first | (with_reducible first | exact HB.out | apply below_alloc | apply pw_below_drewN | apply below_drew1) | exact HB.out))) : w.heap.size ≤ gb135)); clear HB; have HB := n0_; have BK135 := n1_; have GW135 := n2_; have GE135 := n3_; clear n0_ n1_ n2_ n3_; clear hb hbox hg) | ((with_reducible refine gate_dst (N := 2) rfl ?_); refine box_event ?hg (N := 2) ?hd (cs := #[.int .i64 0, .string (⟨#[]⟩ : ByteArray), .string (⟨#[]⟩ : ByteArray), .int .i64 0, .int .i64 0, .int .i64 0, .int .i64 0, .int .i64 0, .int .i64 0, .string (⟨#[]⟩ : ByteArray), .string (⟨#[]⟩ : ByteArray), .int .i64 0, .int .i64 0, .slice none 0 0, .slice none 0 0]) (t := 48) ?hr ?_; (case hd => rfl); (case hg => rfl); (case hr => first | (go_simp; done) | (go_simp; rfl)); intro gb136 hg w5 hbox hb; have n0_ := Aside0.mk (blk_below (g := gb135) (o := .cells #[.int .i64 a0_0, .string a0_1, .string a0_2, .int .i64 a0_3, .int .i64 a0_4, .int .i64 a0_5, .int .i64 a0_6, .int .i64 a0_7, .int .i64 a0_8, .string a0_9, .string a0_10, .int .i64 a0_11, .int .i64 a0_12, .slice A0_13 l0_13.length c0_13, .slice A0_14 l0_14.length c0_14] 48 (0, 0)) (by (with_reducible repeat (first | refine blk_drewN ?_ _ | refine blk_drew ?_ | refine blk_alloc ?_ _)); exact BK135.out) hb); have n1_ := Aside0.mk (below_step (by repeat (first | (with_reducible first | exact HB.out | apply below_alloc | apply pw_below_drewN | apply below_drew1 | refine below_set ?_ GE135.out) | exact HB.out)) hb); have n2_ := Aside0.mk (hbox); have n3_ := Aside0.mk ((by rw [hg]; exact (below_size (by repeat (first | (with_reducible first | exact HB.out | apply below_alloc | apply pw_below_drewN | apply below_drew1 | refine below_set ?_ GE135.out) | exact HB.out))) : w.heap.size ≤ gb136)); have n4_ := Aside0.mk ((by rw [hg]; exact (below_size (by repeat (first | (with_reducible first | exact HB.out | apply below_alloc | apply pw_below_drewN | apply below_drew1 | refine below_set ?_ GE135.out) | exact HB.out))) : w.heap.size ≤ gb136)); have n5_ := Aside0.mk ((by rw [hg]; exact Nat.ne_of_lt (blk_lt (g := gb135) (o := .cells #[.int .i64 a0_0, .string a0_1, .string a0_2, .int .i64 a0_3, .int .i64 a0_4, .int .i64 a0_5, .int .i64 a0_6, .int .i64 a0_7, .int .i64 a0_8, .string a0_9, .string a0_10, .int .i64 a0_11, .int .i64 a0_12, .slice A0_13 l0_13.length c0_13, .slice A0_14 l0_14.length c0_14] 48 (0, 0)) (by (with_reducible repeat (first | refine blk_drewN ?_ _ | refine blk_drew ?_ | refine blk_alloc ?_ _)); exact BK135.out)) : gb135 ≠ gb136)); have n6_ := Aside0.mk ((by rw [hg]; exact Nat.ne_of_gt (blk_lt (g := gb135) (o := .cells #[.int .i64 a0_0, .string a0_1, .string a0_2, .int .i64 a0_3, .int .i64 a0_4, .int .i64 a0_5, .int .i64 a0_6, .int .i64 a0_7, .int .i64 a0_8, .string a0_9, .string a0_10, .int .i64 a0_11, .int .i64 a0_12, .slice A0_13 l0_13.length c0_13, .slice A0_14 l0_14.length c0_14] 48 (0, 0)) (by (with_reducible repeat (first | refine blk_drewN ?_ _ | refine blk_drew ?_ | refine blk_alloc ?_ _)); exact BK135.out)) : gb136 ≠ gb135)); clear BK135; clear HB; have BK135 := n0_; have HB := n1_; have BK136 := n2_; have GW136 := n3_; have GE136 := n4_; have NB135_136 := n5_; have NB136_135 := n6_; clear n0_ n1_ n2_ n3_ n4_ n5_ n6_; clear hb hbox hg))
  have n0_ := Aside0.mk (blk_drew BK135.out)
  have n1_ := Aside0.mk (blk_drew BK136.out)
  have n2_ := Aside0.mk (below_drew1 HB.out)
  clear BK135
  clear BK136
  clear HB
  have BK135 := n0_
  have BK136 := n1_
  have HB := n2_
  clear n0_ n1_ n2_
  refine start_ (n := 12) (S := fun w' => w'.cell? ⟨gb135, 0, none⟩ = some (.int .i64 a0_0) ∧ w'.cell? ⟨gb135, 1, none⟩ = some (.string a0_1) ∧ w'.cell? ⟨gb135, 2, none⟩ = some (.string a0_2) ∧ w'.cell? ⟨gb135, 3, none⟩ = some (.int .i64 a0_3) ∧ w'.cell? ⟨gb135, 4, none⟩ = some (.int .i64 a0_4) ∧ w'.cell? ⟨gb135, 5, none⟩ = some (.int .i64 a0_5) ∧ w'.cell? ⟨gb135, 6, none⟩ = some (.int .i64 a0_6) ∧ w'.cell? ⟨gb135, 7, none⟩ = some (.int .i64 a0_7) ∧ w'.cell? ⟨gb135, 8, none⟩ = some (.int .i64 a0_8) ∧ w'.cell? ⟨gb135, 9, none⟩ = some (.string a0_9) ∧ w'.cell? ⟨gb135, 10, none⟩ = some (.string a0_10) ∧ w'.cell? ⟨gb135, 11, none⟩ = some (.int .i64 a0_11) ∧ w'.cell? ⟨gb135, 12, none⟩ = some (.int .i64 a0_12) ∧ w'.cell? ⟨gb135, 13, none⟩ = some (.slice A0_13 l0_13.length c0_13) ∧ w'.cell? ⟨gb135, 14, none⟩ = some (.slice A0_14 l0_14.length c0_14)) (ds := [9, 11]) #[false, false, false, false, false, false, false, false, false, false, false, false] (by kernel_rfl) rfl rfl ⟨(blk_cell BK135.out 0).trans rfl, (blk_cell BK135.out 1).trans rfl, (blk_cell BK135.out 2).trans rfl, (blk_cell BK135.out 3).trans rfl, (blk_cell BK135.out 4).trans rfl, (blk_cell BK135.out 5).trans rfl, (blk_cell BK135.out 6).trans rfl, (blk_cell BK135.out 7).trans rfl, (blk_cell BK135.out 8).trans rfl, (blk_cell BK135.out 9).trans rfl, (blk_cell BK135.out 10).trans rfl, (blk_cell BK135.out 11).trans rfl, (blk_cell BK135.out 12).trans rfl, (blk_cell BK135.out 13).trans rfl, (blk_cell BK135.out 14).trans rfl⟩ (fun hHeld => ?_); refine with_tabW item_Copy.tab1 item_Copy.bits1 (fun HT_ HW_ => ?_)
  generalize w5.drew = w6 at BK135 BK136 HB hHeld ⊢
  refine pure_ (i := 0) (N := some 3) (v := ?_) (a' := ?_) #[true, false, false, false, false, false, false, false, false, false, false, false] rfl rfl (any_of HT_.out (by kernel_rfl)) (fun _ _ _ h => h) (Or.inl ⟨by rfl, ?_⟩) ?_ ?_
  rotate_left
  · intro w'
    go_simp
    with_reducible rfl
  rotate_left
  · simp only [Act.put, List.setIfInBounds_toArray, List.set_cons_zero, List.set_cons_succ, i64_w, i32_w]
    rfl
  refine pure_ (i := 1) (N := some 4) (v := ?_) (a' := ?_) #[true, true, false, false, false, false, false, false, false, false, false, false] rfl rfl (any_of HT_.out (by kernel_rfl)) (fun _ _ _ h => h) (Or.inl ⟨by rfl, ?_⟩) ?_ ?_
  rotate_left
  · intro w'
    go_simp
    with_reducible rfl
  rotate_left
  · simp only [Act.put, List.setIfInBounds_toArray, List.set_cons_zero, List.set_cons_succ, i64_w, i32_w]
    rfl
  refine pure_ (i := 4) (N := some 7) (v := ?_) (a' := ?_) #[true, true, false, false, true, false, false, false, false, false, false, false] rfl rfl (any_of HT_.out (by kernel_rfl)) (fun _ _ _ h => h) (Or.inl ⟨by rfl, ?_⟩) ?_ ?_
  rotate_left
  · intro w'
    go_simp
    with_reducible rfl
  rotate_left
  · simp only [Act.put, List.setIfInBounds_toArray, List.set_cons_zero, List.set_cons_succ, i64_w, i32_w]
    rfl
  refine take_ (i := 2) (N := some 5) (v := ?_) (a' := ?_) #[true, true, true, false, true, false, false, false, false, false, false, false] rfl rfl (take_ofW HT_.out HW_.out (by kernel_rfl)) (fun _ _ _ h => h) (Or.inl ⟨by rfl, ?_⟩) hHeld ?_ ?_
  rotate_left
  · rintro w' ⟨s0, s1, s2, s3, s4, s5, s6, s7, s8, s9, s10, s11, s12, s13, s14⟩
    go_simp
    with_reducible rfl
  rotate_left
  · simp only [Act.put, List.setIfInBounds_toArray, List.set_cons_zero, List.set_cons_succ, i64_w, i32_w]
    rfl
  refine take_ (i := 5) (N := some 8) (v := ?_) (a' := ?_) #[true, true, true, false, true, true, false, false, false, false, false, false] rfl rfl (take_ofW HT_.out HW_.out (by kernel_rfl)) (fun _ _ _ h => h) (Or.inl ⟨by rfl, ?_⟩) hHeld ?_ ?_
  rotate_left
  · rintro w' ⟨s0, s1, s2, s3, s4, s5, s6, s7, s8, s9, s10, s11, s12, s13, s14⟩
    go_simp
    with_reducible rfl
  rotate_left
  · simp only [Act.put, List.setIfInBounds_toArray, List.set_cons_zero, List.set_cons_succ, i64_w, i32_w]
    rfl
  refine one_ (i := 3) (N := some 6) #[true, true, true, true, true, true, false, false, false, false, false, false] rfl rfl (one_of HT_.out (by kernel_rfl)) (by decide) (fun K hK => ?_)
  refine goes_ Try.func38 (by kernel_rfl) rfl #[.slice A0_13 l0_13.length c0_13] (by rfl) rfl rfl (by (try simp only [List.map_toArray, List.map_cons, List.map_nil]); first | done | rfl | (simp only [List.length_drop, List.length_take]; rfl)) ?_
  with_reducible refine (slices_Clone_api_Pair_api_Pair.calls _ _ l0_13 t137 _ ?side1 ?side2 A2.out).mono ?_
  (case side1 => repeat (first | exact (Kd.C_below HR0_13.out HB.out) | (with_reducible refine Kd.C_alloc ?_ _) | (with_reducible refine Kd.C_drewN ?_ _) | (with_reducible refine Kd.C_drew ?_)))
  (case side2 => exact HC0_13.out)
  rintro e w7 ⟨v138, rfl, ho0, hb⟩
  refine ⟨_, rfl, ?_⟩
  have n0_ := Aside0.mk (Kd.R_lower ho0 (below_size (by repeat (first | (with_reducible first | exact HB.out | apply below_alloc | apply pw_below_drewN | apply below_drew1 | refine below_set ?_ GE135.out | refine below_set ?_ GE136.out) | exact HB.out))))
  have n1_ := Aside0.mk (blk_below (g := gb135) (o := .cells #[.int .i64 a0_0, .string a0_1, .string a0_2, .int .i64 a0_3, .int .i64 a0_4, .int .i64 a0_5, .int .i64 a0_6, .int .i64 a0_7, .int .i64 a0_8, .string a0_9, .string a0_10, .int .i64 a0_11, .int .i64 a0_12, .slice A0_13 l0_13.length c0_13, .slice A0_14 l0_14.length c0_14] 48 (0, 0)) (by (with_reducible repeat (first | refine blk_drewN ?_ _ | refine blk_drew ?_ | refine blk_alloc ?_ _)); exact BK135.out) hb)
  have n2_ := Aside0.mk (blk_below (g := gb136) (o := .cells #[.int .i64 0, .string (⟨#[]⟩ : ByteArray), .string (⟨#[]⟩ : ByteArray), .int .i64 0, .int .i64 0, .int .i64 0, .int .i64 0, .int .i64 0, .int .i64 0, .string (⟨#[]⟩ : ByteArray), .string (⟨#[]⟩ : ByteArray), .int .i64 0, .int .i64 0, .slice none 0 0, .slice none 0 0] 48 (0, 0)) (by (with_reducible repeat (first | refine blk_drewN ?_ _ | refine blk_drew ?_ | refine blk_alloc ?_ _)); exact BK136.out) hb)
  have n3_ := Aside0.mk (below_step (by repeat (first | (with_reducible first | exact HB.out | apply below_alloc | apply pw_below_drewN | apply below_drew1 | refine below_set ?_ GE135.out | refine below_set ?_ GE136.out) | exact HB.out)) hb)
  clear BK135
  clear BK136
  clear HB
  have HO139 := n0_
  have BK135 := n1_
  have BK136 := n2_
  have HB := n3_
  clear n0_ n1_ n2_ n3_
  (try clear hb)
  (try clear hb2)
  (try clear hk)
  (try clear hi)
  (try clear ho0)
  refine hK.out _ _ ⟨(blk_cell BK135.out 0).trans rfl, (blk_cell BK135.out 1).trans rfl, (blk_cell BK135.out 2).trans rfl, (blk_cell BK135.out 3).trans rfl, (blk_cell BK135.out 4).trans rfl, (blk_cell BK135.out 5).trans rfl, (blk_cell BK135.out 6).trans rfl, (blk_cell BK135.out 7).trans rfl, (blk_cell BK135.out 8).trans rfl, (blk_cell BK135.out 9).trans rfl, (blk_cell BK135.out 10).trans rfl, (blk_cell BK135.out 11).trans rfl, (blk_cell BK135.out 12).trans rfl, (blk_cell BK135.out 13).trans rfl, (blk_cell BK135.out 14).trans rfl⟩ (fun hHeld => ?_)
  clear hK K
  refine norm_ (a' := ?_) ?_ ?_
  rotate_left
  · show Act.put _ (some 6) _ = _
    simp only [Act.put, List.setIfInBounds_toArray, List.set_cons_zero, List.set_cons_succ, i64_w, i32_w]
    rfl
  refine pure_ (i := 7) (N := some 10) (v := ?_) (a' := ?_) #[true, true, true, true, true, true, false, true, false, false, false, false] rfl rfl (any_of HT_.out (by kernel_rfl)) (fun _ _ _ h => h) (Or.inl ⟨by rfl, ?_⟩) ?_ ?_
  rotate_left
  · intro w'
    go_simp
    with_reducible rfl
  rotate_left
  · simp only [Act.put, List.setIfInBounds_toArray, List.set_cons_zero, List.set_cons_succ, i64_w, i32_w]
    rfl
  refine pure_ (i := 8) (N := some 11) (v := ?_) (a' := ?_) #[true, true, true, true, true, true, false, true, true, false, false, false] rfl rfl (any_of HT_.out (by kernel_rfl)) (fun _ _ _ h => h) (Or.inl ⟨by rfl, ?_⟩) ?_ ?_
  rotate_left
  · intro w'
    go_simp
    with_reducible rfl
  rotate_left
  · simp only [Act.put, List.setIfInBounds_toArray, List.set_cons_zero, List.set_cons_succ, i64_w, i32_w]
    rfl
  refine one_ (i := 6) (N := some 9) #[true, true, true, true, true, true, true, true, true, false, false, false] rfl rfl (one_of HT_.out (by kernel_rfl)) (by decide) (fun K hK => ?_)
  refine goes_ Try.func39 (by kernel_rfl) rfl #[.slice A0_14 l0_14.length c0_14] (by rfl) rfl rfl (by (try simp only [List.map_toArray, List.map_cons, List.map_nil]); first | done | rfl | (simp only [List.length_drop, List.length_take]; rfl)) ?_
  with_reducible refine (slices_Clone_byte_byte.calls _ _ l0_14 t140 _ ?side1 ?side2 A3.out).mono ?_
  (case side1 => repeat (first | exact (Kd.C_below HR0_14.out HB.out) | (with_reducible refine Kd.C_alloc ?_ _) | (with_reducible refine Kd.C_drewN ?_ _) | (with_reducible refine Kd.C_drew ?_)))
  (case side2 => exact HC0_14.out)
  rintro e w8 ⟨v141, rfl, ho0, hb⟩
  refine ⟨_, rfl, ?_⟩
  have n0_ := Aside0.mk (Kd.R_below (by (with_reducible repeat (first | apply Kd.R_alloc | apply Kd.R_drewN | apply Kd.R_drew)); exact HO139.out) hb)
  have n1_ := Aside0.mk (Kd.R_lower ho0 (below_size (by repeat (first | (with_reducible first | exact HB.out | apply below_alloc | apply pw_below_drewN | apply below_drew1 | refine below_set ?_ GE135.out | refine below_set ?_ GE136.out) | exact HB.out))))
  have n2_ := Aside0.mk (blk_below (g := gb135) (o := .cells #[.int .i64 a0_0, .string a0_1, .string a0_2, .int .i64 a0_3, .int .i64 a0_4, .int .i64 a0_5, .int .i64 a0_6, .int .i64 a0_7, .int .i64 a0_8, .string a0_9, .string a0_10, .int .i64 a0_11, .int .i64 a0_12, .slice A0_13 l0_13.length c0_13, .slice A0_14 l0_14.length c0_14] 48 (0, 0)) (by (with_reducible repeat (first | refine blk_drewN ?_ _ | refine blk_drew ?_ | refine blk_alloc ?_ _)); exact BK135.out) hb)
  have n3_ := Aside0.mk (blk_below (g := gb136) (o := .cells #[.int .i64 0, .string (⟨#[]⟩ : ByteArray), .string (⟨#[]⟩ : ByteArray), .int .i64 0, .int .i64 0, .int .i64 0, .int .i64 0, .int .i64 0, .int .i64 0, .string (⟨#[]⟩ : ByteArray), .string (⟨#[]⟩ : ByteArray), .int .i64 0, .int .i64 0, .slice none 0 0, .slice none 0 0] 48 (0, 0)) (by (with_reducible repeat (first | refine blk_drewN ?_ _ | refine blk_drew ?_ | refine blk_alloc ?_ _)); exact BK136.out) hb)
  have n4_ := Aside0.mk (below_step (by repeat (first | (with_reducible first | exact HB.out | apply below_alloc | apply pw_below_drewN | apply below_drew1 | refine below_set ?_ GE135.out | refine below_set ?_ GE136.out) | exact HB.out)) hb)
  clear HO139
  clear BK135
  clear BK136
  clear HB
  have HO139 := n0_
  have HO142 := n1_
  have BK135 := n2_
  have BK136 := n3_
  have HB := n4_
  clear n0_ n1_ n2_ n3_ n4_
  (try clear hb)
  (try clear hb2)
  (try clear hk)
  (try clear hi)
  (try clear ho0)
  obtain ⟨Ao9, co9, eo9⟩ := Kd.R_slice HO139.out
  (first | subst eo9 | (injection eo9 with f1_ f2_ f3_; have f4_ := f1_.symm; have f5_ := f3_.symm; clear f1_ f2_ f3_; subst f4_; subst f5_))
  obtain ⟨Ao11, co11, eo11⟩ := Kd.R_slice HO142.out
  (first | subst eo11 | (injection eo11 with f1_ f2_ f3_; have f4_ := f1_.symm; have f5_ := f3_.symm; clear f1_ f2_ f3_; subst f4_; subst f5_))
  refine hK.out _ _ ⟨(blk_cell BK135.out 0).trans rfl, (blk_cell BK135.out 1).trans rfl, (blk_cell BK135.out 2).trans rfl, (blk_cell BK135.out 3).trans rfl, (blk_cell BK135.out 4).trans rfl, (blk_cell BK135.out 5).trans rfl, (blk_cell BK135.out 6).trans rfl, (blk_cell BK135.out 7).trans rfl, (blk_cell BK135.out 8).trans rfl, (blk_cell BK135.out 9).trans rfl, (blk_cell BK135.out 10).trans rfl, (blk_cell BK135.out 11).trans rfl, (blk_cell BK135.out 12).trans rfl, (blk_cell BK135.out 13).trans rfl, (blk_cell BK135.out 14).trans rfl⟩ (fun hHeld => ?_)
  clear hK K
  refine norm_ (a' := ?_) ?_ ?_
  rotate_left
  · show Act.put _ (some 9) _ = _
    simp only [Act.put, List.setIfInBounds_toArray, List.set_cons_zero, List.set_cons_succ, i64_w, i32_w]
    rfl
  refine last_ (i := 9) (N := none) #[true, true, true, true, true, true, true, true, true, true, false, false] rfl rfl (one_of HT_.out (by kernel_rfl)) (by decide) (fun K hK => ?_)
  have hs10 : w8.cell? ⟨gb135, 13, none⟩ = some (.slice A0_13 l0_13.length c0_13) := (blk_cell BK135.out 13).trans rfl
  have hfs10 := blk_frozen BK135.out 13
  have hns10_1 := NB136_135.out
  have hms10_1 := NB135_136.out
  refine skip_ (w1 := ?_) (by rfl) rfl ?_ ?_
  rotate_left
  · go_simp
    rfl
  refine hK.out _ _ ?_
  clear hK K
  refine pure_ (i := 10) (N := some 12) (v := ?_) (a' := ?_) #[true, true, true, true, true, true, true, true, true, true, true, false] rfl rfl (any_of HT_.out (by kernel_rfl)) (fun _ _ _ h => h) (Or.inl ⟨by rfl, ?_⟩) ?_ ?_
  rotate_left
  · intro w'
    go_simp
    with_reducible rfl
  rotate_left
  · simp only [Act.put, List.setIfInBounds_toArray, List.set_cons_zero, List.set_cons_succ, i64_w, i32_w]
    rfl
  refine last_ (i := 11) (N := none) #[true, true, true, true, true, true, true, true, true, true, true, true] rfl rfl (one_of HT_.out (by kernel_rfl)) (by decide) (fun K hK => ?_)
  have hs12 : w8.cell? ⟨gb135, 14, none⟩ = some (.slice A0_14 l0_14.length c0_14) := (blk_cell BK135.out 14).trans rfl
  have hfs12 := blk_frozen BK135.out 14
  have hns12_1 := NB136_135.out
  have hms12_1 := NB135_136.out
  refine skip_ (w1 := ?_) (by rfl) rfl ?_ ?_
  rotate_left
  · go_simp
    rfl
  refine hK.out _ _ ?_
  clear hK K
  refine done_ (done_of HT_.out (by kernel_rfl)) ?_
  have hnb13 := NB135_136.out
  have hnc13 := NB136_135.out
  have hcz14_0 : w8.cell? ⟨gb135, 0, none⟩ = some (.int .i64 a0_0) := (blk_cell BK135.out 0).trans rfl
  have hcz14_1 : w8.cell? ⟨gb135, 1, none⟩ = some (.string a0_1) := (blk_cell BK135.out 1).trans rfl
  have hcz14_2 : w8.cell? ⟨gb135, 2, none⟩ = some (.string a0_2) := (blk_cell BK135.out 2).trans rfl
  have hcz14_3 : w8.cell? ⟨gb135, 3, none⟩ = some (.int .i64 a0_3) := (blk_cell BK135.out 3).trans rfl
  have hcz14_4 : w8.cell? ⟨gb135, 4, none⟩ = some (.int .i64 a0_4) := (blk_cell BK135.out 4).trans rfl
  have hcz14_5 : w8.cell? ⟨gb135, 5, none⟩ = some (.int .i64 a0_5) := (blk_cell BK135.out 5).trans rfl
  have hcz14_6 : w8.cell? ⟨gb135, 6, none⟩ = some (.int .i64 a0_6) := (blk_cell BK135.out 6).trans rfl
  have hcz14_7 : w8.cell? ⟨gb135, 7, none⟩ = some (.int .i64 a0_7) := (blk_cell BK135.out 7).trans rfl
  have hcz14_8 : w8.cell? ⟨gb135, 8, none⟩ = some (.int .i64 a0_8) := (blk_cell BK135.out 8).trans rfl
  have hcz14_9 : w8.cell? ⟨gb135, 9, none⟩ = some (.string a0_9) := (blk_cell BK135.out 9).trans rfl
  have hcz14_10 : w8.cell? ⟨gb135, 10, none⟩ = some (.string a0_10) := (blk_cell BK135.out 10).trans rfl
  have hcz14_11 : w8.cell? ⟨gb135, 11, none⟩ = some (.int .i64 a0_11) := (blk_cell BK135.out 11).trans rfl
  have hcz14_12 : w8.cell? ⟨gb135, 12, none⟩ = some (.int .i64 a0_12) := (blk_cell BK135.out 12).trans rfl
  have hcz14_13 : w8.cell? ⟨gb135, 13, none⟩ = some (.slice A0_13 l0_13.length c0_13) := (blk_cell BK135.out 13).trans rfl
  have hcz14_14 : w8.cell? ⟨gb135, 14, none⟩ = some (.slice A0_14 l0_14.length c0_14) := (blk_cell BK135.out 14).trans rfl
  have hfz14_0 := blk_frozen BK135.out 0
  have hfz14_1 := blk_frozen BK135.out 1
  have hfz14_2 := blk_frozen BK135.out 2
  have hfz14_3 := blk_frozen BK135.out 3
  have hfz14_4 := blk_frozen BK135.out 4
  have hfz14_5 := blk_frozen BK135.out 5
  have hfz14_6 := blk_frozen BK135.out 6
  have hfz14_7 := blk_frozen BK135.out 7
  have hfz14_8 := blk_frozen BK135.out 8
  have hfz14_9 := blk_frozen BK135.out 9
  have hfz14_10 := blk_frozen BK135.out 10
  have hfz14_11 := blk_frozen BK135.out 11
  have hfz14_12 := blk_frozen BK135.out 12
  have hfz14_13 := blk_frozen BK135.out 13
  have hfz14_14 := blk_frozen BK135.out 14
  have hcz15_0 : w8.cell? ⟨gb136, 0, none⟩ = some (.int .i64 0) := (blk_cell BK136.out 0).trans rfl
  have hcz15_1 : w8.cell? ⟨gb136, 1, none⟩ = some (.string (⟨#[]⟩ : ByteArray)) := (blk_cell BK136.out 1).trans rfl
  have hcz15_2 : w8.cell? ⟨gb136, 2, none⟩ = some (.string (⟨#[]⟩ : ByteArray)) := (blk_cell BK136.out 2).trans rfl
  have hcz15_3 : w8.cell? ⟨gb136, 3, none⟩ = some (.int .i64 0) := (blk_cell BK136.out 3).trans rfl
  have hcz15_4 : w8.cell? ⟨gb136, 4, none⟩ = some (.int .i64 0) := (blk_cell BK136.out 4).trans rfl
  have hcz15_5 : w8.cell? ⟨gb136, 5, none⟩ = some (.int .i64 0) := (blk_cell BK136.out 5).trans rfl
  have hcz15_6 : w8.cell? ⟨gb136, 6, none⟩ = some (.int .i64 0) := (blk_cell BK136.out 6).trans rfl
  have hcz15_7 : w8.cell? ⟨gb136, 7, none⟩ = some (.int .i64 0) := (blk_cell BK136.out 7).trans rfl
  have hcz15_8 : w8.cell? ⟨gb136, 8, none⟩ = some (.int .i64 0) := (blk_cell BK136.out 8).trans rfl
  have hcz15_9 : w8.cell? ⟨gb136, 9, none⟩ = some (.string (⟨#[]⟩ : ByteArray)) := (blk_cell BK136.out 9).trans rfl
  have hcz15_10 : w8.cell? ⟨gb136, 10, none⟩ = some (.string (⟨#[]⟩ : ByteArray)) := (blk_cell BK136.out 10).trans rfl
  have hcz15_11 : w8.cell? ⟨gb136, 11, none⟩ = some (.int .i64 0) := (blk_cell BK136.out 11).trans rfl
  have hcz15_12 : w8.cell? ⟨gb136, 12, none⟩ = some (.int .i64 0) := (blk_cell BK136.out 12).trans rfl
  have hcz15_13 : w8.cell? ⟨gb136, 13, none⟩ = some (.slice none 0 0) := (blk_cell BK136.out 13).trans rfl
  have hcz15_14 : w8.cell? ⟨gb136, 14, none⟩ = some (.slice none 0 0) := (blk_cell BK136.out 14).trans rfl
  have hfz15_0 := blk_frozen BK136.out 0
  have hfz15_1 := blk_frozen BK136.out 1
  have hfz15_2 := blk_frozen BK136.out 2
  have hfz15_3 := blk_frozen BK136.out 3
  have hfz15_4 := blk_frozen BK136.out 4
  have hfz15_5 := blk_frozen BK136.out 5
  have hfz15_6 := blk_frozen BK136.out 6
  have hfz15_7 := blk_frozen BK136.out 7
  have hfz15_8 := blk_frozen BK136.out 8
  have hfz15_9 := blk_frozen BK136.out 9
  have hfz15_10 := blk_frozen BK136.out 10
  have hfz15_11 := blk_frozen BK136.out 11
  have hfz15_12 := blk_frozen BK136.out 12
  have hfz15_13 := blk_frozen BK136.out 13
  have hfz15_14 := blk_frozen BK136.out 14
  try go_wp2
  refine bodyPost_ret (results_cell_row rfl _ _ gb136 48 #[.int .i64 a0_0, .string a0_1, .string a0_2, .int .i64 a0_3, .int .i64 a0_4, .int .i64 a0_5, .int .i64 a0_6, .int .i64 a0_7, .int .i64 a0_8, .string a0_9, .string a0_10, .int .i64 a0_11, .int .i64 a0_12, .slice Ao9 t137.length co9, .slice Ao11 t140.length co11] (0, 0) _ rfl (by (with_reducible repeat (first | refine blk_drewN ?_ _ | refine blk_drew ?_ | refine blk_alloc ?_ _)); refine blk_put (cs := #[.int .i64 a0_0, .string a0_1, .string a0_2, .int .i64 a0_3, .int .i64 a0_4, .int .i64 a0_5, .int .i64 a0_6, .int .i64 a0_7, .int .i64 a0_8, .string a0_9, .string a0_10, .int .i64 a0_11, .int .i64 a0_12, .slice Ao9 t137.length co9, .slice none 0 0]) ?_ 14 _ rfl; (with_reducible repeat (first | refine blk_drewN ?_ _ | refine blk_drew ?_ | refine blk_alloc ?_ _)); refine blk_put (cs := #[.int .i64 a0_0, .string a0_1, .string a0_2, .int .i64 a0_3, .int .i64 a0_4, .int .i64 a0_5, .int .i64 a0_6, .int .i64 a0_7, .int .i64 a0_8, .string a0_9, .string a0_10, .int .i64 a0_11, .int .i64 a0_12, .slice none 0 0, .slice none 0 0]) ?_ 13 _ rfl; (with_reducible repeat (first | refine blk_drewN ?_ _ | refine blk_drew ?_ | refine blk_alloc ?_ _)); refine blk_put (cs := #[.int .i64 a0_0, .string a0_1, .string a0_2, .int .i64 a0_3, .int .i64 a0_4, .int .i64 a0_5, .int .i64 a0_6, .int .i64 a0_7, .int .i64 a0_8, .string a0_9, .string a0_10, .int .i64 a0_11, .int .i64 0, .slice none 0 0, .slice none 0 0]) ?_ 12 _ rfl; (with_reducible repeat (first | refine blk_drewN ?_ _ | refine blk_drew ?_ | refine blk_alloc ?_ _)); refine blk_put (cs := #[.int .i64 a0_0, .string a0_1, .string a0_2, .int .i64 a0_3, .int .i64 a0_4, .int .i64 a0_5, .int .i64 a0_6, .int .i64 a0_7, .int .i64 a0_8, .string a0_9, .string a0_10, .int .i64 0, .int .i64 0, .slice none 0 0, .slice none 0 0]) ?_ 11 _ rfl; (with_reducible repeat (first | refine blk_drewN ?_ _ | refine blk_drew ?_ | refine blk_alloc ?_ _)); refine blk_put (cs := #[.int .i64 a0_0, .string a0_1, .string a0_2, .int .i64 a0_3, .int .i64 a0_4, .int .i64 a0_5, .int .i64 a0_6, .int .i64 a0_7, .int .i64 a0_8, .string a0_9, .string (⟨#[]⟩ : ByteArray), .int .i64 0, .int .i64 0, .slice none 0 0, .slice none 0 0]) ?_ 10 _ rfl; (with_reducible repeat (first | refine blk_drewN ?_ _ | refine blk_drew ?_ | refine blk_alloc ?_ _)); refine blk_put (cs := #[.int .i64 a0_0, .string a0_1, .string a0_2, .int .i64 a0_3, .int .i64 a0_4, .int .i64 a0_5, .int .i64 a0_6, .int .i64 a0_7, .int .i64 a0_8, .string (⟨#[]⟩ : ByteArray), .string (⟨#[]⟩ : ByteArray), .int .i64 0, .int .i64 0, .slice none 0 0, .slice none 0 0]) ?_ 9 _ rfl; (with_reducible repeat (first | refine blk_drewN ?_ _ | refine blk_drew ?_ | refine blk_alloc ?_ _)); refine blk_put (cs := #[.int .i64 a0_0, .string a0_1, .string a0_2, .int .i64 a0_3, .int .i64 a0_4, .int .i64 a0_5, .int .i64 a0_6, .int .i64 a0_7, .int .i64 0, .string (⟨#[]⟩ : ByteArray), .string (⟨#[]⟩ : ByteArray), .int .i64 0, .int .i64 0, .slice none 0 0, .slice none 0 0]) ?_ 8 _ rfl; (with_reducible repeat (first | refine blk_drewN ?_ _ | refine blk_drew ?_ | refine blk_alloc ?_ _)); refine blk_put (cs := #[.int .i64 a0_0, .string a0_1, .string a0_2, .int .i64 a0_3, .int .i64 a0_4, .int .i64 a0_5, .int .i64 a0_6, .int .i64 0, .int .i64 0, .string (⟨#[]⟩ : ByteArray), .string (⟨#[]⟩ : ByteArray), .int .i64 0, .int .i64 0, .slice none 0 0, .slice none 0 0]) ?_ 7 _ rfl; (with_reducible repeat (first | refine blk_drewN ?_ _ | refine blk_drew ?_ | refine blk_alloc ?_ _)); refine blk_put (cs := #[.int .i64 a0_0, .string a0_1, .string a0_2, .int .i64 a0_3, .int .i64 a0_4, .int .i64 a0_5, .int .i64 0, .int .i64 0, .int .i64 0, .string (⟨#[]⟩ : ByteArray), .string (⟨#[]⟩ : ByteArray), .int .i64 0, .int .i64 0, .slice none 0 0, .slice none 0 0]) ?_ 6 _ rfl; (with_reducible repeat (first | refine blk_drewN ?_ _ | refine blk_drew ?_ | refine blk_alloc ?_ _)); refine blk_put (cs := #[.int .i64 a0_0, .string a0_1, .string a0_2, .int .i64 a0_3, .int .i64 a0_4, .int .i64 0, .int .i64 0, .int .i64 0, .int .i64 0, .string (⟨#[]⟩ : ByteArray), .string (⟨#[]⟩ : ByteArray), .int .i64 0, .int .i64 0, .slice none 0 0, .slice none 0 0]) ?_ 5 _ rfl; (with_reducible repeat (first | refine blk_drewN ?_ _ | refine blk_drew ?_ | refine blk_alloc ?_ _)); refine blk_put (cs := #[.int .i64 a0_0, .string a0_1, .string a0_2, .int .i64 a0_3, .int .i64 0, .int .i64 0, .int .i64 0, .int .i64 0, .int .i64 0, .string (⟨#[]⟩ : ByteArray), .string (⟨#[]⟩ : ByteArray), .int .i64 0, .int .i64 0, .slice none 0 0, .slice none 0 0]) ?_ 4 _ rfl; (with_reducible repeat (first | refine blk_drewN ?_ _ | refine blk_drew ?_ | refine blk_alloc ?_ _)); refine blk_put (cs := #[.int .i64 a0_0, .string a0_1, .string a0_2, .int .i64 0, .int .i64 0, .int .i64 0, .int .i64 0, .int .i64 0, .int .i64 0, .string (⟨#[]⟩ : ByteArray), .string (⟨#[]⟩ : ByteArray), .int .i64 0, .int .i64 0, .slice none 0 0, .slice none 0 0]) ?_ 3 _ rfl; (with_reducible repeat (first | refine blk_drewN ?_ _ | refine blk_drew ?_ | refine blk_alloc ?_ _)); refine blk_put (cs := #[.int .i64 a0_0, .string a0_1, .string (⟨#[]⟩ : ByteArray), .int .i64 0, .int .i64 0, .int .i64 0, .int .i64 0, .int .i64 0, .int .i64 0, .string (⟨#[]⟩ : ByteArray), .string (⟨#[]⟩ : ByteArray), .int .i64 0, .int .i64 0, .slice none 0 0, .slice none 0 0]) ?_ 2 _ rfl; (with_reducible repeat (first | refine blk_drewN ?_ _ | refine blk_drew ?_ | refine blk_alloc ?_ _)); refine blk_put (cs := #[.int .i64 a0_0, .string (⟨#[]⟩ : ByteArray), .string (⟨#[]⟩ : ByteArray), .int .i64 0, .int .i64 0, .int .i64 0, .int .i64 0, .int .i64 0, .int .i64 0, .string (⟨#[]⟩ : ByteArray), .string (⟨#[]⟩ : ByteArray), .int .i64 0, .int .i64 0, .slice none 0 0, .slice none 0 0]) ?_ 1 _ rfl; (with_reducible repeat (first | refine blk_drewN ?_ _ | refine blk_drew ?_ | refine blk_alloc ?_ _)); refine blk_put (cs := #[.int .i64 0, .string (⟨#[]⟩ : ByteArray), .string (⟨#[]⟩ : ByteArray), .int .i64 0, .int .i64 0, .int .i64 0, .int .i64 0, .int .i64 0, .int .i64 0, .string (⟨#[]⟩ : ByteArray), .string (⟨#[]⟩ : ByteArray), .int .i64 0, .int .i64 0, .slice none 0 0, .slice none 0 0]) ?_ 0 _ rfl; (with_reducible repeat (first | refine blk_drewN ?_ _ | refine blk_drew ?_ | refine blk_alloc ?_ _)); refine blk_far ?_ NB136_135.out _; (with_reducible repeat (first | refine blk_drewN ?_ _ | refine blk_drew ?_ | refine blk_alloc ?_ _)); refine blk_far ?_ NB136_135.out _; (with_reducible repeat (first | refine blk_drewN ?_ _ | refine blk_drew ?_ | refine blk_alloc ?_ _)); exact BK136.out) Try.underlying48 rfl (by kernel_rfl)) rfl ?_
  exact ⟨_, _, by first | rfl | (simp [errW_none, errW_some] <;> rfl) | (simp [*, errW_none, errW_some] <;> rfl), by (with_reducible repeat (first | apply Kd.R_alloc | apply Kd.R_drewN | apply Kd.R_drew)); exact Kd.R_mono (Kd.R_far (p := ⟨gb136, 14, none⟩) (Kd.R_far (p := ⟨gb136, 13, none⟩) (Kd.R_far (p := ⟨gb136, 12, none⟩) (Kd.R_far (p := ⟨gb136, 11, none⟩) (Kd.R_far (p := ⟨gb136, 10, none⟩) (Kd.R_far (p := ⟨gb136, 9, none⟩) (Kd.R_far (p := ⟨gb136, 8, none⟩) (Kd.R_far (p := ⟨gb136, 7, none⟩) (Kd.R_far (p := ⟨gb136, 6, none⟩) (Kd.R_far (p := ⟨gb136, 5, none⟩) (Kd.R_far (p := ⟨gb136, 4, none⟩) (Kd.R_far (p := ⟨gb136, 3, none⟩) (Kd.R_far (p := ⟨gb136, 2, none⟩) (Kd.R_far (p := ⟨gb136, 1, none⟩) (Kd.R_far (p := ⟨gb136, 0, none⟩) (Kd.R_far (p := ⟨gb135, 14, none⟩) (Kd.R_far (p := ⟨gb135, 13, none⟩) (Kd.R_types (Kd.R_types HO139.out BK135.out (by decide)) BK136.out (by decide)) (fun _ hk => hk.1.2) (.slice Ao9 t137.length co9)) (fun _ hk => hk.1.2) (.slice Ao11 t140.length co11)) (fun _ hk => hk.2) (.int .i64 a0_0)) (fun _ hk => hk.2) (.string a0_1)) (fun _ hk => hk.2) (.string a0_2)) (fun _ hk => hk.2) (.int .i64 a0_3)) (fun _ hk => hk.2) (.int .i64 a0_4)) (fun _ hk => hk.2) (.int .i64 a0_5)) (fun _ hk => hk.2) (.int .i64 a0_6)) (fun _ hk => hk.2) (.int .i64 a0_7)) (fun _ hk => hk.2) (.int .i64 a0_8)) (fun _ hk => hk.2) (.string a0_9)) (fun _ hk => hk.2) (.string a0_10)) (fun _ hk => hk.2) (.int .i64 a0_11)) (fun _ hk => hk.2) (.int .i64 a0_12)) (fun _ hk => hk.2) (.slice Ao9 t137.length co9)) (fun _ hk => hk.2) (.slice Ao11 t140.length co11)) (fun _ hk => trivial), by (with_reducible repeat (first | apply Kd.R_alloc | apply Kd.R_drewN | apply Kd.R_drew)); exact Kd.R_mono (Kd.R_far (p := ⟨gb136, 14, none⟩) (Kd.R_far (p := ⟨gb136, 13, none⟩) (Kd.R_far (p := ⟨gb136, 12, none⟩) (Kd.R_far (p := ⟨gb136, 11, none⟩) (Kd.R_far (p := ⟨gb136, 10, none⟩) (Kd.R_far (p := ⟨gb136, 9, none⟩) (Kd.R_far (p := ⟨gb136, 8, none⟩) (Kd.R_far (p := ⟨gb136, 7, none⟩) (Kd.R_far (p := ⟨gb136, 6, none⟩) (Kd.R_far (p := ⟨gb136, 5, none⟩) (Kd.R_far (p := ⟨gb136, 4, none⟩) (Kd.R_far (p := ⟨gb136, 3, none⟩) (Kd.R_far (p := ⟨gb136, 2, none⟩) (Kd.R_far (p := ⟨gb136, 1, none⟩) (Kd.R_far (p := ⟨gb136, 0, none⟩) (Kd.R_far (p := ⟨gb135, 14, none⟩) (Kd.R_far (p := ⟨gb135, 13, none⟩) (Kd.R_types (Kd.R_types HO142.out BK135.out (by decide)) BK136.out (by decide)) (fun _ hk => hk.1.2) (.slice Ao9 t137.length co9)) (fun _ hk => hk.1.2) (.slice Ao11 t140.length co11)) (fun _ hk => hk.2) (.int .i64 a0_0)) (fun _ hk => hk.2) (.string a0_1)) (fun _ hk => hk.2) (.string a0_2)) (fun _ hk => hk.2) (.int .i64 a0_3)) (fun _ hk => hk.2) (.int .i64 a0_4)) (fun _ hk => hk.2) (.int .i64 a0_5)) (fun _ hk => hk.2) (.int .i64 a0_6)) (fun _ hk => hk.2) (.int .i64 a0_7)) (fun _ hk => hk.2) (.int .i64 a0_8)) (fun _ hk => hk.2) (.string a0_9)) (fun _ hk => hk.2) (.string a0_10)) (fun _ hk => hk.2) (.int .i64 a0_11)) (fun _ hk => hk.2) (.int .i64 a0_12)) (fun _ hk => hk.2) (.slice Ao9 t137.length co9)) (fun _ hk => hk.2) (.slice Ao11 t140.length co11)) (fun _ hk => trivial), by repeat (first | (with_reducible first | exact HB.out | apply below_alloc | apply pw_below_drewN | apply below_drew1 | refine below_set ?_ GE135.out | refine below_set ?_ GE136.out) | exact HB.out)⟩

-- NOT PRINTED: function 6 (oakumlaw09_ItemSame)

end Go.Proofs.Ytelniipccmeooaa.PItemSame
