-- Written by xprint.py (wip/xprint.py) of this work, out of Lean's own print of the translation.
import Derived.Test.YtelniipccmeooaaPItemSamex0
import Derived.Test.YtelniipccmeooaaPItemSamex1
import Derived.Test.YtelniipccmeooaaPItemSamex2
import Derived.Test.YtelniipccmeooaaPItemSamex3
namespace Go.Proofs.Ytelniipccmeooaa.PItemSame
open Go.RowKit Go.Proofs.YtelniipccmeooaaW.PrintWords Go.Proofs.YtelniipccmeooaaW.PrintLast Go.Proofs.YtelniipccmeooaaW.PrintMore
attribute [local go_sem] max2_int min2_int max_two min_two max_three min_three max_four min_four   -- for this text's walks alone
set_option linter.unusedVariables false
set_option linter.unusedSimpArgs false

attribute [local go_sem high] eqA43 eqA55
/-! ### item_Same: function 22 -/
-- rounds: yes
-- making: yes
-- import Derived.Lib.Hide
-- import Derived.Laws.CopyOwn
-- import Derived.Test.YtelniipccmeooaaLazy
-- eq: 43
def item_Same.f (k : Nat) (a0_0 : Int) (a0_1 : ByteArray) (a0_2 : ByteArray) (a0_3 : Int) (a0_4 : Int) (a0_5 : Int) (a0_6 : Int) (a0_7 : Int) (a0_8 : Int) (a0_9 : ByteArray) (a0_10 : ByteArray) (a0_11 : Int) (a0_12 : Int) (l0_13 : List (S55)) (l0_14 : List Int) (a1_0 : Int) (a1_1 : ByteArray) (a1_2 : ByteArray) (a1_3 : Int) (a1_4 : Int) (a1_5 : Int) (a1_6 : Int) (a1_7 : Int) (a1_8 : Int) (a1_9 : ByteArray) (a1_10 : ByteArray) (a1_11 : Int) (a1_12 : Int) (l1_13 : List (S55)) (l1_14 : List Int) : Option (Bool) := (slices_Equal_api_Pair_api_Pair.f k l0_13 l1_13).bind fun t_ => if t_ = true then (bytes_Equal.f l0_14 l1_14).bind fun u_ => if u_ = true then some (((((((((((((a0_0 == a1_0) && (a0_1.toList == a1_1.toList)) && (a0_2.toList == a1_2.toList)) && (a0_3 == a1_3)) && (a0_4 == a1_4)) && (a0_5 == a1_5)) && (a0_6 == a1_6)) && (a0_7 == a1_7 && (a0_8 == a1_8))) && (a0_9.toList == a1_9.toList)) && (a0_10.toList == a1_10.toList)) && (a0_11 == a1_11)) && (a0_12 == a1_12))) else some false else some false
theorem item_Same.mono : ∀ a0_0 a0_1 a0_2 a0_3 a0_4 a0_5 a0_6 a0_7 a0_8 a0_9 a0_10 a0_11 a0_12 l0_13 l0_14 a1_0 a1_1 a1_2 a1_3 a1_4 a1_5 a1_6 a1_7 a1_8 a1_9 a1_10 a1_11 a1_12 l1_13 l1_14 k, LeO (item_Same.f k a0_0 a0_1 a0_2 a0_3 a0_4 a0_5 a0_6 a0_7 a0_8 a0_9 a0_10 a0_11 a0_12 l0_13 l0_14 a1_0 a1_1 a1_2 a1_3 a1_4 a1_5 a1_6 a1_7 a1_8 a1_9 a1_10 a1_11 a1_12 l1_13 l1_14) (item_Same.f (k + 1) a0_0 a0_1 a0_2 a0_3 a0_4 a0_5 a0_6 a0_7 a0_8 a0_9 a0_10 a0_11 a0_12 l0_13 l0_14 a1_0 a1_1 a1_2 a1_3 a1_4 a1_5 a1_6 a1_7 a1_8 a1_9 a1_10 a1_11 a1_12 l1_13 l1_14) := by
  intro a0_0 a0_1 a0_2 a0_3 a0_4 a0_5 a0_6 a0_7 a0_8 a0_9 a0_10 a0_11 a0_12 l0_13 l0_14 a1_0 a1_1 a1_2 a1_3 a1_4 a1_5 a1_6 a1_7 a1_8 a1_9 a1_10 a1_11 a1_12 l1_13 l1_14 k
  unfold item_Same.f
  exact LeO.bind (slices_Equal_api_Pair_api_Pair.mono _ _ _) (fun _ => LeO.refl _)
theorem item_Same.cl (W : World) (g : Nat) (x0 : Int) (x1 : ByteArray) (x2 : ByteArray) (x3 : Int) (x4 : Int) (x5 : Int) (x6 : Int) (x7 : Int) (x8 : Int) (x9 : ByteArray) (x10 : ByteArray) (x11 : Int) (x12 : Int) (p q : Option Addr) (n m c d : Nat) (h : W.heap[g]? = some (.cells #[.int .i64 x0, .string x1, .string x2, .int .i64 x3, .int .i64 x4, .int .i64 x5, .int .i64 x6, .int .i64 x7, .int .i64 x8, .string x9, .string x10, .int .i64 x11, .int .i64 x12, .slice p n c, .slice q m d] 48 (0, 0))) :
    W.cell? ⟨g, 0, none⟩ = some (.int .i64 x0) ∧ W.cell? ⟨g, 1, none⟩ = some (.string x1) ∧ W.cell? ⟨g, 2, none⟩ = some (.string x2) ∧ W.cell? ⟨g, 3, none⟩ = some (.int .i64 x3) ∧ W.cell? ⟨g, 4, none⟩ = some (.int .i64 x4) ∧ W.cell? ⟨g, 5, none⟩ = some (.int .i64 x5) ∧ W.cell? ⟨g, 6, none⟩ = some (.int .i64 x6) ∧ W.cell? ⟨g, 7, none⟩ = some (.int .i64 x7) ∧ W.cell? ⟨g, 8, none⟩ = some (.int .i64 x8) ∧ W.cell? ⟨g, 9, none⟩ = some (.string x9) ∧ W.cell? ⟨g, 10, none⟩ = some (.string x10) ∧ W.cell? ⟨g, 11, none⟩ = some (.int .i64 x11) ∧ W.cell? ⟨g, 12, none⟩ = some (.int .i64 x12) ∧ W.cell? ⟨g, 13, none⟩ = some (.slice p n c) ∧ W.cell? ⟨g, 14, none⟩ = some (.slice q m d) := by
  have c_ := fun j => cell_of_row W g j _ _ _ h
  exact ⟨c_ 0, c_ 1, c_ 2, c_ 3, c_ 4, c_ 5, c_ 6, c_ 7, c_ 8, c_ 9, c_ 10, c_ 11, c_ 12, c_ 13, c_ 14⟩
theorem item_Same.cm (W : World) (g : Nat) (x0 : Int) (x1 : ByteArray) (x2 : ByteArray) (x3 : Int) (x4 : Int) (x5 : Int) (x6 : Int) (x7 : Int) (x8 : Int) (x9 : ByteArray) (x10 : ByteArray) (x11 : Int) (x12 : Int) (p : Option Addr) (n c : Nat) (h : W.heap[g]? = some (.cells #[.int .i64 x0, .string x1, .string x2, .int .i64 x3, .int .i64 x4, .int .i64 x5, .int .i64 x6, .int .i64 x7, .int .i64 x8, .string x9, .string x10, .int .i64 x11, .int .i64 x12, .slice p n c] 46 (0, 0))) :
    W.cell? ⟨g, 0, none⟩ = some (.int .i64 x0) ∧ W.cell? ⟨g, 1, none⟩ = some (.string x1) ∧ W.cell? ⟨g, 2, none⟩ = some (.string x2) ∧ W.cell? ⟨g, 3, none⟩ = some (.int .i64 x3) ∧ W.cell? ⟨g, 4, none⟩ = some (.int .i64 x4) ∧ W.cell? ⟨g, 5, none⟩ = some (.int .i64 x5) ∧ W.cell? ⟨g, 6, none⟩ = some (.int .i64 x6) ∧ W.cell? ⟨g, 7, none⟩ = some (.int .i64 x7) ∧ W.cell? ⟨g, 8, none⟩ = some (.int .i64 x8) ∧ W.cell? ⟨g, 9, none⟩ = some (.string x9) ∧ W.cell? ⟨g, 10, none⟩ = some (.string x10) ∧ W.cell? ⟨g, 11, none⟩ = some (.int .i64 x11) ∧ W.cell? ⟨g, 12, none⟩ = some (.int .i64 x12) ∧ W.cell? ⟨g, 13, none⟩ = some (.slice p n c) := by
  have c_ := fun j => cell_of_row W g j _ _ _ h
  exact ⟨c_ 0, c_ 1, c_ 2, c_ 3, c_ 4, c_ 5, c_ 6, c_ 7, c_ 8, c_ 9, c_ 10, c_ 11, c_ 12, c_ 13⟩
def item_Same.T1 : Bool × List (List Nat × List Nat) := (true, [([], []), ([0], [0]), ([], []), ([2], [2]), ([], []), ([], []), ([4, 1, 0, 1, 4, 5], [1, 4]), ([5, 3, 6, 0, 1, 2, 3, 4, 5, 6], [3, 5])])
def item_Same.B1 : List Nat := [0, 1, 0, 4, 0, 0, 51, 127]
theorem item_Same.tab1 : rtab .any (opsOf Try.f22 1) = item_Same.T1 := by kernel_rfl
theorem item_Same.bits1 : waitsOk item_Same.T1.2 item_Same.B1 = true := by kernel_rfl
set_option maxHeartbeats 4000000 in
set_option maxRecDepth 100000 in
theorem item_Same.calls (k : Nat) (a0_0 : Int) (a0_1 : ByteArray) (a0_2 : ByteArray) (a0_3 : Int) (a0_4 : Int) (a0_5 : Int) (a0_6 : Int) (a0_7 : Int) (a0_8 : Int) (a0_9 : ByteArray) (a0_10 : ByteArray) (a0_11 : Int) (a0_12 : Int) (A0_13 : Option Addr) (c0_13 : Nat) (l0_13 : List (S55)) (A0_14 : Option Addr) (c0_14 : Nat) (l0_14 : List Int) (a1_0 : Int) (a1_1 : ByteArray) (a1_2 : ByteArray) (a1_3 : Int) (a1_4 : Int) (a1_5 : Int) (a1_6 : Int) (a1_7 : Int) (a1_8 : Int) (a1_9 : ByteArray) (a1_10 : ByteArray) (a1_11 : Int) (a1_12 : Int) (A1_13 : Option Addr) (c1_13 : Nat) (l1_13 : List (S55)) (A1_14 : Option Addr) (c1_14 : Nat) (l1_14 : List Int) (r : Bool) (w : World) (hr0_13 : Kd.C k55 w A0_13 l0_13.length l0_13) (hc0_13 : l0_13.length ≤ c0_13) (hr0_14 : Kd.C (Kd.int .u8) w A0_14 l0_14.length l0_14) (hc0_14 : l0_14.length ≤ c0_14) (hr1_13 : Kd.C k55 w A1_13 l1_13.length l1_13) (hc1_13 : l1_13.length ≤ c1_13) (hr1_14 : Kd.C (Kd.int .u8) w A1_14 l1_14.length l1_14) (hc1_14 : l1_14.length ≤ c1_14) (h : item_Same.f k a0_0 a0_1 a0_2 a0_3 a0_4 a0_5 a0_6 a0_7 a0_8 a0_9 a0_10 a0_11 a0_12 l0_13 l0_14 a1_0 a1_1 a1_2 a1_3 a1_4 a1_5 a1_6 a1_7 a1_8 a1_9 a1_10 a1_11 a1_12 l1_13 l1_14 = some r) :
    Calls Try.prog 22 #[.agg #[.int .i64 a0_0, .string a0_1, .string a0_2, .int .i64 a0_3, .int .i64 a0_4, .int .i64 a0_5, .int .i64 a0_6, .int .i64 a0_7, .int .i64 a0_8, .string a0_9, .string a0_10, .int .i64 a0_11, .int .i64 a0_12, .slice A0_13 l0_13.length c0_13, .slice A0_14 l0_14.length c0_14], .agg #[.int .i64 a1_0, .string a1_1, .string a1_2, .int .i64 a1_3, .int .i64 a1_4, .int .i64 a1_5, .int .i64 a1_6, .int .i64 a1_7, .int .i64 a1_8, .string a1_9, .string a1_10, .int .i64 a1_11, .int .i64 a1_12, .slice A1_13 l1_13.length c1_13, .slice A1_14 l1_14.length c1_14]] w fun e w' => e = .returned (.bool r) ∧ Below w.heap.size w w' := by
  have hu43 := Try.underlying43
  have HR0 := Aside0.mk hr0_13
  have HC0 := Aside0.mk hc0_13
  have HR1 := Aside0.mk hr1_13
  have HC1 := Aside0.mk hc1_13
  have HD0 := Aside0.mk hr0_14
  have HE0 := Aside0.mk hc0_14
  have HD1 := Aside0.mk hr1_14
  have HE1 := Aside0.mk hc1_14
  clear hr0_13 hc0_13 hr1_13 hc1_13 hr0_14 hc0_14 hr1_14 hc1_14
  have HF := Go.Lib.hid h
  clear h
  obtain ⟨Z, hz, hZ⟩ : ∃ Z : Array Value, (∀ W, (zeroValue 46).run Try.prog W = .ok (.agg Z) W) ∧ Z.size = 14 := ⟨#[.int .i64 0, .string (⟨#[]⟩ : ByteArray), .string (⟨#[]⟩ : ByteArray), .int .i64 0, .int .i64 0, .int .i64 0, .int .i64 0, .int .i64 0, .int .i64 0, .string (⟨#[]⟩ : ByteArray), .string (⟨#[]⟩ : ByteArray), .int .i64 0, .int .i64 0, .slice none 0 0], fun W => by kernel_rfl, rfl⟩
  have HZ := Go.Lib.hid hZ
  clear hZ
  have hi46 : (Try.prog.info? 46).map (·.size) = some 14 := by kernel_rfl
  have HI := Go.Lib.hid hi46
  clear hi46
  have hu48 := Try.underlying48
  have hu46 := Try.underlying46
  have HBa := Go.Lib.hid (heap_alloc2_old w (.cells #[.int .i64 a0_0, .string a0_1, .string a0_2, .int .i64 a0_3, .int .i64 a0_4, .int .i64 a0_5, .int .i64 a0_6, .int .i64 a0_7, .int .i64 a0_8, .string a0_9, .string a0_10, .int .i64 a0_11, .int .i64 a0_12, .slice A0_13 l0_13.length c0_13, .slice A0_14 l0_14.length c0_14] 48) (.cells #[.int .i64 a1_0, .string a1_1, .string a1_2, .int .i64 a1_3, .int .i64 a1_4, .int .i64 a1_5, .int .i64 a1_6, .int .i64 a1_7, .int .i64 a1_8, .string a1_9, .string a1_10, .int .i64 a1_11, .int .i64 a1_12, .slice A1_13 l1_13.length c1_13, .slice A1_14 l1_14.length c1_14] 48))
  have HBb := Go.Lib.hid (heap_alloc2_new w (.cells #[.int .i64 a0_0, .string a0_1, .string a0_2, .int .i64 a0_3, .int .i64 a0_4, .int .i64 a0_5, .int .i64 a0_6, .int .i64 a0_7, .int .i64 a0_8, .string a0_9, .string a0_10, .int .i64 a0_11, .int .i64 a0_12, .slice A0_13 l0_13.length c0_13, .slice A0_14 l0_14.length c0_14] 48) (.cells #[.int .i64 a1_0, .string a1_1, .string a1_2, .int .i64 a1_3, .int .i64 a1_4, .int .i64 a1_5, .int .i64 a1_6, .int .i64 a1_7, .int .i64 a1_8, .string a1_9, .string a1_10, .int .i64 a1_11, .int .i64 a1_12, .slice A1_13 l1_13.length c1_13, .slice A1_14 l1_14.length c1_14] 48))
  have HB := Go.Lib.hid (below_alloc (below_alloc (Below.refl w.heap.size w) (.cells #[.int .i64 a0_0, .string a0_1, .string a0_2, .int .i64 a0_3, .int .i64 a0_4, .int .i64 a0_5, .int .i64 a0_6, .int .i64 a0_7, .int .i64 a0_8, .string a0_9, .string a0_10, .int .i64 a0_11, .int .i64 a0_12, .slice A0_13 l0_13.length c0_13, .slice A0_14 l0_14.length c0_14] 48)) (.cells #[.int .i64 a1_0, .string a1_1, .string a1_2, .int .i64 a1_3, .int .i64 a1_4, .int .i64 a1_5, .int .i64 a1_6, .int .i64 a1_7, .int .i64 a1_8, .string a1_9, .string a1_10, .int .i64 a1_11, .int .i64 a1_12, .slice A1_13 l1_13.length c1_13, .slice A1_14 l1_14.length c1_14] 48))
  go_enter Try.func22, Try.ntmps22
  go_upto_region 1 with (fail)
  generalize hW_ : (w.alloc (.cells #[.int .i64 a0_0, .string a0_1, .string a0_2, .int .i64 a0_3, .int .i64 a0_4, .int .i64 a0_5, .int .i64 a0_6, .int .i64 a0_7, .int .i64 a0_8, .string a0_9, .string a0_10, .int .i64 a0_11, .int .i64 a0_12, .slice A0_13 l0_13.length c0_13, .slice A0_14 l0_14.length c0_14] 48)).alloc (.cells #[.int .i64 a1_0, .string a1_1, .string a1_2, .int .i64 a1_3, .int .i64 a1_4, .int .i64 a1_5, .int .i64 a1_6, .int .i64 a1_7, .int .i64 a1_8, .string a1_9, .string a1_10, .int .i64 a1_11, .int .i64 a1_12, .slice A1_13 l1_13.length c1_13, .slice A1_14 l1_14.length c1_14] 48) = W0 at HBa HBb HB ⊢
  clear hW_ hu48 hu46
  refine start_ (n := 8) (S := fun w' => w'.heap[w.heap.size]? = some (.cells #[.int .i64 a0_0, .string a0_1, .string a0_2, .int .i64 a0_3, .int .i64 a0_4, .int .i64 a0_5, .int .i64 a0_6, .int .i64 a0_7, .int .i64 a0_8, .string a0_9, .string a0_10, .int .i64 a0_11, .int .i64 a0_12, .slice A0_13 l0_13.length c0_13, .slice A0_14 l0_14.length c0_14] 48 (0, 0)) ∧ w'.heap[w.heap.size + 1]? = some (.cells #[.int .i64 a1_0, .string a1_1, .string a1_2, .int .i64 a1_3, .int .i64 a1_4, .int .i64 a1_5, .int .i64 a1_6, .int .i64 a1_7, .int .i64 a1_8, .string a1_9, .string a1_10, .int .i64 a1_11, .int .i64 a1_12, .slice A1_13 l1_13.length c1_13, .slice A1_14 l1_14.length c1_14] 48 (0, 0))) (ds := []) #[false, false, false, false, false, false, false, false] (by kernel_rfl) rfl rfl ⟨HBa.out, HBb.out⟩ (fun hHeld => ?_); replace hHeld := Go.Lib.hid hHeld; refine with_tabW item_Same.tab1 item_Same.bits1 (fun HT_ HW_ => ?_)
  refine pure_ (i := 0) (N := some 7) (v := ?_) (a' := ?_) #[true, false, false, false, false, false, false, false] rfl rfl (any_of HT_.out (by kernel_rfl)) (fun _ _ _ h => h) (Or.inl ⟨by rfl, ?_⟩) ?_ ?_
  rotate_left
  · intro w'
    go_simp
    with_reducible rfl
  rotate_left
  · simp only [Act.put, List.setIfInBounds_toArray, List.set_cons_zero, List.set_cons_succ, i64_w, i32_w]
    rfl
  refine pure_ (i := 2) (N := some 9) (v := ?_) (a' := ?_) #[true, false, true, false, false, false, false, false] rfl rfl (any_of HT_.out (by kernel_rfl)) (fun _ _ _ h => h) (Or.inl ⟨by rfl, ?_⟩) ?_ ?_
  rotate_left
  · intro w'
    go_simp
    with_reducible rfl
  rotate_left
  · simp only [Act.put, List.setIfInBounds_toArray, List.set_cons_zero, List.set_cons_succ, i64_w, i32_w]
    rfl
  refine take_ (i := 1) (N := some 8) (v := ?_) (a' := ?_) #[true, true, true, false, false, false, false, false] rfl rfl (take_ofW HT_.out HW_.out (by kernel_rfl)) (fun _ _ _ h => h) (Or.inl ⟨by rfl, ?_⟩) hHeld.out ?_ ?_
  rotate_left
  · rintro w' ⟨hA_, hB_⟩
    obtain ⟨e0_, e1_, e2_, e3_, e4_, e5_, e6_, e7_, e8_, e9_, e10_, e11_, e12_, e13_, e14_⟩ := item_Same.cl w' _ _ _ _ _ _ _ _ _ _ _ _ _ _ _ _ _ _ _ _ hA_
    clear hA_ hB_
    go_simp
    with_reducible rfl
  rotate_left
  · simp only [Act.put, List.setIfInBounds_toArray, List.set_cons_zero, List.set_cons_succ, i64_w, i32_w]
    rfl
  refine take_ (i := 3) (N := some 10) (v := ?_) (a' := ?_) #[true, true, true, true, false, false, false, false] rfl rfl (take_ofW HT_.out HW_.out (by kernel_rfl)) (fun _ _ _ h => h) (Or.inl ⟨by rfl, ?_⟩) hHeld.out ?_ ?_
  rotate_left
  · rintro w' ⟨hA_, hB_⟩
    obtain ⟨e0_, e1_, e2_, e3_, e4_, e5_, e6_, e7_, e8_, e9_, e10_, e11_, e12_, e13_, e14_⟩ := item_Same.cl w' _ _ _ _ _ _ _ _ _ _ _ _ _ _ _ _ _ _ _ _ hB_
    clear hA_ hB_
    go_simp
    with_reducible rfl
  rotate_left
  · simp only [Act.put, List.setIfInBounds_toArray, List.set_cons_zero, List.set_cons_succ, i64_w, i32_w]
    rfl
  have HB2 := Go.Lib.hid (below_drew1 HB.out)
  clear HBa HBb HB
  generalize W0.drew = W1 at hHeld HB2 ⊢
  refine join_ (σ := Nat × Nat) 2 #[true, true, true, true, true, true, false, false] (fun s_ => [(5, .pointer (some ⟨s_.1, 0, none⟩)), (6, .pointer (some ⟨s_.2, 0, none⟩))]) (fun s_ w' => (w'.heap[w.heap.size]? = some (.cells #[.int .i64 a0_0, .string a0_1, .string a0_2, .int .i64 a0_3, .int .i64 a0_4, .int .i64 a0_5, .int .i64 a0_6, .int .i64 a0_7, .int .i64 a0_8, .string a0_9, .string a0_10, .int .i64 a0_11, .int .i64 a0_12, .slice A0_13 l0_13.length c0_13, .slice A0_14 l0_14.length c0_14] 48 (0, 0)) ∧ w'.heap[w.heap.size + 1]? = some (.cells #[.int .i64 a1_0, .string a1_1, .string a1_2, .int .i64 a1_3, .int .i64 a1_4, .int .i64 a1_5, .int .i64 a1_6, .int .i64 a1_7, .int .i64 a1_8, .string a1_9, .string a1_10, .int .i64 a1_11, .int .i64 a1_12, .slice A1_13 l1_13.length c1_13, .slice A1_14 l1_14.length c1_14] 48 (0, 0))) ∧ w'.heap[s_.1]? = some (.cells Z 46 (0, 0)) ∧ w'.heap[s_.2]? = some (.cells Z 46 (0, 0)) ∧ s_.1 ≠ s_.2 ∧ w.heap.size + 2 ≤ s_.1 ∧ w.heap.size + 2 ≤ s_.2 ∧ Below w.heap.size w w') ?_ ?_
  rotate_left
  · intro hCont
    have lt_ : ∀ {W : World} {g : Nat} {o : Obj}, W.heap[g]? = some o → g < W.heap.size := fun h => (Array.getElem?_eq_some_iff.1 h).1
    refine two_ (i := 4) (j := 5) (Ni := some 5) (Nj := some 6) #[true, true, true, true, true, false, false, false] #[true, true, true, true, false, true, false, false] rfl rfl rfl rfl (two_of HT_.out (by kernel_rfl)) (by decide) (by decide) (fun K hK => ?_) (fun K hK => ?_)
    · refine box_step (by rfl) (N := 5) rfl (cs := Z) (t := 46) (by first | (go_simp; done) | (go_simp; rfl)) ?_
      intro g hg w1 hbox hb
      have h1 := lt_ hHeld.out.1
      have h2 := lt_ hHeld.out.2
      refine hK.out _ _ ⟨(hb.block _ h1).trans hHeld.out.1, (hb.block _ h2).trans hHeld.out.2⟩ (fun hH1 => ?_)
      clear hK K
      refine norm_ (a' := ?_) ?_ ?_
      rotate_left
      · show Act.put _ (some 5) _ = _
        simp only [Act.put, List.setIfInBounds_toArray, List.set_cons_zero, List.set_cons_succ, i64_w, i32_w]
        rfl
      replace hH1 := Go.Lib.hid hH1
      have hb1 := Go.Lib.hid (below_step HB2.out hb)
      have hbx := Go.Lib.hid hbox
      have hgl := Go.Lib.hid (lt_ hbox)
      have hgg : w.heap.size + 2 ≤ g := by omega
      clear hb hbox hg h1 h2
      refine one_ (i := 5) (N := some 6) #[true, true, true, true, true, true, false, false] rfl rfl (one_of HT_.out (by kernel_rfl)) (by decide) (fun K hK => ?_)
      refine box_step (by rfl) (N := 6) rfl (cs := Z) (t := 46) (by first | (go_simp; done) | (go_simp; rfl)) ?_
      intro g2 hg2 w2 hbox2 hb2
      have h1 := lt_ hH1.out.1
      have h2 := lt_ hH1.out.2
      have h3 := hgl.out
      refine hK.out _ _ ⟨(hb2.block _ h1).trans hH1.out.1, (hb2.block _ h2).trans hH1.out.2⟩ (fun hH2 => ?_)
      clear hK K
      refine norm_ (a' := ?_) ?_ ?_
      rotate_left
      · show Act.put _ (some 6) _ = _
        simp only [Act.put, List.setIfInBounds_toArray, List.set_cons_zero, List.set_cons_succ, i64_w, i32_w]
        rfl
      exact hCont (g, g2) w2 ⟨hH2, (hb2.block _ h3).trans hbx.out, hbox2, by simp only; omega, by simp only; omega, by simp only; omega, below_step hb1.out hb2⟩
    · refine box_step (by rfl) (N := 6) rfl (cs := Z) (t := 46) (by first | (go_simp; done) | (go_simp; rfl)) ?_
      intro g hg w1 hbox hb
      have h1 := lt_ hHeld.out.1
      have h2 := lt_ hHeld.out.2
      refine hK.out _ _ ⟨(hb.block _ h1).trans hHeld.out.1, (hb.block _ h2).trans hHeld.out.2⟩ (fun hH1 => ?_)
      clear hK K
      refine norm_ (a' := ?_) ?_ ?_
      rotate_left
      · show Act.put _ (some 6) _ = _
        simp only [Act.put, List.setIfInBounds_toArray, List.set_cons_zero, List.set_cons_succ, i64_w, i32_w]
        rfl
      replace hH1 := Go.Lib.hid hH1
      have hb1 := Go.Lib.hid (below_step HB2.out hb)
      have hbx := Go.Lib.hid hbox
      have hgl := Go.Lib.hid (lt_ hbox)
      have hgg : w.heap.size + 2 ≤ g := by omega
      clear hb hbox hg h1 h2
      refine one_ (i := 4) (N := some 5) #[true, true, true, true, true, true, false, false] rfl rfl (one_of HT_.out (by kernel_rfl)) (by decide) (fun K hK => ?_)
      refine box_step (by rfl) (N := 5) rfl (cs := Z) (t := 46) (by first | (go_simp; done) | (go_simp; rfl)) ?_
      intro g2 hg2 w2 hbox2 hb2
      have h1 := lt_ hH1.out.1
      have h2 := lt_ hH1.out.2
      have h3 := hgl.out
      refine hK.out _ _ ⟨(hb2.block _ h1).trans hH1.out.1, (hb2.block _ h2).trans hH1.out.2⟩ (fun hH2 => ?_)
      clear hK K
      refine norm_ (a' := ?_) ?_ ?_
      rotate_left
      · show Act.put _ (some 5) _ = _
        simp only [Act.put, List.setIfInBounds_toArray, List.set_cons_zero, List.set_cons_succ, i64_w, i32_w]
        rfl
      exact hCont (g2, g) w2 ⟨hH2, hbox2, (hb2.block _ h3).trans hbx.out, by simp only; omega, by simp only; omega, by simp only; omega, below_step hb1.out hb2⟩
  rintro ⟨g5, g6⟩ W2 ⟨hS, h5, h6, h56, h5s, h6s, hB⟩
  clear hHeld HB2
  refine norm_ (a' := ?_) ?_ ?_
  rotate_left
  · simp only [putAll, Act.put, List.setIfInBounds_toArray, List.set_cons_zero, List.set_cons_succ]
    rfl
  have HS := Go.Lib.hid hS
  have H5 := Go.Lib.hid h5
  have H6 := Go.Lib.hid h6
  have HB := Go.Lib.hid hB
  simp only at h56 h5s h6s
  clear hS h5 h6 hB
  refine one_ (i := 6) (N := none) #[true, true, true, true, true, true, true, false] rfl rfl (one_of HT_.out (by kernel_rfl)) (by decide) (fun K hK => ?_)
  rw [if_pos (by rfl)]
  refine wp_store_row 46 (.tmp 5) (.tmp 8) rfl g5 #[.int .i64 a0_0, .string a0_1, .string a0_2, .int .i64 a0_3, .int .i64 a0_4, .int .i64 a0_5, .int .i64 a0_6, .int .i64 a0_7, .int .i64 a0_8, .string a0_9, .string a0_10, .int .i64 a0_11, .int .i64 a0_12, .slice A0_13 l0_13.length c0_13] rfl rfl 46 Z H5.out HI.out HZ.out (by simp only [List.all_toArray, List.all_cons, List.all_nil]; rfl) ?_
  refine hK.out _ _ ⟨(setRow_other _ _ _ _ (by omega)).trans HS.out.1, (setRow_other _ _ _ _ (by omega)).trans HS.out.2⟩ (fun hS2 => ?_)
  have HS2 := Go.Lib.hid hS2
  have H5b := Go.Lib.hid (setRow_heap W2 g5 Z #[.int .i64 a0_0, .string a0_1, .string a0_2, .int .i64 a0_3, .int .i64 a0_4, .int .i64 a0_5, .int .i64 a0_6, .int .i64 a0_7, .int .i64 a0_8, .string a0_9, .string a0_10, .int .i64 a0_11, .int .i64 a0_12, .slice A0_13 l0_13.length c0_13] 46 (0, 0) H5.out)
  have H6b := Go.Lib.hid ((setRow_other W2 g5 g6 #[.int .i64 a0_0, .string a0_1, .string a0_2, .int .i64 a0_3, .int .i64 a0_4, .int .i64 a0_5, .int .i64 a0_6, .int .i64 a0_7, .int .i64 a0_8, .string a0_9, .string a0_10, .int .i64 a0_11, .int .i64 a0_12, .slice A0_13 l0_13.length c0_13] (Ne.symm h56)).trans H6.out)
  have HBb := Go.Lib.hid (below_setRow HB.out (show w.heap.size ≤ g5 by omega) #[.int .i64 a0_0, .string a0_1, .string a0_2, .int .i64 a0_3, .int .i64 a0_4, .int .i64 a0_5, .int .i64 a0_6, .int .i64 a0_7, .int .i64 a0_8, .string a0_9, .string a0_10, .int .i64 a0_11, .int .i64 a0_12, .slice A0_13 l0_13.length c0_13])
  clear hS2 HS H5 H6 HB hK K
  generalize W2.setRow g5 #[.int .i64 a0_0, .string a0_1, .string a0_2, .int .i64 a0_3, .int .i64 a0_4, .int .i64 a0_5, .int .i64 a0_6, .int .i64 a0_7, .int .i64 a0_8, .string a0_9, .string a0_10, .int .i64 a0_11, .int .i64 a0_12, .slice A0_13 l0_13.length c0_13] = W3 at HS2 H5b H6b HBb ⊢
  refine norm_ (a' := ?_) ?_ ?_
  rotate_left
  · simp only [Act.put]
    rfl
  refine one_ (i := 7) (N := none) #[true, true, true, true, true, true, true, true] rfl rfl (one_of HT_.out (by kernel_rfl)) (by decide) (fun K hK => ?_)
  rw [if_pos (by rfl)]
  refine wp_store_row 46 (.tmp 6) (.tmp 10) rfl g6 #[.int .i64 a1_0, .string a1_1, .string a1_2, .int .i64 a1_3, .int .i64 a1_4, .int .i64 a1_5, .int .i64 a1_6, .int .i64 a1_7, .int .i64 a1_8, .string a1_9, .string a1_10, .int .i64 a1_11, .int .i64 a1_12, .slice A1_13 l1_13.length c1_13] rfl rfl 46 Z H6b.out HI.out HZ.out (by simp only [List.all_toArray, List.all_cons, List.all_nil]; rfl) ?_
  refine hK.out _ _ ⟨(setRow_other _ _ _ _ (by omega)).trans HS2.out.1, (setRow_other _ _ _ _ (by omega)).trans HS2.out.2⟩ (fun hS3 => ?_)
  have HS3 := Go.Lib.hid hS3
  have H5c := Go.Lib.hid ((setRow_other W3 g6 g5 #[.int .i64 a1_0, .string a1_1, .string a1_2, .int .i64 a1_3, .int .i64 a1_4, .int .i64 a1_5, .int .i64 a1_6, .int .i64 a1_7, .int .i64 a1_8, .string a1_9, .string a1_10, .int .i64 a1_11, .int .i64 a1_12, .slice A1_13 l1_13.length c1_13] h56).trans H5b.out)
  have H6c := Go.Lib.hid (setRow_heap W3 g6 Z #[.int .i64 a1_0, .string a1_1, .string a1_2, .int .i64 a1_3, .int .i64 a1_4, .int .i64 a1_5, .int .i64 a1_6, .int .i64 a1_7, .int .i64 a1_8, .string a1_9, .string a1_10, .int .i64 a1_11, .int .i64 a1_12, .slice A1_13 l1_13.length c1_13] 46 (0, 0) H6b.out)
  have HBc := Go.Lib.hid (below_setRow HBb.out (show w.heap.size ≤ g6 by omega) #[.int .i64 a1_0, .string a1_1, .string a1_2, .int .i64 a1_3, .int .i64 a1_4, .int .i64 a1_5, .int .i64 a1_6, .int .i64 a1_7, .int .i64 a1_8, .string a1_9, .string a1_10, .int .i64 a1_11, .int .i64 a1_12, .slice A1_13 l1_13.length c1_13])
  clear hS3 HS2 H5b H6b HBb hK K
  generalize W3.setRow g6 #[.int .i64 a1_0, .string a1_1, .string a1_2, .int .i64 a1_3, .int .i64 a1_4, .int .i64 a1_5, .int .i64 a1_6, .int .i64 a1_7, .int .i64 a1_8, .string a1_9, .string a1_10, .int .i64 a1_11, .int .i64 a1_12, .slice A1_13 l1_13.length c1_13] = W4 at HS3 H5c H6c HBc ⊢
  refine norm_ (a' := ?_) ?_ ?_
  rotate_left
  · simp only [Act.put]
    rfl
  refine done_ (done_of HT_.out (by kernel_rfl)) ?_
  clear HT_ HW_
  have hd0 := (item_Same.cl W4 _ _ _ _ _ _ _ _ _ _ _ _ _ _ _ _ _ _ _ _ HS3.out.1).2.2.2.2.2.2.2.2.2.2.2.2.2.2
  have hd1 := (item_Same.cl W4 _ _ _ _ _ _ _ _ _ _ _ _ _ _ _ _ _ _ _ _ HS3.out.2).2.2.2.2.2.2.2.2.2.2.2.2.2.2
  obtain ⟨e0_, e1_, e2_, e3_, e4_, e5_, e6_, e7_, e8_, e9_, e10_, e11_, e12_, e13_⟩ := item_Same.cm W4 g5 _ _ _ _ _ _ _ _ _ _ _ _ _ _ _ _ H5c.out
  obtain ⟨d0_, d1_, d2_, d3_, d4_, d5_, d6_, d7_, d8_, d9_, d10_, d11_, d12_, d13_⟩ := item_Same.cm W4 g6 _ _ _ _ _ _ _ _ _ _ _ _ _ _ _ _ H6c.out
  clear hz HZ HI HS3 H5c H6c h56 h5s h6s
  have HR0b := Aside0.mk (Kd.C_below HR0.out HBc.out)
  have HR1b := Aside0.mk (Kd.C_below HR1.out HBc.out)
  have HD0b := Aside0.mk (Kd.C_below HD0.out HBc.out)
  have HD1b := Aside0.mk (Kd.C_below HD1.out HBc.out)
  clear HR0 HR1 HD0 HD1
  have hf := HF.out
  clear HF
  unfold item_Same.f at hf
  obtain ⟨t_, ht, hf⟩ := Option.bind_eq_some_iff.mp hf
  have HT := Go.Lib.hid ht
  clear ht
  go_wp2_with fail
  refine (slices_Equal_api_Pair_api_Pair.calls k _ _ l0_13 _ _ l1_13 t_ _ HR0b.out HC0.out HR1b.out HC1.out HT.out).mono ?_
  rintro e w' ⟨rfl, ⟨nd, rfl⟩⟩
  clear HT HR0b HR1b HC0 HC1
  cases t_ with
  | false =>
    rw [if_neg (by decide)] at hf
    obtain rfl := Option.some.inj hf
    clear hf
    go_wp2
    go_ret
    exact ⟨rfl, pw_below_drewN HBc.out _⟩
  | true =>
    rw [if_pos rfl] at hf
    obtain ⟨u_, hu, hf⟩ := Option.bind_eq_some_iff.mp hf
    have HU := Go.Lib.hid hu
    have HF := Go.Lib.hid hf
    clear hu hf
    go_wp2_with fail
    refine (bytes_Equal.calls _ _ l0_14 _ _ l1_14 u_ _ (Kd.C_drewN HD0b.out _) HE0.out (Kd.C_drewN HD1b.out _) HE1.out HU.out).mono ?_
    rintro e w' ⟨rfl, ⟨nd2, rfl⟩⟩
    clear HU HD0b HD1b HE0 HE1 hd0 hd1
    cases u_ with
    | false =>
      have hf := HF.out
      rw [if_neg (by decide)] at hf
      obtain rfl := Option.some.inj hf
      clear hf HF
      go_wp2
      go_ret
      exact ⟨rfl, pw_below_drewN HBc.out _⟩
    | true =>
      have hf := HF.out
      rw [if_pos rfl] at hf
      have HV := Go.Lib.hid (Option.some.inj hf)
      clear hf HF
      go_upto_region 4 with (fail)
      refine wp_region_lit ?_
      simp only [List.append_eq, List.cons_append, List.nil_append]
      iterate 18 (first | go_values | go_skip | go_step | go_upon)
      refine Go.Proofs.Ytelniipccmeooaa.Lazy.lazy_ (g := 5) (want := true) (b := (a0_0 == a1_0)) (v := ?v31) rfl ?hy31 ?r31 ?_
      case hy31 => kernel_rfl
      case r31 => intro hb_; first | (go_simp; done) | (go_simp; rfl)
      intro u31 h31; have U31 := Go.Lib.hid h31; clear h31
      refine Go.Proofs.Ytelniipccmeooaa.Lazy.lazy_ (g := 5) (want := true) (b := (a0_0 == a1_0)) (v := ?v32) rfl ?hy32 ?r32 ?_
      case hy32 => kernel_rfl
      case r32 => intro hb_; have e31_ := U31.out hb_; first | (go_simp; done) | (go_simp; rfl)
      intro u32 h32; have U32 := Go.Lib.hid h32; clear h32
      refine Go.Proofs.Ytelniipccmeooaa.Lazy.lazy_ (g := 5) (want := true) (b := (a0_0 == a1_0)) (v := ?v33) rfl ?hy33 ?r33 ?_
      case hy33 => kernel_rfl
      case r33 => intro hb_; first | (go_simp; done) | (go_simp; rfl)
      intro u33 h33; have U33 := Go.Lib.hid h33; clear h33
      refine Go.Proofs.Ytelniipccmeooaa.Lazy.lazy_ (g := 5) (want := true) (b := (a0_0 == a1_0)) (v := ?v34) rfl ?hy34 ?r34 ?_
      case hy34 => kernel_rfl
      case r34 => intro hb_; have e33_ := U33.out hb_; first | (go_simp; done) | (go_simp; rfl)
      intro u34 h34; have U34 := Go.Lib.hid h34; clear h34
      refine Go.Proofs.Ytelniipccmeooaa.Lazy.lazy_ (g := 5) (want := true) (b := (a0_0 == a1_0)) (v := ?v35) rfl ?hy35 ?r35 ?_
      case hy35 => kernel_rfl
      case r35 => intro hb_; have e32_ := U32.out hb_; have e34_ := U34.out hb_; first | (go_simp; done) | (go_simp; rfl)
      intro u35 h35; have U35 := Go.Lib.hid h35; clear h35
      refine Go.Proofs.Ytelniipccmeooaa.Lazy.pick_and (b := (a0_0 == a1_0)) (e := (a0_1.toList == a1_1.toList)) rfl rfl ?hc36 ?hx36 ?_
      case hc36 => kernel_rfl
      case hx36 => exact fun hb_ => Eq.trans (b := u35) (by kernel_rfl) (U35.out hb_)
      clear U35 U31 U32 U33 U34
      simp only [Act.put, List.setIfInBounds_toArray, List.set_cons_zero, List.set_cons_succ]
      iterate 3 (first | go_values | go_skip | go_step | go_upon)
      refine Go.Proofs.Ytelniipccmeooaa.Lazy.lazy_ (g := 12) (want := true) (b := ((a0_0 == a1_0) && (a0_1.toList == a1_1.toList))) (v := ?v38) rfl ?hy38 ?r38 ?_
      case hy38 => kernel_rfl
      case r38 => intro hb_; first | (go_simp; done) | (go_simp; rfl)
      intro u38 h38; have U38 := Go.Lib.hid h38; clear h38
      refine Go.Proofs.Ytelniipccmeooaa.Lazy.lazy_ (g := 12) (want := true) (b := ((a0_0 == a1_0) && (a0_1.toList == a1_1.toList))) (v := ?v39) rfl ?hy39 ?r39 ?_
      case hy39 => kernel_rfl
      case r39 => intro hb_; have e38_ := U38.out hb_; first | (go_simp; done) | (go_simp; rfl)
      intro u39 h39; have U39 := Go.Lib.hid h39; clear h39
      refine Go.Proofs.Ytelniipccmeooaa.Lazy.lazy_ (g := 12) (want := true) (b := ((a0_0 == a1_0) && (a0_1.toList == a1_1.toList))) (v := ?v40) rfl ?hy40 ?r40 ?_
      case hy40 => kernel_rfl
      case r40 => intro hb_; first | (go_simp; done) | (go_simp; rfl)
      intro u40 h40; have U40 := Go.Lib.hid h40; clear h40
      refine Go.Proofs.Ytelniipccmeooaa.Lazy.lazy_ (g := 12) (want := true) (b := ((a0_0 == a1_0) && (a0_1.toList == a1_1.toList))) (v := ?v41) rfl ?hy41 ?r41 ?_
      case hy41 => kernel_rfl
      case r41 => intro hb_; have e40_ := U40.out hb_; first | (go_simp; done) | (go_simp; rfl)
      intro u41 h41; have U41 := Go.Lib.hid h41; clear h41
      refine Go.Proofs.Ytelniipccmeooaa.Lazy.lazy_ (g := 12) (want := true) (b := ((a0_0 == a1_0) && (a0_1.toList == a1_1.toList))) (v := ?v42) rfl ?hy42 ?r42 ?_
      case hy42 => kernel_rfl
      case r42 => intro hb_; have e39_ := U39.out hb_; have e41_ := U41.out hb_; first | (go_simp; done) | (go_simp; rfl)
      intro u42 h42; have U42 := Go.Lib.hid h42; clear h42
      refine Go.Proofs.Ytelniipccmeooaa.Lazy.pick_and (b := ((a0_0 == a1_0) && (a0_1.toList == a1_1.toList))) (e := (a0_2.toList == a1_2.toList)) rfl rfl ?hc43 ?hx43 ?_
      case hc43 => kernel_rfl
      case hx43 => exact fun hb_ => Eq.trans (b := u42) (by kernel_rfl) (U42.out hb_)
      clear U42 U38 U39 U40 U41
      simp only [Act.put, List.setIfInBounds_toArray, List.set_cons_zero, List.set_cons_succ]
      iterate 3 (first | go_values | go_skip | go_step | go_upon)
      refine Go.Proofs.Ytelniipccmeooaa.Lazy.lazy_ (g := 19) (want := true) (b := (((a0_0 == a1_0) && (a0_1.toList == a1_1.toList)) && (a0_2.toList == a1_2.toList))) (v := ?v45) rfl ?hy45 ?r45 ?_
      case hy45 => kernel_rfl
      case r45 => intro hb_; first | (go_simp; done) | (go_simp; rfl)
      intro u45 h45; have U45 := Go.Lib.hid h45; clear h45
      refine Go.Proofs.Ytelniipccmeooaa.Lazy.lazy_ (g := 19) (want := true) (b := (((a0_0 == a1_0) && (a0_1.toList == a1_1.toList)) && (a0_2.toList == a1_2.toList))) (v := ?v46) rfl ?hy46 ?r46 ?_
      case hy46 => kernel_rfl
      case r46 => intro hb_; have e45_ := U45.out hb_; first | (go_simp; done) | (go_simp; rfl)
      intro u46 h46; have U46 := Go.Lib.hid h46; clear h46
      refine Go.Proofs.Ytelniipccmeooaa.Lazy.lazy_ (g := 19) (want := true) (b := (((a0_0 == a1_0) && (a0_1.toList == a1_1.toList)) && (a0_2.toList == a1_2.toList))) (v := ?v47) rfl ?hy47 ?r47 ?_
      case hy47 => kernel_rfl
      case r47 => intro hb_; first | (go_simp; done) | (go_simp; rfl)
      intro u47 h47; have U47 := Go.Lib.hid h47; clear h47
      refine Go.Proofs.Ytelniipccmeooaa.Lazy.lazy_ (g := 19) (want := true) (b := (((a0_0 == a1_0) && (a0_1.toList == a1_1.toList)) && (a0_2.toList == a1_2.toList))) (v := ?v48) rfl ?hy48 ?r48 ?_
      case hy48 => kernel_rfl
      case r48 => intro hb_; have e47_ := U47.out hb_; first | (go_simp; done) | (go_simp; rfl)
      intro u48 h48; have U48 := Go.Lib.hid h48; clear h48
      refine Go.Proofs.Ytelniipccmeooaa.Lazy.lazy_ (g := 19) (want := true) (b := (((a0_0 == a1_0) && (a0_1.toList == a1_1.toList)) && (a0_2.toList == a1_2.toList))) (v := ?v49) rfl ?hy49 ?r49 ?_
      case hy49 => kernel_rfl
      case r49 => intro hb_; have e46_ := U46.out hb_; have e48_ := U48.out hb_; first | (go_simp; done) | (go_simp; rfl)
      intro u49 h49; have U49 := Go.Lib.hid h49; clear h49
      refine Go.Proofs.Ytelniipccmeooaa.Lazy.pick_and (b := (((a0_0 == a1_0) && (a0_1.toList == a1_1.toList)) && (a0_2.toList == a1_2.toList))) (e := (a0_3 == a1_3)) rfl rfl ?hc50 ?hx50 ?_
      case hc50 => kernel_rfl
      case hx50 => exact fun hb_ => Eq.trans (b := u49) (by kernel_rfl) (U49.out hb_)
      clear U49 U45 U46 U47 U48
      simp only [Act.put, List.setIfInBounds_toArray, List.set_cons_zero, List.set_cons_succ]
      iterate 3 (first | go_values | go_skip | go_step | go_upon)
      refine Go.Proofs.Ytelniipccmeooaa.Lazy.lazy_ (g := 26) (want := true) (b := ((((a0_0 == a1_0) && (a0_1.toList == a1_1.toList)) && (a0_2.toList == a1_2.toList)) && (a0_3 == a1_3))) (v := ?v52) rfl ?hy52 ?r52 ?_
      case hy52 => kernel_rfl
      case r52 => intro hb_; first | (go_simp; done) | (go_simp; rfl)
      intro u52 h52; have U52 := Go.Lib.hid h52; clear h52
      refine Go.Proofs.Ytelniipccmeooaa.Lazy.lazy_ (g := 26) (want := true) (b := ((((a0_0 == a1_0) && (a0_1.toList == a1_1.toList)) && (a0_2.toList == a1_2.toList)) && (a0_3 == a1_3))) (v := ?v53) rfl ?hy53 ?r53 ?_
      case hy53 => kernel_rfl
      case r53 => intro hb_; have e52_ := U52.out hb_; first | (go_simp; done) | (go_simp; rfl)
      intro u53 h53; have U53 := Go.Lib.hid h53; clear h53
      refine Go.Proofs.Ytelniipccmeooaa.Lazy.lazy_ (g := 26) (want := true) (b := ((((a0_0 == a1_0) && (a0_1.toList == a1_1.toList)) && (a0_2.toList == a1_2.toList)) && (a0_3 == a1_3))) (v := ?v54) rfl ?hy54 ?r54 ?_
      case hy54 => kernel_rfl
      case r54 => intro hb_; first | (go_simp; done) | (go_simp; rfl)
      intro u54 h54; have U54 := Go.Lib.hid h54; clear h54
      refine Go.Proofs.Ytelniipccmeooaa.Lazy.lazy_ (g := 26) (want := true) (b := ((((a0_0 == a1_0) && (a0_1.toList == a1_1.toList)) && (a0_2.toList == a1_2.toList)) && (a0_3 == a1_3))) (v := ?v55) rfl ?hy55 ?r55 ?_
      case hy55 => kernel_rfl
      case r55 => intro hb_; have e54_ := U54.out hb_; first | (go_simp; done) | (go_simp; rfl)
      intro u55 h55; have U55 := Go.Lib.hid h55; clear h55
      refine Go.Proofs.Ytelniipccmeooaa.Lazy.lazy_ (g := 26) (want := true) (b := ((((a0_0 == a1_0) && (a0_1.toList == a1_1.toList)) && (a0_2.toList == a1_2.toList)) && (a0_3 == a1_3))) (v := ?v56) rfl ?hy56 ?r56 ?_
      case hy56 => kernel_rfl
      case r56 => intro hb_; have e53_ := U53.out hb_; have e55_ := U55.out hb_; first | (go_simp; done) | (go_simp; rfl)
      intro u56 h56; have U56 := Go.Lib.hid h56; clear h56
      refine Go.Proofs.Ytelniipccmeooaa.Lazy.pick_and (b := ((((a0_0 == a1_0) && (a0_1.toList == a1_1.toList)) && (a0_2.toList == a1_2.toList)) && (a0_3 == a1_3))) (e := (a0_4 == a1_4)) rfl rfl ?hc57 ?hx57 ?_
      case hc57 => kernel_rfl
      case hx57 => exact fun hb_ => Eq.trans (b := u56) (by kernel_rfl) (U56.out hb_)
      clear U56 U52 U53 U54 U55
      simp only [Act.put, List.setIfInBounds_toArray, List.set_cons_zero, List.set_cons_succ]
      iterate 3 (first | go_values | go_skip | go_step | go_upon)
      refine Go.Proofs.Ytelniipccmeooaa.Lazy.lazy_ (g := 33) (want := true) (b := (((((a0_0 == a1_0) && (a0_1.toList == a1_1.toList)) && (a0_2.toList == a1_2.toList)) && (a0_3 == a1_3)) && (a0_4 == a1_4))) (v := ?v59) rfl ?hy59 ?r59 ?_
      case hy59 => kernel_rfl
      case r59 => intro hb_; first | (go_simp; done) | (go_simp; rfl)
      intro u59 h59; have U59 := Go.Lib.hid h59; clear h59
      refine Go.Proofs.Ytelniipccmeooaa.Lazy.lazy_ (g := 33) (want := true) (b := (((((a0_0 == a1_0) && (a0_1.toList == a1_1.toList)) && (a0_2.toList == a1_2.toList)) && (a0_3 == a1_3)) && (a0_4 == a1_4))) (v := ?v60) rfl ?hy60 ?r60 ?_
      case hy60 => kernel_rfl
      case r60 => intro hb_; have e59_ := U59.out hb_; first | (go_simp; done) | (go_simp; rfl)
      intro u60 h60; have U60 := Go.Lib.hid h60; clear h60
      refine Go.Proofs.Ytelniipccmeooaa.Lazy.lazy_ (g := 33) (want := true) (b := (((((a0_0 == a1_0) && (a0_1.toList == a1_1.toList)) && (a0_2.toList == a1_2.toList)) && (a0_3 == a1_3)) && (a0_4 == a1_4))) (v := ?v61) rfl ?hy61 ?r61 ?_
      case hy61 => kernel_rfl
      case r61 => intro hb_; first | (go_simp; done) | (go_simp; rfl)
      intro u61 h61; have U61 := Go.Lib.hid h61; clear h61
      refine Go.Proofs.Ytelniipccmeooaa.Lazy.lazy_ (g := 33) (want := true) (b := (((((a0_0 == a1_0) && (a0_1.toList == a1_1.toList)) && (a0_2.toList == a1_2.toList)) && (a0_3 == a1_3)) && (a0_4 == a1_4))) (v := ?v62) rfl ?hy62 ?r62 ?_
      case hy62 => kernel_rfl
      case r62 => intro hb_; have e61_ := U61.out hb_; first | (go_simp; done) | (go_simp; rfl)
      intro u62 h62; have U62 := Go.Lib.hid h62; clear h62
      refine Go.Proofs.Ytelniipccmeooaa.Lazy.lazy_ (g := 33) (want := true) (b := (((((a0_0 == a1_0) && (a0_1.toList == a1_1.toList)) && (a0_2.toList == a1_2.toList)) && (a0_3 == a1_3)) && (a0_4 == a1_4))) (v := ?v63) rfl ?hy63 ?r63 ?_
      case hy63 => kernel_rfl
      case r63 => intro hb_; have e60_ := U60.out hb_; have e62_ := U62.out hb_; first | (go_simp; done) | (go_simp; rfl)
      intro u63 h63; have U63 := Go.Lib.hid h63; clear h63
      refine Go.Proofs.Ytelniipccmeooaa.Lazy.pick_and (b := (((((a0_0 == a1_0) && (a0_1.toList == a1_1.toList)) && (a0_2.toList == a1_2.toList)) && (a0_3 == a1_3)) && (a0_4 == a1_4))) (e := (a0_5 == a1_5)) rfl rfl ?hc64 ?hx64 ?_
      case hc64 => kernel_rfl
      case hx64 => exact fun hb_ => Eq.trans (b := u63) (by kernel_rfl) (U63.out hb_)
      clear U63 U59 U60 U61 U62
      simp only [Act.put, List.setIfInBounds_toArray, List.set_cons_zero, List.set_cons_succ]
      iterate 3 (first | go_values | go_skip | go_step | go_upon)
      refine Go.Proofs.Ytelniipccmeooaa.Lazy.lazy_ (g := 40) (want := true) (b := ((((((a0_0 == a1_0) && (a0_1.toList == a1_1.toList)) && (a0_2.toList == a1_2.toList)) && (a0_3 == a1_3)) && (a0_4 == a1_4)) && (a0_5 == a1_5))) (v := ?v66) rfl ?hy66 ?r66 ?_
      case hy66 => kernel_rfl
      case r66 => intro hb_; first | (go_simp; done) | (go_simp; rfl)
      intro u66 h66; have U66 := Go.Lib.hid h66; clear h66
      refine Go.Proofs.Ytelniipccmeooaa.Lazy.lazy_ (g := 40) (want := true) (b := ((((((a0_0 == a1_0) && (a0_1.toList == a1_1.toList)) && (a0_2.toList == a1_2.toList)) && (a0_3 == a1_3)) && (a0_4 == a1_4)) && (a0_5 == a1_5))) (v := ?v67) rfl ?hy67 ?r67 ?_
      case hy67 => kernel_rfl
      case r67 => intro hb_; have e66_ := U66.out hb_; first | (go_simp; done) | (go_simp; rfl)
      intro u67 h67; have U67 := Go.Lib.hid h67; clear h67
      refine Go.Proofs.Ytelniipccmeooaa.Lazy.lazy_ (g := 40) (want := true) (b := ((((((a0_0 == a1_0) && (a0_1.toList == a1_1.toList)) && (a0_2.toList == a1_2.toList)) && (a0_3 == a1_3)) && (a0_4 == a1_4)) && (a0_5 == a1_5))) (v := ?v68) rfl ?hy68 ?r68 ?_
      case hy68 => kernel_rfl
      case r68 => intro hb_; first | (go_simp; done) | (go_simp; rfl)
      intro u68 h68; have U68 := Go.Lib.hid h68; clear h68
      refine Go.Proofs.Ytelniipccmeooaa.Lazy.lazy_ (g := 40) (want := true) (b := ((((((a0_0 == a1_0) && (a0_1.toList == a1_1.toList)) && (a0_2.toList == a1_2.toList)) && (a0_3 == a1_3)) && (a0_4 == a1_4)) && (a0_5 == a1_5))) (v := ?v69) rfl ?hy69 ?r69 ?_
      case hy69 => kernel_rfl
      case r69 => intro hb_; have e68_ := U68.out hb_; first | (go_simp; done) | (go_simp; rfl)
      intro u69 h69; have U69 := Go.Lib.hid h69; clear h69
      refine Go.Proofs.Ytelniipccmeooaa.Lazy.lazy_ (g := 40) (want := true) (b := ((((((a0_0 == a1_0) && (a0_1.toList == a1_1.toList)) && (a0_2.toList == a1_2.toList)) && (a0_3 == a1_3)) && (a0_4 == a1_4)) && (a0_5 == a1_5))) (v := ?v70) rfl ?hy70 ?r70 ?_
      case hy70 => kernel_rfl
      case r70 => intro hb_; have e67_ := U67.out hb_; have e69_ := U69.out hb_; first | (go_simp; done) | (go_simp; rfl)
      intro u70 h70; have U70 := Go.Lib.hid h70; clear h70
      refine Go.Proofs.Ytelniipccmeooaa.Lazy.pick_and (b := ((((((a0_0 == a1_0) && (a0_1.toList == a1_1.toList)) && (a0_2.toList == a1_2.toList)) && (a0_3 == a1_3)) && (a0_4 == a1_4)) && (a0_5 == a1_5))) (e := (a0_6 == a1_6)) rfl rfl ?hc71 ?hx71 ?_
      case hc71 => kernel_rfl
      case hx71 => exact fun hb_ => Eq.trans (b := u70) (by kernel_rfl) (U70.out hb_)
      clear U70 U66 U67 U68 U69
      simp only [Act.put, List.setIfInBounds_toArray, List.set_cons_zero, List.set_cons_succ]
      iterate 3 (first | go_values | go_skip | go_step | go_upon)
      refine Go.Proofs.Ytelniipccmeooaa.Lazy.lazy_ (g := 47) (want := true) (b := (((((((a0_0 == a1_0) && (a0_1.toList == a1_1.toList)) && (a0_2.toList == a1_2.toList)) && (a0_3 == a1_3)) && (a0_4 == a1_4)) && (a0_5 == a1_5)) && (a0_6 == a1_6))) (v := ?v73) rfl ?hy73 ?r73 ?_
      case hy73 => kernel_rfl
      case r73 => intro hb_; first | (go_simp; done) | (go_simp; rfl)
      intro u73 h73; have U73 := Go.Lib.hid h73; clear h73
      refine Go.Proofs.Ytelniipccmeooaa.Lazy.lazy_ (g := 47) (want := true) (b := (((((((a0_0 == a1_0) && (a0_1.toList == a1_1.toList)) && (a0_2.toList == a1_2.toList)) && (a0_3 == a1_3)) && (a0_4 == a1_4)) && (a0_5 == a1_5)) && (a0_6 == a1_6))) (v := ?v74) rfl ?hy74 ?r74 ?_
      case hy74 => kernel_rfl
      case r74 => intro hb_; have e73_ := U73.out hb_; first | (go_simp; done) | (go_simp; rfl)
      intro u74 h74; have U74 := Go.Lib.hid h74; clear h74
      refine Go.Proofs.Ytelniipccmeooaa.Lazy.lazy_ (g := 47) (want := true) (b := (((((((a0_0 == a1_0) && (a0_1.toList == a1_1.toList)) && (a0_2.toList == a1_2.toList)) && (a0_3 == a1_3)) && (a0_4 == a1_4)) && (a0_5 == a1_5)) && (a0_6 == a1_6))) (v := ?v75) rfl ?hy75 ?r75 ?_
      case hy75 => kernel_rfl
      case r75 => intro hb_; first | (go_simp; done) | (go_simp; rfl)
      intro u75 h75; have U75 := Go.Lib.hid h75; clear h75
      refine Go.Proofs.Ytelniipccmeooaa.Lazy.lazy_ (g := 47) (want := true) (b := (((((((a0_0 == a1_0) && (a0_1.toList == a1_1.toList)) && (a0_2.toList == a1_2.toList)) && (a0_3 == a1_3)) && (a0_4 == a1_4)) && (a0_5 == a1_5)) && (a0_6 == a1_6))) (v := ?v76) rfl ?hy76 ?r76 ?_
      case hy76 => kernel_rfl
      case r76 => intro hb_; have e75_ := U75.out hb_; first | (go_simp; done) | (go_simp; rfl)
      intro u76 h76; have U76 := Go.Lib.hid h76; clear h76
      refine Go.Proofs.Ytelniipccmeooaa.Lazy.lazy_ (g := 47) (want := true) (b := (((((((a0_0 == a1_0) && (a0_1.toList == a1_1.toList)) && (a0_2.toList == a1_2.toList)) && (a0_3 == a1_3)) && (a0_4 == a1_4)) && (a0_5 == a1_5)) && (a0_6 == a1_6))) (v := ?v77) rfl ?hy77 ?r77 ?_
      case hy77 => kernel_rfl
      case r77 => intro hb_; have e74_ := U74.out hb_; have e76_ := U76.out hb_; first | (go_simp; done) | (go_simp; rfl)
      intro u77 h77; have U77 := Go.Lib.hid h77; clear h77
      refine Go.Proofs.Ytelniipccmeooaa.Lazy.pick_and (b := (((((((a0_0 == a1_0) && (a0_1.toList == a1_1.toList)) && (a0_2.toList == a1_2.toList)) && (a0_3 == a1_3)) && (a0_4 == a1_4)) && (a0_5 == a1_5)) && (a0_6 == a1_6))) (e := (a0_7 == a1_7 && (a0_8 == a1_8))) rfl rfl ?hc78 ?hx78 ?_
      case hc78 => kernel_rfl
      case hx78 => exact fun hb_ => Eq.trans (b := u77) (by kernel_rfl) (U77.out hb_)
      clear U77 U73 U74 U75 U76
      simp only [Act.put, List.setIfInBounds_toArray, List.set_cons_zero, List.set_cons_succ]
      iterate 3 (first | go_values | go_skip | go_step | go_upon)
      refine Go.Proofs.Ytelniipccmeooaa.Lazy.lazy_ (g := 54) (want := true) (b := ((((((((a0_0 == a1_0) && (a0_1.toList == a1_1.toList)) && (a0_2.toList == a1_2.toList)) && (a0_3 == a1_3)) && (a0_4 == a1_4)) && (a0_5 == a1_5)) && (a0_6 == a1_6)) && (a0_7 == a1_7 && (a0_8 == a1_8)))) (v := ?v80) rfl ?hy80 ?r80 ?_
      case hy80 => kernel_rfl
      case r80 => intro hb_; first | (go_simp; done) | (go_simp; rfl)
      intro u80 h80; have U80 := Go.Lib.hid h80; clear h80
      refine Go.Proofs.Ytelniipccmeooaa.Lazy.lazy_ (g := 54) (want := true) (b := ((((((((a0_0 == a1_0) && (a0_1.toList == a1_1.toList)) && (a0_2.toList == a1_2.toList)) && (a0_3 == a1_3)) && (a0_4 == a1_4)) && (a0_5 == a1_5)) && (a0_6 == a1_6)) && (a0_7 == a1_7 && (a0_8 == a1_8)))) (v := ?v81) rfl ?hy81 ?r81 ?_
      case hy81 => kernel_rfl
      case r81 => intro hb_; have e80_ := U80.out hb_; first | (go_simp; done) | (go_simp; rfl)
      intro u81 h81; have U81 := Go.Lib.hid h81; clear h81
      refine Go.Proofs.Ytelniipccmeooaa.Lazy.lazy_ (g := 54) (want := true) (b := ((((((((a0_0 == a1_0) && (a0_1.toList == a1_1.toList)) && (a0_2.toList == a1_2.toList)) && (a0_3 == a1_3)) && (a0_4 == a1_4)) && (a0_5 == a1_5)) && (a0_6 == a1_6)) && (a0_7 == a1_7 && (a0_8 == a1_8)))) (v := ?v82) rfl ?hy82 ?r82 ?_
      case hy82 => kernel_rfl
      case r82 => intro hb_; first | (go_simp; done) | (go_simp; rfl)
      intro u82 h82; have U82 := Go.Lib.hid h82; clear h82
      refine Go.Proofs.Ytelniipccmeooaa.Lazy.lazy_ (g := 54) (want := true) (b := ((((((((a0_0 == a1_0) && (a0_1.toList == a1_1.toList)) && (a0_2.toList == a1_2.toList)) && (a0_3 == a1_3)) && (a0_4 == a1_4)) && (a0_5 == a1_5)) && (a0_6 == a1_6)) && (a0_7 == a1_7 && (a0_8 == a1_8)))) (v := ?v83) rfl ?hy83 ?r83 ?_
      case hy83 => kernel_rfl
      case r83 => intro hb_; have e82_ := U82.out hb_; first | (go_simp; done) | (go_simp; rfl)
      intro u83 h83; have U83 := Go.Lib.hid h83; clear h83
      refine Go.Proofs.Ytelniipccmeooaa.Lazy.lazy_ (g := 54) (want := true) (b := ((((((((a0_0 == a1_0) && (a0_1.toList == a1_1.toList)) && (a0_2.toList == a1_2.toList)) && (a0_3 == a1_3)) && (a0_4 == a1_4)) && (a0_5 == a1_5)) && (a0_6 == a1_6)) && (a0_7 == a1_7 && (a0_8 == a1_8)))) (v := ?v84) rfl ?hy84 ?r84 ?_
      case hy84 => kernel_rfl
      case r84 => intro hb_; have e81_ := U81.out hb_; have e83_ := U83.out hb_; first | (go_simp; done) | (go_simp; rfl)
      intro u84 h84; have U84 := Go.Lib.hid h84; clear h84
      refine Go.Proofs.Ytelniipccmeooaa.Lazy.pick_and (b := ((((((((a0_0 == a1_0) && (a0_1.toList == a1_1.toList)) && (a0_2.toList == a1_2.toList)) && (a0_3 == a1_3)) && (a0_4 == a1_4)) && (a0_5 == a1_5)) && (a0_6 == a1_6)) && (a0_7 == a1_7 && (a0_8 == a1_8)))) (e := (a0_9.toList == a1_9.toList)) rfl rfl ?hc85 ?hx85 ?_
      case hc85 => kernel_rfl
      case hx85 => exact fun hb_ => Eq.trans (b := u84) (by kernel_rfl) (U84.out hb_)
      clear U84 U80 U81 U82 U83
      simp only [Act.put, List.setIfInBounds_toArray, List.set_cons_zero, List.set_cons_succ]
      iterate 3 (first | go_values | go_skip | go_step | go_upon)
      refine Go.Proofs.Ytelniipccmeooaa.Lazy.lazy_ (g := 61) (want := true) (b := (((((((((a0_0 == a1_0) && (a0_1.toList == a1_1.toList)) && (a0_2.toList == a1_2.toList)) && (a0_3 == a1_3)) && (a0_4 == a1_4)) && (a0_5 == a1_5)) && (a0_6 == a1_6)) && (a0_7 == a1_7 && (a0_8 == a1_8))) && (a0_9.toList == a1_9.toList))) (v := ?v87) rfl ?hy87 ?r87 ?_
      case hy87 => kernel_rfl
      case r87 => intro hb_; first | (go_simp; done) | (go_simp; rfl)
      intro u87 h87; have U87 := Go.Lib.hid h87; clear h87
      refine Go.Proofs.Ytelniipccmeooaa.Lazy.lazy_ (g := 61) (want := true) (b := (((((((((a0_0 == a1_0) && (a0_1.toList == a1_1.toList)) && (a0_2.toList == a1_2.toList)) && (a0_3 == a1_3)) && (a0_4 == a1_4)) && (a0_5 == a1_5)) && (a0_6 == a1_6)) && (a0_7 == a1_7 && (a0_8 == a1_8))) && (a0_9.toList == a1_9.toList))) (v := ?v88) rfl ?hy88 ?r88 ?_
      case hy88 => kernel_rfl
      case r88 => intro hb_; have e87_ := U87.out hb_; first | (go_simp; done) | (go_simp; rfl)
      intro u88 h88; have U88 := Go.Lib.hid h88; clear h88
      refine Go.Proofs.Ytelniipccmeooaa.Lazy.lazy_ (g := 61) (want := true) (b := (((((((((a0_0 == a1_0) && (a0_1.toList == a1_1.toList)) && (a0_2.toList == a1_2.toList)) && (a0_3 == a1_3)) && (a0_4 == a1_4)) && (a0_5 == a1_5)) && (a0_6 == a1_6)) && (a0_7 == a1_7 && (a0_8 == a1_8))) && (a0_9.toList == a1_9.toList))) (v := ?v89) rfl ?hy89 ?r89 ?_
      case hy89 => kernel_rfl
      case r89 => intro hb_; first | (go_simp; done) | (go_simp; rfl)
      intro u89 h89; have U89 := Go.Lib.hid h89; clear h89
      refine Go.Proofs.Ytelniipccmeooaa.Lazy.lazy_ (g := 61) (want := true) (b := (((((((((a0_0 == a1_0) && (a0_1.toList == a1_1.toList)) && (a0_2.toList == a1_2.toList)) && (a0_3 == a1_3)) && (a0_4 == a1_4)) && (a0_5 == a1_5)) && (a0_6 == a1_6)) && (a0_7 == a1_7 && (a0_8 == a1_8))) && (a0_9.toList == a1_9.toList))) (v := ?v90) rfl ?hy90 ?r90 ?_
      case hy90 => kernel_rfl
      case r90 => intro hb_; have e89_ := U89.out hb_; first | (go_simp; done) | (go_simp; rfl)
      intro u90 h90; have U90 := Go.Lib.hid h90; clear h90
      refine Go.Proofs.Ytelniipccmeooaa.Lazy.lazy_ (g := 61) (want := true) (b := (((((((((a0_0 == a1_0) && (a0_1.toList == a1_1.toList)) && (a0_2.toList == a1_2.toList)) && (a0_3 == a1_3)) && (a0_4 == a1_4)) && (a0_5 == a1_5)) && (a0_6 == a1_6)) && (a0_7 == a1_7 && (a0_8 == a1_8))) && (a0_9.toList == a1_9.toList))) (v := ?v91) rfl ?hy91 ?r91 ?_
      case hy91 => kernel_rfl
      case r91 => intro hb_; have e88_ := U88.out hb_; have e90_ := U90.out hb_; first | (go_simp; done) | (go_simp; rfl)
      intro u91 h91; have U91 := Go.Lib.hid h91; clear h91
      refine Go.Proofs.Ytelniipccmeooaa.Lazy.pick_and (b := (((((((((a0_0 == a1_0) && (a0_1.toList == a1_1.toList)) && (a0_2.toList == a1_2.toList)) && (a0_3 == a1_3)) && (a0_4 == a1_4)) && (a0_5 == a1_5)) && (a0_6 == a1_6)) && (a0_7 == a1_7 && (a0_8 == a1_8))) && (a0_9.toList == a1_9.toList))) (e := (a0_10.toList == a1_10.toList)) rfl rfl ?hc92 ?hx92 ?_
      case hc92 => kernel_rfl
      case hx92 => exact fun hb_ => Eq.trans (b := u91) (by kernel_rfl) (U91.out hb_)
      clear U91 U87 U88 U89 U90
      simp only [Act.put, List.setIfInBounds_toArray, List.set_cons_zero, List.set_cons_succ]
      iterate 3 (first | go_values | go_skip | go_step | go_upon)
      refine Go.Proofs.Ytelniipccmeooaa.Lazy.lazy_ (g := 68) (want := true) (b := ((((((((((a0_0 == a1_0) && (a0_1.toList == a1_1.toList)) && (a0_2.toList == a1_2.toList)) && (a0_3 == a1_3)) && (a0_4 == a1_4)) && (a0_5 == a1_5)) && (a0_6 == a1_6)) && (a0_7 == a1_7 && (a0_8 == a1_8))) && (a0_9.toList == a1_9.toList)) && (a0_10.toList == a1_10.toList))) (v := ?v94) rfl ?hy94 ?r94 ?_
      case hy94 => kernel_rfl
      case r94 => intro hb_; first | (go_simp; done) | (go_simp; rfl)
      intro u94 h94; have U94 := Go.Lib.hid h94; clear h94
      refine Go.Proofs.Ytelniipccmeooaa.Lazy.lazy_ (g := 68) (want := true) (b := ((((((((((a0_0 == a1_0) && (a0_1.toList == a1_1.toList)) && (a0_2.toList == a1_2.toList)) && (a0_3 == a1_3)) && (a0_4 == a1_4)) && (a0_5 == a1_5)) && (a0_6 == a1_6)) && (a0_7 == a1_7 && (a0_8 == a1_8))) && (a0_9.toList == a1_9.toList)) && (a0_10.toList == a1_10.toList))) (v := ?v95) rfl ?hy95 ?r95 ?_
      case hy95 => kernel_rfl
      case r95 => intro hb_; have e94_ := U94.out hb_; first | (go_simp; done) | (go_simp; rfl)
      intro u95 h95; have U95 := Go.Lib.hid h95; clear h95
      refine Go.Proofs.Ytelniipccmeooaa.Lazy.lazy_ (g := 68) (want := true) (b := ((((((((((a0_0 == a1_0) && (a0_1.toList == a1_1.toList)) && (a0_2.toList == a1_2.toList)) && (a0_3 == a1_3)) && (a0_4 == a1_4)) && (a0_5 == a1_5)) && (a0_6 == a1_6)) && (a0_7 == a1_7 && (a0_8 == a1_8))) && (a0_9.toList == a1_9.toList)) && (a0_10.toList == a1_10.toList))) (v := ?v96) rfl ?hy96 ?r96 ?_
      case hy96 => kernel_rfl
      case r96 => intro hb_; first | (go_simp; done) | (go_simp; rfl)
      intro u96 h96; have U96 := Go.Lib.hid h96; clear h96
      refine Go.Proofs.Ytelniipccmeooaa.Lazy.lazy_ (g := 68) (want := true) (b := ((((((((((a0_0 == a1_0) && (a0_1.toList == a1_1.toList)) && (a0_2.toList == a1_2.toList)) && (a0_3 == a1_3)) && (a0_4 == a1_4)) && (a0_5 == a1_5)) && (a0_6 == a1_6)) && (a0_7 == a1_7 && (a0_8 == a1_8))) && (a0_9.toList == a1_9.toList)) && (a0_10.toList == a1_10.toList))) (v := ?v97) rfl ?hy97 ?r97 ?_
      case hy97 => kernel_rfl
      case r97 => intro hb_; have e96_ := U96.out hb_; first | (go_simp; done) | (go_simp; rfl)
      intro u97 h97; have U97 := Go.Lib.hid h97; clear h97
      refine Go.Proofs.Ytelniipccmeooaa.Lazy.lazy_ (g := 68) (want := true) (b := ((((((((((a0_0 == a1_0) && (a0_1.toList == a1_1.toList)) && (a0_2.toList == a1_2.toList)) && (a0_3 == a1_3)) && (a0_4 == a1_4)) && (a0_5 == a1_5)) && (a0_6 == a1_6)) && (a0_7 == a1_7 && (a0_8 == a1_8))) && (a0_9.toList == a1_9.toList)) && (a0_10.toList == a1_10.toList))) (v := ?v98) rfl ?hy98 ?r98 ?_
      case hy98 => kernel_rfl
      case r98 => intro hb_; have e95_ := U95.out hb_; have e97_ := U97.out hb_; first | (go_simp; done) | (go_simp; rfl)
      intro u98 h98; have U98 := Go.Lib.hid h98; clear h98
      refine Go.Proofs.Ytelniipccmeooaa.Lazy.pick_and (b := ((((((((((a0_0 == a1_0) && (a0_1.toList == a1_1.toList)) && (a0_2.toList == a1_2.toList)) && (a0_3 == a1_3)) && (a0_4 == a1_4)) && (a0_5 == a1_5)) && (a0_6 == a1_6)) && (a0_7 == a1_7 && (a0_8 == a1_8))) && (a0_9.toList == a1_9.toList)) && (a0_10.toList == a1_10.toList))) (e := (a0_11 == a1_11)) rfl rfl ?hc99 ?hx99 ?_
      case hc99 => kernel_rfl
      case hx99 => exact fun hb_ => Eq.trans (b := u98) (by kernel_rfl) (U98.out hb_)
      clear U98 U94 U95 U96 U97
      simp only [Act.put, List.setIfInBounds_toArray, List.set_cons_zero, List.set_cons_succ]
      iterate 3 (first | go_values | go_skip | go_step | go_upon)
      refine Go.Proofs.Ytelniipccmeooaa.Lazy.lazy_ (g := 75) (want := true) (b := (((((((((((a0_0 == a1_0) && (a0_1.toList == a1_1.toList)) && (a0_2.toList == a1_2.toList)) && (a0_3 == a1_3)) && (a0_4 == a1_4)) && (a0_5 == a1_5)) && (a0_6 == a1_6)) && (a0_7 == a1_7 && (a0_8 == a1_8))) && (a0_9.toList == a1_9.toList)) && (a0_10.toList == a1_10.toList)) && (a0_11 == a1_11))) (v := ?v101) rfl ?hy101 ?r101 ?_
      case hy101 => kernel_rfl
      case r101 => intro hb_; first | (go_simp; done) | (go_simp; rfl)
      intro u101 h101; have U101 := Go.Lib.hid h101; clear h101
      refine Go.Proofs.Ytelniipccmeooaa.Lazy.lazy_ (g := 75) (want := true) (b := (((((((((((a0_0 == a1_0) && (a0_1.toList == a1_1.toList)) && (a0_2.toList == a1_2.toList)) && (a0_3 == a1_3)) && (a0_4 == a1_4)) && (a0_5 == a1_5)) && (a0_6 == a1_6)) && (a0_7 == a1_7 && (a0_8 == a1_8))) && (a0_9.toList == a1_9.toList)) && (a0_10.toList == a1_10.toList)) && (a0_11 == a1_11))) (v := ?v102) rfl ?hy102 ?r102 ?_
      case hy102 => kernel_rfl
      case r102 => intro hb_; have e101_ := U101.out hb_; first | (go_simp; done) | (go_simp; rfl)
      intro u102 h102; have U102 := Go.Lib.hid h102; clear h102
      refine Go.Proofs.Ytelniipccmeooaa.Lazy.lazy_ (g := 75) (want := true) (b := (((((((((((a0_0 == a1_0) && (a0_1.toList == a1_1.toList)) && (a0_2.toList == a1_2.toList)) && (a0_3 == a1_3)) && (a0_4 == a1_4)) && (a0_5 == a1_5)) && (a0_6 == a1_6)) && (a0_7 == a1_7 && (a0_8 == a1_8))) && (a0_9.toList == a1_9.toList)) && (a0_10.toList == a1_10.toList)) && (a0_11 == a1_11))) (v := ?v103) rfl ?hy103 ?r103 ?_
      case hy103 => kernel_rfl
      case r103 => intro hb_; first | (go_simp; done) | (go_simp; rfl)
      intro u103 h103; have U103 := Go.Lib.hid h103; clear h103
      refine Go.Proofs.Ytelniipccmeooaa.Lazy.lazy_ (g := 75) (want := true) (b := (((((((((((a0_0 == a1_0) && (a0_1.toList == a1_1.toList)) && (a0_2.toList == a1_2.toList)) && (a0_3 == a1_3)) && (a0_4 == a1_4)) && (a0_5 == a1_5)) && (a0_6 == a1_6)) && (a0_7 == a1_7 && (a0_8 == a1_8))) && (a0_9.toList == a1_9.toList)) && (a0_10.toList == a1_10.toList)) && (a0_11 == a1_11))) (v := ?v104) rfl ?hy104 ?r104 ?_
      case hy104 => kernel_rfl
      case r104 => intro hb_; have e103_ := U103.out hb_; first | (go_simp; done) | (go_simp; rfl)
      intro u104 h104; have U104 := Go.Lib.hid h104; clear h104
      refine Go.Proofs.Ytelniipccmeooaa.Lazy.lazy_ (g := 75) (want := true) (b := (((((((((((a0_0 == a1_0) && (a0_1.toList == a1_1.toList)) && (a0_2.toList == a1_2.toList)) && (a0_3 == a1_3)) && (a0_4 == a1_4)) && (a0_5 == a1_5)) && (a0_6 == a1_6)) && (a0_7 == a1_7 && (a0_8 == a1_8))) && (a0_9.toList == a1_9.toList)) && (a0_10.toList == a1_10.toList)) && (a0_11 == a1_11))) (v := ?v105) rfl ?hy105 ?r105 ?_
      case hy105 => kernel_rfl
      case r105 => intro hb_; have e102_ := U102.out hb_; have e104_ := U104.out hb_; first | (go_simp; done) | (go_simp; rfl)
      intro u105 h105; have U105 := Go.Lib.hid h105; clear h105
      refine Go.Proofs.Ytelniipccmeooaa.Lazy.pick_and (b := (((((((((((a0_0 == a1_0) && (a0_1.toList == a1_1.toList)) && (a0_2.toList == a1_2.toList)) && (a0_3 == a1_3)) && (a0_4 == a1_4)) && (a0_5 == a1_5)) && (a0_6 == a1_6)) && (a0_7 == a1_7 && (a0_8 == a1_8))) && (a0_9.toList == a1_9.toList)) && (a0_10.toList == a1_10.toList)) && (a0_11 == a1_11))) (e := (a0_12 == a1_12)) rfl rfl ?hc106 ?hx106 ?_
      case hc106 => kernel_rfl
      case hx106 => exact fun hb_ => Eq.trans (b := u105) (by kernel_rfl) (U105.out hb_)
      clear U105 U101 U102 U103 U104
      simp only [Act.put, List.setIfInBounds_toArray, List.set_cons_zero, List.set_cons_succ]
      go_wp2
      go_ret
      exact ⟨congrArg (fun b_ : Bool => Ending.returned (.bool b_)) HV.out, pw_below_drewN HBc.out _⟩

/-! ### oakumref07_Same: function 27 -/
def oakumref07_Same.l0 : Nat → List (S55) → List (S55) → Int → Option (Bool)
  | 0, _, _, _ => none
  | k + 1, x0, x1, x5 => if x5 < (x0.length : Int) then (if 0 ≤ x5 then (if x5 < (x1.length : Int) then (if (!((((rd_T55 x0 x5).f0).toList) == (((rd_T55 x1 x5).f0).toList)) || (!((((rd_T55 x0 x5).f1).toList) == (((rd_T55 x1 x5).f1).toList)))) = true then (some false) else (oakumref07_Same.l0 k x0 x1 (wrap64 (x5 + 1)))) else (none)) else (none)) else (some true)
def oakumref07_Same.f (k : Nat) (l0 : List (S55)) (l1 : List (S55)) : Option (Bool) := if (l0.length : Int) = (l1.length : Int) then (oakumref07_Same.l0 k l0 l1 0) else (some false)
theorem oakumref07_Same.mono_l : ∀ k, (∀ y0 y1 y2, LeO (oakumref07_Same.l0 k y0 y1 y2) (oakumref07_Same.l0 (k + 1) y0 y1 y2))
  | 0 => fun _ _ _ r h => by simp [oakumref07_Same.l0] at h
  | k + 1 => by
    have ih0 := oakumref07_Same.mono_l k
    · intro y0 y1 y2
      unfold oakumref07_Same.l0
      repeat' first
      | (with_reducible exact ih0 _ _ _)
      | (with_reducible exact LeO.refl _)
      | (with_reducible exact LeO.none _)
      | (with_reducible refine LeO.ite ?_ ?_)
      | (with_reducible refine LeO.bind ?_ (fun _ => ?_))
      | exact ih0 _ _ _
      | exact LeO.none _
      | refine LeO.ite ?_ ?_
      | refine LeO.bind ?_ (fun _ => ?_)
theorem oakumref07_Same.mono : ∀ a0 a1 k, LeO (oakumref07_Same.f k a0 a1) (oakumref07_Same.f (k + 1) a0 a1) := by
  intro a0 a1 k
  have ih0 := oakumref07_Same.mono_l k
  unfold oakumref07_Same.f
  repeat' first
      | (with_reducible exact ih0 _ _ _)
      | (with_reducible exact LeO.refl _)
      | (with_reducible exact LeO.none _)
      | (with_reducible refine LeO.ite ?_ ?_)
      | (with_reducible refine LeO.bind ?_ (fun _ => ?_))
      | exact ih0 _ _ _
      | exact LeO.none _
      | refine LeO.ite ?_ ?_
      | refine LeO.bind ?_ (fun _ => ?_)
set_option maxHeartbeats 8000000 in
set_option maxRecDepth 100000 in
theorem oakumref07_Same.calls (k : Nat) (A0 : Option Addr) (c0 : Nat) (l0 : List (S55)) (A1 : Option Addr) (c1 : Nat) (l1 : List (S55)) (r : Bool) (w : World) (hr0 : Kd.C k55 w A0 l0.length l0) (hc0 : l0.length ≤ c0) (hr1 : Kd.C k55 w A1 l1.length l1) (hc1 : l1.length ≤ c1) (h : oakumref07_Same.f k l0 l1 = some r) :
    Calls Try.prog 27 #[.slice A0 l0.length c0, .slice A1 l1.length c1] w fun e w' => e = .returned (.bool r) ∧ Drawn0 w w' := by
  have hu55 := Try.underlying55
  have HR0 := Aside0.mk hr0
  have HC0 := Aside0.mk hc0
  clear hr0 hc0
  have HR1 := Aside0.mk hr1
  have HC1 := Aside0.mk hc1
  clear hr1 hc1
  have H : (if (l0.length : Int) = (l1.length : Int) then (oakumref07_Same.l0 k l0 l1 0) else (some false)) = some r := h
  clear h
  by_cases c3 : (l0.length : Int) = (l1.length : Int)
  · rw [if_pos c3] at H
    have c3b0 : ((l0.length : Int) == (l1.length : Int)) = true := beq_iff_eq.mpr c3
    have c3b1 : ((l0.length : Int) != (l1.length : Int)) = false := bne_eq_false_iff_eq.mpr c3
    have c3b2 : (l0.length == l1.length) = true := by first | simpa using c3 | (simp at c3 ⊢; omega)
    clear c3
    have H' := Aside0.mk H
    clear H
    go_enter Try.func27, Try.ntmps27
    go_wp2
    repeat (go_quiet (fail); try go_wp2)
    go_loopg [5] k (fun kq v5 w' => ∃ (x5_1 : Int), v5 = .int .i64 x5_1 ∧ Aside0 (oakumref07_Same.l0 kq l0 l1 x5_1 = some r) ∧ Aside0 (kq ≤ k) ∧ Drawn0 w w')
    case atStart => exact ⟨(0), (by first | rfl | (simp; done) | (simp [*]; done)), H', ⟨Nat.le_refl _⟩, by repeat (first | exact Drawn0.refl _ | apply Drawn0.step)⟩
    case round =>
      clear H'
      try clear c1
      try clear c2
      try clear p2
      try clear c3
      try clear c3b0
      try clear c3b1
      try clear c3b2
      obtain ⟨x5_1, rfl, HA, HK1, ⟨m1, rfl⟩⟩ := hrel
      cases gk with
      | zero => exact absurd HA.out (by simp [oakumref07_Same.l0])
      | succ k1 =>
        have H := HA.out
        clear HA
        simp only [oakumref07_Same.l0] at H
        by_cases c4 : x5_1 < (l0.length : Int)
        · rw [if_pos c4] at H
          have c4b0 : decide (x5_1 < (l0.length : Int)) = true := decide_eq_true c4
          clear c4
          by_cases c5 : 0 ≤ x5_1
          · rw [if_pos c5] at H
            have c5b0 : decide (0 ≤ x5_1) = true := decide_eq_true c5
            clear c5
            by_cases c6 : x5_1 < (l1.length : Int)
            · rw [if_pos c6] at H
              have c6b0 : decide (x5_1 < (l1.length : Int)) = true := decide_eq_true c6
              clear c6
              by_cases c7 : (!((((rd_T55 l0 x5_1).f0).toList) == (((rd_T55 l1 x5_1).f0).toList)) || (!((((rd_T55 l0 x5_1).f1).toList) == (((rd_T55 l1 x5_1).f1).toList)))) = true
              · rw [if_pos c7] at H
                have c7b0 : (!((((rd_T55 l0 x5_1).f0).toList) == (((rd_T55 l1 x5_1).f0).toList)) || (!((((rd_T55 l0 x5_1).f1).toList) == (((rd_T55 l1 x5_1).f1).toList)))) = true := c7
                clear c7
                obtain rfl := Option.some.inj H
                have p129 : 0 ≤ (x5_1 : Int) := of_decide_eq_true (by first | (with_reducible assumption) | assumption)
                have q129 : x5_1 < (l0.length : Int) := of_decide_eq_true (by first | (with_reducible assumption) | assumption)
                obtain ⟨ad129, e129, hx129_0, hx129_1⟩ := at_T55 HR0.out x5_1 p129 q129
                cases e129
                replace p129 := eq_true p129
                replace q129 := eq_true q129
                have p130 : 0 ≤ (x5_1 : Int) := of_decide_eq_true (by first | (with_reducible assumption) | assumption)
                have q130 : x5_1 < (l1.length : Int) := of_decide_eq_true (by first | (with_reducible assumption) | assumption)
                obtain ⟨ad130, e130, hx130_0, hx130_1⟩ := at_T55 HR1.out x5_1 p130 q130
                cases e130
                replace p130 := eq_true p130
                replace q130 := eq_true q130
                go_wp2
                repeat (go_quiet (fail); try go_wp2)
                go_ret
                exact ⟨by first | rfl | (simp; done) | (simp [*]; done), by repeat (first | exact Drawn0.refl _ | apply Drawn0.step)⟩
              · rw [if_neg c7] at H
                have c7b0 : (!((((rd_T55 l0 x5_1).f0).toList) == (((rd_T55 l1 x5_1).f0).toList)) || (!((((rd_T55 l0 x5_1).f1).toList) == (((rd_T55 l1 x5_1).f1).toList)))) = false := by simpa using c7
                clear c7
                have H' := Aside0.mk H
                clear H
                have p129 : 0 ≤ (x5_1 : Int) := of_decide_eq_true (by first | (with_reducible assumption) | assumption)
                have q129 : x5_1 < (l0.length : Int) := of_decide_eq_true (by first | (with_reducible assumption) | assumption)
                obtain ⟨ad129, e129, hx129_0, hx129_1⟩ := at_T55 HR0.out x5_1 p129 q129
                cases e129
                replace p129 := eq_true p129
                replace q129 := eq_true q129
                have p130 : 0 ≤ (x5_1 : Int) := of_decide_eq_true (by first | (with_reducible assumption) | assumption)
                have q130 : x5_1 < (l1.length : Int) := of_decide_eq_true (by first | (with_reducible assumption) | assumption)
                obtain ⟨ad130, e130, hx130_0, hx130_1⟩ := at_T55 HR1.out x5_1 p130 q130
                cases e130
                replace p130 := eq_true p130
                replace q130 := eq_true q130
                go_wp2
                repeat (go_quiet (fail); try go_wp2)
                go_roundg k1
                case measure => have := HK1.out; omega
                case rel => exact ⟨(wrap64 (x5_1 + 1)), (by first | rfl | (simp; done) | (simp [*]; done)), H', ⟨by have := HK1.out; omega⟩, by repeat (first | exact Drawn0.refl _ | apply Drawn0.step)⟩
            · rw [if_neg c6] at H
              exact absurd H (by simp)
          · rw [if_neg c5] at H
            exact absurd H (by simp)
        · rw [if_neg c4] at H
          have c4b0 : decide (x5_1 < (l0.length : Int)) = false := decide_eq_false c4
          clear c4
          obtain rfl := Option.some.inj H
          go_wp2
          repeat (go_quiet (fail); try go_wp2)
          go_ret
          exact ⟨by first | rfl | (simp; done) | (simp [*]; done), by repeat (first | exact Drawn0.refl _ | apply Drawn0.step)⟩
  · rw [if_neg c3] at H
    have c3b0 : ((l0.length : Int) == (l1.length : Int)) = false := beq_eq_false_iff_ne.mpr c3
    have c3b1 : ((l0.length : Int) != (l1.length : Int)) = true := bne_iff_ne.mpr c3
    have c3b2 : (l0.length == l1.length) = false := by first | simpa using c3 | (simp at c3 ⊢; omega)
    obtain rfl := Option.some.inj H
    go_enter Try.func27, Try.ntmps27
    go_wp2
    repeat (go_quiet (fail); try go_wp2)
    go_ret
    exact ⟨by first | rfl | (simp; done) | (simp [*]; done), by repeat (first | exact Drawn0.refl _ | apply Drawn0.step)⟩

end Go.Proofs.Ytelniipccmeooaa.PItemSame
