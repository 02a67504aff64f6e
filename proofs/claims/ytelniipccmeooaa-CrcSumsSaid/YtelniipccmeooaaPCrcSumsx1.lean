-- Written by xprint.py (wip/xprint.py) of this work, out of Lean's own print of the translation.
import Derived.Test.YtelniipccmeooaaPCrcSumsx0
namespace Go.Proofs.Ytelniipccmeooaa.PCrcSums
open Go.RowKit Go.Proofs.YtelniipccmeooaaW.PrintWords Go.Proofs.YtelniipccmeooaaW.PrintLast Go.Proofs.YtelniipccmeooaaW.PrintMore
attribute [local go_sem] max2_int min2_int max_two min_two max_three min_three max_four min_four   -- for this text's walks alone
set_option linter.unusedVariables false
set_option linter.unusedSimpArgs false

/-! ### crc_table: function 33 -/
-- aux
-- making: yes
-- import Derived.Lib.Hide
-- import Derived.Laws.CopyOwn
def crc_step (x : Int) : Int := if (Go.bits .and .u32 x 1 == 1) = true then Go.bits .xor .u32 (x / 2) 3988292384 else x / 2
def crc_steps : Nat → Int → Int
  | 0, x => x
  | n + 1, x => crc_steps n (crc_step x)
def crc_entry (i : Nat) : Int := crc_steps 8 i
theorem bits_u32 (o : BinOp) (x y : Int) : 0 ≤ Go.bits o .u32 x y ∧ Go.bits o .u32 x y ≤ 4294967295 := by
  unfold Go.bits
  split <;> (simp only [IntKind.wrap_u32]; omega)
def CrcTab (W : World) (g : Nat) (n : Nat) : Prop := ∃ cs : Array Value, W.heap[g]? = some (.cells cs 62 (0, 0)) ∧ cs.size = 256 ∧ ∀ j, j < n → cs[j]? = some (.int .u32 (crc_entry j))
theorem CrcTab.lt {W : World} {g n : Nat} (h : CrcTab W g n) : g < W.heap.size := by
  obtain ⟨cs, h, _⟩ := h
  exact (Array.getElem?_eq_some_iff.1 h).1
theorem CrcTab.cell {W : World} {g n : Nat} (h : CrcTab W g n) (i : Nat) (hi : i < 256) : ∃ v, W.cell? ⟨g, i, none⟩ = some v ∧ W.frozen? ⟨g, i, none⟩ = false := by
  obtain ⟨cs, h, hs, _⟩ := h
  exact ⟨cs[i], by rw [cell_of_row W g i cs _ _ h]; exact Array.getElem?_eq_getElem (by omega), frozen_of_row W g i cs _ h⟩
theorem CrcTab.set {W : World} {g n : Nat} (h : CrcTab W g n) {x : Int} (hx : x = crc_entry n) (hn : n < 256) : CrcTab (W.setCell ⟨g, n, none⟩ (.int .u32 x)) g (n + 1) := by
  obtain ⟨cs, h, hs, hc⟩ := h
  refine ⟨cs.setIfInBounds n (.int .u32 x), heap_setCell_same W g n cs _ _ h, by simp [hs], fun j hj => ?_⟩
  subst hx
  rw [Array.getElem?_setIfInBounds]
  by_cases e : n = j
  · subst e; simp [hs, hn]
  · rw [if_neg e]; exact hc j (by omega)
set_option maxHeartbeats 1000000 in
set_option maxRecDepth 100000 in
theorem crc_table.calls (w : World) :
    Calls Try.prog 33 #[] w fun e w' => ∃ cs : Array Value, e = .returned (.agg cs) ∧ (cs.size = 256 ∧ ∀ j, j < 256 → cs[j]? = some (.int .u32 (crc_entry j))) ∧ Below w.heap.size w w' := by
  have hu := Try.underlying62
  have hi0 : (Try.prog.info? 62).map (·.size) = some 256 := by kernel_rfl
  have Hi := Go.Lib.hid hi0; clear hi0
  obtain ⟨z, hz, hzs, hzo⟩ : ∃ z : Array Value, (∀ W, (zeroValue 62).run Try.prog W = .ok (.agg z) W) ∧ z.size = 256 ∧ z.all (·.oneCell') = true :=
    ⟨Array.replicate 256 (.int .u32 0), fun W => by kernel_rfl, by simp, by rw [Array.all_eq_true]; intro i hi; simp; rfl⟩
  have Hzs := Go.Lib.hid hzs; clear hzs
  have Hzo := Go.Lib.hid hzo; clear hzo
  have hB0 := Go.Lib.hid (((Below.refl w.heap.size w).alloc (Nat.le_refl _) (.cells z 62)).alloc (by simp) (.cells z 62))
  have hT0 := Go.Lib.hid (show CrcTab ((w.alloc (.cells z 62)).alloc (.cells z 62)) (w.heap.size + 1) 0 from ⟨z, heap_alloc2_new w _ _, Hzs.out, fun j hj => by omega⟩)
  have hR0 := Go.Lib.hid (show ((w.alloc (.cells z 62)).alloc (.cells z 62)).heap[w.heap.size]? = some (.cells z 62 (0, 0)) from heap_alloc2_old w _ _)
  go_enter Try.func33, Try.ntmps33
  go_wp2
  go_loopw [4] (fun i wr => ∃ n : Nat, n ≤ 256 ∧ i = .int .i64 n ∧ Hid (CrcTab wr (w.heap.size + 1) n) ∧ Hid (wr.heap[w.heap.size]? = some (.cells z 62 (0, 0))) ∧ Hid (Below w.heap.size w wr)) (fun i _ => 256 - (intOf i).toNat)
  case atStart => exact ⟨0, by omega, rfl, hT0, hR0, hB0⟩
  case round =>
    clear hT0 hR0 hB0
    obtain ⟨n, hn, rfl, HT, HR, HB⟩ := hrel
    by_cases hlt : n < 256
    · have hw : IntKind.u32.wrap (n : Int) = n := by rw [IntKind.wrap_u32]; omega
      go_wp2
      obtain ⟨wo, rfl⟩ : ∃ wo : World, wo = wr := ⟨_, rfl⟩
      go_loop [3, 9] (fun x k => ∃ (m : Nat) (y : Int), m ≤ 8 ∧ k = .int .i64 m ∧ x = .int .u32 y ∧ 0 ≤ y ∧ y ≤ 4294967295 ∧ Hid (crc_steps (8 - m) y = crc_entry n)) (fun _ k => 8 - (intOf k).toNat)
      case atStart => exact ⟨0, n, by omega, rfl, rfl, by omega, by omega, rfl⟩
      case round =>
        obtain ⟨m, y, hm, rfl, rfl, hy0, hy1, HY⟩ := hrel
        by_cases hlt2 : m < 8
        · have hs : crc_steps (8 - m) y = crc_steps (8 - (m + 1)) (crc_step y) := by rw [show 8 - m = (8 - (m + 1)) + 1 by omega]; rfl
          have hdiv : 0 ≤ y / 2 ∧ y / 2 ≤ 4294967295 := by omega
          have HS := Go.Lib.hid hs; clear hs
          by_cases ho : (Go.bits .and .u32 y 1 == 1) = true
          · have e : crc_step y = Go.bits .xor .u32 (y / 2) 3988292384 := if_pos ho
            have E := Go.Lib.hid e; clear e
            have hb := bits_u32 .xor (y / 2) 3988292384
            go_wp2
            go_round
            case rel => exact ⟨m + 1, _, by omega, by go_num, rfl, hb.1, hb.2, by rw [← E.out, ← HS.out]; exact HY.out⟩
            case measure => simp [intOf]; omega
          · have e : crc_step y = y / 2 := if_neg ho
            have E := Go.Lib.hid e; clear e
            replace ho : (Go.bits .and .u32 y 1 == 1) = false := by simpa using ho
            go_wp2
            go_round
            case rel => exact ⟨m + 1, _, by omega, by go_num, rfl, hdiv.1, hdiv.2, by rw [← E.out, ← HS.out]; exact HY.out⟩
            case measure => simp [intOf]; omega
        · obtain rfl : m = 8 := by omega
          have hT := HT.out
          obtain ⟨v, hc, hf⟩ := hT.cell n hlt
          have HT2 := Go.Lib.hid (hT.set (x := y) HY.out hlt)
          have HR2 := Go.Lib.hid ((heap_setCell_other wo ⟨w.heap.size + 1, n, none⟩ w.heap.size (.int .u32 y) (by simp)).trans HR.out)
          have HB2 := Go.Lib.hid (HB.out.setCell (p := ⟨w.heap.size + 1, n, none⟩) (by simp) (.int .u32 y))
          clear hT HT HR HB hlt2
          go_wp2
          go_roundw
          case rel => exact ⟨n + 1, by omega, by go_num, HT2, HR2, HB2⟩
          case measure => simp [intOf]; omega
    · obtain rfl : n = 256 := by omega
      have hT := HT.out
      obtain ⟨cs, hg, hs, hc⟩ := hT
      have hr2 := setRow_heap wr w.heap.size z cs 62 (0, 0) HR.out
      have hb2 : Below w.heap.size w (wr.setRow w.heap.size cs) := below_setRow HB.out (Nat.le_refl _) cs
      have hall : cs.all (·.oneCell') = true := by
        rw [Array.all_eq_true]; intro i hi
        have hj := hc i (by omega)
        rw [Array.getElem?_eq_getElem hi] at hj
        rw [Option.some.inj hj]; rfl
      have HG := Go.Lib.hid hg; clear hg
      have HS := Go.Lib.hid hs; clear hs
      have HC := Go.Lib.hid hc; clear hc
      have HA := Go.Lib.hid hall; clear hall
      have HR2 := Go.Lib.hid hr2; clear hr2
      have HB2 := Go.Lib.hid hb2; clear hb2
      go_wp2_with (first | (refine wpList_load_row rfl 62 (.tmp 1) rfl (w.heap.size + 1) rfl 62 cs (0, 0) _ HG.out hu rfl (by rw [HS.out]; exact Hi.out) ?_) | (refine wpList_store_row rfl 62 (.tmp 0) (.tmp 24) rfl w.heap.size cs rfl rfl 62 z HR.out (by rw [HS.out]; exact Hi.out) (by rw [HS.out]; exact Hzs.out) HA.out ?_))
      exact bodyPost_ret (v := .agg cs) (results_cell_row (fn := Try.f33) rfl _ _ w.heap.size 62 cs (0, 0) _ rfl HR2.out hu rfl (by rw [HS.out]; exact Hi.out)) rfl ⟨cs, rfl, ⟨HS.out, HC.out⟩, HB2.out⟩

/-! ### crc_More: function 19 -/
-- rounds: no
-- making: yes
def crc_next (x c : Int) : Int := Go.bits .xor .u32 (x / 256) (crc_entry (Go.bits .xor .u8 (x % 256) c).toNat)
def crc_not (x : Int) : Int := Go.bits .xor .u32 IntKind.u32.max x
def crc_More.f (a0 : Int) (l1 : List Int) : Option Int := some (crc_not (l1.foldl crc_next (crc_not a0)))
theorem crc_bitsN (o : BinOp) (x : Int) : 0 ≤ Go.bits o .u32 IntKind.u32.max x ∧ Go.bits o .u32 IntKind.u32.max x ≤ 4294967295 := bits_u32 o _ _
theorem crc_bits8 (o : BinOp) (x y : Int) : 0 ≤ Go.bits o .u8 x y ∧ Go.bits o .u8 x y ≤ 255 := by
  unfold Go.bits
  split <;> (simp only [IntKind.wrap_u8]; omega)
set_option maxHeartbeats 1000000 in
set_option maxRecDepth 100000 in
theorem crc_More.calls (a0 : Int) (A1 : Option Addr) (c1 : Nat) (l1 : List Int) (r : Int) (w : World) (hr1 : Kd.C (Kd.int .u8) w A1 l1.length l1) (hc1 : l1.length ≤ c1) (h : crc_More.f a0 l1 = some r) :
    Calls Try.prog 19 #[.int .u32 a0, .slice A1 l1.length c1] w fun e w' => e = .returned (.int .u32 r) ∧ Below w.heap.size w w' := by
  have hu := Try.underlying62
  have hi0 : (Try.prog.info? 62).map (·.size) = some 256 := by kernel_rfl
  have Hi := Go.Lib.hid hi0; clear hi0
  have HF := Go.Lib.hid h; clear h
  have HR1 := Aside0.mk hr1
  have HC1 := Aside0.mk hc1
  have hlm : l1.length ≤ 9223372036854775807 := hr1.2.1
  clear hr1 hc1
  obtain ⟨z, hz, hzs, hzo⟩ : ∃ z : Array Value, (∀ W, (zeroValue 62).run Try.prog W = .ok (.agg z) W) ∧ z.size = 256 ∧ z.all (·.oneCell') = true :=
    ⟨Array.replicate 256 (.int .u32 0), fun W => by kernel_rfl, by simp, by rw [Array.all_eq_true]; intro i hi; simp; rfl⟩
  have Hzs := Go.Lib.hid hzs; clear hzs
  have Hzo := Go.Lib.hid hzo; clear hzo
  go_enter Try.func19, Try.ntmps19
  go_wp2_with fail
  refine (crc_table.calls _).mono ?_
  rintro e w1 ⟨cs, rfl, ⟨hs, hc⟩, hb⟩
  have hall : cs.all (·.oneCell') = true := by
    rw [Array.all_eq_true]; intro i hi
    have hj := hc i (by omega)
    rw [Array.getElem?_eq_getElem hi] at hj
    rw [Option.some.inj hj]; rfl
  have hb2 : Below w.heap.size w ((w1.alloc (.cells z 62)).setRow w1.heap.size cs) := below_setRow (hb.alloc hb.size _) hb.size cs
  have hg2 := setRow_heap (w1.alloc (.cells z 62)) w1.heap.size z cs 62 (0, 0) (heap_alloc_new w1 _)
  have HG0 := Go.Lib.hid (heap_alloc_new w1 (.cells z 62))
  have HS := Go.Lib.hid hs; clear hs
  have HC := Go.Lib.hid hc; clear hc
  have HA := Go.Lib.hid hall; clear hall
  have HB := Go.Lib.hid hb2; clear hb2 hb
  have HG := Go.Lib.hid hg2; clear hg2
  go_wp2_with (refine wpList_store_row rfl 62 (.tmp 5) (.tmp 9) rfl w1.heap.size cs rfl rfl 62 z HG0.out (by rw [HS.out]; exact Hi.out) (by rw [HS.out]; exact Hzs.out) HA.out ?_)
  have HR := Aside0.mk (Kd.C_below HR1.out HB.out)
  have hcl : w1.heap.size < ((w1.alloc (.cells z 62)).setRow w1.heap.size cs).heap.size := by simp
  clear HG0 HR1
  generalize hW : (w1.alloc (.cells z 62)).setRow w1.heap.size cs = W2 at HB HG HR hcl ⊢
  clear hW
  obtain ⟨g, rfl⟩ : ∃ g, g = w1.heap.size := ⟨_, rfl⟩
  go_loop [6, 14] (fun x i => ∃ (m : Nat) (y : Int), m ≤ l1.length ∧ i = .int .i64 m ∧ x = .int .u32 y ∧ 0 ≤ y ∧ y ≤ 4294967295 ∧ Hid (y = (l1.take m).foldl crc_next (crc_not a0))) (fun _ i => l1.length - (intOf i).toNat)
  case atStart => exact ⟨0, _, by omega, rfl, rfl, (crc_bitsN _ _).1, (crc_bitsN _ _).2, rfl⟩
  case round =>
    obtain ⟨m, y, hm, rfl, rfl, hy0, hy1, HY⟩ := hrel
    by_cases hlt : m < l1.length
    · obtain ⟨ad, hA, hcell⟩ := Kd.at_int HR.out (m : Int) (by omega) (by omega)
      cases hA
      rw [Int.toNat_natCast] at hcell
      have hx := crc_bits8 .xor (y % 256) (rd l1 m)
      have hb := bits_u32 .xor (y / 256) (crc_entry (Go.bits .xor .u8 (y % 256) (rd l1 m)).toNat)
      have hwy : IntKind.u8.wrap y = y % 256 := IntKind.wrap_u8 y
      have hr : (l1.take (m + 1)).foldl crc_next (crc_not a0) = crc_next ((l1.take m).foldl crc_next (crc_not a0)) (rd l1 m) := by
        rw [List.take_succ_eq_append_getElem hlt, List.foldl_append]
        simp [rd, List.getD_eq_getElem?_getD, List.getElem?_eq_getElem hlt]
      have HT := Go.Lib.hid hr; clear hr
      generalize hq : Go.bits .xor .u8 (y % 256) (rd l1 m) = q at hx hb
      obtain ⟨q', rfl⟩ := Int.eq_ofNat_of_zero_le hx.1
      have ht : W2.cell? ⟨w1.heap.size, q', none⟩ = some (.int .u32 (crc_entry q')) := by
        rw [cell_of_row W2 _ q' cs _ _ HG.out]; exact HC.out q' (by omega)
      have HQ := Go.Lib.hid hq
      have HE := Go.Lib.hid (show crc_next y (rd l1 m) = Go.bits .xor .u32 (y / 256) (crc_entry q') from by unfold crc_next; rw [HQ.out]; rfl)
      have hb' : 0 ≤ Go.bits .xor .u32 (y / 256) (crc_entry q') ∧ Go.bits .xor .u32 (y / 256) (crc_entry q') ≤ 4294967295 := hb
      clear hb
      have hdiv : 0 ≤ y / 256 := by omega
      go_wp2
      go_round
      case rel => exact ⟨m + 1, _, by omega, by go_num, rfl, hb'.1, hb'.2, by show _ = _; rw [HT.out, ← HE.out, ← HY.out]⟩
      case measure => simp [intOf]; omega
    · obtain rfl : m = l1.length := by omega
      have hv : r = crc_not y := by
        have h1 := HF.out
        unfold crc_More.f at h1
        rw [List.take_length] at HY
        rw [HY.out]; exact (Option.some.inj h1).symm
      have HV := Go.Lib.hid hv; clear hv
      clear HY
      go_wp2
      go_ret
      exact ⟨by rw [HV.out]; rfl, HB.out⟩

/-! ### crc_Sum: function 18 -/
def crc_Sum.f (l0 : List Int) : Option (Int) := (crc_More.f 0 l0).bind fun t101 => (some t101)
set_option maxHeartbeats 8000000 in
set_option maxRecDepth 100000 in
theorem crc_Sum.calls (A0 : Option Addr) (c0 : Nat) (l0 : List Int) (r : Int) (w : World) (hr0 : Kd.C (Kd.int .u8) w A0 l0.length l0) (hc0 : l0.length ≤ c0) (h : crc_Sum.f l0 = some r) :
    Calls Try.prog 18 #[.slice A0 l0.length c0] w fun e w' => e = .returned (.int .u32 r) ∧ Below w.heap.size w w' := by
  have HR0 := Aside0.mk hr0
  have HC0 := Aside0.mk hc0
  clear hr0 hc0
  have HB := Aside0.mk (Below.refl w.heap.size w)
  have H : ((crc_More.f 0 l0).bind fun t101 => (some t101)) = some r := h
  clear h
  replace H := Option.bind_eq_some_iff.mp H
  obtain ⟨t101, A20, H⟩ := H
  replace H : (some t101) = some r := H
  have A2 := Aside0.mk A20
  clear A20
  obtain rfl := Option.some.inj H
  go_enter Try.func18, Try.ntmps18
  go_wp2_with (first | ((with_reducible refine gate_callee (f := 19) rfl ?_); refine goesL_ (some 4) rfl rfl Try.func19 (by kernel_rfl) rfl #[.int .u32 0, .slice A0 l0.length c0] rfl (by (try simp only [List.map_toArray, List.map_cons, List.map_nil]); first | done | rfl | (simp only [List.length_drop, List.length_take]; rfl)) ?_; (with_reducible refine (crc_More.calls 0 _ _ l0 t101 _ ?side1 ?side2 A2.out).mono ?_); (case side1 => repeat (first | exact HR0.out | (with_reducible refine Kd.C_alloc ?_ _) | (with_reducible refine Kd.C_drewN ?_ _) | (with_reducible refine Kd.C_drew ?_))); (case side2 => exact HC0.out); rintro e w3 ⟨rfl, hb⟩; refine ⟨_, rfl, ?_⟩; have n0_ := Aside0.mk (below_step (by repeat (first | (with_reducible first | exact HB.out | apply below_alloc | apply pw_below_drewN | apply below_drew1) | exact HB.out)) hb); clear HB; have HB := n0_; clear n0_; (try clear hb); (try clear hb2); (try clear hk); (try clear hi)))
  go_ret
  exact ⟨by first | rfl | (simp [errW_none, errW_some] <;> rfl) | (simp [*, errW_none, errW_some] <;> rfl), by repeat (first | (with_reducible first | exact HB.out | apply below_alloc | apply pw_below_drewN | apply below_drew1) | exact HB.out)⟩

/-! ### oakumlaw32_alive: function 16 -/
-- rounds: no
-- making: yes
-- import Derived.Lib.SlBytesConst
def oakumlaw32_alive.f : Option (Bool) := (crc_Sum.f (([49, 50, 51, 52, 53, 54, 55, 56, 57] : List Int))).bind fun t105 => (some (t105 == 3421780262))
set_option maxHeartbeats 1000000 in
theorem oakumlaw32_alive.calls (r : Bool) (w : World) (h : oakumlaw32_alive.f = some r) :
    Calls Try.prog 16 #[] w fun e w' => e = .returned (.bool r) ∧ Below w.heap.size w w' := by
  obtain ⟨t, h1, h2⟩ := Option.bind_eq_some_iff.mp h
  obtain rfl := Option.some.inj h2
  clear h h2
  have A1 := Aside0.mk h1
  clear h1
  have kc := fun (w : World) (C : Array Value) (n c : Nat) => Go.Lib.run_convert_bytes_const (P := Try.prog) w 22 5 C n c Try.underlying22 Try.underlying5
  have HB := Aside0.mk ((Below.refl w.heap.size w).alloc (Nat.le_refl _) (.cells #[.int .u8 49, .int .u8 50, .int .u8 51, .int .u8 52, .int .u8 53, .int .u8 54, .int .u8 55, .int .u8 56, .int .u8 57] 5 (9, 10)))
  have HC : Kd.C (Kd.int .u8) (w.alloc (.cells #[.int .u8 49, .int .u8 50, .int .u8 51, .int .u8 52, .int .u8 53, .int .u8 54, .int .u8 55, .int .u8 56, .int .u8 57] 5 (9, 10))) (some ⟨w.heap.size, 0, none⟩) 9 [49, 50, 51, 52, 53, 54, 55, 56, 57] := by
    refine Kd.C_of_reads (d := (0 : Int)) (h1 := fun _ => rfl) ⟨rfl, by decide, fun _ => ⟨_, rfl, fun j hj => ?_⟩⟩
    rw [add_plain, cell_of_row _ _ j _ _ _ (heap_alloc_new w _)]
    match j, hj with
    | 0, _ | 1, _ | 2, _ | 3, _ | 4, _ | 5, _ | 6, _ | 7, _ | 8, _ => rfl
  have HC := Aside0.mk HC
  go_enter Try.func16, Try.ntmps16
  go_wp2_with fail
  refine (crc_Sum.calls (some ⟨w.heap.size, 0, none⟩) 9 [49, 50, 51, 52, 53, 54, 55, 56, 57] t _ HC.out (by decide) A1.out).mono ?_
  rintro e w1 ⟨rfl, hb⟩
  have HB1 := Aside0.mk (below_step HB.out hb)
  clear hb
  go_wp2
  go_ret
  exact ⟨rfl, HB1.out⟩

/-! ### oakumref32_More: function 17 -/
mutual
def oakumref32_More.l0 : Nat → List Int → Int → Int → Option (Int)
  | 0, _, _, _ => none
  | k + 1, x1, x5, x6 => if x6 < (x1.length : Int) then (if 0 ≤ x6 then (oakumref32_More.l1 k x1 (Go.bits .xor .u64 x5 (IntKind.u64.wrap (rd x1 x6))) x6 0) else (none)) else (some ((IntKind.u64.wrap (4294967295 - x5)) % 4294967296))
def oakumref32_More.l1 : Nat → List Int → Int → Int → Int → Option (Int)
  | 0, _, _, _, _ => none
  | k + 1, x1, x5, x6, x7 => if x7 < 8 then (if (Int.tmod x5 2) = 1 then (oakumref32_More.l1 k x1 (Go.bits .xor .u64 (IntKind.u64.wrap (Int.tdiv x5 2)) 3988292384) x6 (wrap64 (x7 + 1))) else (oakumref32_More.l1 k x1 (IntKind.u64.wrap (Int.tdiv x5 2)) x6 (wrap64 (x7 + 1)))) else (oakumref32_More.l0 k x1 x5 (wrap64 (x6 + 1)))
end
def oakumref32_More.f (k : Nat) (a0 : Int) (l1 : List Int) : Option (Int) := oakumref32_More.l0 k l1 (IntKind.u64.wrap (4294967295 - (IntKind.u64.wrap (a0)))) 0
theorem oakumref32_More.mono_l : ∀ k, (∀ y0 y1 y2, LeO (oakumref32_More.l0 k y0 y1 y2) (oakumref32_More.l0 (k + 1) y0 y1 y2)) ∧ (∀ y0 y1 y2 y3, LeO (oakumref32_More.l1 k y0 y1 y2 y3) (oakumref32_More.l1 (k + 1) y0 y1 y2 y3))
  | 0 => ⟨fun _ _ _ r h => by simp [oakumref32_More.l0] at h, fun _ _ _ _ r h => by simp [oakumref32_More.l1] at h⟩
  | k + 1 => by
    obtain ⟨ih0, ih1⟩ := oakumref32_More.mono_l k
    refine ⟨?_, ?_⟩
    · intro y0 y1 y2
      unfold oakumref32_More.l0
      repeat' first
      | (with_reducible exact ih0 _ _ _)
      | (with_reducible exact ih1 _ _ _ _)
      | (with_reducible exact LeO.refl _)
      | (with_reducible exact LeO.none _)
      | (with_reducible refine LeO.ite ?_ ?_)
      | (with_reducible refine LeO.bind ?_ (fun _ => ?_))
      | exact ih0 _ _ _
      | exact ih1 _ _ _ _
      | exact LeO.none _
      | refine LeO.ite ?_ ?_
      | refine LeO.bind ?_ (fun _ => ?_)
    · intro y0 y1 y2 y3
      unfold oakumref32_More.l1
      repeat' first
      | (with_reducible exact ih0 _ _ _)
      | (with_reducible exact ih1 _ _ _ _)
      | (with_reducible exact LeO.refl _)
      | (with_reducible exact LeO.none _)
      | (with_reducible refine LeO.ite ?_ ?_)
      | (with_reducible refine LeO.bind ?_ (fun _ => ?_))
      | exact ih0 _ _ _
      | exact ih1 _ _ _ _
      | exact LeO.none _
      | refine LeO.ite ?_ ?_
      | refine LeO.bind ?_ (fun _ => ?_)
theorem oakumref32_More.mono : ∀ a0 a1 k, LeO (oakumref32_More.f k a0 a1) (oakumref32_More.f (k + 1) a0 a1) := by
  intro a0 a1 k
  obtain ⟨ih0, ih1⟩ := oakumref32_More.mono_l k
  unfold oakumref32_More.f
  repeat' first
      | (with_reducible exact ih0 _ _ _)
      | (with_reducible exact ih1 _ _ _ _)
      | (with_reducible exact LeO.refl _)
      | (with_reducible exact LeO.none _)
      | (with_reducible refine LeO.ite ?_ ?_)
      | (with_reducible refine LeO.bind ?_ (fun _ => ?_))
      | exact ih0 _ _ _
      | exact ih1 _ _ _ _
      | exact LeO.none _
      | refine LeO.ite ?_ ?_
      | refine LeO.bind ?_ (fun _ => ?_)
set_option maxHeartbeats 8000000 in
set_option maxRecDepth 100000 in
theorem oakumref32_More.calls (k : Nat) (a0 : Int) (A1 : Option Addr) (c1 : Nat) (l1 : List Int) (r : Int) (w : World) (hr1 : Kd.C (Kd.int .u8) w A1 l1.length l1) (hc1 : l1.length ≤ c1) (h : oakumref32_More.f k a0 l1 = some r) :
    Calls Try.prog 17 #[.int .u32 a0, .slice A1 l1.length c1] w fun e w' => e = .returned (.int .u32 r) ∧ Drawn0 w w' := by
  have HR1 := Aside0.mk hr1
  have HC1 := Aside0.mk hc1
  clear hr1 hc1
  have H : (oakumref32_More.l0 k l1 (IntKind.u64.wrap (4294967295 - (IntKind.u64.wrap (a0)))) 0) = some r := h
  clear h
  have H' := Aside0.mk H
  clear H
  go_enter Try.func17, Try.ntmps17
  go_wp2
  go_loopg [5, 6] k (fun kq v5 v6 w' => ∃ (x5_1 : Int) (x6_1 : Int), v5 = .int .u64 x5_1 ∧ v6 = .int .i64 x6_1 ∧ Aside0 (oakumref32_More.l0 kq l1 x5_1 x6_1 = some r) ∧ Aside0 (kq ≤ k) ∧ Drawn0 w w')
  case atStart => exact ⟨(IntKind.u64.wrap (4294967295 - (IntKind.u64.wrap (a0)))), (0), (by first | rfl | (simp; done) | (simp [*]; done)), (by first | rfl | (simp; done) | (simp [*]; done)), H', ⟨Nat.le_refl _⟩, by repeat (first | exact Drawn0.refl _ | apply Drawn0.step)⟩
  case round =>
    clear H'
    try clear c1
    try clear p2
    obtain ⟨x5_1, x6_1, rfl, rfl, HA, HK1, ⟨m1, rfl⟩⟩ := hrel
    cases gk with
    | zero => exact absurd HA.out (by simp [oakumref32_More.l0])
    | succ k1 =>
      have H := HA.out
      clear HA
      simp only [oakumref32_More.l0] at H
      by_cases c3 : x6_1 < (l1.length : Int)
      · rw [if_pos c3] at H
        have c3b0 : decide (x6_1 < (l1.length : Int)) = true := decide_eq_true c3
        clear c3
        by_cases c4 : 0 ≤ x6_1
        · rw [if_pos c4] at H
          have c4b0 : decide (0 ≤ x6_1) = true := decide_eq_true c4
          clear c4
          have H' := Aside0.mk H
          clear H
          have p102 : 0 ≤ (x6_1 : Int) := of_decide_eq_true (by first | (with_reducible assumption) | assumption)
          have q102 : x6_1 < (l1.length : Int) := of_decide_eq_true (by first | (with_reducible assumption) | assumption)
          obtain ⟨ad102, e102, hx102_0⟩ := Kd.at_int HR1.out x6_1 p102 q102
          cases e102
          replace p102 := eq_true p102
          replace q102 := eq_true q102
          go_wp2
          go_loopg [5, 7] k1 (fun kq v5 v7 w' => ∃ (x5_2 : Int) (x7_2 : Int), v5 = .int .u64 x5_2 ∧ v7 = .int .i64 x7_2 ∧ Aside0 (oakumref32_More.l1 kq l1 x5_2 x6_1 x7_2 = some r) ∧ Aside0 (kq ≤ k1) ∧ Drawn0 w w')
          case atStart => exact ⟨(Go.bits .xor .u64 x5_1 (IntKind.u64.wrap (rd l1 x6_1))), (0), (by first | rfl | (simp; done) | (simp [*]; done)), (by first | rfl | (simp; done) | (simp [*]; done)), H', ⟨Nat.le_refl _⟩, by repeat (first | exact Drawn0.refl _ | apply Drawn0.step)⟩
          case round =>
            clear H'
            try clear c1
            try clear p1
            try clear q1
            try clear hx1
            try clear p2
            try clear c3
            try clear c3b0
            try clear c4
            try clear c4b0
            try clear hx102_0
            try clear p102
            try clear p2
            try clear q102
            obtain ⟨x5_2, x7_2, rfl, rfl, HA, HK2, ⟨m2, rfl⟩⟩ := hrel
            cases gk with
            | zero => exact absurd HA.out (by simp [oakumref32_More.l1])
            | succ k2 =>
              have H := HA.out
              clear HA
              simp only [oakumref32_More.l1] at H
              by_cases c5 : x7_2 < 8
              · rw [if_pos c5] at H
                have c5b0 : decide (x7_2 < 8) = true := decide_eq_true c5
                clear c5
                by_cases c6 : (Int.tmod x5_2 2) = 1
                · rw [if_pos c6] at H
                  have c6b0 : ((Int.tmod x5_2 2) == 1) = true := beq_iff_eq.mpr c6
                  have c6b1 : ((Int.tmod x5_2 2) != 1) = false := bne_eq_false_iff_eq.mpr c6
                  clear c6
                  have H' := Aside0.mk H
                  clear H
                  go_wp2
                  go_roundg k2
                  case measure => have := HK1.out; have := HK2.out; omega
                  case rel => exact ⟨(Go.bits .xor .u64 (IntKind.u64.wrap (Int.tdiv x5_2 2)) 3988292384), (wrap64 (x7_2 + 1)), (by first | rfl | (simp; done) | (simp [*]; done)), (by first | rfl | (simp; done) | (simp [*]; done)), H', ⟨by have := HK1.out; have := HK2.out; omega⟩, by repeat (first | exact Drawn0.refl _ | apply Drawn0.step)⟩
                · rw [if_neg c6] at H
                  have c6b0 : ((Int.tmod x5_2 2) == 1) = false := beq_eq_false_iff_ne.mpr c6
                  have c6b1 : ((Int.tmod x5_2 2) != 1) = true := bne_iff_ne.mpr c6
                  have H' := Aside0.mk H
                  clear H
                  go_wp2
                  go_roundg k2
                  case measure => have := HK1.out; have := HK2.out; omega
                  case rel => exact ⟨(IntKind.u64.wrap (Int.tdiv x5_2 2)), (wrap64 (x7_2 + 1)), (by first | rfl | (simp; done) | (simp [*]; done)), (by first | rfl | (simp; done) | (simp [*]; done)), H', ⟨by have := HK1.out; have := HK2.out; omega⟩, by repeat (first | exact Drawn0.refl _ | apply Drawn0.step)⟩
              · rw [if_neg c5] at H
                have c5b0 : decide (x7_2 < 8) = false := decide_eq_false c5
                clear c5
                have H' := Aside0.mk H
                clear H
                go_wp2
                go_roundg k2
                case measure => have := HK1.out; have := HK2.out; omega
                case rel => exact ⟨(x5_2), (wrap64 (x6_1 + 1)), (by first | rfl | (simp; done) | (simp [*]; done)), (by first | rfl | (simp; done) | (simp [*]; done)), H', ⟨by have := HK1.out; have := HK2.out; omega⟩, by repeat (first | exact Drawn0.refl _ | apply Drawn0.step)⟩
        · rw [if_neg c4] at H
          exact absurd H (by simp)
      · rw [if_neg c3] at H
        have c3b0 : decide (x6_1 < (l1.length : Int)) = false := decide_eq_false c3
        clear c3
        obtain rfl := Option.some.inj H
        go_wp2
        go_ret
        exact ⟨by first | rfl | (simp; done) | (simp [*]; done), by repeat (first | exact Drawn0.refl _ | apply Drawn0.step)⟩

/-! ### crc_times: function 34 -/
def crc_times.l0 : Nat → Int → Int → Int → Int → Option (Int)
  | 0, _, _, _, _ => none
  | k + 1, x0, x1, x5, x6 => if x6 ≥ 0 then (if 0 ≤ x6 then (if (Go.bits .and .u32 (shr .u32 x0 x6) 1) = 1 then (if (Go.bits .and .u32 x1 1) = 1 then (crc_times.l0 k x0 (Go.bits .xor .u32 (x1 / 2) 3988292384) (Go.bits .xor .u32 x5 x1) (wrap64 (x6 - 1))) else (crc_times.l0 k x0 (x1 / 2) (Go.bits .xor .u32 x5 x1) (wrap64 (x6 - 1)))) else (if (Go.bits .and .u32 x1 1) = 1 then (crc_times.l0 k x0 (Go.bits .xor .u32 (x1 / 2) 3988292384) x5 (wrap64 (x6 - 1))) else (crc_times.l0 k x0 (x1 / 2) x5 (wrap64 (x6 - 1))))) else (none)) else (some x5)
def crc_times.f (k : Nat) (a0 : Int) (a1 : Int) : Option (Int) := crc_times.l0 k a0 a1 0 31
theorem crc_times.mono_l : ∀ k, (∀ y0 y1 y2 y3, LeO (crc_times.l0 k y0 y1 y2 y3) (crc_times.l0 (k + 1) y0 y1 y2 y3))
  | 0 => fun _ _ _ _ r h => by simp [crc_times.l0] at h
  | k + 1 => by
    have ih0 := crc_times.mono_l k
    · intro y0 y1 y2 y3
      unfold crc_times.l0
      repeat' first
      | (with_reducible exact ih0 _ _ _ _)
      | (with_reducible exact LeO.refl _)
      | (with_reducible exact LeO.none _)
      | (with_reducible refine LeO.ite ?_ ?_)
      | (with_reducible refine LeO.bind ?_ (fun _ => ?_))
      | exact ih0 _ _ _ _
      | exact LeO.none _
      | refine LeO.ite ?_ ?_
      | refine LeO.bind ?_ (fun _ => ?_)
theorem crc_times.mono : ∀ a0 a1 k, LeO (crc_times.f k a0 a1) (crc_times.f (k + 1) a0 a1) := by
  intro a0 a1 k
  have ih0 := crc_times.mono_l k
  unfold crc_times.f
  repeat' first
      | (with_reducible exact ih0 _ _ _ _)
      | (with_reducible exact LeO.refl _)
      | (with_reducible exact LeO.none _)
      | (with_reducible refine LeO.ite ?_ ?_)
      | (with_reducible refine LeO.bind ?_ (fun _ => ?_))
      | exact ih0 _ _ _ _
      | exact LeO.none _
      | refine LeO.ite ?_ ?_
      | refine LeO.bind ?_ (fun _ => ?_)
set_option maxHeartbeats 8000000 in
set_option maxRecDepth 100000 in
theorem crc_times.calls (k : Nat) (a0 : Int) (a1 : Int) (r : Int) (w : World) (h : crc_times.f k a0 a1 = some r) :
    Calls Try.prog 34 #[.int .u32 a0, .int .u32 a1] w fun e w' => e = .returned (.int .u32 r) ∧ Drawn0 w w' := by
  have H : (crc_times.l0 k a0 a1 0 31) = some r := h
  clear h
  have H' := Aside0.mk H
  clear H
  go_enter Try.func34, Try.ntmps34
  go_wp2
  go_loopg [1, 5, 6] k (fun kq v1 v5 v6 w' => ∃ (x1_1 : Int) (x5_1 : Int) (x6_1 : Int), v1 = .int .u32 x1_1 ∧ v5 = .int .u32 x5_1 ∧ v6 = .int .i64 x6_1 ∧ Aside0 (crc_times.l0 kq a0 x1_1 x5_1 x6_1 = some r) ∧ Aside0 (kq ≤ k) ∧ Drawn0 w w')
  case atStart => exact ⟨(a1), (0), (31), (by first | rfl | (simp; done) | (simp [*]; done)), (by first | rfl | (simp; done) | (simp [*]; done)), (by first | rfl | (simp; done) | (simp [*]; done)), H', ⟨Nat.le_refl _⟩, by repeat (first | exact Drawn0.refl _ | apply Drawn0.step)⟩
  case round =>
    clear H'
    try clear p2
    obtain ⟨x1_1, x5_1, x6_1, rfl, rfl, rfl, HA, HK1, ⟨m1, rfl⟩⟩ := hrel
    cases gk with
    | zero => exact absurd HA.out (by simp [crc_times.l0])
    | succ k1 =>
      have H := HA.out
      clear HA
      simp only [crc_times.l0] at H
      by_cases c3 : x6_1 ≥ 0
      · rw [if_pos c3] at H
        have c3b0 : decide (0 ≤ x6_1) = true := decide_eq_true c3
        clear c3
        by_cases c4 : 0 ≤ x6_1
        · rw [if_pos c4] at H
          have c4b0 := eq_true c4
          have c4b1 : decide (0 ≤ x6_1) = true := decide_eq_true c4
          clear c4
          obtain ⟨ji5, hji5⟩ : ∃ j_ : Int, (shr .u32 a0 x6_1) = j_ := ⟨_, rfl⟩
          replace H : (if (Go.bits .and .u32 (ji5) 1) = 1 then (if (Go.bits .and .u32 x1_1 1) = 1 then (crc_times.l0 k1 a0 (Go.bits .xor .u32 (x1_1 / 2) 3988292384) (Go.bits .xor .u32 x5_1 x1_1) (wrap64 (x6_1 - 1))) else (crc_times.l0 k1 a0 (x1_1 / 2) (Go.bits .xor .u32 x5_1 x1_1) (wrap64 (x6_1 - 1)))) else (if (Go.bits .and .u32 x1_1 1) = 1 then (crc_times.l0 k1 a0 (Go.bits .xor .u32 (x1_1 / 2) 3988292384) x5_1 (wrap64 (x6_1 - 1))) else (crc_times.l0 k1 a0 (x1_1 / 2) x5_1 (wrap64 (x6_1 - 1))))) = some r := by first | (rw [hji5] at H; exact H) | (simp only [hji5] at H ⊢; exact H)
          have hji5_ : (a0 / 2 ^ min x6_1.toNat 32) = ji5 := hji5
          have hji5z : x6_1 ≤ 32 → (a0 / 2 ^ x6_1.toNat) = ji5 := shr_small hji5
          by_cases c6 : (Go.bits .and .u32 (ji5) 1) = 1
          · rw [if_pos c6] at H
            have c6b0 : ((Go.bits .and .u32 (ji5) 1) == 1) = true := beq_iff_eq.mpr c6
            have c6b1 : ((Go.bits .and .u32 (ji5) 1) != 1) = false := bne_eq_false_iff_eq.mpr c6
            clear c6
            by_cases c7 : (Go.bits .and .u32 x1_1 1) = 1
            · rw [if_pos c7] at H
              have c7b0 : ((Go.bits .and .u32 x1_1 1) == 1) = true := beq_iff_eq.mpr c7
              have c7b1 : ((Go.bits .and .u32 x1_1 1) != 1) = false := bne_eq_false_iff_eq.mpr c7
              clear c7
              have H' := Aside0.mk H
              clear H
              go_wp2
              go_roundg k1
              case measure => have := HK1.out; omega
              case rel => exact ⟨(Go.bits .xor .u32 (x1_1 / 2) 3988292384), (Go.bits .xor .u32 x5_1 x1_1), (wrap64 (x6_1 - 1)), (by first | rfl | (simp; done) | (simp [*]; done)), (by first | rfl | (simp; done) | (simp [*]; done)), (by first | rfl | (simp; done) | (simp [*]; done)), H', ⟨by have := HK1.out; omega⟩, by repeat (first | exact Drawn0.refl _ | apply Drawn0.step)⟩
            · rw [if_neg c7] at H
              have c7b0 : ((Go.bits .and .u32 x1_1 1) == 1) = false := beq_eq_false_iff_ne.mpr c7
              have c7b1 : ((Go.bits .and .u32 x1_1 1) != 1) = true := bne_iff_ne.mpr c7
              have H' := Aside0.mk H
              clear H
              go_wp2
              go_roundg k1
              case measure => have := HK1.out; omega
              case rel => exact ⟨(x1_1 / 2), (Go.bits .xor .u32 x5_1 x1_1), (wrap64 (x6_1 - 1)), (by first | rfl | (simp; done) | (simp [*]; done)), (by first | rfl | (simp; done) | (simp [*]; done)), (by first | rfl | (simp; done) | (simp [*]; done)), H', ⟨by have := HK1.out; omega⟩, by repeat (first | exact Drawn0.refl _ | apply Drawn0.step)⟩
          · rw [if_neg c6] at H
            have c6b0 : ((Go.bits .and .u32 (ji5) 1) == 1) = false := beq_eq_false_iff_ne.mpr c6
            have c6b1 : ((Go.bits .and .u32 (ji5) 1) != 1) = true := bne_iff_ne.mpr c6
            by_cases c8 : (Go.bits .and .u32 x1_1 1) = 1
            · rw [if_pos c8] at H
              have c8b0 : ((Go.bits .and .u32 x1_1 1) == 1) = true := beq_iff_eq.mpr c8
              have c8b1 : ((Go.bits .and .u32 x1_1 1) != 1) = false := bne_eq_false_iff_eq.mpr c8
              clear c8
              have H' := Aside0.mk H
              clear H
              go_wp2
              go_roundg k1
              case measure => have := HK1.out; omega
              case rel => exact ⟨(Go.bits .xor .u32 (x1_1 / 2) 3988292384), (x5_1), (wrap64 (x6_1 - 1)), (by first | rfl | (simp; done) | (simp [*]; done)), (by first | rfl | (simp; done) | (simp [*]; done)), (by first | rfl | (simp; done) | (simp [*]; done)), H', ⟨by have := HK1.out; omega⟩, by repeat (first | exact Drawn0.refl _ | apply Drawn0.step)⟩
            · rw [if_neg c8] at H
              have c8b0 : ((Go.bits .and .u32 x1_1 1) == 1) = false := beq_eq_false_iff_ne.mpr c8
              have c8b1 : ((Go.bits .and .u32 x1_1 1) != 1) = true := bne_iff_ne.mpr c8
              have H' := Aside0.mk H
              clear H
              go_wp2
              go_roundg k1
              case measure => have := HK1.out; omega
              case rel => exact ⟨(x1_1 / 2), (x5_1), (wrap64 (x6_1 - 1)), (by first | rfl | (simp; done) | (simp [*]; done)), (by first | rfl | (simp; done) | (simp [*]; done)), (by first | rfl | (simp; done) | (simp [*]; done)), H', ⟨by have := HK1.out; omega⟩, by repeat (first | exact Drawn0.refl _ | apply Drawn0.step)⟩
        · rw [if_neg c4] at H
          exact absurd H (by simp)
      · rw [if_neg c3] at H
        have c3b0 : decide (0 ≤ x6_1) = false := decide_eq_false c3
        clear c3
        obtain rfl := Option.some.inj H
        go_wp2
        go_ret
        exact ⟨by first | rfl | (simp; done) | (simp [*]; done), by repeat (first | exact Drawn0.refl _ | apply Drawn0.step)⟩

/-! ### crc_power: function 35 -/
def crc_power.l0 : Nat → Int → Int → Int → Option (Int)
  | 0, _, _, _ => none
  | k + 1, x0, x3, x4 => if x0 > 0 then (if (Go.bits .and .i64 x0 1) = 1 then ((crc_times.f k x3 x4).bind fun t103 => ((crc_times.f k x4 x4).bind fun t104 => (crc_power.l0 k (x0 / 2) t103 t104))) else ((crc_times.f k x4 x4).bind fun t105 => (crc_power.l0 k (x0 / 2) x3 t105))) else (some x3)
def crc_power.f (k : Nat) (a0 : Int) : Option (Int) := crc_power.l0 k a0 2147483648 8388608
theorem crc_power.mono_l : ∀ k, (∀ y0 y1 y2, LeO (crc_power.l0 k y0 y1 y2) (crc_power.l0 (k + 1) y0 y1 y2))
  | 0 => fun _ _ _ r h => by simp [crc_power.l0] at h
  | k + 1 => by
    have ih0 := crc_power.mono_l k
    · intro y0 y1 y2
      unfold crc_power.l0
      repeat' first
      | (with_reducible exact ih0 _ _ _)
      | (with_reducible exact crc_times.mono _ _ _)
      | (with_reducible exact LeO.refl _)
      | (with_reducible exact LeO.none _)
      | (with_reducible refine LeO.ite ?_ ?_)
      | (with_reducible refine LeO.bind ?_ (fun _ => ?_))
      | exact ih0 _ _ _
      | exact crc_times.mono _ _ _
      | exact LeO.none _
      | refine LeO.ite ?_ ?_
      | refine LeO.bind ?_ (fun _ => ?_)
theorem crc_power.mono : ∀ a0 k, LeO (crc_power.f k a0) (crc_power.f (k + 1) a0) := by
  intro a0 k
  have ih0 := crc_power.mono_l k
  unfold crc_power.f
  repeat' first
      | (with_reducible exact ih0 _ _ _)
      | (with_reducible exact crc_times.mono _ _ _)
      | (with_reducible exact LeO.refl _)
      | (with_reducible exact LeO.none _)
      | (with_reducible refine LeO.ite ?_ ?_)
      | (with_reducible refine LeO.bind ?_ (fun _ => ?_))
      | exact ih0 _ _ _
      | exact crc_times.mono _ _ _
      | exact LeO.none _
      | refine LeO.ite ?_ ?_
      | refine LeO.bind ?_ (fun _ => ?_)
set_option maxHeartbeats 8000000 in
set_option maxRecDepth 100000 in
theorem crc_power.calls (k : Nat) (a0 : Int) (r : Int) (w : World) (h : crc_power.f k a0 = some r) :
    Calls Try.prog 35 #[.int .i64 a0] w fun e w' => e = .returned (.int .u32 r) ∧ Drawn0 w w' := by
  have H : (crc_power.l0 k a0 2147483648 8388608) = some r := h
  clear h
  have H' := Aside0.mk H
  clear H
  go_enter Try.func35, Try.ntmps35
  go_wp2
  go_loopg [0, 3, 4] k (fun kq v0 v3 v4 w' => ∃ (x0_1 : Int) (x3_1 : Int) (x4_1 : Int), v0 = .int .i64 x0_1 ∧ v3 = .int .u32 x3_1 ∧ v4 = .int .u32 x4_1 ∧ Aside0 (crc_power.l0 kq x0_1 x3_1 x4_1 = some r) ∧ Aside0 (kq ≤ k) ∧ Drawn0 w w')
  case atStart => exact ⟨(a0), (2147483648), (8388608), (by first | rfl | (simp; done) | (simp [*]; done)), (by first | rfl | (simp; done) | (simp [*]; done)), (by first | rfl | (simp; done) | (simp [*]; done)), H', ⟨Nat.le_refl _⟩, by repeat (first | exact Drawn0.refl _ | apply Drawn0.step)⟩
  case round =>
    clear H'
    obtain ⟨x0_1, x3_1, x4_1, rfl, rfl, rfl, HA, HK1, ⟨m1, rfl⟩⟩ := hrel
    cases gk with
    | zero => exact absurd HA.out (by simp [crc_power.l0])
    | succ k1 =>
      have H := HA.out
      clear HA
      simp only [crc_power.l0] at H
      by_cases c2 : x0_1 > 0
      · rw [if_pos c2] at H
        have c2b0 : decide (0 < x0_1) = true := decide_eq_true c2
        clear c2
        by_cases c3 : (Go.bits .and .i64 x0_1 1) = 1
        · rw [if_pos c3] at H
          have c3b0 : ((Go.bits .and .i64 x0_1 1) == 1) = true := beq_iff_eq.mpr c3
          have c3b1 : ((Go.bits .and .i64 x0_1 1) != 1) = false := bne_eq_false_iff_eq.mpr c3
          clear c3
          replace H := Option.bind_eq_some_iff.mp H
          obtain ⟨t103, A40, H⟩ := H
          replace H : ((crc_times.f k1 x4_1 x4_1).bind fun t104 => (crc_power.l0 k1 (x0_1 / 2) t103 t104)) = some r := H
          have A4 := Aside0.mk A40
          clear A40
          replace H := Option.bind_eq_some_iff.mp H
          obtain ⟨t104, A50, H⟩ := H
          replace H : (crc_power.l0 k1 (x0_1 / 2) t103 t104) = some r := H
          have A5 := Aside0.mk A50
          clear A50
          have H' := Aside0.mk H
          clear H
          go_wp2_with (first | ((with_reducible refine gate_callee (f := 34) rfl ?_); refine goesL_ (some 14) rfl rfl Try.func34 (by kernel_rfl) rfl #[.int .u32 x3_1, .int .u32 x4_1] rfl (by (try simp only [List.map_toArray, List.map_cons, List.map_nil]); first | done | rfl | (simp only [List.length_drop, List.length_take]; rfl)) ?_; (with_reducible refine (crc_times.calls k1 x3_1 x4_1 t103 _ A4.out).mono ?_); rintro e w' ⟨rfl, ⟨nd, rfl⟩⟩; refine ⟨_, rfl, ?_⟩) | ((with_reducible refine gate_callee (f := 34) rfl ?_); refine goesL_ (some 17) rfl rfl Try.func34 (by kernel_rfl) rfl #[.int .u32 x4_1, .int .u32 x4_1] rfl (by (try simp only [List.map_toArray, List.map_cons, List.map_nil]); first | done | rfl | (simp only [List.length_drop, List.length_take]; rfl)) ?_; (with_reducible refine (crc_times.calls k1 x4_1 x4_1 t104 _ A5.out).mono ?_); rintro e w' ⟨rfl, ⟨nd, rfl⟩⟩; refine ⟨_, rfl, ?_⟩))
          go_roundg k1
          case measure => have := HK1.out; omega
          case rel => exact ⟨(x0_1 / 2), (t103), (t104), (by first | rfl | (simp; done) | (simp [*]; done)), (by first | rfl | (simp; done) | (simp [*]; done)), (by first | rfl | (simp; done) | (simp [*]; done)), H', ⟨by have := HK1.out; omega⟩, by repeat (first | exact Drawn0.refl _ | apply Drawn0.step)⟩
        · rw [if_neg c3] at H
          have c3b0 : ((Go.bits .and .i64 x0_1 1) == 1) = false := beq_eq_false_iff_ne.mpr c3
          have c3b1 : ((Go.bits .and .i64 x0_1 1) != 1) = true := bne_iff_ne.mpr c3
          replace H := Option.bind_eq_some_iff.mp H
          obtain ⟨t105, A60, H⟩ := H
          replace H : (crc_power.l0 k1 (x0_1 / 2) x3_1 t105) = some r := H
          have A6 := Aside0.mk A60
          clear A60
          have H' := Aside0.mk H
          clear H
          go_wp2_with (first | ((with_reducible refine gate_callee (f := 34) rfl ?_); refine goesL_ (some 17) rfl rfl Try.func34 (by kernel_rfl) rfl #[.int .u32 x4_1, .int .u32 x4_1] rfl (by (try simp only [List.map_toArray, List.map_cons, List.map_nil]); first | done | rfl | (simp only [List.length_drop, List.length_take]; rfl)) ?_; (with_reducible refine (crc_times.calls k1 x4_1 x4_1 t105 _ A6.out).mono ?_); rintro e w' ⟨rfl, ⟨nd, rfl⟩⟩; refine ⟨_, rfl, ?_⟩))
          go_roundg k1
          case measure => have := HK1.out; omega
          case rel => exact ⟨(x0_1 / 2), (x3_1), (t105), (by first | rfl | (simp; done) | (simp [*]; done)), (by first | rfl | (simp; done) | (simp [*]; done)), (by first | rfl | (simp; done) | (simp [*]; done)), H', ⟨by have := HK1.out; omega⟩, by repeat (first | exact Drawn0.refl _ | apply Drawn0.step)⟩
      · rw [if_neg c2] at H
        have c2b0 : decide (0 < x0_1) = false := decide_eq_false c2
        clear c2
        obtain rfl := Option.some.inj H
        go_wp2
        go_ret
        exact ⟨by first | rfl | (simp; done) | (simp [*]; done), by repeat (first | exact Drawn0.refl _ | apply Drawn0.step)⟩

/-! ### crc_Both: function 20 -/
def crc_Both.f (k : Nat) (a0 : Int) (a1 : Int) (a2 : Int) : Option (Int) := (crc_power.f k a2).bind fun t106 => ((crc_times.f k t106 a0).bind fun t107 => (some (Go.bits .xor .u32 t107 a1)))
theorem crc_Both.mono : ∀ a0 a1 a2 k, LeO (crc_Both.f k a0 a1 a2) (crc_Both.f (k + 1) a0 a1 a2) := by
  intro a0 a1 a2 k
  unfold crc_Both.f
  repeat' first
      | (with_reducible exact crc_power.mono _ _)
      | (with_reducible exact crc_times.mono _ _ _)
      | (with_reducible exact LeO.refl _)
      | (with_reducible exact LeO.none _)
      | (with_reducible refine LeO.ite ?_ ?_)
      | (with_reducible refine LeO.bind ?_ (fun _ => ?_))
      | exact crc_power.mono _ _
      | exact crc_times.mono _ _ _
      | exact LeO.none _
      | refine LeO.ite ?_ ?_
      | refine LeO.bind ?_ (fun _ => ?_)
set_option maxHeartbeats 8000000 in
set_option maxRecDepth 100000 in
theorem crc_Both.calls (k : Nat) (a0 : Int) (a1 : Int) (a2 : Int) (r : Int) (w : World) (h : crc_Both.f k a0 a1 a2 = some r) :
    Calls Try.prog 20 #[.int .u32 a0, .int .u32 a1, .int .i64 a2] w fun e w' => e = .returned (.int .u32 r) ∧ Drawn0 w w' := by
  have H : ((crc_power.f k a2).bind fun t106 => ((crc_times.f k t106 a0).bind fun t107 => (some (Go.bits .xor .u32 t107 a1)))) = some r := h
  clear h
  replace H := Option.bind_eq_some_iff.mp H
  obtain ⟨t106, A40, H⟩ := H
  replace H : ((crc_times.f k t106 a0).bind fun t107 => (some (Go.bits .xor .u32 t107 a1))) = some r := H
  have A4 := Aside0.mk A40
  clear A40
  replace H := Option.bind_eq_some_iff.mp H
  obtain ⟨t107, A50, H⟩ := H
  replace H : (some (Go.bits .xor .u32 t107 a1)) = some r := H
  have A5 := Aside0.mk A50
  clear A50
  obtain rfl := Option.some.inj H
  go_enter Try.func20, Try.ntmps20
  go_wp2_with (first | ((with_reducible refine gate_callee (f := 35) rfl ?_); refine goesL_ (some 8) rfl rfl Try.func35 (by kernel_rfl) rfl #[.int .i64 a2] rfl (by (try simp only [List.map_toArray, List.map_cons, List.map_nil]); first | done | rfl | (simp only [List.length_drop, List.length_take]; rfl)) ?_; (with_reducible refine (crc_power.calls k a2 t106 _ A4.out).mono ?_); rintro e w' ⟨rfl, ⟨nd, rfl⟩⟩; refine ⟨_, rfl, ?_⟩) | ((with_reducible refine gate_callee (f := 34) rfl ?_); refine goesL_ (some 10) rfl rfl Try.func34 (by kernel_rfl) rfl #[.int .u32 t106, .int .u32 a0] rfl (by (try simp only [List.map_toArray, List.map_cons, List.map_nil]); first | done | rfl | (simp only [List.length_drop, List.length_take]; rfl)) ?_; (with_reducible refine (crc_times.calls k t106 a0 t107 _ A5.out).mono ?_); rintro e w' ⟨rfl, ⟨nd, rfl⟩⟩; refine ⟨_, rfl, ?_⟩))
  go_ret
  exact ⟨by first | rfl | (simp; done) | (simp [*]; done), by repeat (first | exact Drawn0.refl _ | apply Drawn0.step)⟩

/-! ### oakumlaw32_CrcSums: function 5 -/
def oakumlaw32_CrcSums.f (k : Nat) (l0 : List Int) (l1 : List Int) (a2 : Int) : Option (Bool) := (oakumlaw32_alive.f).bind fun t108 => (if t108 = true then (if (wrap64 ((l0.length : Int) + (l1.length : Int))) > 4000 then (some true) else ((oakumref32_More.f k 0 l0).bind fun t109 => ((oakumref32_More.f k 0 l1).bind fun t110 => ((oakumref32_More.f k t109 l1).bind fun t111 => ((crc_Sum.f l0).bind fun t112 => (if t112 = t109 then ((crc_More.f a2 l1).bind fun t113 => ((oakumref32_More.f k a2 l1).bind fun t114 => (if t113 = t114 then ((crc_More.f t109 l1).bind fun t115 => (if t115 = t111 then ((crc_Both.f k t109 t110 (l1.length : Int)).bind fun t116 => (if t116 = t111 then ((crc_Both.f k a2 0 (-1)).bind fun t117 => (some (t117 == a2))) else (some false))) else (some false))) else (some false)))) else (some false))))))) else (some false))
theorem oakumlaw32_CrcSums.mono : ∀ a0 a1 a2 k, LeO (oakumlaw32_CrcSums.f k a0 a1 a2) (oakumlaw32_CrcSums.f (k + 1) a0 a1 a2) := by
  intro a0 a1 a2 k
  unfold oakumlaw32_CrcSums.f
  repeat' first
      | (with_reducible exact crc_Both.mono _ _ _ _)
      | (with_reducible exact oakumref32_More.mono _ _ _)
      | (with_reducible exact LeO.refl _)
      | (with_reducible exact LeO.none _)
      | (with_reducible refine LeO.ite ?_ ?_)
      | (with_reducible refine LeO.bind ?_ (fun _ => ?_))
      | exact crc_Both.mono _ _ _ _
      | exact oakumref32_More.mono _ _ _
      | exact LeO.none _
      | refine LeO.ite ?_ ?_
      | refine LeO.bind ?_ (fun _ => ?_)
set_option maxHeartbeats 8000000 in
set_option maxRecDepth 100000 in
theorem oakumlaw32_CrcSums.calls (k : Nat) (A0 : Option Addr) (c0 : Nat) (l0 : List Int) (A1 : Option Addr) (c1 : Nat) (l1 : List Int) (a2 : Int) (r : Bool) (w : World) (hr0 : Kd.C (Kd.int .u8) w A0 l0.length l0) (hc0 : l0.length ≤ c0) (hr1 : Kd.C (Kd.int .u8) w A1 l1.length l1) (hc1 : l1.length ≤ c1) (h : oakumlaw32_CrcSums.f k l0 l1 a2 = some r) :
    Calls Try.prog 5 #[.slice A0 l0.length c0, .slice A1 l1.length c1, .int .u32 a2] w fun e w' => e = .returned (.bool r) ∧ Below w.heap.size w w' := by
  have HR0 := Aside0.mk hr0
  have HC0 := Aside0.mk hc0
  clear hr0 hc0
  have HR1 := Aside0.mk hr1
  have HC1 := Aside0.mk hc1
  clear hr1 hc1
  have HB := Aside0.mk (Below.refl w.heap.size w)
  have H : ((oakumlaw32_alive.f).bind fun t108 => (if t108 = true then (if (wrap64 ((l0.length : Int) + (l1.length : Int))) > 4000 then (some true) else ((oakumref32_More.f k 0 l0).bind fun t109 => ((oakumref32_More.f k 0 l1).bind fun t110 => ((oakumref32_More.f k t109 l1).bind fun t111 => ((crc_Sum.f l0).bind fun t112 => (if t112 = t109 then ((crc_More.f a2 l1).bind fun t113 => ((oakumref32_More.f k a2 l1).bind fun t114 => (if t113 = t114 then ((crc_More.f t109 l1).bind fun t115 => (if t115 = t111 then ((crc_Both.f k t109 t110 (l1.length : Int)).bind fun t116 => (if t116 = t111 then ((crc_Both.f k a2 0 (-1)).bind fun t117 => (some (t117 == a2))) else (some false))) else (some false))) else (some false)))) else (some false))))))) else (some false))) = some r := h
  clear h
  replace H := Option.bind_eq_some_iff.mp H
  obtain ⟨t108, A40, H⟩ := H
  replace H : (if t108 = true then (if (wrap64 ((l0.length : Int) + (l1.length : Int))) > 4000 then (some true) else ((oakumref32_More.f k 0 l0).bind fun t109 => ((oakumref32_More.f k 0 l1).bind fun t110 => ((oakumref32_More.f k t109 l1).bind fun t111 => ((crc_Sum.f l0).bind fun t112 => (if t112 = t109 then ((crc_More.f a2 l1).bind fun t113 => ((oakumref32_More.f k a2 l1).bind fun t114 => (if t113 = t114 then ((crc_More.f t109 l1).bind fun t115 => (if t115 = t111 then ((crc_Both.f k t109 t110 (l1.length : Int)).bind fun t116 => (if t116 = t111 then ((crc_Both.f k a2 0 (-1)).bind fun t117 => (some (t117 == a2))) else (some false))) else (some false))) else (some false)))) else (some false))))))) else (some false)) = some r := H
  have A4 := Aside0.mk A40
  clear A40
  by_cases c5 : t108 = true
  · subst c5
    have H1 : (if (wrap64 ((l0.length : Int) + (l1.length : Int))) > 4000 then (some true) else ((oakumref32_More.f k 0 l0).bind fun t109 => ((oakumref32_More.f k 0 l1).bind fun t110 => ((oakumref32_More.f k t109 l1).bind fun t111 => ((crc_Sum.f l0).bind fun t112 => (if t112 = t109 then ((crc_More.f a2 l1).bind fun t113 => ((oakumref32_More.f k a2 l1).bind fun t114 => (if t113 = t114 then ((crc_More.f t109 l1).bind fun t115 => (if t115 = t111 then ((crc_Both.f k t109 t110 (l1.length : Int)).bind fun t116 => (if t116 = t111 then ((crc_Both.f k a2 0 (-1)).bind fun t117 => (some (t117 == a2))) else (some false))) else (some false))) else (some false)))) else (some false))))))) = some r := by rw [if_pos rfl] at H; exact H
    clear H
    have H := H1
    clear H1
    by_cases c6 : (wrap64 ((l0.length : Int) + (l1.length : Int))) > 4000
    · rw [if_pos c6] at H
      have c6b0 : decide (4000 < (wrap64 ((l0.length : Int) + (l1.length : Int)))) = true := decide_eq_true c6
      clear c6
      obtain rfl := Option.some.inj H
      go_enter Try.func5, Try.ntmps5
      go_wp2_with (first | ((with_reducible refine gate_callee (f := 16) rfl ?_); refine goesL_ (some 10) rfl rfl Try.func16 (by kernel_rfl) rfl #[] rfl (by (try simp only [List.map_toArray, List.map_cons, List.map_nil]); first | done | rfl | (simp only [List.length_drop, List.length_take]; rfl)) ?_; (with_reducible refine (oakumlaw32_alive.calls  true _ A4.out).mono ?_); rintro e w7 ⟨rfl, hb⟩; refine ⟨_, rfl, ?_⟩; have n0_ := Aside0.mk (below_step (by repeat (first | (with_reducible first | exact HB.out | apply below_alloc | apply pw_below_drewN | apply below_drew1) | exact HB.out)) hb); clear HB; have HB := n0_; clear n0_; (try clear hb); (try clear hb2); (try clear hk); (try clear hi)))
      go_ret
      exact ⟨by first | rfl | (simp [errW_none, errW_some] <;> rfl) | (simp [*, errW_none, errW_some] <;> rfl), by repeat (first | (with_reducible first | exact HB.out | apply below_alloc | apply pw_below_drewN | apply below_drew1) | exact HB.out)⟩
    · rw [if_neg c6] at H
      have c6b0 : decide (4000 < (wrap64 ((l0.length : Int) + (l1.length : Int)))) = false := decide_eq_false c6
      clear c6
      replace H := Option.bind_eq_some_iff.mp H
      obtain ⟨t109, A80, H⟩ := H
      replace H : ((oakumref32_More.f k 0 l1).bind fun t110 => ((oakumref32_More.f k t109 l1).bind fun t111 => ((crc_Sum.f l0).bind fun t112 => (if t112 = t109 then ((crc_More.f a2 l1).bind fun t113 => ((oakumref32_More.f k a2 l1).bind fun t114 => (if t113 = t114 then ((crc_More.f t109 l1).bind fun t115 => (if t115 = t111 then ((crc_Both.f k t109 t110 (l1.length : Int)).bind fun t116 => (if t116 = t111 then ((crc_Both.f k a2 0 (-1)).bind fun t117 => (some (t117 == a2))) else (some false))) else (some false))) else (some false)))) else (some false))))) = some r := H
      have A8 := Aside0.mk A80
      clear A80
      replace H := Option.bind_eq_some_iff.mp H
      obtain ⟨t110, A90, H⟩ := H
      replace H : ((oakumref32_More.f k t109 l1).bind fun t111 => ((crc_Sum.f l0).bind fun t112 => (if t112 = t109 then ((crc_More.f a2 l1).bind fun t113 => ((oakumref32_More.f k a2 l1).bind fun t114 => (if t113 = t114 then ((crc_More.f t109 l1).bind fun t115 => (if t115 = t111 then ((crc_Both.f k t109 t110 (l1.length : Int)).bind fun t116 => (if t116 = t111 then ((crc_Both.f k a2 0 (-1)).bind fun t117 => (some (t117 == a2))) else (some false))) else (some false))) else (some false)))) else (some false)))) = some r := H
      have A9 := Aside0.mk A90
      clear A90
      replace H := Option.bind_eq_some_iff.mp H
      obtain ⟨t111, A100, H⟩ := H
      replace H : ((crc_Sum.f l0).bind fun t112 => (if t112 = t109 then ((crc_More.f a2 l1).bind fun t113 => ((oakumref32_More.f k a2 l1).bind fun t114 => (if t113 = t114 then ((crc_More.f t109 l1).bind fun t115 => (if t115 = t111 then ((crc_Both.f k t109 t110 (l1.length : Int)).bind fun t116 => (if t116 = t111 then ((crc_Both.f k a2 0 (-1)).bind fun t117 => (some (t117 == a2))) else (some false))) else (some false))) else (some false)))) else (some false))) = some r := H
      have A10 := Aside0.mk A100
      clear A100
      replace H := Option.bind_eq_some_iff.mp H
      obtain ⟨t112, A110, H⟩ := H
      replace H : (if t112 = t109 then ((crc_More.f a2 l1).bind fun t113 => ((oakumref32_More.f k a2 l1).bind fun t114 => (if t113 = t114 then ((crc_More.f t109 l1).bind fun t115 => (if t115 = t111 then ((crc_Both.f k t109 t110 (l1.length : Int)).bind fun t116 => (if t116 = t111 then ((crc_Both.f k a2 0 (-1)).bind fun t117 => (some (t117 == a2))) else (some false))) else (some false))) else (some false)))) else (some false)) = some r := H
      have A11 := Aside0.mk A110
      clear A110
      by_cases c12 : t112 = t109
      · rw [if_pos c12] at H
        have c12b0 : (t112 == t109) = true := beq_iff_eq.mpr c12
        have c12b1 : (t112 != t109) = false := bne_eq_false_iff_eq.mpr c12
        clear c12
        replace H := Option.bind_eq_some_iff.mp H
        obtain ⟨t113, A130, H⟩ := H
        replace H : ((oakumref32_More.f k a2 l1).bind fun t114 => (if t113 = t114 then ((crc_More.f t109 l1).bind fun t115 => (if t115 = t111 then ((crc_Both.f k t109 t110 (l1.length : Int)).bind fun t116 => (if t116 = t111 then ((crc_Both.f k a2 0 (-1)).bind fun t117 => (some (t117 == a2))) else (some false))) else (some false))) else (some false))) = some r := H
        have A13 := Aside0.mk A130
        clear A130
        replace H := Option.bind_eq_some_iff.mp H
        obtain ⟨t114, A140, H⟩ := H
        replace H : (if t113 = t114 then ((crc_More.f t109 l1).bind fun t115 => (if t115 = t111 then ((crc_Both.f k t109 t110 (l1.length : Int)).bind fun t116 => (if t116 = t111 then ((crc_Both.f k a2 0 (-1)).bind fun t117 => (some (t117 == a2))) else (some false))) else (some false))) else (some false)) = some r := H
        have A14 := Aside0.mk A140
        clear A140
        by_cases c15 : t113 = t114
        · rw [if_pos c15] at H
          have c15b0 : (t113 == t114) = true := beq_iff_eq.mpr c15
          have c15b1 : (t113 != t114) = false := bne_eq_false_iff_eq.mpr c15
          clear c15
          replace H := Option.bind_eq_some_iff.mp H
          obtain ⟨t115, A160, H⟩ := H
          replace H : (if t115 = t111 then ((crc_Both.f k t109 t110 (l1.length : Int)).bind fun t116 => (if t116 = t111 then ((crc_Both.f k a2 0 (-1)).bind fun t117 => (some (t117 == a2))) else (some false))) else (some false)) = some r := H
          have A16 := Aside0.mk A160
          clear A160
          by_cases c17 : t115 = t111
          · rw [if_pos c17] at H
            have c17b0 : (t115 == t111) = true := beq_iff_eq.mpr c17
            have c17b1 : (t115 != t111) = false := bne_eq_false_iff_eq.mpr c17
            clear c17
            replace H := Option.bind_eq_some_iff.mp H
            obtain ⟨t116, A180, H⟩ := H
            replace H : (if t116 = t111 then ((crc_Both.f k a2 0 (-1)).bind fun t117 => (some (t117 == a2))) else (some false)) = some r := H
            have A18 := Aside0.mk A180
            clear A180
            by_cases c19 : t116 = t111
            · rw [if_pos c19] at H
              have c19b0 : (t116 == t111) = true := beq_iff_eq.mpr c19
              have c19b1 : (t116 != t111) = false := bne_eq_false_iff_eq.mpr c19
              clear c19
              replace H := Option.bind_eq_some_iff.mp H
              obtain ⟨t117, A200, H⟩ := H
              replace H : (some (t117 == a2)) = some r := H
              have A20 := Aside0.mk A200
              clear A200
              obtain rfl := Option.some.inj H
              go_enter Try.func5, Try.ntmps5
              go_wp2_with (first | ((with_reducible refine gate_callee (f := 16) rfl ?_); refine goesL_ (some 10) rfl rfl Try.func16 (by kernel_rfl) rfl #[] rfl (by (try simp only [List.map_toArray, List.map_cons, List.map_nil]); first | done | rfl | (simp only [List.length_drop, List.length_take]; rfl)) ?_; (with_reducible refine (oakumlaw32_alive.calls  true _ A4.out).mono ?_); rintro e w21 ⟨rfl, hb⟩; refine ⟨_, rfl, ?_⟩; have n0_ := Aside0.mk (below_step (by repeat (first | (with_reducible first | exact HB.out | apply below_alloc | apply pw_below_drewN | apply below_drew1) | exact HB.out)) hb); clear HB; have HB := n0_; clear n0_; (try clear hb); (try clear hb2); (try clear hk); (try clear hi)) | ((with_reducible refine gate_callee (f := 17) rfl ?_); refine goesL_ (some 19) rfl rfl Try.func17 (by kernel_rfl) rfl #[.int .u32 0, .slice A0 l0.length c0] rfl (by (try simp only [List.map_toArray, List.map_cons, List.map_nil]); first | done | rfl | (simp only [List.length_drop, List.length_take]; rfl)) ?_; (with_reducible refine (oakumref32_More.calls k 0 _ _ l0 t109 _ ?side1 ?side2 A8.out).mono ?_); (case side1 => repeat (first | exact (Kd.C_below HR0.out HB.out) | (with_reducible refine Kd.C_alloc ?_ _) | (with_reducible refine Kd.C_drewN ?_ _) | (with_reducible refine Kd.C_drew ?_))); (case side2 => exact HC0.out); rintro e w' ⟨rfl, ⟨nd, rfl⟩⟩; refine ⟨_, rfl, ?_⟩) | ((with_reducible refine gate_callee (f := 17) rfl ?_); refine goesL_ (some 21) rfl rfl Try.func17 (by kernel_rfl) rfl #[.int .u32 0, .slice A1 l1.length c1] rfl (by (try simp only [List.map_toArray, List.map_cons, List.map_nil]); first | done | rfl | (simp only [List.length_drop, List.length_take]; rfl)) ?_; (with_reducible refine (oakumref32_More.calls k 0 _ _ l1 t110 _ ?side1 ?side2 A9.out).mono ?_); (case side1 => repeat (first | exact (Kd.C_below HR1.out (by repeat (first | (with_reducible first | exact HB.out | apply below_alloc | apply pw_below_drewN | apply below_drew1) | exact HB.out))) | (with_reducible refine Kd.C_alloc ?_ _) | (with_reducible refine Kd.C_drewN ?_ _) | (with_reducible refine Kd.C_drew ?_))); (case side2 => exact HC1.out); rintro e w' ⟨rfl, ⟨nd, rfl⟩⟩; refine ⟨_, rfl, ?_⟩) | ((with_reducible refine gate_callee (f := 17) rfl ?_); refine goesL_ (some 24) rfl rfl Try.func17 (by kernel_rfl) rfl #[.int .u32 t109, .slice A1 l1.length c1] rfl (by (try simp only [List.map_toArray, List.map_cons, List.map_nil]); first | done | rfl | (simp only [List.length_drop, List.length_take]; rfl)) ?_; (with_reducible refine (oakumref32_More.calls k t109 _ _ l1 t111 _ ?side1 ?side2 A10.out).mono ?_); (case side1 => repeat (first | exact (Kd.C_below HR1.out (by repeat (first | (with_reducible first | exact HB.out | apply below_alloc | apply pw_below_drewN | apply below_drew1) | exact HB.out))) | (with_reducible refine Kd.C_alloc ?_ _) | (with_reducible refine Kd.C_drewN ?_ _) | (with_reducible refine Kd.C_drew ?_))); (case side2 => exact HC1.out); rintro e w' ⟨rfl, ⟨nd, rfl⟩⟩; refine ⟨_, rfl, ?_⟩) | ((with_reducible refine gate_callee (f := 18) rfl ?_); refine goesL_ (some 26) rfl rfl Try.func18 (by kernel_rfl) rfl #[.slice A0 l0.length c0] rfl (by (try simp only [List.map_toArray, List.map_cons, List.map_nil]); first | done | rfl | (simp only [List.length_drop, List.length_take]; rfl)) ?_; (with_reducible refine (crc_Sum.calls _ _ l0 t112 _ ?side1 ?side2 A11.out).mono ?_); (case side1 => repeat (first | exact (Kd.C_below HR0.out (by repeat (first | (with_reducible first | exact HB.out | apply below_alloc | apply pw_below_drewN | apply below_drew1) | exact HB.out))) | (with_reducible refine Kd.C_alloc ?_ _) | (with_reducible refine Kd.C_drewN ?_ _) | (with_reducible refine Kd.C_drew ?_))); (case side2 => exact HC0.out); rintro e w22 ⟨rfl, hb⟩; refine ⟨_, rfl, ?_⟩; have n0_ := Aside0.mk (below_step (by repeat (first | (with_reducible first | exact HB.out | apply below_alloc | apply pw_below_drewN | apply below_drew1) | exact HB.out)) hb); clear HB; have HB := n0_; clear n0_; (try clear hb); (try clear hb2); (try clear hk); (try clear hi)) | (go_at_call 19; (with_reducible refine (crc_More.calls a2 _ _ l1 t113 _ ?side1 ?side2 A13.out).mono ?_); (case side1 => repeat (first | exact (Kd.C_below HR1.out HB.out) | (with_reducible refine Kd.C_alloc ?_ _) | (with_reducible refine Kd.C_drewN ?_ _) | (with_reducible refine Kd.C_drew ?_))); (case side2 => exact HC1.out); rintro e w23 ⟨rfl, hb⟩; have n0_ := Aside0.mk (below_step (by repeat (first | (with_reducible first | exact HB.out | apply below_alloc | apply pw_below_drewN | apply below_drew1) | exact HB.out)) hb); clear HB; have HB := n0_; clear n0_; (try clear hb); (try clear hb2); (try clear hk); (try clear hi)) | (go_at_call 17; (with_reducible refine (oakumref32_More.calls k a2 _ _ l1 t114 _ ?side1 ?side2 A14.out).mono ?_); (case side1 => repeat (first | exact (Kd.C_below HR1.out HB.out) | (with_reducible refine Kd.C_alloc ?_ _) | (with_reducible refine Kd.C_drewN ?_ _) | (with_reducible refine Kd.C_drew ?_))); (case side2 => exact HC1.out); rintro e w' ⟨rfl, ⟨nd, rfl⟩⟩) | (go_at_call 19; (with_reducible refine (crc_More.calls t109 _ _ l1 t115 _ ?side1 ?side2 A16.out).mono ?_); (case side1 => repeat (first | exact (Kd.C_below HR1.out (by repeat (first | (with_reducible first | exact HB.out | apply below_alloc | apply pw_below_drewN | apply below_drew1) | exact HB.out))) | (with_reducible refine Kd.C_alloc ?_ _) | (with_reducible refine Kd.C_drewN ?_ _) | (with_reducible refine Kd.C_drew ?_))); (case side2 => exact HC1.out); rintro e w24 ⟨rfl, hb⟩; have n0_ := Aside0.mk (below_step (by repeat (first | (with_reducible first | exact HB.out | apply below_alloc | apply pw_below_drewN | apply below_drew1) | exact HB.out)) hb); clear HB; have HB := n0_; clear n0_; (try clear hb); (try clear hb2); (try clear hk); (try clear hi)) | (go_at_call 20; (with_reducible refine (crc_Both.calls k t109 t110 (l1.length : Int) t116 _ A18.out).mono ?_); rintro e w' ⟨rfl, ⟨nd, rfl⟩⟩) | (go_at_call 20; (with_reducible refine (crc_Both.calls k a2 0 (-1) t117 _ A20.out).mono ?_); rintro e w' ⟨rfl, ⟨nd, rfl⟩⟩))
              go_ret
              exact ⟨by first | rfl | (simp [errW_none, errW_some] <;> rfl) | (simp [*, errW_none, errW_some] <;> rfl), by repeat (first | (with_reducible first | exact HB.out | apply below_alloc | apply pw_below_drewN | apply below_drew1) | exact HB.out)⟩
            · rw [if_neg c19] at H
              have c19b0 : (t116 == t111) = false := beq_eq_false_iff_ne.mpr c19
              have c19b1 : (t116 != t111) = true := bne_iff_ne.mpr c19
              obtain rfl := Option.some.inj H
              go_enter Try.func5, Try.ntmps5
              go_wp2_with (first | ((with_reducible refine gate_callee (f := 16) rfl ?_); refine goesL_ (some 10) rfl rfl Try.func16 (by kernel_rfl) rfl #[] rfl (by (try simp only [List.map_toArray, List.map_cons, List.map_nil]); first | done | rfl | (simp only [List.length_drop, List.length_take]; rfl)) ?_; (with_reducible refine (oakumlaw32_alive.calls  true _ A4.out).mono ?_); rintro e w25 ⟨rfl, hb⟩; refine ⟨_, rfl, ?_⟩; have n0_ := Aside0.mk (below_step (by repeat (first | (with_reducible first | exact HB.out | apply below_alloc | apply pw_below_drewN | apply below_drew1) | exact HB.out)) hb); clear HB; have HB := n0_; clear n0_; (try clear hb); (try clear hb2); (try clear hk); (try clear hi)) | ((with_reducible refine gate_callee (f := 17) rfl ?_); refine goesL_ (some 19) rfl rfl Try.func17 (by kernel_rfl) rfl #[.int .u32 0, .slice A0 l0.length c0] rfl (by (try simp only [List.map_toArray, List.map_cons, List.map_nil]); first | done | rfl | (simp only [List.length_drop, List.length_take]; rfl)) ?_; (with_reducible refine (oakumref32_More.calls k 0 _ _ l0 t109 _ ?side1 ?side2 A8.out).mono ?_); (case side1 => repeat (first | exact (Kd.C_below HR0.out HB.out) | (with_reducible refine Kd.C_alloc ?_ _) | (with_reducible refine Kd.C_drewN ?_ _) | (with_reducible refine Kd.C_drew ?_))); (case side2 => exact HC0.out); rintro e w' ⟨rfl, ⟨nd, rfl⟩⟩; refine ⟨_, rfl, ?_⟩) | ((with_reducible refine gate_callee (f := 17) rfl ?_); refine goesL_ (some 21) rfl rfl Try.func17 (by kernel_rfl) rfl #[.int .u32 0, .slice A1 l1.length c1] rfl (by (try simp only [List.map_toArray, List.map_cons, List.map_nil]); first | done | rfl | (simp only [List.length_drop, List.length_take]; rfl)) ?_; (with_reducible refine (oakumref32_More.calls k 0 _ _ l1 t110 _ ?side1 ?side2 A9.out).mono ?_); (case side1 => repeat (first | exact (Kd.C_below HR1.out (by repeat (first | (with_reducible first | exact HB.out | apply below_alloc | apply pw_below_drewN | apply below_drew1) | exact HB.out))) | (with_reducible refine Kd.C_alloc ?_ _) | (with_reducible refine Kd.C_drewN ?_ _) | (with_reducible refine Kd.C_drew ?_))); (case side2 => exact HC1.out); rintro e w' ⟨rfl, ⟨nd, rfl⟩⟩; refine ⟨_, rfl, ?_⟩) | ((with_reducible refine gate_callee (f := 17) rfl ?_); refine goesL_ (some 24) rfl rfl Try.func17 (by kernel_rfl) rfl #[.int .u32 t109, .slice A1 l1.length c1] rfl (by (try simp only [List.map_toArray, List.map_cons, List.map_nil]); first | done | rfl | (simp only [List.length_drop, List.length_take]; rfl)) ?_; (with_reducible refine (oakumref32_More.calls k t109 _ _ l1 t111 _ ?side1 ?side2 A10.out).mono ?_); (case side1 => repeat (first | exact (Kd.C_below HR1.out (by repeat (first | (with_reducible first | exact HB.out | apply below_alloc | apply pw_below_drewN | apply below_drew1) | exact HB.out))) | (with_reducible refine Kd.C_alloc ?_ _) | (with_reducible refine Kd.C_drewN ?_ _) | (with_reducible refine Kd.C_drew ?_))); (case side2 => exact HC1.out); rintro e w' ⟨rfl, ⟨nd, rfl⟩⟩; refine ⟨_, rfl, ?_⟩) | ((with_reducible refine gate_callee (f := 18) rfl ?_); refine goesL_ (some 26) rfl rfl Try.func18 (by kernel_rfl) rfl #[.slice A0 l0.length c0] rfl (by (try simp only [List.map_toArray, List.map_cons, List.map_nil]); first | done | rfl | (simp only [List.length_drop, List.length_take]; rfl)) ?_; (with_reducible refine (crc_Sum.calls _ _ l0 t112 _ ?side1 ?side2 A11.out).mono ?_); (case side1 => repeat (first | exact (Kd.C_below HR0.out (by repeat (first | (with_reducible first | exact HB.out | apply below_alloc | apply pw_below_drewN | apply below_drew1) | exact HB.out))) | (with_reducible refine Kd.C_alloc ?_ _) | (with_reducible refine Kd.C_drewN ?_ _) | (with_reducible refine Kd.C_drew ?_))); (case side2 => exact HC0.out); rintro e w26 ⟨rfl, hb⟩; refine ⟨_, rfl, ?_⟩; have n0_ := Aside0.mk (below_step (by repeat (first | (with_reducible first | exact HB.out | apply below_alloc | apply pw_below_drewN | apply below_drew1) | exact HB.out)) hb); clear HB; have HB := n0_; clear n0_; (try clear hb); (try clear hb2); (try clear hk); (try clear hi)) | (go_at_call 19; (with_reducible refine (crc_More.calls a2 _ _ l1 t113 _ ?side1 ?side2 A13.out).mono ?_); (case side1 => repeat (first | exact (Kd.C_below HR1.out HB.out) | (with_reducible refine Kd.C_alloc ?_ _) | (with_reducible refine Kd.C_drewN ?_ _) | (with_reducible refine Kd.C_drew ?_))); (case side2 => exact HC1.out); rintro e w27 ⟨rfl, hb⟩; have n0_ := Aside0.mk (below_step (by repeat (first | (with_reducible first | exact HB.out | apply below_alloc | apply pw_below_drewN | apply below_drew1) | exact HB.out)) hb); clear HB; have HB := n0_; clear n0_; (try clear hb); (try clear hb2); (try clear hk); (try clear hi)) | (go_at_call 17; (with_reducible refine (oakumref32_More.calls k a2 _ _ l1 t114 _ ?side1 ?side2 A14.out).mono ?_); (case side1 => repeat (first | exact (Kd.C_below HR1.out HB.out) | (with_reducible refine Kd.C_alloc ?_ _) | (with_reducible refine Kd.C_drewN ?_ _) | (with_reducible refine Kd.C_drew ?_))); (case side2 => exact HC1.out); rintro e w' ⟨rfl, ⟨nd, rfl⟩⟩) | (go_at_call 19; (with_reducible refine (crc_More.calls t109 _ _ l1 t115 _ ?side1 ?side2 A16.out).mono ?_); (case side1 => repeat (first | exact (Kd.C_below HR1.out (by repeat (first | (with_reducible first | exact HB.out | apply below_alloc | apply pw_below_drewN | apply below_drew1) | exact HB.out))) | (with_reducible refine Kd.C_alloc ?_ _) | (with_reducible refine Kd.C_drewN ?_ _) | (with_reducible refine Kd.C_drew ?_))); (case side2 => exact HC1.out); rintro e w28 ⟨rfl, hb⟩; have n0_ := Aside0.mk (below_step (by repeat (first | (with_reducible first | exact HB.out | apply below_alloc | apply pw_below_drewN | apply below_drew1) | exact HB.out)) hb); clear HB; have HB := n0_; clear n0_; (try clear hb); (try clear hb2); (try clear hk); (try clear hi)) | (go_at_call 20; (with_reducible refine (crc_Both.calls k t109 t110 (l1.length : Int) t116 _ A18.out).mono ?_); rintro e w' ⟨rfl, ⟨nd, rfl⟩⟩))
              go_ret
              exact ⟨by first | rfl | (simp [errW_none, errW_some] <;> rfl) | (simp [*, errW_none, errW_some] <;> rfl), by repeat (first | (with_reducible first | exact HB.out | apply below_alloc | apply pw_below_drewN | apply below_drew1) | exact HB.out)⟩
          · rw [if_neg c17] at H
            have c17b0 : (t115 == t111) = false := beq_eq_false_iff_ne.mpr c17
            have c17b1 : (t115 != t111) = true := bne_iff_ne.mpr c17
            obtain rfl := Option.some.inj H
            go_enter Try.func5, Try.ntmps5
            go_wp2_with (first | ((with_reducible refine gate_callee (f := 16) rfl ?_); refine goesL_ (some 10) rfl rfl Try.func16 (by kernel_rfl) rfl #[] rfl (by (try simp only [List.map_toArray, List.map_cons, List.map_nil]); first | done | rfl | (simp only [List.length_drop, List.length_take]; rfl)) ?_; (with_reducible refine (oakumlaw32_alive.calls  true _ A4.out).mono ?_); rintro e w29 ⟨rfl, hb⟩; refine ⟨_, rfl, ?_⟩; have n0_ := Aside0.mk (below_step (by repeat (first | (with_reducible first | exact HB.out | apply below_alloc | apply pw_below_drewN | apply below_drew1) | exact HB.out)) hb); clear HB; have HB := n0_; clear n0_; (try clear hb); (try clear hb2); (try clear hk); (try clear hi)) | ((with_reducible refine gate_callee (f := 17) rfl ?_); refine goesL_ (some 19) rfl rfl Try.func17 (by kernel_rfl) rfl #[.int .u32 0, .slice A0 l0.length c0] rfl (by (try simp only [List.map_toArray, List.map_cons, List.map_nil]); first | done | rfl | (simp only [List.length_drop, List.length_take]; rfl)) ?_; (with_reducible refine (oakumref32_More.calls k 0 _ _ l0 t109 _ ?side1 ?side2 A8.out).mono ?_); (case side1 => repeat (first | exact (Kd.C_below HR0.out HB.out) | (with_reducible refine Kd.C_alloc ?_ _) | (with_reducible refine Kd.C_drewN ?_ _) | (with_reducible refine Kd.C_drew ?_))); (case side2 => exact HC0.out); rintro e w' ⟨rfl, ⟨nd, rfl⟩⟩; refine ⟨_, rfl, ?_⟩) | ((with_reducible refine gate_callee (f := 17) rfl ?_); refine goesL_ (some 21) rfl rfl Try.func17 (by kernel_rfl) rfl #[.int .u32 0, .slice A1 l1.length c1] rfl (by (try simp only [List.map_toArray, List.map_cons, List.map_nil]); first | done | rfl | (simp only [List.length_drop, List.length_take]; rfl)) ?_; (with_reducible refine (oakumref32_More.calls k 0 _ _ l1 t110 _ ?side1 ?side2 A9.out).mono ?_); (case side1 => repeat (first | exact (Kd.C_below HR1.out (by repeat (first | (with_reducible first | exact HB.out | apply below_alloc | apply pw_below_drewN | apply below_drew1) | exact HB.out))) | (with_reducible refine Kd.C_alloc ?_ _) | (with_reducible refine Kd.C_drewN ?_ _) | (with_reducible refine Kd.C_drew ?_))); (case side2 => exact HC1.out); rintro e w' ⟨rfl, ⟨nd, rfl⟩⟩; refine ⟨_, rfl, ?_⟩) | ((with_reducible refine gate_callee (f := 17) rfl ?_); refine goesL_ (some 24) rfl rfl Try.func17 (by kernel_rfl) rfl #[.int .u32 t109, .slice A1 l1.length c1] rfl (by (try simp only [List.map_toArray, List.map_cons, List.map_nil]); first | done | rfl | (simp only [List.length_drop, List.length_take]; rfl)) ?_; (with_reducible refine (oakumref32_More.calls k t109 _ _ l1 t111 _ ?side1 ?side2 A10.out).mono ?_); (case side1 => repeat (first | exact (Kd.C_below HR1.out (by repeat (first | (with_reducible first | exact HB.out | apply below_alloc | apply pw_below_drewN | apply below_drew1) | exact HB.out))) | (with_reducible refine Kd.C_alloc ?_ _) | (with_reducible refine Kd.C_drewN ?_ _) | (with_reducible refine Kd.C_drew ?_))); (case side2 => exact HC1.out); rintro e w' ⟨rfl, ⟨nd, rfl⟩⟩; refine ⟨_, rfl, ?_⟩) | ((with_reducible refine gate_callee (f := 18) rfl ?_); refine goesL_ (some 26) rfl rfl Try.func18 (by kernel_rfl) rfl #[.slice A0 l0.length c0] rfl (by (try simp only [List.map_toArray, List.map_cons, List.map_nil]); first | done | rfl | (simp only [List.length_drop, List.length_take]; rfl)) ?_; (with_reducible refine (crc_Sum.calls _ _ l0 t112 _ ?side1 ?side2 A11.out).mono ?_); (case side1 => repeat (first | exact (Kd.C_below HR0.out (by repeat (first | (with_reducible first | exact HB.out | apply below_alloc | apply pw_below_drewN | apply below_drew1) | exact HB.out))) | (with_reducible refine Kd.C_alloc ?_ _) | (with_reducible refine Kd.C_drewN ?_ _) | (with_reducible refine Kd.C_drew ?_))); (case side2 => exact HC0.out); rintro e w30 ⟨rfl, hb⟩; refine ⟨_, rfl, ?_⟩; have n0_ := Aside0.mk (below_step (by repeat (first | (with_reducible first | exact HB.out | apply below_alloc | apply pw_below_drewN | apply below_drew1) | exact HB.out)) hb); clear HB; have HB := n0_; clear n0_; (try clear hb); (try clear hb2); (try clear hk); (try clear hi)) | (go_at_call 19; (with_reducible refine (crc_More.calls a2 _ _ l1 t113 _ ?side1 ?side2 A13.out).mono ?_); (case side1 => repeat (first | exact (Kd.C_below HR1.out HB.out) | (with_reducible refine Kd.C_alloc ?_ _) | (with_reducible refine Kd.C_drewN ?_ _) | (with_reducible refine Kd.C_drew ?_))); (case side2 => exact HC1.out); rintro e w31 ⟨rfl, hb⟩; have n0_ := Aside0.mk (below_step (by repeat (first | (with_reducible first | exact HB.out | apply below_alloc | apply pw_below_drewN | apply below_drew1) | exact HB.out)) hb); clear HB; have HB := n0_; clear n0_; (try clear hb); (try clear hb2); (try clear hk); (try clear hi)) | (go_at_call 17; (with_reducible refine (oakumref32_More.calls k a2 _ _ l1 t114 _ ?side1 ?side2 A14.out).mono ?_); (case side1 => repeat (first | exact (Kd.C_below HR1.out HB.out) | (with_reducible refine Kd.C_alloc ?_ _) | (with_reducible refine Kd.C_drewN ?_ _) | (with_reducible refine Kd.C_drew ?_))); (case side2 => exact HC1.out); rintro e w' ⟨rfl, ⟨nd, rfl⟩⟩) | (go_at_call 19; (with_reducible refine (crc_More.calls t109 _ _ l1 t115 _ ?side1 ?side2 A16.out).mono ?_); (case side1 => repeat (first | exact (Kd.C_below HR1.out (by repeat (first | (with_reducible first | exact HB.out | apply below_alloc | apply pw_below_drewN | apply below_drew1) | exact HB.out))) | (with_reducible refine Kd.C_alloc ?_ _) | (with_reducible refine Kd.C_drewN ?_ _) | (with_reducible refine Kd.C_drew ?_))); (case side2 => exact HC1.out); rintro e w32 ⟨rfl, hb⟩; have n0_ := Aside0.mk (below_step (by repeat (first | (with_reducible first | exact HB.out | apply below_alloc | apply pw_below_drewN | apply below_drew1) | exact HB.out)) hb); clear HB; have HB := n0_; clear n0_; (try clear hb); (try clear hb2); (try clear hk); (try clear hi)))
            go_ret
            exact ⟨by first | rfl | (simp [errW_none, errW_some] <;> rfl) | (simp [*, errW_none, errW_some] <;> rfl), by repeat (first | (with_reducible first | exact HB.out | apply below_alloc | apply pw_below_drewN | apply below_drew1) | exact HB.out)⟩
        · rw [if_neg c15] at H
          have c15b0 : (t113 == t114) = false := beq_eq_false_iff_ne.mpr c15
          have c15b1 : (t113 != t114) = true := bne_iff_ne.mpr c15
          obtain rfl := Option.some.inj H
          go_enter Try.func5, Try.ntmps5
          go_wp2_with (first | ((with_reducible refine gate_callee (f := 16) rfl ?_); refine goesL_ (some 10) rfl rfl Try.func16 (by kernel_rfl) rfl #[] rfl (by (try simp only [List.map_toArray, List.map_cons, List.map_nil]); first | done | rfl | (simp only [List.length_drop, List.length_take]; rfl)) ?_; (with_reducible refine (oakumlaw32_alive.calls  true _ A4.out).mono ?_); rintro e w33 ⟨rfl, hb⟩; refine ⟨_, rfl, ?_⟩; have n0_ := Aside0.mk (below_step (by repeat (first | (with_reducible first | exact HB.out | apply below_alloc | apply pw_below_drewN | apply below_drew1) | exact HB.out)) hb); clear HB; have HB := n0_; clear n0_; (try clear hb); (try clear hb2); (try clear hk); (try clear hi)) | ((with_reducible refine gate_callee (f := 17) rfl ?_); refine goesL_ (some 19) rfl rfl Try.func17 (by kernel_rfl) rfl #[.int .u32 0, .slice A0 l0.length c0] rfl (by (try simp only [List.map_toArray, List.map_cons, List.map_nil]); first | done | rfl | (simp only [List.length_drop, List.length_take]; rfl)) ?_; (with_reducible refine (oakumref32_More.calls k 0 _ _ l0 t109 _ ?side1 ?side2 A8.out).mono ?_); (case side1 => repeat (first | exact (Kd.C_below HR0.out HB.out) | (with_reducible refine Kd.C_alloc ?_ _) | (with_reducible refine Kd.C_drewN ?_ _) | (with_reducible refine Kd.C_drew ?_))); (case side2 => exact HC0.out); rintro e w' ⟨rfl, ⟨nd, rfl⟩⟩; refine ⟨_, rfl, ?_⟩) | ((with_reducible refine gate_callee (f := 17) rfl ?_); refine goesL_ (some 21) rfl rfl Try.func17 (by kernel_rfl) rfl #[.int .u32 0, .slice A1 l1.length c1] rfl (by (try simp only [List.map_toArray, List.map_cons, List.map_nil]); first | done | rfl | (simp only [List.length_drop, List.length_take]; rfl)) ?_; (with_reducible refine (oakumref32_More.calls k 0 _ _ l1 t110 _ ?side1 ?side2 A9.out).mono ?_); (case side1 => repeat (first | exact (Kd.C_below HR1.out (by repeat (first | (with_reducible first | exact HB.out | apply below_alloc | apply pw_below_drewN | apply below_drew1) | exact HB.out))) | (with_reducible refine Kd.C_alloc ?_ _) | (with_reducible refine Kd.C_drewN ?_ _) | (with_reducible refine Kd.C_drew ?_))); (case side2 => exact HC1.out); rintro e w' ⟨rfl, ⟨nd, rfl⟩⟩; refine ⟨_, rfl, ?_⟩) | ((with_reducible refine gate_callee (f := 17) rfl ?_); refine goesL_ (some 24) rfl rfl Try.func17 (by kernel_rfl) rfl #[.int .u32 t109, .slice A1 l1.length c1] rfl (by (try simp only [List.map_toArray, List.map_cons, List.map_nil]); first | done | rfl | (simp only [List.length_drop, List.length_take]; rfl)) ?_; (with_reducible refine (oakumref32_More.calls k t109 _ _ l1 t111 _ ?side1 ?side2 A10.out).mono ?_); (case side1 => repeat (first | exact (Kd.C_below HR1.out (by repeat (first | (with_reducible first | exact HB.out | apply below_alloc | apply pw_below_drewN | apply below_drew1) | exact HB.out))) | (with_reducible refine Kd.C_alloc ?_ _) | (with_reducible refine Kd.C_drewN ?_ _) | (with_reducible refine Kd.C_drew ?_))); (case side2 => exact HC1.out); rintro e w' ⟨rfl, ⟨nd, rfl⟩⟩; refine ⟨_, rfl, ?_⟩) | ((with_reducible refine gate_callee (f := 18) rfl ?_); refine goesL_ (some 26) rfl rfl Try.func18 (by kernel_rfl) rfl #[.slice A0 l0.length c0] rfl (by (try simp only [List.map_toArray, List.map_cons, List.map_nil]); first | done | rfl | (simp only [List.length_drop, List.length_take]; rfl)) ?_; (with_reducible refine (crc_Sum.calls _ _ l0 t112 _ ?side1 ?side2 A11.out).mono ?_); (case side1 => repeat (first | exact (Kd.C_below HR0.out (by repeat (first | (with_reducible first | exact HB.out | apply below_alloc | apply pw_below_drewN | apply below_drew1) | exact HB.out))) | (with_reducible refine Kd.C_alloc ?_ _) | (with_reducible refine Kd.C_drewN ?_ _) | (with_reducible refine Kd.C_drew ?_))); (case side2 => exact HC0.out); rintro e w34 ⟨rfl, hb⟩; refine ⟨_, rfl, ?_⟩; have n0_ := Aside0.mk (below_step (by repeat (first | (with_reducible first | exact HB.out | apply below_alloc | apply pw_below_drewN | apply below_drew1) | exact HB.out)) hb); clear HB; have HB := n0_; clear n0_; (try clear hb); (try clear hb2); (try clear hk); (try clear hi)) | (go_at_call 19; (with_reducible refine (crc_More.calls a2 _ _ l1 t113 _ ?side1 ?side2 A13.out).mono ?_); (case side1 => repeat (first | exact (Kd.C_below HR1.out HB.out) | (with_reducible refine Kd.C_alloc ?_ _) | (with_reducible refine Kd.C_drewN ?_ _) | (with_reducible refine Kd.C_drew ?_))); (case side2 => exact HC1.out); rintro e w35 ⟨rfl, hb⟩; have n0_ := Aside0.mk (below_step (by repeat (first | (with_reducible first | exact HB.out | apply below_alloc | apply pw_below_drewN | apply below_drew1) | exact HB.out)) hb); clear HB; have HB := n0_; clear n0_; (try clear hb); (try clear hb2); (try clear hk); (try clear hi)) | (go_at_call 17; (with_reducible refine (oakumref32_More.calls k a2 _ _ l1 t114 _ ?side1 ?side2 A14.out).mono ?_); (case side1 => repeat (first | exact (Kd.C_below HR1.out HB.out) | (with_reducible refine Kd.C_alloc ?_ _) | (with_reducible refine Kd.C_drewN ?_ _) | (with_reducible refine Kd.C_drew ?_))); (case side2 => exact HC1.out); rintro e w' ⟨rfl, ⟨nd, rfl⟩⟩))
          go_ret
          exact ⟨by first | rfl | (simp [errW_none, errW_some] <;> rfl) | (simp [*, errW_none, errW_some] <;> rfl), by repeat (first | (with_reducible first | exact HB.out | apply below_alloc | apply pw_below_drewN | apply below_drew1) | exact HB.out)⟩
      · rw [if_neg c12] at H
        have c12b0 : (t112 == t109) = false := beq_eq_false_iff_ne.mpr c12
        have c12b1 : (t112 != t109) = true := bne_iff_ne.mpr c12
        obtain rfl := Option.some.inj H
        go_enter Try.func5, Try.ntmps5
        go_wp2_with (first | ((with_reducible refine gate_callee (f := 16) rfl ?_); refine goesL_ (some 10) rfl rfl Try.func16 (by kernel_rfl) rfl #[] rfl (by (try simp only [List.map_toArray, List.map_cons, List.map_nil]); first | done | rfl | (simp only [List.length_drop, List.length_take]; rfl)) ?_; (with_reducible refine (oakumlaw32_alive.calls  true _ A4.out).mono ?_); rintro e w36 ⟨rfl, hb⟩; refine ⟨_, rfl, ?_⟩; have n0_ := Aside0.mk (below_step (by repeat (first | (with_reducible first | exact HB.out | apply below_alloc | apply pw_below_drewN | apply below_drew1) | exact HB.out)) hb); clear HB; have HB := n0_; clear n0_; (try clear hb); (try clear hb2); (try clear hk); (try clear hi)) | ((with_reducible refine gate_callee (f := 17) rfl ?_); refine goesL_ (some 19) rfl rfl Try.func17 (by kernel_rfl) rfl #[.int .u32 0, .slice A0 l0.length c0] rfl (by (try simp only [List.map_toArray, List.map_cons, List.map_nil]); first | done | rfl | (simp only [List.length_drop, List.length_take]; rfl)) ?_; (with_reducible refine (oakumref32_More.calls k 0 _ _ l0 t109 _ ?side1 ?side2 A8.out).mono ?_); (case side1 => repeat (first | exact (Kd.C_below HR0.out HB.out) | (with_reducible refine Kd.C_alloc ?_ _) | (with_reducible refine Kd.C_drewN ?_ _) | (with_reducible refine Kd.C_drew ?_))); (case side2 => exact HC0.out); rintro e w' ⟨rfl, ⟨nd, rfl⟩⟩; refine ⟨_, rfl, ?_⟩) | ((with_reducible refine gate_callee (f := 17) rfl ?_); refine goesL_ (some 21) rfl rfl Try.func17 (by kernel_rfl) rfl #[.int .u32 0, .slice A1 l1.length c1] rfl (by (try simp only [List.map_toArray, List.map_cons, List.map_nil]); first | done | rfl | (simp only [List.length_drop, List.length_take]; rfl)) ?_; (with_reducible refine (oakumref32_More.calls k 0 _ _ l1 t110 _ ?side1 ?side2 A9.out).mono ?_); (case side1 => repeat (first | exact (Kd.C_below HR1.out (by repeat (first | (with_reducible first | exact HB.out | apply below_alloc | apply pw_below_drewN | apply below_drew1) | exact HB.out))) | (with_reducible refine Kd.C_alloc ?_ _) | (with_reducible refine Kd.C_drewN ?_ _) | (with_reducible refine Kd.C_drew ?_))); (case side2 => exact HC1.out); rintro e w' ⟨rfl, ⟨nd, rfl⟩⟩; refine ⟨_, rfl, ?_⟩) | ((with_reducible refine gate_callee (f := 17) rfl ?_); refine goesL_ (some 24) rfl rfl Try.func17 (by kernel_rfl) rfl #[.int .u32 t109, .slice A1 l1.length c1] rfl (by (try simp only [List.map_toArray, List.map_cons, List.map_nil]); first | done | rfl | (simp only [List.length_drop, List.length_take]; rfl)) ?_; (with_reducible refine (oakumref32_More.calls k t109 _ _ l1 t111 _ ?side1 ?side2 A10.out).mono ?_); (case side1 => repeat (first | exact (Kd.C_below HR1.out (by repeat (first | (with_reducible first | exact HB.out | apply below_alloc | apply pw_below_drewN | apply below_drew1) | exact HB.out))) | (with_reducible refine Kd.C_alloc ?_ _) | (with_reducible refine Kd.C_drewN ?_ _) | (with_reducible refine Kd.C_drew ?_))); (case side2 => exact HC1.out); rintro e w' ⟨rfl, ⟨nd, rfl⟩⟩; refine ⟨_, rfl, ?_⟩) | ((with_reducible refine gate_callee (f := 18) rfl ?_); refine goesL_ (some 26) rfl rfl Try.func18 (by kernel_rfl) rfl #[.slice A0 l0.length c0] rfl (by (try simp only [List.map_toArray, List.map_cons, List.map_nil]); first | done | rfl | (simp only [List.length_drop, List.length_take]; rfl)) ?_; (with_reducible refine (crc_Sum.calls _ _ l0 t112 _ ?side1 ?side2 A11.out).mono ?_); (case side1 => repeat (first | exact (Kd.C_below HR0.out (by repeat (first | (with_reducible first | exact HB.out | apply below_alloc | apply pw_below_drewN | apply below_drew1) | exact HB.out))) | (with_reducible refine Kd.C_alloc ?_ _) | (with_reducible refine Kd.C_drewN ?_ _) | (with_reducible refine Kd.C_drew ?_))); (case side2 => exact HC0.out); rintro e w37 ⟨rfl, hb⟩; refine ⟨_, rfl, ?_⟩; have n0_ := Aside0.mk (below_step (by repeat (first | (with_reducible first | exact HB.out | apply below_alloc | apply pw_below_drewN | apply below_drew1) | exact HB.out)) hb); clear HB; have HB := n0_; clear n0_; (try clear hb); (try clear hb2); (try clear hk); (try clear hi)))
        go_ret
        exact ⟨by first | rfl | (simp [errW_none, errW_some] <;> rfl) | (simp [*, errW_none, errW_some] <;> rfl), by repeat (first | (with_reducible first | exact HB.out | apply below_alloc | apply pw_below_drewN | apply below_drew1) | exact HB.out)⟩
  · replace c5 := Bool.eq_false_iff.mpr c5
    subst c5
    have H1 : (some false) = some r := by rw [if_neg (show ¬ (false = true) by decide)] at H; exact H
    clear H
    have H := H1
    clear H1
    obtain rfl := Option.some.inj H
    go_enter Try.func5, Try.ntmps5
    go_wp2_with (first | ((with_reducible refine gate_callee (f := 16) rfl ?_); refine goesL_ (some 10) rfl rfl Try.func16 (by kernel_rfl) rfl #[] rfl (by (try simp only [List.map_toArray, List.map_cons, List.map_nil]); first | done | rfl | (simp only [List.length_drop, List.length_take]; rfl)) ?_; (with_reducible refine (oakumlaw32_alive.calls  false _ A4.out).mono ?_); rintro e w38 ⟨rfl, hb⟩; refine ⟨_, rfl, ?_⟩; have n0_ := Aside0.mk (below_step (by repeat (first | (with_reducible first | exact HB.out | apply below_alloc | apply pw_below_drewN | apply below_drew1) | exact HB.out)) hb); clear HB; have HB := n0_; clear n0_; (try clear hb); (try clear hb2); (try clear hk); (try clear hi)))
    go_ret
    exact ⟨by first | rfl | (simp [errW_none, errW_some] <;> rfl) | (simp [*, errW_none, errW_some] <;> rfl), by repeat (first | (with_reducible first | exact HB.out | apply below_alloc | apply pw_below_drewN | apply below_drew1) | exact HB.out)⟩

/-- THE ONE PURE STATEMENT of oakumlaw32_CrcSums: yours. -/
def oakumlaw32_CrcSums.Pure : Prop := ∀ (l0 : List Int) (l1 : List Int) (a2 : Int), l0.length ≤ maxLen → l0.length * 1 ≤ 140737488351232 → (∀ x ∈ l0, (Lit.int .u8 x).wf = true) → l1.length ≤ maxLen → l1.length * 1 ≤ 140737488351232 → (∀ x ∈ l1, (Lit.int .u8 x).wf = true) → (Lit.int .u32 a2).wf = true → ∃ k, oakumlaw32_CrcSums.f k l0 l1 a2 = some true
theorem oakumlaw32_CrcSums.walk (P : oakumlaw32_CrcSums.Pure) (a0 : Option Addr) (len0 cap0 : Nat) (z0 : List Int) (a1 : Option Addr) (len1 cap1 : Nat) (z1 : List Int) (a2 : Int) (w : World) (w0 : (a0 = none ∧ len0 = 0 ∧ cap0 = 0 ∧ z0 = []) ∨ ∃ x, a0 = some x ∧ len0 ≤ cap0 ∧ cap0 ≤ maxLen ∧ z0.length = cap0 ∧ (∀ i, i < z0.length → w.cell? (x.add i) = some (.int .u8 (z0.getD i 0))) ∧ ∀ n ∈ z0, (Lit.int .u8 n).wf = true) (y0 : len0 * 1 ≤ 140737488351232) (w1 : (a1 = none ∧ len1 = 0 ∧ cap1 = 0 ∧ z1 = []) ∨ ∃ x, a1 = some x ∧ len1 ≤ cap1 ∧ cap1 ≤ maxLen ∧ z1.length = cap1 ∧ (∀ i, i < z1.length → w.cell? (x.add i) = some (.int .u8 (z1.getD i 0))) ∧ ∀ n ∈ z1, (Lit.int .u8 n).wf = true) (y1 : len1 * 1 ≤ 140737488351232) (w2 : (Lit.int .u32 a2).wf = true) :
    Calls Try.prog 5 #[.slice a0 len0 cap0, .slice a1 len1 cap1, .int .u32 a2] w fun e w' => e = .returned (.bool true) ∧ Below w.heap.size w w' := by
  obtain ⟨l0, rfl, hr0, hm0, hw0, hc0⟩ := ReadsInt.ofRowC w0
  obtain ⟨l1, rfl, hr1, hm1, hw1, hc1⟩ := ReadsInt.ofRowC w1
  obtain ⟨k, h⟩ := P l0 l1 a2 hm0 y0 hw0 hm1 y1 hw1 w2
  refine (oakumlaw32_CrcSums.calls k _ _ l0 _ _ l1 a2 true w (Kd.C_of_reads (d := (0 : Int)) (h1 := fun _ => rfl) hr0) hc0 (Kd.C_of_reads (d := (0 : Int)) (h1 := fun _ => rfl) hr1) hc1 h).mono ?_
  rintro e w' ⟨rfl, hd⟩
  exact ⟨rfl, hd⟩

end Go.Proofs.Ytelniipccmeooaa.PCrcSums
