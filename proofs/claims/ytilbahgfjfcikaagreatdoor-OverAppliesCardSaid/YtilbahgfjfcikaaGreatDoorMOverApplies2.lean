/- Several texts of this proof in one file: B08b, X08, V07, Q04b, U07c, U07d, U07e, V07b, U08d, V08. -/
import Derived.Test.YtilbahgfjfcikaaGreatDoorMOverApplies1
import Derived.Test.YtilbahgfjfcikaaGreatDoorMOverApplies0
import Derived.Lib.ItoaMem
/- slices.Insert and slices.Delete at pairs, strings.Compare: the pieces. -/
set_option linter.unusedVariables false
set_option linter.unusedSectionVars false
set_option linter.unusedSimpArgs false
namespace Go.Proofs.YtilbahgfjfcikaaGreatDoor.Eng.U
open Go Go.RowKit Go.Proofs Go.Proofs.YtilbahgfjfcikaaGreatDoor.Eng Go.Proofs.YtilbahgfjfcikaaGreatDoor.Eng.Rdv Go.Proofs.YtilbahgfjfcikaaGreatDoor.S08

noncomputable def pIns : Piece := { f := slices_Insert_api_Pair, ans := fun args => match args with
  | [.fresh e xs, .int .i64 i, .fresh e' ys] => (toPrs xs).bind fun l => (toPrs ys).bind fun m => bif decide (m.length = 1) && decide (e = 42) && decide (e' = 42) && decide (0 ≤ i) && decide (i.toNat ≤ l.length) && decide (l.length ≤ 1000000) then some (.lback (.fresh 42 (prs (l.take i.toNat ++ m ++ l.drop i.toNat))) []) else none
  | _ => none }
noncomputable def pDel : Piece := { f := slices_Delete_api_Pair, ans := fun args => match args with
  | [.fresh e xs, .int .i64 i, .int .i64 j] => (toPrs xs).bind fun l => bif decide (e = 42) && decide (0 ≤ i) && decide (j = i + 1) && decide (i.toNat < l.length) && decide (l.length ≤ 1000000) then some (.lback (.fresh 42 (prs (l.take i.toNat ++ l.drop (i.toNat + 1)))) []) else none
  | _ => none }
noncomputable def pCmp : Piece := { f := strings_Compare, ans := fun args => match args with
  | [.str a, .str b] => some (.int .i64 (Lib.compareBytes a.data.toList b.data.toList))
  | _ => none }
theorem cmp_right : pCmp.Right := by
  refine ⟨⟨Tryz.f154, Tryz.func154, by kernel_rfl, by kernel_rfl⟩, fun args res h => ?_⟩
  unfold pCmp at h
  dsimp only at h
  split at h
  · rename_i a b
    obtain rfl := Option.some.inj h
    refine ok_pure ⟨rfl, rfl⟩ fun S w vals hag hG hV => ?_
    obtain ⟨v, u, rfl, h1, h2⟩ := VL_2 hV
    obtain rfl := V_str h1
    obtain rfl := V_str h2
    refine (Tryz.strings_Compare a b w).mono ?_
    rintro e w' ⟨rfl, hw⟩
    first
      | (subst hw; exact ⟨_, rfl, fun S' => V.int _ _, Below.refl _ _⟩)
      | (obtain ⟨m, rfl⟩ := hw; exact ⟨_, rfl, fun S' => V.int _ _, (Below.refl _ w).ahead _⟩)
  · cases h
theorem largs3 {S : Stab} {w : World} {a b c : AV} {vals : List Value} (h : LArgs Tryz.prog S w [a, b, c] vals) : ∃ v u x, vals = [v, u, x] ∧ LR Tryz.prog S w a v ∧ LR Tryz.prog S w b u ∧ LR Tryz.prog S w c x := by
  obtain ⟨h1, h2⟩ := h
  match vals, h1 with
  | [v, u, x], _ => exact ⟨v, u, x, rfl, h2 0 _ _ rfl rfl, h2 1 _ _ rfl rfl, h2 2 _ _ rfl rfl⟩
theorem lr_fresh {S : Stab} {w : World} {l : List Pair} {v : Value} (h : LR Tryz.prog S w (.fresh 42 (prs l)) v) : w.ownsRow 0 42 2 v l.length (flatV l) ∧ ∀ g, hblk v = some g → ∀ x z, S x = some z → x.block ≠ g := by
  obtain ⟨us, h1, _, h3, h4⟩ := h
  rw [cells2, prs_len] at h1
  have := els_flat l us h3
  subst this
  exact ⟨h1, h4⟩
theorem own_hblk {w : World} {B e sz n : Nat} {v : Value} {us : List Value} (h : w.ownsRow B e sz v n us) : v.ownBlock = hblk v := by
  rcases h.2 with ⟨rfl, _⟩ | ⟨g, cap, cur, rfl, _⟩ <;> rfl
theorem shape_of {w : World} {g t : Nat} {cur : Array Value} {fz : Nat × Nat} (h : w.heap[g]? = some (.cells cur t fz)) : w.shape? g = some (t, cur.size) := by
  simp [World.shape?, h]
theorem frozen_of {w : World} {g t k : Nat} {cur : Array Value} (h : w.heap[g]? = some (.cells cur t (0, 0))) : w.frozen? ⟨g, k, none⟩ = false := by
  simp [World.frozen?, h]
set_option maxHeartbeats 1000000 in
theorem ins_calls (w : World) (l : List Pair) (p : Pair) (i : Nat) (v x : Value) (hi : i ≤ l.length) (hl : l.length ≤ 1000000) (hv : w.ownsRow 0 42 2 v l.length (flatV l)) (hx : w.ownsRow 0 42 2 x 1 (flatV [p])) (hd : ∀ g, hblk v = some g → hblk x ≠ some g) :
    Calls Tryz.prog slices_Insert_api_Pair #[v, .int .i64 (i : Int), x] w fun e w' => ∃ r, e = .returned r ∧ w'.ownsRow 0 42 2 r (l.take i ++ [p] ++ l.drop i).length (flatV (l.take i ++ [p] ++ l.drop i)) ∧
      w'.os = w.os ∧ w'.tape = w.tape ∧ w'.output = w.output ∧ w.heap.size ≤ w'.heap.size ∧ (∀ k, k < w.heap.size → hblk v ≠ some k → w'.heap[k]? = w.heap[k]?) ∧ (∀ g, hblk r = some g → w.heap.size ≤ g ∨ hblk v = some g) := by
  have hlen : (l.take i ++ [p] ++ l.drop i).length = l.length + 1 := by simp only [List.length_append, List.length_take, List.length_drop, List.length_singleton]; omega
  have hfl : flatV (l.take i ++ [p] ++ l.drop i) = (flatV l).take (i * 2) ++ flatV [p] ++ (flatV l).drop (i * 2) := by rw [flatV_app, flatV_app, flatV_take l i hi, flatV_drop l i hi]
  have hfll : (flatV l).length = l.length * 2 := flatV_len l
  have hfp : (flatV [p]).length = 2 := rfl
  rw [hlen, hfl]
  rcases hx.2 with ⟨rfl, h0⟩ | ⟨vb, vc, curx, rfl, _, hgx, hnx, _, hsx, htx⟩
  · cases h0
  have hvs : ∀ j u, (flatV [p])[j]? = some u → w.cell? ((⟨vb, 0, none⟩ : Addr).add j) = some u := hx.cells rfl
  have hvs' : ∀ j u, (flatV [p])[j]? = some u → w.cell? ⟨vb, j, none⟩ = some u := fun j u h => by have := hvs j u h; rwa [Addr.add_lit, Nat.zero_add] at this
  by_cases he : i = l.length
  · subst he
    have hee : (flatV l).take (l.length * 2) ++ flatV [p] ++ (flatV l).drop (l.length * 2) = flatV l ++ flatV [p] := by rw [← hfll, List.take_length, List.drop_length, List.append_nil]
    rw [hee]
    refine (insert_end v l.length 0 vb vc (flatV l) (flatV [p]) w hv hfp hvs (flatV_one _) (by omega) (Nat.zero_le _)).mono ?_
    rintro e w' ⟨r, rfl, h2, h3, h5⟩
    rw [own_hblk hv] at h3 h5
    rw [own_hblk h2] at h5
    refine ⟨r, rfl, h2, h3.os, h3.tape, h3.output, h3.size, fun k hk hne => h3.block k hk (fun e => hne e.symm), fun g hg => ?_⟩
    rw [hg] at h5
    rcases h5 with h5 | h5
    · exact .inr h5.symm
    · cases h5; exact .inl (Nat.le_refl _)
  · have hlt : i < l.length := by omega
    rcases hv.2 with ⟨rfl, h0⟩ | ⟨b, c, cur, rfl, _, hg, hnc, hcm, hcs, htk⟩
    · rw [h0] at hlt; omega
    have hvb : vb ≠ b := fun e => hd b rfl (by rw [e]; rfl)
    have hcell : ∀ j u, (flatV l)[j]? = some u → w.cell? ⟨b, j, none⟩ = some u := fun j u h => by have := hv.cells (g := b) rfl j u h; rwa [Addr.add_lit, Nat.zero_add] at this
    have hc63 : c ≤ 9223372036854775807 := by simp only [maxLen] at hcm; omega
    have hcsl : cur.toList.length = c * 2 := by rw [Array.length_toList, hcs]
    by_cases hr : l.length + 1 ≤ c
    · have hsp : ∀ j, j < (l.length + 1) * 2 → (w.cell? ⟨b, j, none⟩).isSome = true := fun j hj => by
        have : j < cur.size := by omega
        simp [World.cell?, hg, this]
      refine (insert_shift b l.length c i vb vc (flatV l) (flatV [p]) w hlt hr hc63 hvb hfll hfp hcell hsp (fun j _ => frozen_of hg) hvs' (flatV_one _) (flatV_one _) _ _ _ _ (shape_of hgx) (shape_of hg) (by omega) (frozen_of hgx) (frozen_of hgx)).mono ?_
      rintro e w' ⟨rfl, hw⟩
      have hdl : ((flatV l).drop (i * 2)).length = l.length * 2 - i * 2 := by rw [List.length_drop, hfll]
      have r1 := setCells_row b 42 ((flatV l).drop (i * 2)) ((i + 1) * 2) w.drew cur hg (by omega)
      have r2 := setCells_row b 42 (flatV [p]) (i * 2) _ _ r1 (by simp only [List.size_toArray, List.length_append, List.length_take, List.length_drop, hcsl, hdl, hfp]; omega)
      obtain ⟨a1, a2, a3, a4, a5⟩ := setCells_frame b ((flatV l).drop (i * 2)) ((i + 1) * 2) w.drew
      obtain ⟨b1, b2, b3, b4, b5⟩ := setCells_frame b (flatV [p]) (i * 2) (w.drew.setCells b ((i + 1) * 2) ((flatV l).drop (i * 2)))
      rw [← hw] at r2 b1 b2 b3 b4 b5
      refine ⟨_, rfl, ⟨?_, .inr ⟨b, c, _, rfl, Nat.zero_le _, r2, hr, hcm, ?_, ?_⟩⟩, b1.trans a1, b2.trans a2, b3.trans a3, by rw [b4, a4]; exact Nat.le_refl _, fun k hk hne => (b5 k (fun e => hne (by rw [e]; rfl))).trans (a5 k (fun e => hne (by rw [e]; rfl))), fun g hg => .inr hg⟩
      · simp only [List.length_append, List.length_take, hdl, hfll, hfp]; omega
      · simp only [List.size_toArray, List.length_append, List.length_take, List.length_drop, hcsl, hdl, hfp, hfll]; omega
      · exact splice_in cur.toList (flatV l) (flatV [p]) i l.length htk hfll hfp hi (by omega)
    · refine (insert_grow b l.length c i vb vc (flatV l) (flatV [p]) w hlt hnc (by omega) (by omega) hfll hfp hcell hvs' (flatV_one _) (flatV_one _)).mono ?_
      rintro e w' ⟨rfl, hw⟩
      have hGn := grownCap_ge w (l.length + 1) c 42
      have hGm := grownCap_le_maxLen w (l.length + 1) c 42 (by unfold maxLen; omega)
      generalize hG : grownCap w (l.length + 1) c 42 = G at *
      have hzl : ∀ m, (Builtin.zeroCells (Value.agg #[.string ⟨#[]⟩, .string ⟨#[]⟩]).cells m).size = m * 2 := fun m => by simp [Builtin.zeroCells, Value.cells]
      obtain ⟨ROW, hROW⟩ : ∃ ROW : Array Value, ROW = ((flatV l).take (i * 2)).toArray ++ Builtin.zeroCells (Value.agg #[.string ⟨#[]⟩, .string ⟨#[]⟩]).cells (l.length + 1 - i) ++ Builtin.zeroCells (Value.agg #[.string ⟨#[]⟩, .string ⟨#[]⟩]).cells (G - (l.length + 1)) := ⟨_, rfl⟩
      rw [← hROW] at hw
      have hRs : ROW.size = G * 2 := by rw [hROW]; simp only [Array.size_append, hzl, List.size_toArray, List.length_take, hfll]; omega
      have hRt : ROW.toList.take (i * 2) = (flatV l).take (i * 2) := by
        rw [hROW]
        simp only [Array.toList_append]
        rw [List.append_assoc, List.take_append_of_le_length (by simp [hfll]; omega), List.take_of_length_le (by simp [hfll]; omega)]
      have hRl : ROW.toList.length = G * 2 := by rw [Array.length_toList, hRs]
      have hdl : ((flatV l).drop (i * 2)).length = l.length * 2 - i * 2 := by rw [List.length_drop, hfll]
      have r0 : ((w.alloc (.cells ROW 42)).drew).heap[w.heap.size]? = some (.cells ROW 42 (0, 0)) := heap_alloc_new w _
      have r1 := setCells_row w.heap.size 42 (flatV [p]) (i * 2) _ ROW r0 (by omega)
      have r1' : (((w.alloc (.cells ROW 42)).drew.setCells w.heap.size (i * 2) (flatV [p])).drew).heap[w.heap.size]? = _ := r1
      have r2 := setCells_row w.heap.size 42 ((flatV l).drop (i * 2)) ((i + 1) * 2) _ _ r1' (by simp only [List.size_toArray, List.length_append, List.length_take, List.length_drop, hRl, hdl, hfp]; omega)
      obtain ⟨a1, a2, a3, a4, a5⟩ := setCells_frame w.heap.size (flatV [p]) (i * 2) (w.alloc (.cells ROW 42)).drew
      obtain ⟨b1, b2, b3, b4, b5⟩ := setCells_frame w.heap.size ((flatV l).drop (i * 2)) ((i + 1) * 2) ((w.alloc (.cells ROW 42)).drew.setCells w.heap.size (i * 2) (flatV [p])).drew
      rw [← hw] at r2 b1 b2 b3 b4 b5
      have hsz : ((w.alloc (.cells ROW 42)).drew).heap.size = w.heap.size + 1 := World.size_alloc w _
      refine ⟨_, rfl, ⟨?_, .inr ⟨w.heap.size, G, _, rfl, Nat.zero_le _, r2, hGn, hGm, ?_, ?_⟩⟩, b1.trans a1, b2.trans a2, b3.trans a3, ?_, fun k hk hne => (b5 k (by omega)).trans ((a5 k (by omega)).trans (Below.heap_alloc w _ k hk)), fun g hg => ?_⟩
      · simp only [List.length_append, List.length_take, hdl, hfll, hfp]; omega
      · simp only [List.size_toArray, List.length_append, List.length_take, List.length_drop, hRl, hdl, hfp, hfll]; omega
      · exact splice_new ROW.toList (flatV l) (flatV [p]) i l.length hRt hfll hfp hi (by omega)
      · have b4' : w'.heap.size = ((w.alloc (.cells ROW 42)).drew.setCells w.heap.size (i * 2) (flatV [p])).heap.size := b4
        rw [b4', a4, hsz]; omega
      · have : some w.heap.size = some g := hg
        cases this; exact .inl (Nat.le_refl _)
theorem del_calls (w : World) (l : List Pair) (i : Nat) (v : Value) (hi : i < l.length) (hl : l.length ≤ 1000000) (hv : w.ownsRow 0 42 2 v l.length (flatV l)) :
    Calls Tryz.prog slices_Delete_api_Pair #[v, .int .i64 (i : Int), .int .i64 ((i + 1 : Nat) : Int)] w fun e w' => ∃ r, e = .returned r ∧ w'.ownsRow 0 42 2 r (l.take i ++ l.drop (i + 1)).length (flatV (l.take i ++ l.drop (i + 1))) ∧
      w'.os = w.os ∧ w'.tape = w.tape ∧ w'.output = w.output ∧ w.heap.size ≤ w'.heap.size ∧ (∀ k, k < w.heap.size → hblk v ≠ some k → w'.heap[k]? = w.heap[k]?) ∧ (∀ g, hblk r = some g → hblk v = some g) := by
  have hlen : (l.take i ++ l.drop (i + 1)).length = l.length - 1 := by simp only [List.length_append, List.length_take, List.length_drop]; omega
  have hfl : flatV (l.take i ++ l.drop (i + 1)) = (flatV l).take (i * 2) ++ (flatV l).drop ((i + 1) * 2) := by rw [flatV_app, flatV_take l i (by omega), flatV_drop l (i + 1) (by omega)]
  have hfll : (flatV l).length = l.length * 2 := flatV_len l
  rw [hlen, hfl]
  rcases hv.2 with ⟨rfl, h0⟩ | ⟨b, c, cur, rfl, _, hg, hnc, hcm, hcs, htk⟩
  · rw [h0] at hi; omega
  have hcell : ∀ j u, (flatV l)[j]? = some u → w.cell? ⟨b, j, none⟩ = some u := fun j u h => by have := hv.cells (g := b) rfl j u h; rwa [Addr.add_lit, Nat.zero_add] at this
  have hc63 : c ≤ 9223372036854775807 := by simp only [maxLen] at hcm; omega
  have hcsl : cur.toList.length = c * 2 := by rw [Array.length_toList, hcs]
  refine (delete_one b l.length c i (i + 1) (flatV l) w rfl hi hnc hc63 hfll hcell (fun j _ => frozen_of hg) (flatV_one _)).mono ?_
  rintro e w' ⟨rfl, hw⟩
  have hdl : ((flatV l).drop ((i + 1) * 2)).length = l.length * 2 - (i + 1) * 2 := by rw [List.length_drop, hfll]
  have r1 := setCells_row b 42 ((flatV l).drop ((i + 1) * 2)) (i * 2) w.drew cur hg (by omega)
  have hz : ([.string ⟨#[]⟩, .string ⟨#[]⟩] : List Value).length = 2 := rfl
  have r2 := setCells_row b 42 [.string ⟨#[]⟩, .string ⟨#[]⟩] ((l.length - 1) * 2) _ _ r1 (by simp only [List.size_toArray, List.length_append, List.length_take, List.length_drop, hcsl, hdl, hz]; omega)
  obtain ⟨a1, a2, a3, a4, a5⟩ := setCells_frame b ((flatV l).drop ((i + 1) * 2)) (i * 2) w.drew
  obtain ⟨b1, b2, b3, b4, b5⟩ := setCells_frame b [.string ⟨#[]⟩, .string ⟨#[]⟩] ((l.length - 1) * 2) (w.drew.setCells b (i * 2) ((flatV l).drop ((i + 1) * 2)))
  rw [← hw] at r2 b1 b2 b3 b4 b5
  refine ⟨_, rfl, ⟨?_, .inr ⟨b, c, _, rfl, Nat.zero_le _, r2, by omega, hcm, ?_, ?_⟩⟩, b1.trans a1, b2.trans a2, b3.trans a3, by rw [b4, a4]; exact Nat.le_refl _, fun k hk hne => (b5 k (fun e => hne (by rw [e]; rfl))).trans (a5 k (fun e => hne (by rw [e]; rfl))), fun g hg => hg⟩
  · simp only [List.length_append, List.length_take, hdl, hfll]; omega
  · simp only [List.size_toArray, List.length_append, List.length_take, List.length_drop, hcsl, hdl, hfll, hz]; omega
  · exact splice_out cur.toList (flatV l) [.string ⟨#[]⟩, .string ⟨#[]⟩] i l.length htk hfll hi (by omega) rfl
theorem ins_right : pIns.Right := by
  refine ⟨⟨Tryz.f129, Tryz.func129, by kernel_rfl, by kernel_rfl⟩, fun args res h => ?_⟩
  unfold pIns at h
  dsimp only at h
  split at h
  · rename_i e xs i e' ys
    obtain ⟨l, hl, h2⟩ := Option.bind_eq_some_iff.1 h
    obtain ⟨m, hm, h3⟩ := Option.bind_eq_some_iff.1 h2
    clear h h2
    obtain rfl := toPrs_some hl
    obtain rfl := toPrs_some hm
    obtain ⟨hc, h4⟩ := some_of_bif h3
    clear h3
    obtain rfl := Option.some.inj h4
    clear h4
    simp only [Bool.and_eq_true, decide_eq_true_eq] at hc
    obtain ⟨⟨⟨⟨⟨c1, rfl⟩, rfl⟩, c4⟩, c5⟩, c6⟩ := hc
    obtain ⟨p, rfl⟩ : ∃ p, m = [p] := by
      match m, c1 with
      | [p], _ => exact ⟨p, rfl⟩
    obtain ⟨i, rfl⟩ := Int.eq_ofNat_of_zero_le c4
    rw [Int.toNat_natCast] at *
    have hres : ∀ v x : Value, resB [.fresh 42 (prs l), .int .i64 (i : Int), .fresh 42 (prs [p])] [v, .int .i64 (i : Int), x] = (hblk v).toList ++ (hblk x).toList := fun v x => by simp [resB, AV.isRes]
    refine ok_given (by intro c hc; simp at hc; rcases hc with rfl | rfl | rfl <;> rfl) (fun S w vals hag hL hnd => ?_) (fun S w vals hL g hg => ?_)
    · obtain ⟨v, u, x, rfl, r1, r2, r3⟩ := largs3 hL
      obtain rfl := V_int (show V S (.int .i64 (i : Int)) u from r2)
      obtain ⟨o1, n1⟩ := lr_fresh r1
      obtain ⟨o2, n2⟩ := lr_fresh r3
      rw [hres] at hnd ⊢
      refine (ins_calls w l p i v x c5 c6 o1 o2 (fun g h1 h2 => ?_)).mono ?_
      · rw [h1, h2] at hnd
        simp at hnd
      · rintro e w' ⟨r, rfl, h1, h2, h3, h4, h5, h6, h7⟩
        refine ⟨r, rfl, h1, ⟨h2, h3, h4, h5, fun k hk hx => h6 k hk fun e => hx (by rw [e]; simp)⟩, fun g hg => (h7 g hg).imp id fun e => by rw [e]; simp⟩
    · obtain ⟨v, u, x, rfl, r1, r2, r3⟩ := largs3 hL
      obtain rfl := V_int (show V S (.int .i64 (i : Int)) u from r2)
      rw [hres] at hg
      rcases List.mem_append.1 hg with hg | hg
      · exact (lr_fresh r1).2 g (by simpa using hg)
      · exact (lr_fresh r3).2 g (by simpa using hg)
  · cases h
theorem del_right : pDel.Right := by
  refine ⟨⟨Tryz.f128, Tryz.func128, by kernel_rfl, by kernel_rfl⟩, fun args res h => ?_⟩
  unfold pDel at h
  dsimp only at h
  split at h
  · rename_i e xs i j
    obtain ⟨l, hl, h2⟩ := Option.bind_eq_some_iff.1 h
    clear h
    obtain rfl := toPrs_some hl
    obtain ⟨hc, h4⟩ := some_of_bif h2
    clear h2
    obtain rfl := Option.some.inj h4
    clear h4
    simp only [Bool.and_eq_true, decide_eq_true_eq] at hc
    obtain ⟨⟨⟨⟨rfl, c4⟩, rfl⟩, c5⟩, c6⟩ := hc
    obtain ⟨i, rfl⟩ := Int.eq_ofNat_of_zero_le c4
    rw [Int.toNat_natCast] at *
    have hres : ∀ v : Value, resB [.fresh 42 (prs l), .int .i64 (i : Int), .int .i64 ((i : Int) + 1)] [v, .int .i64 (i : Int), .int .i64 ((i : Int) + 1)] = (hblk v).toList := fun v => by simp [resB, AV.isRes]
    refine ok_given (by intro c hc; simp at hc; rcases hc with rfl | rfl | rfl <;> rfl) (fun S w vals hag hL hnd => ?_) (fun S w vals hL g hg => ?_)
    · obtain ⟨v, u, x, rfl, r1, r2, r3⟩ := largs3 hL
      obtain rfl := V_int (show V S (.int .i64 (i : Int)) u from r2)
      obtain rfl := V_int (show V S (.int .i64 ((i : Int) + 1)) x from r3)
      obtain ⟨o1, n1⟩ := lr_fresh r1
      rw [hres] at hnd ⊢
      refine (del_calls w l i v c5 c6 o1).mono ?_
      rintro e w' ⟨r, rfl, h1, h2, h3, h4, h5, h6, h7⟩
      refine ⟨r, rfl, h1, ⟨h2, h3, h4, h5, fun k hk hx => h6 k hk fun e => hx (by rw [e]; simp)⟩, fun g hg => .inr (by rw [h7 g hg]; simp)⟩
    · obtain ⟨v, u, x, rfl, r1, r2, r3⟩ := largs3 hL
      obtain rfl := V_int (show V S (.int .i64 (i : Int)) u from r2)
      obtain rfl := V_int (show V S (.int .i64 ((i : Int) + 1)) x from r3)
      rw [hres] at hg
      exact (lr_fresh r1).2 g (by simpa using hg)
  · cases h
end Go.Proofs.YtilbahgfjfcikaaGreatDoor.Eng.U


/- The library's functions, pax.Print, slices.Insert and Delete, given together. -/
set_option linter.unusedVariables false
set_option linter.unusedSectionVars false
set_option linter.unusedSimpArgs false
namespace Go.Proofs.YtilbahgfjfcikaaGreatDoor.Eng.U
open Go Go.RowKit Go.Proofs Go.Proofs.YtilbahgfjfcikaaGreatDoor.Eng

noncomputable def ps08 : List Piece := [pItoa, pCutP, pIndex, pIndexByte, pRepeat, pPInt, pPUint, pDec, pAny, pPrint, pIns, pDel, pCmp]
noncomputable def ext08 : Ext := extOf ps08
instance core08 : Core ext08 := core_of (by kernel_rfl)
instance num08 : HasNum ext08 := num_of rfl rfl rfl rfl rfl rfl rfl
instance text08 : HasText ext08 where
  dec k n s := ⟨_, _, (kp_piece (ps := ps08) (p := pDec) (k := k) (n := n) (args := [.str (str s)]) rfl).trans rfl⟩
  idx k n s hs := by
    have h := kp_piece (ps := ps08) (p := pAny) (k := k) (n := n) (args := [.str (str s), .str (str [61, 0])]) rfl
    have e : pAny.ans [.str (str s), .str (str [61, 0])] = (bif decide (str [61, 0] = str [61, 0]) && decide ((str s).size ≤ 1000000) then (bif decide (8 < (str s).size) then some (.int .i64 (Lib.indexAny (str s).data.toList [61, 0])) else (bs ext09a 100).kap 3 strings_IndexAny [.str (str s), .str (str [61, 0])]) else none) := rfl
    rw [e, str_size, decide_eq_true rfl, decide_eq_true hs, Bool.true_and, cond_true] at h
    by_cases h8 : 8 < s.length
    · rw [decide_eq_true h8, cond_true] at h
      exact ⟨_, h⟩
    · rw [decide_eq_false h8, cond_false] at h
      obtain ⟨r, hr⟩ := any_short (E := ext09a) (k := 100) (n := 0) (by kernel_rfl) (by kernel_rfl) (by omega) s (by omega)
      exact ⟨r, h.trans hr⟩
instance textV08 : HasTextV ext08 where
  dec k n s := (kp_piece (ps := ps08) (p := pDec) (k := k) (n := n) (args := [.str s]) rfl).trans rfl
  idx k n s hs := by
    have h := kp_piece (ps := ps08) (p := pAny) (k := k) (n := n) (args := [.str (str s), .str (str [61, 0])]) rfl
    have e : pAny.ans [.str (str s), .str (str [61, 0])] = (bif decide (str [61, 0] = str [61, 0]) && decide ((str s).size ≤ 1000000) then (bif decide (8 < (str s).size) then some (.int .i64 (Lib.indexAny (str s).data.toList [61, 0])) else (bs ext09a 100).kap 3 strings_IndexAny [.str (str s), .str (str [61, 0])]) else none) := rfl
    rw [e, str_size, decide_eq_true rfl, decide_eq_true hs, Bool.true_and, cond_true] at h
    by_cases h8 : 8 < s.length
    · rw [decide_eq_true h8, cond_true] at h
      exact ⟨_, h, any_long_v s⟩
    · rw [decide_eq_false h8, cond_false] at h
      obtain ⟨r, hr, hv⟩ := any_short_v (E := ext09a) (k := 100) (n := 0) (by kernel_rfl) (by kernel_rfl) (by omega) s (by omega)
      exact ⟨r, h.trans hr, hv⟩
instance print08 : HasPrint ext08 where
  print k n l hl := by
    have h := kp_piece (ps := ps08) (p := pPrint) (k := k) (n := n) (args := [.list 2 (prs l)]) rfl
    have e : pPrint.ans [.list 2 (prs l)] = (toPrs (prs l)).bind fun l => bif okP l then some (bif l.all pairOk then .tup [.list 1 (bys (linesL l)), .int .u8 0] else .tup [.list 1 [], .int .u8 15]) else none := rfl
    rw [e, toPrs_prs, Option.bind_some, hl, cond_true] at h
    exact h
instance ins08 : HasIns ext08 where
  ins k n xs i p hi hl := by
    have h := kp_piece (ps := ps08) (p := pIns) (k := k) (n := n) (args := [.fresh 42 (prs xs), .int .i64 (i : Int), .fresh 42 (prs [p])]) rfl
    have e : pIns.ans [.fresh 42 (prs xs), .int .i64 (i : Int), .fresh 42 (prs [p])] = (toPrs (prs xs)).bind fun l => (toPrs (prs [p])).bind fun m => bif decide (m.length = 1) && decide (42 = 42) && decide (42 = 42) && decide (0 ≤ (i : Int)) && decide ((i : Int).toNat ≤ l.length) && decide (l.length ≤ 1000000) then some (.lback (.fresh 42 (prs (l.take (i : Int).toNat ++ m ++ l.drop (i : Int).toNat))) []) else none := rfl
    rw [e, toPrs_prs, toPrs_prs, Option.bind_some, Option.bind_some, Int.toNat_natCast, decide_eq_true hi, decide_eq_true hl, decide_eq_true (show (0 : Int) ≤ (i : Int) by omega)] at h
    refine h.trans ?_
    rw [List.append_assoc]
    rfl
  del k n xs i hi hl := by
    have h := kp_piece (ps := ps08) (p := pDel) (k := k) (n := n) (args := [.fresh 42 (prs xs), .int .i64 (i : Int), .int .i64 ((i + 1 : Nat) : Int)]) rfl
    have e : pDel.ans [.fresh 42 (prs xs), .int .i64 (i : Int), .int .i64 ((i + 1 : Nat) : Int)] = (toPrs (prs xs)).bind fun l => bif decide (42 = 42) && decide (0 ≤ (i : Int)) && decide (((i + 1 : Nat) : Int) = (i : Int) + 1) && decide ((i : Int).toNat < l.length) && decide (l.length ≤ 1000000) then some (.lback (.fresh 42 (prs (l.take (i : Int).toNat ++ l.drop ((i : Int).toNat + 1)))) []) else none := rfl
    rw [e, toPrs_prs, Option.bind_some, Int.toNat_natCast, decide_eq_true hi, decide_eq_true hl, decide_eq_true (show (0 : Int) ≤ (i : Int) by omega), decide_eq_true (show ((i + 1 : Nat) : Int) = (i : Int) + 1 by omega)] at h
    exact h
  cmp k n a b := (kp_piece (ps := ps08) (p := pCmp) (k := k) (n := n) (args := [.str (str a), .str (str b)]) rfl).trans rfl
theorem good08 (k : Nat) : (bs ext08 k).Good := good_of (fun p hp => by
  simp only [ps08, List.mem_cons, List.not_mem_nil, or_false] at hp
  rcases hp with rfl | rfl | rfl | rfl | rfl | rfl | rfl | rfl | rfl | rfl | rfl | rfl | rfl
  · exact itoa_right
  · exact cutP_right
  · exact index_right
  · exact indexByte_right
  · exact repeat_right
  · exact pInt_right
  · exact pUint_right
  · exact dec_right
  · exact any_right
  · exact print_right
  · exact ins_right
  · exact del_right
  · exact cmp_right) names_ok k
end Go.Proofs.YtilbahgfjfcikaaGreatDoor.Eng.U


/- The chapter's example of layer 7. -/
set_option linter.unusedVariables false
set_option linter.unusedSectionVars false
set_option linter.unusedSimpArgs false
namespace Go.Proofs.YtilbahgfjfcikaaGreatDoor.Eng.U
open Go Go.RowKit Go.Proofs Go.Proofs.YtilbahgfjfcikaaGreatDoor.Eng

theorem ok_pa : pairOk ⟨[112, 97, 116, 104], [97]⟩ = true := by kernel_rfl
def sumP : List Pair → Nat
  | [] => 0
  | p :: l => p.key.length + p.val.length + sumP l
end Go.Proofs.YtilbahgfjfcikaaGreatDoor.Eng.U


/- What is printed is read, in plain Lean. -/
set_option linter.unusedVariables false
set_option linter.unusedSimpArgs false
namespace Go.Proofs.YtilbahgfjfcikaaGreatDoor.P04
open Go

/-! No fewer bytes. -/
end Go.Proofs.YtilbahgfjfcikaaGreatDoor.P04


/- Which bytes are records: in plain words. -/
set_option linter.unusedVariables false
set_option linter.unusedSectionVars false
set_option linter.unusedSimpArgs false
namespace Go.Proofs.YtilbahgfjfcikaaGreatDoor.Eng.U
open Go Go.Proofs Go.Proofs.YtilbahgfjfcikaaGreatDoor.Eng Go.Proofs.YtilbahgfjfcikaaGreatDoor.P04

end Go.Proofs.YtilbahgfjfcikaaGreatDoor.Eng.U


/- Records, both sides: printed and parsed. -/
set_option linter.unusedVariables false
set_option linter.unusedSectionVars false
set_option linter.unusedSimpArgs false
namespace Go.Proofs.YtilbahgfjfcikaaGreatDoor.Eng.U
open Go Go.Proofs Go.Proofs.YtilbahgfjfcikaaGreatDoor.Eng Go.Proofs.YtilbahgfjfcikaaGreatDoor.P04
variable {E : Ext} [Core E] [HasNum E] {k n : Nat}

def lenAV : Option (Nat × Nat) → AV
  | none => .tup [.int .i64 0, .int .i64 0, .bool false]
  | some x => .tup [.int .i64 (x.1 : Int), .int .i64 (x.2 : Int), .bool true]
end Go.Proofs.YtilbahgfjfcikaaGreatDoor.Eng.U


/- Records, the reference's side: printed and parsed. -/
set_option linter.unusedVariables false
set_option linter.unusedSectionVars false
set_option linter.unusedSimpArgs false
namespace Go.Proofs.YtilbahgfjfcikaaGreatDoor.Eng.U
open Go Go.Proofs Go.Proofs.YtilbahgfjfcikaaGreatDoor.Eng Go.Proofs.YtilbahgfjfcikaaGreatDoor.P04
variable {E : Ext} [Core E] [HasNum E] {k n : Nat}

end Go.Proofs.YtilbahgfjfcikaaGreatDoor.Eng.U


/- Records printed, parsed, and back: the laws in plain words. -/
set_option linter.unusedVariables false
set_option linter.unusedSectionVars false
set_option linter.unusedSimpArgs false
namespace Go.Proofs.YtilbahgfjfcikaaGreatDoor.Eng.U
open Go Go.RowKit Go.Proofs Go.Proofs.YtilbahgfjfcikaaGreatDoor.Eng Go.Proofs.YtilbahgfjfcikaaGreatDoor.P04

theorem sum_le : ∀ (l : List Pair), (∀ p ∈ l, G_apiPair p) → sumP l ≤ l.length * 300000000000000
  | [], _ => by simp [sumP]
  | p :: l, h => by
    have ih := sum_le l fun q hq => h q (.tail _ hq)
    have hp := h p (.head _)
    have h1 := hp.key
    have h2 := hp.val
    simp only [sumP, List.length_cons]
    omega
theorem sum_mem : ∀ (l : List Pair) (p : Pair), p ∈ l → p.key.length + p.val.length ≤ sumP l
  | q :: l, p, h => by
    simp only [sumP]
    rcases List.mem_cons.1 h with rfl | h
    · omega
    · have := sum_mem l p h; omega
section
variable {E : Ext} [Core E] {k n : Nat}
end
end Go.Proofs.YtilbahgfjfcikaaGreatDoor.Eng.U


/- What pairs say of a head: the whole, both sides; two heads that are the same. -/
set_option linter.unusedVariables false
set_option linter.unusedSectionVars false
set_option linter.unusedSimpArgs false
namespace Go.Proofs.YtilbahgfjfcikaaGreatDoor.Eng.U
open Go Go.Proofs Go.Proofs.YtilbahgfjfcikaaGreatDoor.Eng Go.Proofs.YtilbahgfjfcikaaGreatDoor.P04
variable {E : Ext} [Core E] [HasNum E] {k n : Nat}

theorem overApply_k [HasTextV E] (h : Head) (l : List Pair) (hl : l.length ≤ 10000) (hp : ∀ p ∈ l, p.key.length ≤ 1000000 ∧ p.val.length ≤ 1000000) (hk : 1000000 < k) :
    kp E k (n + 7) over_Apply [.agg (encHead h), .list 2 (prs l)] = some (bif overOk l then .tup [.agg (encHead (applyL h l)), .int .u8 0] else .tup [.agg (encHead ⟨0, [], [], 0, 0, 0, 0, 0, 0, [], [], 0, 0, []⟩), .int .u8 15]) := by
  unfold encHead
  rw [over_Apply_eq, overRight_k (n := n) l (by omega) hp hk, callB_ok]
  cases ho : overOk l with
  | false => rfl
  | true =>
    rw [Bool.not_true, cond_false, prs_len]
    exact apply_loop (k := k) (kp E k (n + 6)) l (by omega) (fun s => known_k (n := n + 5) s) (fun h p hm hw => say_k (n := n + 2) h p (hp p hm).2 hk hw) 0 0 0 0 0 0 0 0 0 (str []) (str []) (str []) (str []) [] l [] { h with extra := [] } k (by omega) rfl (by simp; omega)
theorem refApply_loop (kap : FuncId → List AV → Option AV) (l : List Pair) (hl : l.length ≤ 100000) (hN : ∀ p ∈ l, ∃ q, kap ref04_Number [.str (str p.val)] = some (.tup [.int .i64 (numV p.val), .bool q])) (hT : ∀ p ∈ l, ∃ q, kap ref04_Time [.str (str p.val)] = some (.tup [.agg [.int .i64 (timV p.val).1, .int .i64 (timV p.val).2], .bool q]))
    (hW : ∀ p ∈ l, kap ref07_Which [.str (str p.key)] = some (.int .i64 (whichL p.key)))
    (b0 b3 b4 b5 b6 b7 b8 b11 b12 c0 c3 c4 c5 c6 c7 c8 c11 c12 : Int) (b1 b2 b9 b10 c1 c2 c9 c10 : ByteArray) (b13 y : List AV) : ∀ (suf pre : List Pair) (h : Head) (k0 : Nat), suf.length < k0 → pre ++ suf = l → h.extra.length + suf.length ≤ 100000 →
    ref08_Apply_L0 kap k k0 (prs l) ((pre.length : Nat) : Int) b0 b1 b2 b3 b4 b5 b6 b7 b8 b9 b10 b11 b12 b13 c0 c1 c2 c3 c4 c5 c6 c7 c8 c9 c10 c11 c12 h.kind (str h.name) (str h.link) h.mode h.uid h.gid h.size h.sec h.nano (str h.user) (str h.group) h.major h.minor y (prs h.extra) = some (.agg (encHead (suf.foldl sayH h)))
  | [], pre, h, k0 + 1, hk, he, hx => by
    rw [List.append_nil] at he
    subst he
    rw [ref08_Apply_L0_s, prs_len, bif_f (by omega)]
    rfl
  | p :: suf, pre, h, k0 + 1, hk, he, hx => by
    have hi : pre.length < l.length := by rw [← he]; simp
    have hmm : ∀ F : AV → Option AV, ((prs l)[pre.length]?).bind F = F (elPair p) := fun F => by rw [← he]; exact prs_mid pre suf p F
    have hmem : p ∈ l := by rw [← he]; simp
    rw [List.length_cons] at hk hx
    have ih := fun (g : Head) (hg : g.extra.length ≤ h.extra.length + 1) => refApply_loop kap l hl hN hT hW b0 b3 b4 b5 b6 b7 b8 b11 b12 c0 c3 c4 c5 c6 c7 c8 c11 c12 b1 b2 b9 b10 c1 c2 c9 c10 b13 y suf (pre ++ [p]) g k0 (by omega) (by rw [← he]; simp) (by omega)
    rw [List.length_append, List.length_singleton] at ih
    obtain ⟨q1, hN⟩ := hN p hmem
    obtain ⟨q2, hT⟩ := hT p hmem
    rw [ref08_Apply_L0_s, prs_len, bif_t (by omega), bif_a, bif_t (by omega), bif_t (by omega), Int.toNat_natCast, hmm, cells_pair, p_1, hN, callT_ok, tupI_ok, tupB_ok, atNil_ok, bif_a, bif_t (by omega), bif_t (by omega), hmm, cells_pair, p_0, hW p hmem, callI_ok, List.foldl_cons, wrap1 (by omega)]
    have hlt := which_lt p.key
    have hs : sayH h p = sayH h p := rfl
    conv at hs => rhs; unfold sayH
    generalize whichL p.key = w at hlt hs
    have : w = -1 ∨ w = 0 ∨ w = 1 ∨ w = 2 ∨ w = 3 ∨ w = 4 ∨ w = 5 ∨ w = 6 ∨ w = 7 := by omega
    rcases this with rfl | rfl | rfl | rfl | rfl | rfl | rfl | rfl | rfl
    · have hs : sayH h p = { h with extra := h.extra ++ [p] } := hs
      rw [bif_f (by omega), bif_f (by omega), bif_f (by omega), bif_f (by omega), bif_f (by omega), bif_f (by omega), bif_f (by omega), bif_f (by omega), bif_a, bif_t (by omega), bif_t (by omega), hmm, cells_pair, p_0, p_1, prs_len, show (decide ((h.extra.length + 1) * 32 ≤ 140737488355328) && decide (h.extra.length + 1 ≤ 9223372036854775807)) = true by simp; omega, cond_true, prs_sn, hs]
      exact ih { h with extra := h.extra ++ [p] } (by simp)
    · have hs : sayH h p = { h with name := p.val } := hs
      rw [bif_t rfl, hs]
      exact ih { h with name := p.val } (by simp)
    · have hs : sayH h p = { h with link := p.val } := hs
      rw [bif_f (by omega), bif_t rfl, hs]
      exact ih { h with link := p.val } (by simp)
    · have hs : sayH h p = { h with user := p.val } := hs
      rw [bif_f (by omega), bif_f (by omega), bif_t rfl, hs]
      exact ih { h with user := p.val } (by simp)
    · have hs : sayH h p = { h with group := p.val } := hs
      rw [bif_f (by omega), bif_f (by omega), bif_f (by omega), bif_t rfl, hs]
      exact ih { h with group := p.val } (by simp)
    · have hs : sayH h p = { h with uid := numV p.val } := hs
      rw [bif_f (by omega), bif_f (by omega), bif_f (by omega), bif_f (by omega), bif_t rfl, hs]
      exact ih { h with uid := numV p.val } (by simp)
    · have hs : sayH h p = { h with gid := numV p.val } := hs
      rw [bif_f (by omega), bif_f (by omega), bif_f (by omega), bif_f (by omega), bif_f (by omega), bif_t rfl, hs]
      exact ih { h with gid := numV p.val } (by simp)
    · have hs : sayH h p = { h with size := numV p.val } := hs
      rw [bif_f (by omega), bif_f (by omega), bif_f (by omega), bif_f (by omega), bif_f (by omega), bif_f (by omega), bif_t rfl, hs]
      exact ih { h with size := numV p.val } (by simp)
    · have hs : sayH h p = { h with sec := (timV p.val).1, nano := (timV p.val).2 } := hs
      have hT2 : ∀ K : List AV → Option AV, callT (some (.tup [.agg [.int .i64 (timV p.val).1, .int .i64 (timV p.val).2], .bool q2])) K = K [.agg [.int .i64 (timV p.val).1, .int .i64 (timV p.val).2], .bool q2] := fun K => rfl
      have hG : ∀ (a b : Int) (t : List AV) (K : List AV → List AV → Option AV), tupG 2 (.agg [.int .i64 a, .int .i64 b] :: t) K = K [.int .i64 a, .int .i64 b] t := fun a b t K => rfl
      rw [bif_f (by omega), bif_f (by omega), bif_f (by omega), bif_f (by omega), bif_f (by omega), bif_f (by omega), bif_f (by omega), bif_t rfl, hT, hT2, hG, cellI_0, cellI_s, cellI_0, tupB_ok, atNil_ok, hs]
      exact ih { h with sec := (timV p.val).1, nano := (timV p.val).2 } (by simp)
theorem refApply_k (h : Head) (l : List Pair) (hl : l.length ≤ 10000) (hp : ∀ p ∈ l, p.key.length ≤ 1000000 ∧ p.val.length ≤ 1000000) (hk : 1000000 < k) : kp E k (n + 4) ref08_Apply [.agg (encHead h), .list 2 (prs l)] = some (.agg (encHead (applyL h l))) := by
  unfold encHead
  rw [ref08_Apply_eq]
  refine refApply_loop (k := k) (kp E k (n + 3)) l (by omega) (fun p hm => ?_) (fun p hm => ?_) (fun p hm => which_k (n := n + 1) p.key (by omega)) _ _ _ _ _ _ _ _ _ 0 0 0 0 0 0 0 0 0 _ _ _ _ (str []) (str []) (str []) (str []) _ [] l [] { h with extra := [] } k (by omega) rfl (by simp; omega)
  · rw [refNumber_k (n := n) p.val (by have := hp p hm; omega) (by have := hp p hm; omega)]
    unfold numV
    cases natOk p.val && decide (valA 0 p.val ≤ 9223372036854775807)
    · exact ⟨false, rfl⟩
    · exact ⟨true, rfl⟩
  · rw [refTime_k (n := n) p.val (by have := hp p hm; omega) (by have := hp p hm; omega) (by omega)]
    unfold timV
    cases timeL p.val with
    | none => exact ⟨false, rfl⟩
    | some x => exact ⟨true, rfl⟩
theorem sameHead_k (a b : Head) (ha : a.extra.length ≤ 1000000) (hk : a.extra.length < k) : kp E k (n + 2) ref08_SameHead [.agg (encHead a), .agg (encHead b)] = some (.bool (decide (a = b))) := by
  unfold encHead
  rw [ref08_SameHead_eq, pSame_k (n := n) a.extra b.extra ha hk, callB_ok, str_dec, str_dec, str_dec, str_dec]
  have e : decide (a = b) = (decide (a.kind = b.kind) && (decide (a.name = b.name) && (decide (a.link = b.link) && (decide (a.mode = b.mode) && (decide (a.uid = b.uid) && (decide (a.gid = b.gid) && (decide (a.size = b.size) && ((decide (a.sec = b.sec) && (decide (a.nano = b.nano) && true)) && (decide (a.user = b.user) && (decide (a.group = b.group) && (decide (a.major = b.major) && (decide (a.minor = b.minor) && decide (a.extra = b.extra))))))))))))) := by
    rw [Bool.eq_iff_iff]
    simp only [Bool.and_eq_true, decide_eq_true_eq, and_true]
    constructor
    · rintro rfl; simp
    · rintro ⟨h1, h2, h3, h4, h5, h6, h7, ⟨h8, h9⟩, h10, h11, h12, h13, h14⟩
      cases a; cases b
      simp only at h1 h2 h3 h4 h5 h6 h7 h8 h9 h10 h11 h12 h13 h14
      subst h1 h2 h3 h4 h5 h6 h7 h8 h9 h10 h11 h12 h13 h14
      rfl
  rw [e]
  generalize decide (a.kind = b.kind) = x1
  generalize decide (a.name = b.name) = x2
  generalize decide (a.link = b.link) = x3
  generalize decide (a.mode = b.mode) = x4
  generalize decide (a.uid = b.uid) = x5
  generalize decide (a.gid = b.gid) = x6
  generalize decide (a.size = b.size) = x7
  generalize (decide (a.sec = b.sec) && (decide (a.nano = b.nano) && true)) = x8
  generalize decide (a.user = b.user) = x9
  generalize decide (a.group = b.group) = x10
  generalize decide (a.major = b.major) = x11
  generalize decide (a.minor = b.minor) = x12
  generalize decide (a.extra = b.extra) = x13
  cases x1
  · rfl
  cases x2
  · rfl
  cases x3
  · rfl
  cases x4
  · rfl
  cases x5
  · rfl
  cases x6
  · rfl
  cases x7
  · rfl
  cases x8
  · rfl
  cases x9
  · rfl
  cases x10
  · rfl
  cases x11
  · rfl
  cases x12
  · rfl
  rfl
end Go.Proofs.YtilbahgfjfcikaaGreatDoor.Eng.U


/- The laws of overlays in plain words. -/
set_option linter.unusedVariables false
set_option linter.unusedSectionVars false
set_option linter.unusedSimpArgs false
namespace Go.Proofs.YtilbahgfjfcikaaGreatDoor.Eng.U
open Go Go.RowKit Go.Proofs Go.Proofs.YtilbahgfjfcikaaGreatDoor.Eng Go.Proofs.YtilbahgfjfcikaaGreatDoor.P04

theorem few8_loop {k : Nat} (kap : FuncId → List AV → Option AV) (suf : List Pair) : ∀ (pre : List Pair) (s k0 : Nat), suf.length < k0 → s + sumP suf ≤ 9223372036854775807 → (pre ++ suf).length ≤ 1000000000000000 →
    law08_few_L0 kap k k0 (prs (pre ++ suf)) ((s : Nat) : Int) ((pre.length : Nat) : Int) = some (.bool (decide ((pre ++ suf).length ≤ 40) && decide (s + sumP suf ≤ 3000))) := by
  induction suf with
  | nil =>
    intro pre s k0 h hs hb
    obtain ⟨m, rfl⟩ : ∃ m, k0 = m + 1 := ⟨k0 - 1, by simp only [List.length_nil] at h; omega⟩
    have e : decide (((s : Nat) : Int) ≤ 3000) = decide (s + sumP [] ≤ 3000) := by rw [decide_eq_decide]; simp only [sumP]; omega
    rw [law08_few_L0_s, prs_len, bif_f (by simp), e, List.append_nil]
    by_cases hl : pre.length ≤ 40
    · rw [bif_t (by omega), decide_eq_true hl, Bool.true_and]
    · rw [bif_f (by omega), decide_eq_false hl, Bool.false_and]
  | cons p suf ih =>
    intro pre s k0 h hs hb
    obtain ⟨m, rfl⟩ : ∃ m, k0 = m + 1 := ⟨k0 - 1, by simp only [List.length_cons] at h; omega⟩
    have h' : suf.length < m := by simp only [List.length_cons] at h; omega
    have hb' : pre.length + (suf.length + 1) ≤ 1000000000000000 := by simp only [List.length_append, List.length_cons] at hb; exact hb
    have hs' : s + (p.key.length + p.val.length + sumP suf) ≤ 9223372036854775807 := hs
    have hi := ih (pre ++ [p]) (s + p.key.length + p.val.length) m h' (by omega) (by simp only [List.length_append, List.length_cons, List.length_nil]; omega)
    rw [List.append_assoc, List.singleton_append, ← snoc_len, mid_len] at hi
    have e : decide (s + p.key.length + p.val.length + sumP suf ≤ 3000) = decide (s + sumP (p :: suf) ≤ 3000) := by rw [decide_eq_decide]; simp only [sumP]; omega
    rw [law08_few_L0_s, prs_len, mid_len, bif_t (by omega), bif_a, bif_t (by omega), bif_t (by omega), Int.toNat_natCast, prs_mid, cells_pair, p_0, bif_a, bif_t (by omega), bif_t (by omega), prs_mid, cells_pair, p_1, str_size, str_size, i64w (x := ((s : Nat) : Int) + ((p.key.length : Nat) : Int)) (by omega), i64w (x := ((s : Nat) : Int) + ((p.key.length : Nat) : Int) + ((p.val.length : Nat) : Int)) (by omega), i64w (by omega)]
    rw [← e, ← hi]
    congr 1
theorem few8_big (kap : FuncId → List AV → Option AV) {k : Nat} (l : List Pair) (hl : l.length ≤ 1000000000000000) (h40 : 40 < l.length) : ∀ (suf pre : List Pair) (s : Int) (k0 : Nat), suf.length < k0 → pre ++ suf = l →
    law08_few_L0 kap k k0 (prs l) s ((pre.length : Nat) : Int) = some (.bool false)
  | [], pre, s, k0 + 1, h, he => by
    rw [List.append_nil] at he
    subst he
    rw [law08_few_L0_s, prs_len, bif_f (by omega), bif_f (by omega)]
  | p :: suf, pre, s, k0 + 1, h, he => by
    have hp : pre.length < l.length := by rw [← he]; simp
    have hm : ∀ F : AV → Option AV, ((prs l)[pre.length]?).bind F = F (elPair p) := fun F => by rw [← he]; exact prs_mid pre suf p F
    rw [law08_few_L0_s, prs_len, bif_t (by omega), bif_a, bif_t (by omega), bif_t (by omega), Int.toNat_natCast, hm, cells_pair, p_0, bif_a, bif_t (by omega), bif_t (by omega), hm, cells_pair, p_1, wrap1 (by omega)]
    have ih := fun s => few8_big kap (k := k) l hl h40 suf (pre ++ [p]) s k0 (by simpa using h) (by rw [← he]; simp)
    rw [List.length_append, List.length_singleton] at ih
    exact ih _
def few8L (l : List Pair) : Bool := decide (l.length ≤ 40) && decide (sumP l ≤ 3000)
section
variable {E : Ext} [Core E] {k n : Nat}
theorem few8_k (l : List Pair) (g : G_LapiPair l) (hk : l.length < k) : kp E k (n + 1) law08_few [.list 2 (prs l)] = some (.bool (few8L l)) := by
  rw [law08_few_eq]
  have hl := g.1
  unfold few8L
  by_cases h40 : l.length ≤ 40
  · have hs := sum_le l g.2
    have := few8_loop (k := k) (kp E k n) l [] 0 k hk (by omega) (by simp; omega)
    rw [List.nil_append, Nat.zero_add] at this
    exact this
  · rw [decide_eq_false h40, Bool.false_and]
    exact few8_big (k := k) (kp E k n) l (by omega) (by omega) l [] 0 k hk rfl
theorem few8_facts {l : List Pair} (h : few8L l = true) : l.length ≤ 40 ∧ (∀ p ∈ l, p.key.length ≤ 3000 ∧ p.val.length ≤ 3000) ∧ okP l = true := by
  unfold few8L at h
  rw [Bool.and_eq_true, decide_eq_true_eq, decide_eq_true_eq] at h
  have hm : ∀ p ∈ l, p.key.length ≤ 3000 ∧ p.val.length ≤ 3000 := fun p hp => by have := sum_mem l p hp; omega
  refine ⟨h.1, hm, ?_⟩
  unfold okP
  rw [Bool.and_eq_true, decide_eq_true_eq, List.all_eq_true]
  exact ⟨by omega, fun p hp => by have := hm p hp; simp; omega⟩
end
def pathA : Pair := ⟨[112, 97, 116, 104], [97]⟩
theorem alive08 : kp ext08 10000000000000 25 law08_alive [] = some (.bool true) := by
  have ho : overOk [pathA] = true := by
    unfold overOk
    rw [List.all_cons, show pairOk pathA = true from ok_pa]
    rfl
  have hl : layAll ([pathA] ++ [⟨[112, 97, 116, 104], []⟩]) = [] := by decide
  have h1 := overApply_k (E := ext08) (k := 10000000000000) (n := 17) ⟨0, [98], [], 0, 0, 0, 0, 0, 0, [], [], 0, 0, []⟩ [pathA] (by simp) (by intro p hp; simp at hp; subst hp; decide) (by omega)
  rw [ho, cond_true] at h1
  have h2 := overLay_k (E := ext08) (k := 10000000000000) (n := 19) [pathA] [⟨[112, 97, 116, 104], []⟩] (by simp) (by simp) (by omega)
  rw [hl] at h2
  have h1' : kp ext08 10000000000000 24 over_Apply [(.agg [(.int .i64 (0 : Int)), (.str (str [98])), (.str (str [])), (.int .i64 (0 : Int)), (.int .i64 (0 : Int)), (.int .i64 (0 : Int)), (.int .i64 (0 : Int)), (.int .i64 (0 : Int)), (.int .i64 (0 : Int)), (.str (str [])), (.str (str [])), (.int .i64 (0 : Int)), (.int .i64 (0 : Int)), (.list 2 [])]), (.list 2 [(.agg [(.str (str [112, 97, 116, 104])), (.str (str [97]))])])] = _ := h1
  have h2' : kp ext08 10000000000000 24 over_Lay [(.list 2 [(.agg [(.str (str [112, 97, 116, 104])), (.str (str [97]))])]), (.list 2 [(.agg [(.str (str [112, 97, 116, 104])), (.str (str []))])])] = _ := h2
  rw [law08_alive_eq, h1', h2']
  rfl
theorem tup14 (a : Head) (t : List AV) (K : Int → ByteArray → ByteArray → Int → Int → Int → Int → Int → Int → ByteArray → ByteArray → Int → Int → List AV → List AV → Option AV) :
    (tupG 14 (.agg (encHead a) :: t) fun vg vt => cellI .i64 vg 0 fun v0 => cellS vg 1 fun v1 => cellS vg 2 fun v2 => cellI .i64 vg 3 fun v3 => cellI .i64 vg 4 fun v4 => cellI .i64 vg 5 fun v5 => cellI .i64 vg 6 fun v6 => cellI .i64 vg 7 fun v7 => cellI .i64 vg 8 fun v8 => cellS vg 9 fun v9 => cellS vg 10 fun v10 => cellI .i64 vg 11 fun v11 => cellI .i64 vg 12 fun v12 => cellL 2 vg 13 fun v13 => K v0 v1 v2 v3 v4 v5 v6 v7 v8 v9 v10 v11 v12 v13 vt) =
      K a.kind (str a.name) (str a.link) a.mode a.uid a.gid a.size a.sec a.nano (str a.user) (str a.group) a.major a.minor (prs a.extra) t := by kernel_rfl
theorem call14 (a : Head) (K : Int → ByteArray → ByteArray → Int → Int → Int → Int → Int → Int → ByteArray → ByteArray → Int → Int → List AV → Option AV) :
    (callG 14 (some (.agg (encHead a))) fun vg => cellI .i64 vg 0 fun v0 => cellS vg 1 fun v1 => cellS vg 2 fun v2 => cellI .i64 vg 3 fun v3 => cellI .i64 vg 4 fun v4 => cellI .i64 vg 5 fun v5 => cellI .i64 vg 6 fun v6 => cellI .i64 vg 7 fun v7 => cellI .i64 vg 8 fun v8 => cellS vg 9 fun v9 => cellS vg 10 fun v10 => cellI .i64 vg 11 fun v11 => cellI .i64 vg 12 fun v12 => cellL 2 vg 13 fun v13 => K v0 v1 v2 v3 v4 v5 v6 v7 v8 v9 v10 v11 v12 v13) =
      K a.kind (str a.name) (str a.link) a.mode a.uid a.gid a.size a.sec a.nano (str a.user) (str a.group) a.major a.minor (prs a.extra) := by kernel_rfl
theorem applies08 (h : Head) (l : List Pair) (gh : G_apiHead h) (gl : G_LapiPair l) : (bs ext08 10000000000000).kap 26 law08_OverApplies [.agg (encHead h), .list 2 (prs l)] = some (.bool true) := by
  change kp ext08 10000000000000 26 law08_OverApplies [.agg (encHead h), .list 2 (prs l)] = _
  have g1 := gl.1
  have g2 := gh.extra
  have hA := fun hl hp => overApply_k (E := ext08) (k := 10000000000000) (n := 18) h l hl hp (by omega)
  have hB := fun hl hp => refApply_k (E := ext08) (k := 10000000000000) (n := 21) h l hl hp (by omega)
  unfold encHead at hA hB ⊢
  rw [law08_OverApplies_eq, alive08, callB_ok, Bool.not_true, cond_false, few8_k (n := 24) l gl (by omega), callB_ok]
  cases hf : few8L l with
  | false => rfl
  | true =>
    obtain ⟨f1, f2, f3⟩ := few8_facts hf
    have hb : ∀ p ∈ l, p.key.length ≤ 1000000 ∧ p.val.length ≤ 1000000 := fun p hp => by have := f2 p hp; omega
    rw [Bool.not_true, cond_false, few8_k (n := 24) h.extra ⟨gh.extra, gh.pairs⟩ (by omega), callB_ok]
    cases hf2 : few8L h.extra with
    | false => rfl
    | true =>
      obtain ⟨e1, _, _⟩ := few8_facts hf2
      rw [Bool.not_true, cond_false, hA (by omega) hb, refOver_k (E := ext08) (n := 20) l (by omega) hb (by omega)]
      have hex : ∀ (l : List Pair) (h : Head), (l.foldl sayH h).extra.length ≤ h.extra.length + l.length := by
        intro l
        induction l with
        | nil => intro h; simp
        | cons p l ih =>
          intro h
          have := ih (sayH h p)
          have hs : (sayH h p).extra.length ≤ h.extra.length + 1 := by
            unfold sayH
            repeat' split
            all_goals simp
          rw [List.foldl_cons, List.length_cons]
          omega
      have hsame : ∀ a b : Head, a.extra.length ≤ 1000 → kp ext08 10000000000000 25 ref08_SameHead [.agg (encHead a), .agg (encHead b)] = some (.bool (decide (a = b))) := fun a b ha => sameHead_k (E := ext08) (n := 23) a b (by omega) (by omega)
      cases ho : overOk l with
      | false =>
        have h2 := hsame ⟨0, [], [], 0, 0, 0, 0, 0, 0, [], [], 0, 0, []⟩ ⟨0, [], [], 0, 0, 0, 0, 0, 0, [], [], 0, 0, []⟩ (by simp)
        rw [decide_eq_true rfl] at h2
        rw [cond_false, callT_ok]
        refine (tup14 ⟨0, [], [], 0, 0, 0, 0, 0, 0, [], [], 0, 0, []⟩ _ _).trans ?_
        rw [tupI_ok, atNil_ok, callB_ok, Bool.not_false, cond_true, i64w (x := 15) (by omega), bif_t rfl]
        exact (congrArg (fun x => callB x fun vq30 => some (AV.bool vq30)) h2).trans rfl
      | true =>
        have h2 := hsame (applyL h l) (applyL h l) (by
          have := hex l { h with extra := [] }
          unfold applyL
          simp only [List.length_nil] at this
          omega)
        rw [decide_eq_true rfl] at h2
        rw [cond_true, callT_ok]
        refine (tup14 (applyL h l) _ _).trans ?_
        rw [tupI_ok, atNil_ok, callB_ok, Bool.not_true, cond_false, i64w (x := 0) (by omega), bif_t rfl, hB (by omega) hb]
        refine (call14 (applyL h l) _).trans ?_
        exact (congrArg (fun x => callB x fun vq48 => some (AV.bool vq48)) h2).trans rfl
end Go.Proofs.YtilbahgfjfcikaaGreatDoor.Eng.U

