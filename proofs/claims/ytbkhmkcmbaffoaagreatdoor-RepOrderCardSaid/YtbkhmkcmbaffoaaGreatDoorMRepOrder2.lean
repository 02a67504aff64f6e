/- Several texts of this proof in one file: Q11, V11, X11. -/
import Derived.Test.YtbkhmkcmbaffoaaGreatDoorMRepOrder1
/- Records of a right head: an overlay; what Ustar can tell Pax can. In plain words. -/
set_option linter.unusedVariables false
set_option linter.unusedSectionVars false
set_option linter.unusedSimpArgs false
namespace Go.Proofs.YtbkhmkcmbaffoaaGreatDoor.Eng.U
open Go Go.RowKit Go.Proofs Go.Proofs.YtbkhmkcmbaffoaaGreatDoor.Eng Go.Lib Go.Proofs.YtbkhmkcmbaffoaaGreatDoor.S11 Go.Proofs.YtbkhmkcmbaffoaaGreatDoor.P04

/-! Texts that are right stay right with more bytes below 128. -/
theorem decN_ext {n n' b0 b1 b2 b3 c1 c2 c3 : Nat} (h : decodeN n b0 b1 b2 b3 ≠ (65533, 1)) (hn : n ≤ n') (e1 : 1 < n → c1 = b1) (e2 : 2 < n → c2 = b2) (e3 : 3 < n → c3 = b3) : decodeN n' b0 c1 c2 c3 = decodeN n b0 b1 b2 b3 := by
  unfold decodeN at *
  by_cases h0 : b0 < 128
  · rw [if_pos h0, if_pos h0]
  rw [if_neg h0] at h
  rw [if_neg h0, if_neg h0]
  by_cases hA : b0 / 32 = 6 ∧ (1 < n ∧ b1 / 64 = 2)
  · have := e1 hA.2.1
    subst this
    rw [if_pos hA, if_pos ⟨hA.1, by omega, hA.2.2⟩]
  rw [if_neg hA] at h
  rw [if_neg hA]
  by_cases hB : b0 / 16 = 14 ∧ (1 < n ∧ b1 / 64 = 2) ∧ (2 < n ∧ b2 / 64 = 2)
  · have q1 := e1 hB.2.1.1
    have q2 := e2 hB.2.2.1
    subst q1 q2
    rw [if_pos hB, if_neg (by omega), if_pos ⟨hB.1, ⟨by omega, hB.2.1.2⟩, by omega, hB.2.2.2⟩]
  rw [if_neg hB] at h
  rw [if_neg hB]
  by_cases hC : b0 / 8 = 30 ∧ (1 < n ∧ b1 / 64 = 2) ∧ (2 < n ∧ b2 / 64 = 2) ∧ (3 < n ∧ b3 / 64 = 2)
  · have q1 := e1 hC.2.1.1
    have q2 := e2 hC.2.2.1.1
    have q3 := e3 hC.2.2.2.1
    subst q1 q2 q3
    rw [if_pos hC, if_neg (by omega), if_neg (by omega), if_pos ⟨hC.1, ⟨by omega, hC.2.1.2⟩, ⟨by omega, hC.2.2.1.2⟩, by omega, hC.2.2.2.2⟩]
  · rw [if_neg hC] at h
    exact absurd rfl h
theorem decN_asc {n b0 b1 b2 b3 : Nat} (h : b0 < 128) : decodeN n b0 b1 b2 b3 = (b0, 1) := by unfold decodeN; rw [if_pos h]
theorem by_app {a l : Tx} {i : Nat} (h : i < a.length) : by_ (str (a ++ l)) i = by_ (str a) i := by
  show ((a ++ l).getD i 0).toNat = (a.getD i 0).toNat
  rw [List.getD_eq_getElem?_getD, List.getD_eq_getElem?_getD, List.getElem?_append_left h]
theorem by_right {a l : Tx} {i : Nat} (h : a.length ≤ i) : by_ (str (a ++ l)) i = by_ (str l) (i - a.length) := by
  show ((a ++ l).getD i 0).toNat = (l.getD (i - a.length) 0).toNat
  rw [List.getD_eq_getElem?_getD, List.getD_eq_getElem?_getD, List.getElem?_append_right h]
theorem first_asc (s : ByteArray) : ∀ (m pos : Nat), (∀ i, pos ≤ i → i < s.size → by_ s i < 128) → firstL s m pos = -1
  | 0, pos, h => rfl
  | m + 1, pos, h => by
    unfold firstL
    by_cases hp : pos < s.size
    · have hd : Utf8.decode s pos = (by_ s pos, 1) := by rw [decode_at, get_by, decN_asc (h pos (Nat.le_refl _) hp)]
      have hb : ¬ bad s pos := by
        unfold bad
        rw [hd]
        intro e
        have := h pos (Nat.le_refl _) hp
        injection e
        omega
      have hn : nx s pos = pos + 1 := by unfold nx; rw [hd]
      rw [if_pos hp, if_neg hb, hn]
      exact first_asc s m (pos + 1) fun i h1 h2 => h i (by omega) h2
    · rw [if_neg hp]
theorem firstL_ge (s : ByteArray) : ∀ (m pos : Nat), firstL s m pos < 0 → firstL s m pos = -1
  | 0, pos, h => rfl
  | m + 1, pos, h => by
    unfold firstL at h ⊢
    by_cases hp : pos < s.size
    · rw [if_pos hp] at h ⊢
      by_cases hb : bad s pos
      · rw [if_pos hb] at h; omega
      · rw [if_neg hb] at h ⊢
        exact firstL_ge s m _ h
    · rw [if_neg hp]
theorem first_app (a l : Tx) (hl : ∀ i, i < l.length → by_ (str l) i < 128) : ∀ (m n pos : Nat), firstL (str a) n pos = -1 → a.length ≤ pos + n → pos ≤ a.length → firstL (str (a ++ l)) m pos = -1
  | 0, n, pos, h, hn, hp => rfl
  | m + 1, n, pos, h, hn, hp => by
    by_cases ha : pos < a.length
    · obtain ⟨n', rfl⟩ : ∃ n', n = n' + 1 := ⟨n - 1, by omega⟩
      have hsz : pos < (str a).size := by rw [str_size]; exact ha
      unfold firstL at h
      rw [if_pos hsz] at h
      by_cases hb : bad (str a) pos
      · rw [if_pos hb] at h; omega
      rw [if_neg hb] at h
      have hd : Utf8.decode (str (a ++ l)) pos = Utf8.decode (str a) pos := by
        rw [decode_at, decode_at]
        simp only [get_by]
        have hb' : decodeN ((str a).size - pos) (by_ (str a) pos) (by_ (str a) (pos + 1)) (by_ (str a) (pos + 2)) (by_ (str a) (pos + 3)) ≠ (65533, 1) := fun e => hb (by unfold bad; rw [decode_at]; simp only [get_by]; exact e)
        have hsa : (str a).size = a.length := str_size a
        have hsb : (str (a ++ l)).size = a.length + l.length := by rw [str_size, List.length_append]
        rw [by_app ha]
        exact decN_ext hb' (by omega) (fun h1 => by_app (by omega)) (fun h1 => by_app (by omega)) (fun h1 => by_app (by omega))
      have hnx : nx (str (a ++ l)) pos = nx (str a) pos := by unfold nx; rw [hd]
      have hb2 : ¬ bad (str (a ++ l)) pos := by unfold bad; rw [hd]; exact hb
      have hin := decode_in (str a) pos hsz
      have hgt := nx_gt (str a) pos
      rw [str_size] at hin
      unfold firstL
      rw [if_pos (by rw [str_size, List.length_append]; omega), if_neg hb2, hnx]
      exact first_app a l hl m n' (nx (str a) pos) h (by omega) hin
    · refine first_asc _ _ _ fun i h1 h2 => ?_
      rw [str_size, List.length_append] at h2
      rw [by_right (by omega)]
      exact hl _ (by omega)
def ascB (l : Tx) : Bool := l.all fun c => decide (c.toNat < 128)
theorem asc_by {l : Tx} (h : ascB l = true) (i : Nat) (hi : i < l.length) : by_ (str l) i < 128 := by
  unfold ascB at h
  rw [List.all_eq_true] at h
  have e : by_ (str l) i = (l[i]).toNat := by
    show (l.getD i 0).toNat = _
    rw [List.getD_eq_getElem?_getD, List.getElem?_eq_getElem hi]; rfl
  rw [e]
  exact of_decide_eq_true (h _ (List.getElem_mem hi))
theorem utf_asc {l : Tx} (h : ascB l = true) : utfOk l = true := by
  unfold utfOk first
  rw [first_asc _ _ _ fun i _ hi => asc_by h i (by rwa [str_size] at hi)]
  rfl
theorem utf_app {a l : Tx} (ha : utfOk a = true) (hl : ascB l = true) : utfOk (a ++ l) = true := by
  unfold utfOk first at ha ⊢
  have h1 := firstL_ge _ _ _ (of_decide_eq_true ha)
  rw [first_app a l (fun i hi => asc_by hl i hi) _ _ 0 h1 (by rw [str_size]; omega) (by omega)]
  rfl
theorem asc_dig {l : Tx} (h : l.all isDig = true) : ascB l = true := by
  unfold ascB
  rw [List.all_eq_true] at h ⊢
  intro c hc
  have := h c hc
  unfold isDig at this
  simp only [Bool.and_eq_true, decide_eq_true_eq] at this ⊢
  omega
theorem asc_app {a b : Tx} (ha : ascB a = true) (hb : ascB b = true) : ascB (a ++ b) = true := by
  unfold ascB at *
  rw [List.all_append, ha, hb]
  rfl
theorem asc_dec (u : Nat) : ascB (Lib.decDigits u) = true := asc_dig (dec_facts u).1
theorem asc_itoa (v : Int) : ascB (Lib.itoa v) = true := by
  unfold Lib.itoa
  split
  · exact asc_app (a := [45]) (by decide) (asc_dec _)
  · exact asc_dec _
theorem asc_loop {m : Nat} (h0 : 0 < m) (h : m < 1000000000) : ascB (loopP 9 m) = true := by
  have := (loop_facts m h0 h).1
  unfold digs at this
  rw [Bool.and_eq_true] at this
  exact asc_dig this.1
theorem asc_print (s t : Int) (h0 : 0 ≤ t) (h1 : t < 1000000000) : ascB (printL s t) = true := by
  unfold printL
  split
  · exact asc_itoa s
  · have h46 : ascB [46] = true := by decide
    have h45 : ascB [45] = true := by decide
    split
    · have hl := asc_loop (m := (1000000000 - t).toNat) (by omega) (by omega)
      have hd := asc_dec (-(s + 1)).toNat
      first
      | exact asc_app (asc_app h45 hd) (asc_app h46 hl)
      | (unfold ascB at *; simp only [List.all_append, List.all_cons, List.cons_append, hl, hd] at *; simp_all)
    · have hl := asc_loop (m := t.toNat) (by omega) (by omega)
      have hd := asc_dec s.toNat
      first
      | exact asc_app hd (asc_app h46 hl)
      | (unfold ascB at *; simp only [List.all_append, List.all_cons, List.cons_append, hl, hd] at *; simp_all)
theorem num_itoa {v : Int} (h0 : 0 ≤ v) (h1 : v ≤ 9223372036854775807) : numOk (Lib.itoa v) = true := by
  obtain ⟨u, rfl⟩ := Int.eq_ofNat_of_zero_le h0
  unfold numOk
  rw [Lib.itoa_nonneg, dec_natOk u (by omega), (dec_facts u).2.1, Bool.true_and]
  exact decide_eq_true (by omega)
/-! The pairs. -/
theorem pair_text {key val : Tx} (hk : utfOk key = true) (hn : noEq key = true) (he : key ≠ []) (h0 : 0 ≤ whichL key) (h4 : whichL key < 4) (hu : utfOk val = true) (hc : clean val = true) : pairOk ⟨key, val⟩ = true := by
  unfold pairOk valR
  simp only [hk, hn, hu, Bool.true_and, decide_eq_true he]
  by_cases hv : val = []
  · rw [if_pos hv]
  · rw [if_neg hv, if_neg (by omega), if_pos h4, hc]
theorem pair_num {key val : Tx} (hk : utfOk key = true) (hn : noEq key = true) (he : key ≠ []) (h0 : 4 ≤ whichL key) (h4 : whichL key < 7) (hu : utfOk val = true) (hc : numOk val = true) : pairOk ⟨key, val⟩ = true := by
  unfold pairOk valR
  simp only [hk, hn, hu, Bool.true_and, decide_eq_true he]
  by_cases hv : val = []
  · rw [if_pos hv]
  · rw [if_neg hv, if_neg (by omega), if_neg (by omega), if_pos h4, hc]
theorem pair_time {key val : Tx} (hk : utfOk key = true) (hn : noEq key = true) (he : key ≠ []) (h0 : 7 ≤ whichL key) (hu : utfOk val = true) (hc : (timeL val).isSome = true) : pairOk ⟨key, val⟩ = true := by
  unfold pairOk valR
  simp only [hk, hn, hu, Bool.true_and, decide_eq_true he]
  by_cases hv : val = []
  · rw [if_pos hv]
  · rw [if_neg hv, if_neg (by omega), if_neg (by omega), if_neg (by omega), hc]
theorem clean_app {a b : Tx} (ha : clean a = true) (hb : clean b = true) : clean (a ++ b) = true := by
  unfold clean at *
  rw [List.all_append, ha, hb]
  rfl
theorem text_23 {s : Tx} {m : Nat} (h3 : textB 3 s m = true) (h2 : textB 2 s m = false) : utfOk s = true := by
  unfold textB at h3 h2
  by_cases hm : s.length ≤ m
  · rw [decide_eq_true hm] at h2; cases h2
  · rw [decide_eq_false hm] at h3; exact h3
theorem rec_ok {h : Head} (hr : RightH h) (ho : OkHd h) (ht : texts3 h = true) : overOk (recsL h) = true := by
  unfold overOk recsL
  rw [lay_okst, Bool.true_and, List.all_eq_true]
  intro q hq
  have hq := mem_layAll hq
  unfold texts3 at ht
  simp only [Bool.and_eq_true] at ht
  obtain ⟨⟨⟨t2, t3⟩, t9⟩, t10⟩ := ht
  have h13 := hr.a13
  unfold f13 overOk at h13
  simp only [Bool.and_eq_true, List.all_eq_true] at h13
  have hname : nameOk h.name = true := by
    have := hr.a2
    unfold f2 at this
    rw [Bool.and_eq_true] at this
    exact this.1
  have hcn : clean h.name = true := by
    unfold nameOk at hname
    simp only [Bool.and_eq_true] at hname
    exact hname.2.2
  have hcl : clean h.link = true := by
    have := hr.a3
    unfold f3 at this
    cases hl : links h with
    | true =>
      rw [hl, cond_true] at this
      unfold nameOk at this
      simp only [Bool.and_eq_true] at this
      exact this.2.2
    | false =>
      rw [hl, cond_false, decide_eq_true_eq] at this
      rw [this]; rfl
  have hcu : clean h.user = true := by
    have := hr.a9
    unfold f9 plainOk at this
    simp only [Bool.and_eq_true] at this
    exact this.2
  have hcg : clean h.group = true := by
    have := hr.a10
    unfold f10 plainOk at this
    simp only [Bool.and_eq_true] at this
    exact this.2
  have h5 : 0 ≤ h.uid := of_decide_eq_true hr.a5
  have h6 : 0 ≤ h.gid := of_decide_eq_true hr.a6
  have h7 : 0 ≤ h.size := by
    have := hr.a7
    unfold f7 at this
    simp only [Bool.or_eq_true, Bool.and_eq_true, decide_eq_true_eq] at this
    omega
  have h8 : rightT h.nano = true := hr.a8
  have h8' := h8
  unfold rightT at h8'
  simp only [Bool.and_eq_true, decide_eq_true_eq] at h8'
  unfold rawH rawL at hq
  simp only [addP_opt, List.mem_append] at hq
  rcases hq with (((((((hq | hq) | hq) | hq) | hq) | hq) | hq) | hq) | hq
  · exact h13.1.2 q hq
  · rw [opt_mem hq]
    cases hc : canB 2 h 2 with
    | true => rw [hc] at hq; exact absurd hq (by simp [optP])
    | false =>
      have e3 : (fullO 3 h).isSome = true := t2
      have e2 : (fullO 2 h).isSome = false := hc
      rw [full_23, e2, Bool.false_or] at e3
      refine pair_text (utf_asc (by decide)) (by decide) (by decide) (by decide) (by decide) ?_ ?_
      · unfold fulls
        split
        · split
          · exact utf_app e3 (by decide)
          · exact e3
        · exact e3
      · unfold fulls
        split
        · split
          · exact clean_app hcn (by decide)
          · exact hcn
        · exact hcn
  · rw [opt_mem hq]
    cases hc : canB 2 h 3 with
    | true => rw [hc] at hq; exact absurd hq (by simp [optP])
    | false => exact pair_text (utf_asc (by decide)) (by decide) (by decide) (by decide) (by decide) (text_23 (m := 100) t3 hc) hcl
  · rw [opt_mem hq]
    exact pair_num (utf_asc (by decide)) (by decide) (by decide) (by decide) (by decide) (utf_asc (asc_itoa _)) (num_itoa h5 ho.uid.2)
  · rw [opt_mem hq]
    exact pair_num (utf_asc (by decide)) (by decide) (by decide) (by decide) (by decide) (utf_asc (asc_itoa _)) (num_itoa h6 ho.gid.2)
  · rw [opt_mem hq]
    exact pair_num (utf_asc (by decide)) (by decide) (by decide) (by decide) (by decide) (utf_asc (asc_itoa _)) (num_itoa h7 ho.size.2)
  · rw [opt_mem hq, h8]
    exact pair_time (utf_asc (by decide)) (by decide) (by decide) (by decide) (utf_asc (asc_print _ _ h8'.1 h8'.2)) (by rw [cond_true, time_print _ _ ho.sec h8']; rfl)
  · rw [opt_mem hq]
    cases hc : canB 2 h 9 with
    | true => rw [hc] at hq; exact absurd hq (by simp [optP])
    | false => exact pair_text (utf_asc (by decide)) (by decide) (by decide) (by decide) (by decide) (text_23 (m := 32) t9 hc) hcu
  · rw [opt_mem hq]
    cases hc : canB 2 h 10 with
    | true => rw [hc] at hq; exact absurd hq (by simp [optP])
    | false => exact pair_text (utf_asc (by decide)) (by decide) (by decide) (by decide) (by decide) (text_23 (m := 32) t10 hc) hcg
theorem recA_ok {h : Head} (hr : RightH h) (ho : OkHd h) (hc : (recA h).2 = 0) : overOk (recA h).1 = true := by
  unfold recA at hc ⊢
  rw [if_pos (right_wrong hr)] at hc ⊢
  by_cases ht : texts3 h = true
  · rw [if_pos ht]; exact rec_ok hr ho ht
  · rw [if_neg ht] at hc; cases hc
/-! What Ustar can tell. -/
theorem text_mono {s : Tx} {m : Nat} (h : textB 2 s m = true) : textB 3 s m = true := by
  have h' : (bif decide (s.length ≤ m) then true else false) = true := h
  unfold textB
  cases hd : decide (s.length ≤ m) with
  | true => rfl
  | false => rw [hd] at h'; cases h'
theorem can_23 {h : Head} {f : Int} (hf : 1 ≤ f ∧ f ≤ 13) (h2 : canB 2 h f = true) : canB 3 h f = true := by
  rcases f13_cases hf with rfl | rfl | rfl | rfl | rfl | rfl | rfl | rfl | rfl | rfl | rfl | rfl | rfl
  · rfl
  · have e : (fullO 2 h).isSome = true := h2
    show (fullO 3 h).isSome = true
    rw [full_23, e]; rfl
  · exact text_mono (m := 100) h2
  · exact h2
  · rfl
  · rfl
  · show greatB 3 h.size = true
    unfold greatB
    cases decide (h.size ≤ 68719476735) <;> rfl
  · rfl
  · exact text_mono (m := 32) h2
  · exact text_mono (m := 32) h2
  · exact h2
  · exact h2
  · rfl
theorem all_raw {h : Head} (ha : ∀ f, 1 ≤ f ∧ f ≤ 13 → canB 2 h f = true) : rawH h = [] := by
  have hx : h.extra = [] := by
    have e := ha 13 (by omega)
    have e : decide (h.extra.length = 0) = true := e
    exact List.length_eq_zero_iff.1 (of_decide_eq_true e)
  unfold rawH rawL
  rw [ha 2 (by omega), ha 3 (by omega), ha 5 (by omega), ha 6 (by omega), ha 7 (by omega), ha 8 (by omega), ha 9 (by omega), ha 10 (by omega), hx]
  rfl
theorem all_rec {h : Head} (hr : RightH h) (ha : ∀ f, 1 ≤ f ∧ f ≤ 13 → canB 2 h f = true) : recA h = ([], 0) := by
  have ht : texts3 h = true := by
    unfold texts3
    rw [can_23 (by omega) (ha 2 (by omega)), can_23 (by omega) (ha 3 (by omega)), can_23 (by omega) (ha 9 (by omega)), can_23 (by omega) (ha 10 (by omega))]
    rfl
  unfold recA recsL
  rw [if_pos (right_wrong hr), if_pos ht, all_raw ha]
  rfl
theorem first_13 {d : Int} {h : Head} (hz : firstF (canX d h) = 0) : ∀ f, 1 ≤ f ∧ f ≤ 13 → canB d h f = true := fun f hf => by
  rw [← canX_13 hf]
  exact firstF_zero.1 hz f (by omega)
theorem first_of {d : Int} {h : Head} (ha : ∀ f, 1 ≤ f ∧ f ≤ 13 → canB d h f = true) (h14 : canX d h 14 = true) : firstF (canX d h) = 0 := firstF_zero.2 fun f hf => by
  by_cases he : f = 14
  · rw [he]; exact h14
  · rw [canX_13 (by omega)]; exact ha f (by omega)
theorem ustar_pax {h : Head} (hr : RightH h) (hz : firstF (canX 2 h) = 0) : firstF (canX 3 h) = 0 := by
  have ha := first_13 hz
  refine first_of (fun f hf => can_23 hf (ha f hf)) ?_
  rw [canX_14]
  unfold fitsB
  rw [all_rec hr ha]
  rfl
theorem may_1 {h : Head} {s : Tx} (h6 : h.kind ≠ 6) (hm : mayB 1 h.kind s = true) : s.length ≤ 100 := by
  have e : (decide (s.length ≤ 100) && (!decide (h.kind = 6) || sl s)) = true := hm
  rw [Bool.and_eq_true] at e
  exact of_decide_eq_true e.1
theorem v7_all {h : Head} (hr : RightH h) (h6 : h.kind ≠ 6) (ha : ∀ f, 1 ≤ f ∧ f ≤ 13 → canB 1 h f = true) (d : Int) (hd : d = 2 ∨ d = 4) : ∀ f, 1 ≤ f ∧ f ≤ 13 → canB d h f = true := by
  have hsm : ∀ v : Int, smallB 1 v = true → smallB d v = true := fun v hv => by
    have hv : (bif decide (v ≤ 16777215) then true else false) = true := hv
    unfold smallB
    cases hx : decide (v ≤ 16777215) with
    | true => rfl
    | false => rw [hx] at hv; cases hv
  have hpe : ∀ s : Tx, peopleB 1 s = true → peopleB d s = true := fun s hv => by
    have hv : decide (s = []) = true := hv
    rw [decide_eq_true_eq] at hv
    subst hv
    rcases hd with rfl | rfl <;> rfl
  have hn : h.name ≠ [] := by
    have := hr.a2
    unfold f2 nameOk at this
    simp only [Bool.and_eq_true, decide_eq_true_eq] at this
    exact this.1.1
  have hfu : fulls h.kind h.name = [h.name] := by unfold fulls; rw [if_neg h6]
  intro f hf
  have hc := ha f hf
  rcases f13_cases hf with rfl | rfl | rfl | rfl | rfl | rfl | rfl | rfl | rfl | rfl | rfl | rfl | rfl
  · rcases hd with rfl | rfl <;> rfl
  · have e1 : (fullO 1 h).isSome = true := hc
    have h1 : mayB 1 h.kind h.name = true := by
      unfold fullO at e1
      rw [hfu] at e1
      cases hm : mayB 1 h.kind h.name with
      | true => rfl
      | false =>
        rw [List.find?_cons_of_neg (by rw [hm]; simp)] at e1
        cases e1
    have hlen := may_1 h6 h1
    have h2 : mayB d h.kind h.name = true := by
      rcases hd with rfl | rfl
      · show splitB h.name = true
        unfold splitB
        rw [decide_eq_true hn, decide_eq_true hlen]
        rfl
      · show decide (h.name.length ≤ 65536) = true
        exact decide_eq_true (by omega)
    show (fullO d h).isSome = true
    unfold fullO
    rw [hfu, List.find?_cons_of_pos h2]
    rfl
  · have e : (bif decide (h.link.length ≤ 100) then true else false) = true := hc
    cases hx : decide (h.link.length ≤ 100) with
    | false => rw [hx] at e; cases e
    | true =>
      rcases hd with rfl | rfl
      · show textB 2 h.link 100 = true
        unfold textB
        rw [hx]; rfl
      · rfl
  · exact hsm _ hc
  · rcases hd with rfl | rfl <;> exact hsm _ hc
  · rcases hd with rfl | rfl <;> exact hsm _ hc
  · have e : (bif decide (h.size ≤ 68719476735) then true else false) = true := hc
    show greatB d h.size = true
    unfold greatB
    cases hx : decide (h.size ≤ 68719476735) with
    | true => rfl
    | false => rw [hx] at e; cases e
  · have e : (bif decide (h.nano = 0) then (bif decide (h.sec ≥ 0) then decide (h.sec ≤ 68719476735) else false) else false) = true := hc
    rcases hd with rfl | rfl
    · exact e
    · show decide (h.nano = 0) = true
      cases hx : decide (h.nano = 0) with
      | true => rfl
      | false => rw [hx] at e; cases e
  · exact hpe _ hc
  · exact hpe _ hc
  · exact hsm _ hc
  · exact hsm _ hc
  · rcases hd with rfl | rfl <;> exact hc
theorem v7_ug {h : Head} (hr : RightH h) (h6 : h.kind ≠ 6) (hz : firstF (canX 1 h) = 0) : firstF (canX 2 h) = 0 ∧ firstF (canX 4 h) = 0 := by
  have ha := first_13 hz
  exact ⟨first_of (v7_all hr h6 ha 2 (.inl rfl)) (by rw [canX_14]; rfl), first_of (v7_all hr h6 ha 4 (.inr rfl)) (by rw [canX_14]; rfl)⟩
end Go.Proofs.YtbkhmkcmbaffoaaGreatDoor.Eng.U


/- RepFields, RepRecords, RepOrder are true. -/
set_option linter.unusedVariables false
set_option linter.unusedSectionVars false
set_option linter.unusedSimpArgs false
namespace Go.Proofs.YtbkhmkcmbaffoaaGreatDoor.Eng.U
open Go Go.RowKit Go.Proofs Go.Proofs.YtbkhmkcmbaffoaaGreatDoor.Eng Go.Proofs.YtbkhmkcmbaffoaaGreatDoor.S11
variable {E : Ext} [Core E] [HasNum E] [HasTextV E] {k n : Nat}

theorem many11_loop (kap : FuncId → List AV → Option AV) (h : Head) : ∀ (suf pre : List Pair) (k0 : Nat) (s : Int), suf.length < k0 → h.extra = pre ++ suf → h.extra.length < 1000000000000000 →
    law11_many_L0 kap k k0 s ((pre.length : Nat) : Int) h.kind (str h.name) (str h.link) h.mode h.uid h.gid h.size h.sec h.nano (str h.user) (str h.group) h.major h.minor (prs h.extra) = some (.bool (decide (manyW s suf > 300000) || decide (40 < h.extra.length)))
  | [], pre, k0 + 1, s, hk, he, hb => by
    have hll : h.extra.length = pre.length := by rw [he]; simp
    rw [law11_many_L0_s, prs_len, bif_f (by omega)]
    unfold manyW
    by_cases h1 : s > 300000
    · rw [bif_t h1, decide_eq_true h1]; rfl
    · rw [bif_f h1, decide_eq_false h1, Bool.false_or]
      congr 2
      rw [decide_eq_decide]
      omega
  | p :: suf, pre, k0 + 1, s, hk, he, hb => by
    have hll : h.extra.length = pre.length + suf.length + 1 := by rw [he]; exact mid_len pre suf p
    have hg : ∀ F : AV → Option AV, ((prs h.extra)[pre.length]?).bind F = F (elPair p) := fun F => by rw [he]; exact prs_mid _ _ _ _
    have ih := many11_loop kap h suf (pre ++ [p]) k0 (IntKind.wrap .i64 (IntKind.wrap .i64 (s + ((p.key.length : Nat) : Int)) + ((p.val.length : Nat) : Int))) (by simpa using hk) (by rw [he]; simp) hb
    rw [List.length_append, List.length_singleton] at ih
    rw [law11_many_L0_s, prs_len, bif_t (by omega), inb (by omega), cond_true, Int.toNat_natCast, hg, cells_pair, p_0, cond_true, hg, cells_pair, p_1, str_size, str_size, wrap1 (by omega)]
    exact ih
def many11B (h : Head) : Bool := decide (manyW (((h.name.length + h.link.length + h.user.length + h.group.length : Nat)) : Int) h.extra > 300000) || decide (40 < h.extra.length)
theorem many11_k (h : Head) (g : G_apiHead h) (hk : 10000000000000 ≤ k) : kp E k (n + 1) law11_many [.agg (encHead h)] = some (.bool (many11B h)) := by
  have g1 := g.name
  have g2 := g.link
  have g3 := g.user
  have g4 := g.group
  have g5 := g.extra
  unfold encHead
  rw [law11_many_eq]
  have := many11_loop (k := k) (kp E k n) h h.extra [] k (((h.name.length + h.link.length + h.user.length + h.group.length : Nat)) : Int) (by omega) rfl (by omega)
  rw [str_size, str_size, str_size, str_size, wrapP (by omega) (by omega), wrapP (by omega) (by omega), wrapP (by omega) (by omega)]
  exact this
theorem ok_of (h : Head) (g : G_apiHead h) (hm : many11B h = false) : OkHd h := by
  have g1 := g.name
  have g2 := g.link
  have g3 := g.user
  have g4 := g.group
  have g5 := g.extra
  unfold many11B at hm
  rw [Bool.or_eq_false_iff, decide_eq_false_iff_not, decide_eq_false_iff_not] at hm
  obtain ⟨h1, h2⟩ := manyW_few _ rfl h.extra (((h.name.length + h.link.length + h.user.length + h.group.length : Nat)) : Int) (fun p hp => ⟨(g.pairs p hp).key, (g.pairs p hp).val⟩) (by omega) (by omega)
  refine ⟨⟨by omega, by omega, by omega, by omega, by omega, fun p hp => ?_⟩, by omega, g.uid, g.gid, g.size, g.sec⟩
  have := h2 p hp
  omega
def hA : Head := ⟨7, [97], [], 0, 0, 0, 0, 0, 0, [], [], 0, 0, []⟩
theorem okA : OkHd hA := okHd_iff.1 (by decide)
theorem wrongA : wrongH hA = 0 := right_wrong ⟨rfl, by rfl, rfl, rfl, rfl, rfl, rfl, rfl, rfl, rfl, rfl, rfl, by rfl⟩
theorem alive11 [HasRec E] (hk : 1000000 < k) : kp E k (n + 10) law11_alive [] = some (.bool true) := by
  have e1 := repFirst_k (E := E) (k := k) (n := n) 1 hA okA hk
  have e4 := repFirst_k (E := E) (k := k) (n := n) 4 hA okA hk
  have hn : (decide (wrongH hA = 0)) = true := decide_eq_true wrongA
  have f1 : firstF (canX 1 hA) = 1 := rfl
  have f4 : firstF (canX 4 hA) = 0 := rfl
  rw [hn, f1] at e1
  rw [hn, f4] at e4
  rw [law11_alive_eq]
  have q1 : kp E k (n + 9) rep_First [(.int .i64 (1 : Int)), (.agg [(.int .i64 (7 : Int)), (.str (str [97])), (.str (str [])), (.int .i64 (0 : Int)), (.int .i64 (0 : Int)), (.int .i64 (0 : Int)), (.int .i64 (0 : Int)), (.int .i64 (0 : Int)), (.int .i64 (0 : Int)), (.str (str [])), (.str (str [])), (.int .i64 (0 : Int)), (.int .i64 (0 : Int)), (.list 2 [])])] = some (.tup [.int .i64 1, .int .u8 0]) := e1
  have q4 : kp E k (n + 9) rep_First [(.int .i64 (4 : Int)), (.agg [(.int .i64 (7 : Int)), (.str (str [97])), (.str (str [])), (.int .i64 (0 : Int)), (.int .i64 (0 : Int)), (.int .i64 (0 : Int)), (.int .i64 (0 : Int)), (.int .i64 (0 : Int)), (.int .i64 (0 : Int)), (.str (str [])), (.str (str [])), (.int .i64 (0 : Int)), (.int .i64 (0 : Int)), (.list 2 [])])] = some (.tup [.int .i64 0, .int .u8 0]) := e4
  rw [q1, q4]
  rfl
theorem repOrder_true [HasRec E] (h : Head) (g : G_apiHead h) (hk : 10000000000000 ≤ k) : kp E k (n + 11) law11_RepOrder [.agg (encHead h)] = some (.bool true) := by
  have ha := alive11 (E := E) (k := k) (n := n) (by omega)
  have hm := many11_k (E := E) (k := k) (n := n + 9) h g hk
  unfold encHead at hm ⊢
  rw [law11_RepOrder_eq, ha, callB_ok, Bool.not_true, cond_false, hm, callB_ok]
  cases hmb : many11B h with
  | true => rfl
  | false =>
  have ho := ok_of h g hmb
  have hw := wrong_kv (E := E) (k := k) (n := n + 2) h ho.bd (by omega)
  unfold encHead at hw
  rw [cond_false, hw, callI_ok]
  by_cases h0 : wrongH h = 0
  · have hr := rightH_of h0
    have e := fun d => repFirst_k (E := E) (k := k) (n := n + 1) d h ho (by omega)
    have er := HasRec.recs (E := E) k (n + 10) h ho
    have hov := overRight_k (E := E) (k := k) (n := n + 4) (recA h).1 (by have := (recA_bd ho).2; omega) (recA_bd ho).1 (by omega)
    have e1 := e 1
    have e2 := e 2
    have e3 := e 3
    have e4 := e 4
    rw [decide_eq_true h0] at e1 e2 e3 e4
    rw [show (bif !diaB 1 then [AV.int .i64 0, .int .u8 2] else bif !true then [.int .i64 0, .int .u8 15] else [.int .i64 (firstF (canX 1 h)), .int .u8 0]) = [.int .i64 (firstF (canX 1 h)), .int .u8 0] from rfl] at e1
    rw [show (bif !diaB 2 then [AV.int .i64 0, .int .u8 2] else bif !true then [.int .i64 0, .int .u8 15] else [.int .i64 (firstF (canX 2 h)), .int .u8 0]) = [.int .i64 (firstF (canX 2 h)), .int .u8 0] from rfl] at e2
    rw [show (bif !diaB 3 then [AV.int .i64 0, .int .u8 2] else bif !true then [.int .i64 0, .int .u8 15] else [.int .i64 (firstF (canX 3 h)), .int .u8 0]) = [.int .i64 (firstF (canX 3 h)), .int .u8 0] from rfl] at e3
    rw [show (bif !diaB 4 then [AV.int .i64 0, .int .u8 2] else bif !true then [.int .i64 0, .int .u8 15] else [.int .i64 (firstF (canX 4 h)), .int .u8 0]) = [.int .i64 (firstF (canX 4 h)), .int .u8 0] from rfl] at e4
    have s1 : firstF (canX 2 h) = 0 → firstF (canX 3 h) = 0 := ustar_pax hr
    have s2 : h.kind ≠ 6 → firstF (canX 1 h) = 0 → firstF (canX 2 h) = 0 ∧ firstF (canX 4 h) = 0 := fun h6 => v7_ug hr h6
    have s3 : firstF (canX 2 h) = 0 → recA h = ([], 0) := fun hz => all_rec hr (first_13 hz)
    have s4 : (recA h).2 = 0 → overOk (recA h).1 = true := recA_ok hr ho
    have s5 : (recA h).2 = 0 ∨ (recA h).2 = 13 := by
      unfold recA
      rw [if_pos h0]
      split
      · exact .inl rfl
      · exact .inr rfl
    unfold encHead at e1 e2 e3 e4 er
    rw [decide_eq_true h0, Bool.not_true, cond_false, e1, callT_ok, tupI_ok, tupI_ok, atNil_ok, e2, callT_ok, tupI_ok, tupI_ok, atNil_ok, e3, callT_ok, tupI_ok, tupI_ok, atNil_ok, e4, callT_ok, tupI_ok, tupI_ok, atNil_ok]
    simp only [er, callT_ok, tupL_ok, tupI_ok, atNil_ok, hov, callB_ok, prs_len]
    generalize firstF (canX 1 h) = v at *
    generalize firstF (canX 2 h) = u at *
    generalize firstF (canX 3 h) = p at *
    generalize firstF (canX 4 h) = q at *
    have hend : (bif decide (u = (0 : Int)) then (bif (!(decide ((IntKind.wrap .i64 (recA h).2) = (0 : Int)))) then (some (AV.bool false)) else (bif (!(decide ((((List.length (recA h).1) : Nat) : Int) = (0 : Int)))) then (some (.bool false)) else (bif (!(decide ((IntKind.wrap .i64 (recA h).2) = (0 : Int)))) then (some (.bool true)) else (some (.bool (overOk (recA h).1)))))) else (bif (!(decide ((IntKind.wrap .i64 (recA h).2) = (0 : Int)))) then (some (.bool true)) else (some (.bool (overOk (recA h).1))))) = some (.bool true) := by
      have hv : (bif (!(decide ((IntKind.wrap .i64 (recA h).2) = (0 : Int)))) then (some (AV.bool true)) else (some (.bool (overOk (recA h).1)))) = some (.bool true) := by
        rcases s5 with hc | hc
        · rw [s4 hc, hc]; rfl
        · rw [hc]; rfl
      by_cases hu : u = 0
      · rw [decide_eq_true hu, s3 hu]
        rfl
      · rw [decide_eq_false hu, cond_false]
        exact hv
    rw [hend]
    rw [show (decide (IntKind.wrap .i64 (IntKind.wrap .i64 (IntKind.wrap .i64 (IntKind.wrap .i64 (0 : Int) + IntKind.wrap .i64 0) + IntKind.wrap .i64 0) + IntKind.wrap .i64 0) = (0 : Int))) = true from rfl, Bool.not_true, cond_false]
    by_cases hu : u = 0
    · rw [decide_eq_true hu, decide_eq_true (s1 hu)]
      by_cases hv : v = 0
      · rw [decide_eq_true hv]
        by_cases h6 : h.kind = 6
        · rw [decide_eq_true h6]; rfl
        · rw [decide_eq_false h6, decide_eq_true (s2 h6 hv).2]; rfl
      · rw [decide_eq_false hv]; rfl
    · rw [decide_eq_false hu]
      by_cases hv : v = 0
      · by_cases h6 : h.kind = 6
        · rw [decide_eq_true hv, decide_eq_true h6]; rfl
        · exact absurd (s2 h6 hv).1 hu
      · rw [decide_eq_false hv]; rfl
  · rw [decide_eq_false h0]; rfl
end Go.Proofs.YtbkhmkcmbaffoaaGreatDoor.Eng.U


/- The library's functions and rep.Records given together; the Rep laws over them. -/
set_option linter.unusedVariables false
set_option linter.unusedSectionVars false
set_option linter.unusedSimpArgs false
namespace Go.Proofs.YtbkhmkcmbaffoaaGreatDoor.Eng.U
open Go Go.RowKit Go.Proofs Go.Proofs.YtbkhmkcmbaffoaaGreatDoor.Eng

noncomputable def ps11 : List Piece := [pFmt, pItoa, pCutP, pTrimR, pIndex, pIndexByte, pRepeat, pPInt, pPUint, pDec, pAny, pRec]
noncomputable def ext11 : Ext := extOf ps11
instance core11 : Core ext11 := core_of (by kernel_rfl)
instance num11 : HasNum ext11 := num_of rfl rfl rfl rfl rfl rfl rfl rfl rfl
instance text11 : HasText ext11 where
  dec k n s := ⟨_, _, (kp_piece (ps := ps11) (p := pDec) (k := k) (n := n) (args := [.str (str s)]) rfl).trans rfl⟩
  idx k n s hs := by
    have h := kp_piece (ps := ps11) (p := pAny) (k := k) (n := n) (args := [.str (str s), .str (str [61, 0])]) rfl
    have e : pAny.ans [.str (str s), .str (str [61, 0])] = (bif decide (str [61, 0] = str [61, 0]) && decide ((str s).size ≤ 1000000) then (bif decide (8 < (str s).size) then some (.int .i64 (Lib.indexAny (str s).data.toList [61, 0])) else (bs ext09a 100).kap 3 strings_IndexAny [.str (str s), .str (str [61, 0])]) else none) := rfl
    rw [e, str_size, decide_eq_true rfl, decide_eq_true hs, Bool.true_and, cond_true] at h
    by_cases h8 : 8 < s.length
    · rw [decide_eq_true h8, cond_true] at h
      exact ⟨_, h⟩
    · rw [decide_eq_false h8, cond_false] at h
      obtain ⟨r, hr⟩ := any_short (E := ext09a) (k := 100) (n := 0) (by kernel_rfl) (by kernel_rfl) (by omega) s (by omega)
      exact ⟨r, h.trans hr⟩
instance textV11 : HasTextV ext11 where
  dec k n s := (kp_piece (ps := ps11) (p := pDec) (k := k) (n := n) (args := [.str s]) rfl).trans rfl
  idx k n s hs := by
    have h := kp_piece (ps := ps11) (p := pAny) (k := k) (n := n) (args := [.str (str s), .str (str [61, 0])]) rfl
    have e : pAny.ans [.str (str s), .str (str [61, 0])] = (bif decide (str [61, 0] = str [61, 0]) && decide ((str s).size ≤ 1000000) then (bif decide (8 < (str s).size) then some (.int .i64 (Lib.indexAny (str s).data.toList [61, 0])) else (bs ext09a 100).kap 3 strings_IndexAny [.str (str s), .str (str [61, 0])]) else none) := rfl
    rw [e, str_size, decide_eq_true rfl, decide_eq_true hs, Bool.true_and, cond_true] at h
    by_cases h8 : 8 < s.length
    · rw [decide_eq_true h8, cond_true] at h
      exact ⟨_, h, any_long_v s⟩
    · rw [decide_eq_false h8, cond_false] at h
      obtain ⟨r, hr, hv⟩ := any_short_v (E := ext09a) (k := 100) (n := 0) (by kernel_rfl) (by kernel_rfl) (by omega) s (by omega)
      exact ⟨r, h.trans hr, hv⟩
instance rec11 : HasRec ext11 := ⟨fun k n h ho => by
  have e := kp_piece (ps := ps11) (p := pRec) (k := k) (n := n) (args := [.agg (encHead h)]) rfl
  refine e.trans ?_
  show ((toHead (encHead h)).bind fun h => bif okHd h then some (AV.tup [.list 2 (prs (recA h).1), .int .u8 (recA h).2]) else none) = _
  rw [toHead_enc, Option.bind_some, okHd_iff.2 ho, cond_true]⟩
theorem good11 (k : Nat) : (bs ext11 k).Good := good_of (fun p hp => by
  simp only [ps11, List.mem_cons, List.not_mem_nil, or_false] at hp
  rcases hp with rfl | rfl | rfl | rfl | rfl | rfl | rfl | rfl | rfl | rfl | rfl | rfl
  · exact fmt_right
  · exact itoa_right
  · exact cutP_right
  · exact trimR_right
  · exact index_right
  · exact indexByte_right
  · exact repeat_right
  · exact pInt_right
  · exact pUint_right
  · exact dec_right
  · exact any_right
  · exact rec_right) names_ok k
theorem order11 (h : Head) (g : G_apiHead h) : (bs ext11 10000000000000).kap 11 law11_RepOrder [.agg (encHead h)] = some (.bool true) :=
  repOrder_true (E := ext11) (n := 0) (k := 10000000000000) h g (by omega)
end Go.Proofs.YtbkhmkcmbaffoaaGreatDoor.Eng.U

