/- The engine, part 16: a function's code, and what its calls come to. -/
import Derived.Scope
import Derived.Test.YtilbahgfjfcikaaDoorE15
import Derived.LoopN
set_option linter.unusedVariables false
set_option linter.unusedSimpArgs false
namespace Go.Proofs.YtilbahgfjfcikaaDoor.Eng
open Go Go.RowKit
variable {P : Program} {S0 S S' : Stab} {W w w' : World} {gv gv' : Nat → Value} {fr : Fr} {a : Act} {ob ob' : Nat → Option Ob} {β : Type}
variable {C : Cfg} {r : β} {Q : Exit → Act → World → Prop}

theorem restr_sub {l : List Nat} {σ : Nat → Option Ob} : ∀ r o, restr l σ r = some o → σ r = some o := fun r o h => restr_some h

theorem stepU_ok (h : Rel C.P S0 W S gv fr a w) (hS : Sound C) (hG : GlobOk C.glob S0 W) {o : Oper} {K : Fr → Tr → Option β} {next : Act → World → Prop} (hk : stepU C o fr K = some r)
    (hn : ∀ fr' t S' gv' a' w', K fr' t = some r → fr'.sl.length = fr.sl.length → Rel C.P S0 W S' gv' fr' a' w' → next a' w') : o.wp C.P a w next Q := by
  unfold stepU at hk
  simp only at hk
  refine opk_ok h hS hG restr_sub rfl (fun v u n hK y hy => ?_) hk (fun v u n S' gv' a' w' hK hR => ?_)
  · have hc := (some_of_bif hK).1
    have := of_decide_eq_true (List.all_eq_true.1 hc y hy)
    have := h.obl
    omega
  · have hK := (some_of_bif hK).2
    refine hn _ _ S' gv' a' w' hK ?_ hR
    cases n <;> simp [Fr.put, setD_length]

theorem fr_set_same {t : Nat} {v : AV} (hv : fr.get t = v) (hj : v ≠ .junk) : ({ fr with sl := fr.sl.set t v } : Fr) = fr := by
  have ht : t < fr.sl.length := by
    apply Classical.byContradiction
    intro hn
    have : fr.get t = .junk := by simp [Fr.get, List.getD_eq_getElem?_getD, List.getElem?_eq_none (Nat.le_of_not_lt hn)]
    exact hj (by rw [← hv, this])
  have : fr.sl[t] = v := by
    rw [← hv]
    simp [Fr.get, List.getD_eq_getElem?_getD, List.getElem?_eq_getElem ht]
  rw [← this, List.set_getElem_self]

/-- One operation of a region, guard and all. -/
theorem step_ok (h : Rel C.P S0 W S gv fr a w) (hS : Sound C) (hG : GlobOk C.glob S0 W) {arr : Array Oper} {o : Oper} {K : Fr → Tr → Option β} {next : Act → World → Prop} (hk : step C arr.toList o fr K = some r)
    (hn : ∀ fr' t S' gv' a' w', K fr' t = some r → fr'.sl.length = fr.sl.length → Rel C.P S0 W S' gv' fr' a' w' → next a' w') :
    (Region.wanted o (yielded arr a.tmps) = true ∧ o.wp C.P a w next Q) ∨ (Region.wanted o (yielded arr a.tmps) = false ∧ next (a.put o.dst undef) w) := by
  unfold step at hk
  split at hk
  · rename_i hgd
    exact .inl ⟨by simp [Region.wanted, hgd], stepU_ok h hS hG hk hn⟩
  · rename_i j want hgd
    split at hk
    · rename_i t ht
      split at hk
      · rename_i q hq
        have hlen : t < fr.sl.length := by
          apply Classical.byContradiction
          intro hnl
          have : fr.get t = .junk := by simp [Fr.get, List.getD_eq_getElem?_getD, List.getElem?_eq_none (Nat.le_of_not_lt hnl)]
          rw [this] at hq; cases hq
        have hsv := h.slot t hlen
        rw [hq] at hsv
        have htm := hsv.bool
        have hy : yielded arr a.tmps j = some q := by
          unfold yielded
          have : (arr[j]?).bind (·.dst) = some t := by simpa using ht
          rw [this]
          simp only [Option.bind_some]
          have hl : t < a.tmps.size := by rw [h.len]; exact hlen
          rw [Array.getD_eq_getD_getElem?, Array.getElem?_eq_getElem hl] at htm
          rw [Array.getElem?_eq_getElem hl]
          simp only [Option.getD_some] at htm
          rw [htm]
        have hw : Region.wanted o (yielded arr a.tmps) = (q == want) := by
          simp only [Region.wanted, hgd, hy]
          cases q <;> cases want <;> rfl
        rw [hw]
        have hset : ({ fr with sl := fr.sl.set t (.bool q) } : Fr) = fr := fr_set_same hq (by simp)
        have hskip : ∀ {K : Fr → Tr → Option β}, K (fr.put o.dst .und [] []) ([], .und, [], []) = some r → (∀ fr' t S' gv' a' w', K fr' t = some r → fr'.sl.length = fr.sl.length → Rel C.P S0 W S' gv' fr' a' w' → next a' w') → next (a.put o.dst undef) w := by
          intro K hK hn
          exact hn _ _ S gv _ w hK (by simp [Fr.put, setD_length]) (h.put0 (v := .und) rfl o.dst)
        cases q <;> cases want <;> simp only [cond_true, cond_false] at hk <;> rw [hset] at hk
        · exact .inl ⟨rfl, stepU_ok h hS hG hk hn⟩
        · exact .inr ⟨rfl, hskip hk hn⟩
        · exact .inr ⟨rfl, hskip hk hn⟩
        · exact .inl ⟨rfl, stepU_ok h hS hG hk hn⟩
      · rename_i hq
        have hlen : t < fr.sl.length := by
          apply Classical.byContradiction
          intro hnl
          have : fr.get t = .junk := by simp [Fr.get, List.getD_eq_getElem?_getD, List.getElem?_eq_none (Nat.le_of_not_lt hnl)]
          rw [this] at hq; cases hq
        have hsv := h.slot t hlen
        rw [hq] at hsv
        have htm : a.tmps.getD t undef = undef := hsv
        have hy : yielded arr a.tmps j = none := by
          unfold yielded
          have : (arr[j]?).bind (·.dst) = some t := by simpa using ht
          rw [this]
          simp only [Option.bind_some]
          have hl : t < a.tmps.size := by rw [h.len]; exact hlen
          rw [Array.getD_eq_getD_getElem?, Array.getElem?_eq_getElem hl] at htm
          rw [Array.getElem?_eq_getElem hl]
          simp only [Option.getD_some] at htm
          rw [htm]
          rfl
        have hw : Region.wanted o (yielded arr a.tmps) = false := by
          simp only [Region.wanted, hgd, hy]
          rfl
        have hset : ({ fr with sl := fr.sl.set t .und } : Fr) = fr := fr_set_same hq (by simp)
        rw [hset] at hk
        exact .inr ⟨hw, hn _ _ S gv _ w hk (by simp [Fr.put, setD_length]) (h.put0 (v := .und) rfl o.dst)⟩
      · cases hk
    · cases hk

theorem ops_ok {arr : Array Oper} (hS : Sound C) (hG : GlobOk C.glob S0 W) : ∀ {l : List Oper} {k : Nat} {fr : Fr} {tr : List Tr} {K : Fr → List Tr → Option β} {S : Stab} {gv : Nat → Value} {a : Act} {w : World}, (∀ j, l[j]? = arr[k + j]?) → Rel C.P S0 W S gv fr a w → ops C arr.toList l fr tr K = some r →
    (∀ fr' tr' S' gv' a' w', K fr' tr' = some r → fr'.sl.length = fr.sl.length → Rel C.P S0 W S' gv' fr' a' w' → Q .normal a' w') → wpOps C.P arr Q (List.range' k l.length) a w
  | [], k, fr, tr, K, S, gv, a, w, hl, h, hk, hn => hn _ _ _ _ _ _ hk rfl h
  | o :: l, k, fr, tr, K, S, gv, a, w, hl, h, hk, hn => by
    have ho : arr[k]? = some o := by have := hl 0; simpa using this.symm
    simp only [List.length_cons, List.range'_succ, wpOps, ho]
    simp only [ops] at hk
    have := step_ok (Q := Q) (next := wpOps C.P arr Q (List.range' (k + 1) l.length)) h hS hG hk (fun fr' t S' gv' a' w' hK hlen hR => ops_ok hS hG (k := k + 1) (fun j => by have := hl (j + 1); simp only [List.getElem?_cons_succ] at this; rw [this]; congr 1; omega) hR hK (fun fr2 tr2 S2 gv2 a2 w2 hK2 hl2 hR2 => hn fr2 tr2 S2 gv2 a2 w2 hK2 (by rw [hl2, hlen]) hR2))
    rcases this with ⟨hw, hwp⟩ | ⟨hw, hnx⟩
    · rw [if_pos hw]; exact .inl hwp
    · rw [if_neg (by rw [hw]; simp)]; exact hnx

theorem canon_ok (h : Rel C.P S0 W S gv fr a w) (id : Option Nat) : ∃ S' gv', Rel C.P S0 W S' gv' (canon C id fr) a w := by
  unfold canon
  split
  · exact canonD_ok h _
  · exact ⟨S, gv, h⟩

/-- The ways out of the evaluator's code, and of the run's. -/
def toExit : EX → Exit
  | .normal => .normal
  | .exit id => .exit id
  | .ret => .ret

theorem region_ok (h : Rel C.P S0 W S gv fr a w) (hS : Sound C) (hG : GlobOk C.glob S0 W) {id : Nat} {os : Array Oper} {K : Kont β} (hk : region C id os.toList false fr K = some r)
    (hn : ∀ e fr' S' gv' a' w', K e fr' = some r → Rel C.P S0 W S' gv' fr' a' w' → Q (toExit e) a' w') : (Code.region id os false).wp C.P Q a w := by
  obtain ⟨S1, gv1, h1⟩ := canon_ok h (some id)
  unfold region at hk
  simp only [cond_false] at hk
  refine wp_region ?_
  rw [List.range_eq_range', show os.size = os.toList.length from by simp]
  exact ops_ok hS hG (fun j => by simp) h1 hk (fun fr' tr' S' gv' a' w' hK _ hR => hn .normal fr' S' gv' a' w' hK hR)

theorem code_ok (hS : Sound C) (hG : GlobOk C.glob S0 W) (hdraw : ∀ {id : Nat} {os : Array Oper} {fr : Fr} {K : Kont β} {S : Stab} {gv : Nat → Value} {a : Act} {w : World} {Q : Exit → Act → World → Prop}, Rel C.P S0 W S gv fr a w → region C id os.toList true fr K = some r →
      (∀ e fr' S' gv' a' w', K e fr' = some r → Rel C.P S0 W S' gv' fr' a' w' → Q (toExit e) a' w') → (Code.region id os true).wp C.P Q a w) :
    ∀ (c : Code) {fr : Fr} {K : Kont β} {S : Stab} {gv : Nat → Value} {a : Act} {w : World} {Q : Exit → Act → World → Prop}, Rel C.P S0 W S gv fr a w → code C c fr K = some r →
      (∀ e fr' S' gv' a' w', K e fr' = some r → Rel C.P S0 W S' gv' fr' a' w' → Q (toExit e) a' w') → c.wp C.P Q a w
  | .skip, fr, K, S, gv, a, w, Q, h, hk, hn => wp_skip (hn .normal fr S gv a w hk h)
  | .region id os draw, fr, K, S, gv, a, w, Q, h, hk, hn => by
    cases draw with
    | false => exact region_ok h hS hG hk hn
    | true => exact hdraw h hk hn
  | .seq x y, fr, K, S, gv, a, w, Q, h, hk, hn => by
    refine wp_seq (code_ok hS hG hdraw x h hk fun e fr' S' gv' a' w' hK hR => ?_)
    cases e with
    | normal => exact code_ok hS hG hdraw y hR hK hn
    | exit id => exact hn (.exit id) fr' S' gv' a' w' hK hR
    | ret => exact hn .ret fr' S' gv' a' w' hK hR
  | .cond c x y, fr, K, S, gv, a, w, Q, h, hk, hn => by
    simp only [code] at hk
    split at hk
    · rename_i q hq
      have hv := val_ok h hG c
      rw [hq] at hv
      refine wp_cond hv.bool ?_
      cases q with
      | true => exact code_ok hS hG hdraw x h hk hn
      | false => exact code_ok hS hG hdraw y h hk hn
    · cases hk
  | .block id c, fr, K, S, gv, a, w, Q, h, hk, hn => by
    refine wp_block (code_ok hS hG hdraw c h hk fun e fr' S' gv' a' w' hK hR => ?_)
    cases e with
    | normal => exact hn .normal fr' S' gv' a' w' hK hR
    | exit j =>
      simp only [blkK] at hK
      simp only [toExit, Exit.inBlock]
      by_cases hj : j = id
      · rw [if_pos hj]
        rw [show (j == id) = true from by simpa using hj] at hK
        exact hn .normal fr' S' gv' a' w' hK hR
      · rw [if_neg hj]
        rw [show (j == id) = false from by simpa using hj] at hK
        exact hn (.exit j) fr' S' gv' a' w' hK hR
    | ret => exact hn .ret fr' S' gv' a' w' hK hR
  | .loop c, fr, K, S, gv, a, w, Q, h, hk, hn => by
    simp only [code] at hk
    have key : ∀ (n : Nat) {fr : Fr} {S : Stab} {gv : Nat → Value} {a : Act} {w : World}, Rel C.P S0 W S gv fr a w → loop (fun fr K => code C c fr K) (canon C (firstReg c)) n fr K = some r → Code.rounds C.P c Q n a w := by
      intro n
      induction n with
      | zero => intro fr S gv a w h hk; cases hk
      | succ n ih =>
        intro fr S gv a w h hk
        rw [rounds_succ]
        refine code_ok hS hG hdraw c h hk fun e fr' S' gv' a' w' hK hR => ?_
        cases e with
        | normal =>
          obtain ⟨S2, gv2, hR2⟩ := canon_ok hR (firstReg c)
          exact ih hR2 hK
        | exit id => exact hn (.exit id) fr' S' gv' a' w' hK hR
        | ret => exact hn .ret fr' S' gv' a' w' hK hR
    obtain ⟨S1, gv1, h1⟩ := canon_ok h (firstReg c)
    exact wp_loop_rounds C.k (key C.k h1 hk)
  | .exit id, fr, K, S, gv, a, w, Q, h, hk, hn => wp_exit (hn (.exit id) fr S gv a w hk h)
  | .label l, fr, K, S, gv, a, w, Q, h, hk, hn => wp_label (hn .normal fr S gv a w hk h)
  | .ret, fr, K, S, gv, a, w, Q, h, hk, hn => wp_ret (hn .ret fr S gv a w hk h)
  | .rangeFunc .., fr, K, S, gv, a, w, Q, h, hk, hn => by cases hk
  | .scope c, fr, K, S, gv, a, w, Q, h, hk, hn => wp_scope_straight (code_ok hS hG hdraw c h hk fun e fr' S' gv' a' w' hK hR => by
    have := hn e fr' S' gv' a' w' hK hR
    cases e <;> exact this)
  | .goto _, fr, K, S, gv, a, w, Q, h, hk, hn => by cases hk
  | .refuse _, fr, K, S, gv, a, w, Q, h, hk, hn => by cases hk
end Go.Proofs.YtilbahgfjfcikaaDoor.Eng
