/- The engine, part 17: a function's answer. -/
import Derived.Test.YtilbahgfjfcikaaDoorE16
set_option linter.unusedVariables false
set_option linter.unusedSimpArgs false
namespace Go.Proofs.YtilbahgfjfcikaaDoor.Eng
open Go Go.RowKit
variable {P : Program} {S0 S S' : Stab} {W w w' : World} {gv gv' : Nat → Value} {fr : Fr} {a : Act} {ob ob' : Nat → Option Ob} {β : Type}

theorem Rel.sv_kill (r : Nat) {x : AV} {v : Value} (hx : SV P S gv fr.obj x v) : SV P S gv ({ fr with ob := fr.ob.set r none } : Fr).obj x v := by
  refine hx.mono (Stab.le_refl S) fun s _ => ⟨?_, fun _ => rfl⟩
  show Kin _ ((fr.ob.set r none).getD s none)
  rw [getD_set]
  split
  · unfold Kin; split <;> simp_all
  · exact Kin.refl _

theorem resL_ok : ∀ {fl : List Bool} {ts : List TypeId} {vs : List AV} {fr : Fr} {S : Stab} {K : List AV → Option β} {r : β}, Rel P S0 W S gv fr a w → resL P fl ts vs fr K = some r → ∀ {us : List Value}, vs.length = us.length → (∀ (j : Nat) (c : AV) (u : Value), vs[j]? = some c → us[j]? = some u → SV P S gv fr.obj c u) →
    ∃ rs S', K rs = some r ∧ S.le S' ∧ Agree S' w ∧ (∀ x v, S' x = some v → S0 x = some v ∨ W.heap.size ≤ x.block) ∧ (∀ x v, S' x = some v → S x = some v ∨ ∃ q o, fr.obj q = some o ∧ hblk (gv q) = some x.block) ∧
      rs.length = us.length ∧ (∀ (j : Nat) (c : AV) (u : Value), rs[j]? = some c → us[j]? = some u → VRes P W.heap.size S' w c u) ∧
      (∀ (j : Nat) (c : AV) (u : Value) (g : Nat), rs[j]? = some c → us[j]? = some u → c.isFresh = true → hblk u = some g → ∃ q o, fr.obj q = some o ∧ hblk (gv q) = some g) ∧
      (∀ (i j : Nat) (c d : AV) (u v : Value) (g : Nat), rs[i]? = some c → rs[j]? = some d → c.isFresh = true → d.isFresh = true → us[i]? = some u → us[j]? = some v → hblk u = some g → hblk v = some g → i = j)
  | fl, [], [], fr, S, K, r, h, hk, us, hl, hm => ⟨[], S, hk, Stab.le_refl S, h.agree, h.fresh, fun _ _ hx => .inl hx, hl, by simp, by simp, by simp⟩
  | fl, [], _ :: _, fr, S, K, r, h, hk, us, hl, hm => by cases hk
  | fl, _ :: _, [], fr, S, K, r, h, hk, us, hl, hm => by cases hk
  | fl, t :: ts, v :: vs, fr, S, K, r, h, hk, [], hl, hm => by cases hl
  | fl, t :: ts, v :: vs, fr, S, K, r, h, hk, u :: us, hl, hm => by
    have hv0 := hm 0 v u rfl rfl
    have hms : ∀ (j : Nat) (c : AV) (x : Value), vs[j]? = some c → us[j]? = some x → SV P S gv fr.obj c x := fun j c x hc hx => hm (j + 1) c x (by simpa using hc) (by simpa using hx)
    simp only [resL] at hk
    -- a row that goes as new
    have hrow : ∀ {q : Nat} {e : TypeId} {xs ys : List AV} {K' : List AV → Option β}, fr.obj q = some (.row e xs false) → (∃ n, n ≤ xs.length ∧ ys = xs.take n ∧ u = cutV n (gv q)) →
        resL P fl.tail ts vs { fr with ob := fr.ob.set q none } (fun l => K (.fresh e ys :: l)) = some r → ∃ rs S', K rs = some r ∧ S.le S' ∧ Agree S' w ∧ (∀ x v, S' x = some v → S0 x = some v ∨ W.heap.size ≤ x.block) ∧ (∀ x v, S' x = some v → S x = some v ∨ ∃ q o, fr.obj q = some o ∧ hblk (gv q) = some x.block) ∧
      rs.length = (u :: us).length ∧ (∀ (j : Nat) (c : AV) (y : Value), rs[j]? = some c → (u :: us)[j]? = some y → VRes P W.heap.size S' w c y) ∧
      (∀ (j : Nat) (c : AV) (y : Value) (g : Nat), rs[j]? = some c → (u :: us)[j]? = some y → c.isFresh = true → hblk y = some g → ∃ q o, fr.obj q = some o ∧ hblk (gv q) = some g) ∧
      (∀ (i j : Nat) (c d : AV) (y v : Value) (g : Nat), rs[i]? = some c → rs[j]? = some d → c.isFresh = true → d.isFresh = true → (u :: us)[i]? = some y → (u :: us)[j]? = some v → hblk y = some g → hblk v = some g → i = j) := by
      intro q e xs ys K' hq hys hk
      obtain ⟨n, hn, rfl, rfl⟩ := hys
      have hR := h.kill q
      obtain ⟨rs, S', hK, hle, hag, hfr, hadd, hlen, hV, hlive, hdis⟩ := resL_ok hR hk (us := us) (by simpa using hl) (fun j c x hc hx => Rel.sv_kill q (hms j c x hc hx))
      have hsub : ∀ s o, ({ fr with ob := fr.ob.set q none } : Fr).obj s = some o → fr.obj s = some o ∧ s ≠ q := by
        intro s o hs
        have hs : (fr.ob.set q none).getD s none = some o := hs
        rw [getD_set] at hs
        split at hs
        · cases hs
        · rename_i hne
          exact ⟨hs, fun e => hne ⟨e.symm, by rw [e]; exact obj_lt hq⟩⟩
      obtain ⟨us0, hown, hsz, hE, hSb⟩ := row_els (h.objs q _ hq)
      have hbk : ∀ g, hblk (cutV n (gv q)) = some g → hblk (gv q) = some g := by
        intro g hg
        rcases ownsRow_form hown with ⟨hv, _⟩ | ⟨g', cap, hv, hb⟩ <;> rw [hv] at hg ⊢ <;> exact hg
      refine ⟨_, S', hK, hle, hag, hfr, fun x v hx => ?_, by simp [hlen], fun j c y hc hy => ?_, fun j c y g hc hy hf hg => ?_, fun i j c d y v g hc hd hfc hfd hy hv hgy hgv => ?_⟩
      · rcases hadd x v hx with hx | ⟨s, o, hs, hb⟩
        · exact .inl hx
        · exact .inr ⟨s, o, (hsub s o hs).1, hb⟩
      · cases j with
        | zero =>
          simp only [List.getElem?_cons_zero, Option.some.injEq] at hc hy
          subst hc; subst hy
          have hlen' : (xs.take n).length = n := by simp [Nat.min_eq_left hn]
          refine ⟨_, ?_, hsz, (hE.take n).mono hle, fun g hg x v hx hxb => ?_⟩
          · refine ⟨(hE.take n).1, ?_⟩
            rw [hlen']
            rcases hown.2 with ⟨hv', hn0⟩ | ⟨g, cap, cur, hv', hb, hh, hnc, hcm, hcs, htk⟩
            · rw [hv']
              have : n = 0 := by omega
              subst this
              exact .inl ⟨rfl, rfl⟩
            · rw [hv']
              refine .inr ⟨g, cap, cur, rfl, hb, hh, by omega, hcm, hcs, ?_⟩
              rw [← htk, List.take_take, Nat.min_eq_left (Nat.mul_le_mul_right _ hn)]
          · have hg := hbk g hg
            rcases hadd x v hx with hx | ⟨s, o, hs, hb⟩
            · have := (hSb g hg x v hx hxb).1
              cases this
            · obtain ⟨h1, h2⟩ := hsub s o hs
              exact h2 (h.dis s q o _ g h1 hq (by rw [← hxb]; exact hb) hg)
        | succ j => exact hV j c y (by simpa using hc) (by simpa using hy)
      · cases j with
        | zero =>
          simp only [List.getElem?_cons_zero, Option.some.injEq] at hy
          subst hy
          exact ⟨q, _, hq, hbk g hg⟩
        | succ j =>
          obtain ⟨s, o, hs, hb⟩ := hlive j c y g (by simpa using hc) (by simpa using hy) hf hg
          exact ⟨s, o, (hsub s o hs).1, hb⟩
      · cases i with
        | zero =>
          simp only [List.getElem?_cons_zero, Option.some.injEq] at hy
          subst hy
          cases j with
          | zero => rfl
          | succ j =>
            obtain ⟨s, o, hs, hb⟩ := hlive j d v g (by simpa using hd) (by simpa using hv) hfd hgv
            obtain ⟨h1, h2⟩ := hsub s o hs
            exact absurd (h.dis s q o _ g h1 hq hb (hbk g hgy)) h2
        | succ i =>
          cases j with
          | zero =>
            simp only [List.getElem?_cons_zero, Option.some.injEq] at hv
            subst hv
            obtain ⟨s, o, hs, hb⟩ := hlive i c y g (by simpa using hc) (by simpa using hy) hfc hgy
            obtain ⟨h1, h2⟩ := hsub s o hs
            exact absurd (h.dis s q o _ g h1 hq hb (hbk g hgv)) h2
          | succ j => rw [hdis i j c d y v g (by simpa using hc) (by simpa using hd) hfc hfd (by simpa using hy) (by simpa using hv) hgy hgv]
    cases hf : fl.headD false with
    | true =>
      rw [hf] at hk
      simp only [cond_true] at hk
      cases v with
      | own q =>
        simp only at hk
        split at hk
        · rename_i e xs hq
          obtain ⟨us0, hown, _⟩ := row_els (h.objs q _ hq)
          have hu := hv0.2 _ _ _ hq
          refine hrow (K' := K) hq ⟨xs.length, Nat.le_refl _, (List.take_length).symm, ?_⟩ hk
          rw [hu]
          rcases ownsRow_form hown with ⟨hv, hn⟩ | ⟨g, cap, hv, _⟩
          · rw [hv, hn]; rfl
          · rw [hv]; rfl
        · cases hk
      | ownp q n =>
        simp only at hk
        split at hk
        · rename_i e xs hq
          obtain ⟨hn, hu⟩ := hv0.2 _ _ _ hq
          exact hrow (K' := K) hq ⟨n, hn, rfl, hu⟩ hk
        · cases hk
      | nils =>
        simp only at hk
        split at hk
        · rename_i e hu
          have hz := (some_of_bif' hk).1
          replace hk := (some_of_bif' hk).2
          have hV0 : V S .nils u := hv0
          have hu0 : u = .slice none 0 0 := by cases hV0; rfl
          subst hu0
          obtain ⟨rs, S', hK, hle, hag, hfr, hadd, hlen, hV, hlive, hdis⟩ := resL_ok h hk (us := us) (by simpa using hl) hms
          refine ⟨_, S', hK, hle, hag, hfr, hadd, by simp [hlen], fun j c y hc hy => ?_, fun j c y g hc hy hf hg => ?_, fun i j c d y v g hc hd hfc hfd hy hv hgy hgv => ?_⟩
          · cases j with
            | zero =>
              simp only [List.getElem?_cons_zero, Option.some.injEq] at hc hy
              subst hc; subst hy
              have : 0 < P.cellsOf e := by
                have := beq_eq_false_iff_ne.1 hz
                omega
              exact ⟨[], World.ownsRow_nil w _ e _, this, ⟨by simp, by simp, by simp⟩, fun g hg => by simp [hblk] at hg⟩
            | succ j => exact hV j c y (by simpa using hc) (by simpa using hy)
          · cases j with
            | zero =>
              simp only [List.getElem?_cons_zero, Option.some.injEq] at hy
              subst hy
              simp [hblk] at hg
            | succ j => exact hlive j c y g (by simpa using hc) (by simpa using hy) hf hg
          · cases i with
            | zero =>
              simp only [List.getElem?_cons_zero, Option.some.injEq] at hy
              subst hy
              simp [hblk] at hgy
            | succ i =>
              cases j with
              | zero =>
                simp only [List.getElem?_cons_zero, Option.some.injEq] at hv
                subst hv
                simp [hblk] at hgv
              | succ j => rw [hdis i j c d y v g (by simpa using hc) (by simpa using hd) hfc hfd (by simpa using hy) (by simpa using hv) hgy hgv]
        · cases hk
      | _ => cases hk
    | false =>
      rw [hf] at hk
      simp only [cond_false] at hk
      obtain ⟨v', u', S1, hk, hF, hV1⟩ := frz_ok h (Sim.of fun _ _ h => h) hk hv0
      obtain ⟨rs, S', hK, hle, hag, hfr, hadd, hlen, hV, hlive, hdis⟩ := resL_ok hF.rel hk (us := us) (by simpa using hl) (fun j c x hc hx => hF.sv (hms j c x hc hx))
      have hback : ∀ q o, ({ fr with ob := applyU fr.ob u' } : Fr).obj q = some o → ∃ o0, fr.obj q = some o0 := by
        intro q o hq
        have := hF.kin q
        rw [hq] at this
        cases hq0 : fr.obj q with
        | none => rw [hq0] at this; cases o <;> exact this.elim
        | some o0 => exact ⟨o0, rfl⟩
      have hnf : v'.isFresh = false := by cases v' <;> first | rfl | cases hV1
      refine ⟨_, S', hK, Stab.le_trans hF.le hle, hag, hfr, fun x v hx => ?_, by simp [hlen], fun j c y hc hy => ?_, fun j c y g hc hy hf hg => ?_, fun i j c d y v g hc hd hfc hfd hy hv hgy hgv => ?_⟩
      · rcases hadd x v hx with hx | ⟨q, o, hq, hb⟩
        · exact hF.add x v hx
        · obtain ⟨o0, h0⟩ := hback q o hq
          exact .inr ⟨q, o0, h0, hb⟩
      · cases j with
        | zero =>
          simp only [List.getElem?_cons_zero, Option.some.injEq] at hc hy
          subst hc; subst hy
          have := hV1.mono hle
          cases v' <;> first | exact this | (simp [AV.isFresh] at hnf)
        | succ j => exact hV j c y (by simpa using hc) (by simpa using hy)
      · cases j with
        | zero =>
          simp only [List.getElem?_cons_zero, Option.some.injEq] at hc
          subst hc
          rw [hnf] at hf; cases hf
        | succ j =>
          obtain ⟨q, o, hq, hb⟩ := hlive j c y g (by simpa using hc) (by simpa using hy) hf hg
          obtain ⟨o0, h0⟩ := hback q o hq
          exact ⟨q, o0, h0, hb⟩
      · cases i with
        | zero =>
          simp only [List.getElem?_cons_zero, Option.some.injEq] at hc
          subst hc
          rw [hnf] at hfc; cases hfc
        | succ i =>
          cases j with
          | zero =>
            simp only [List.getElem?_cons_zero, Option.some.injEq] at hd
            subst hd
            rw [hnf] at hfd; cases hfd
          | succ j => rw [hdis i j c d y v g (by simpa using hc) (by simpa using hd) hfc hfd (by simpa using hy) (by simpa using hv) hgy hgv]

theorem run_asAddr (q : Addr) : (asAddr (.pointer (some q))).run P w = .ok q w := rfl
def resF (tmps : Array Value) : ResultVar → Sem Value
  | .tmp t => pure (tmps.getD t undef)
  | .cell a t => do loadVar t (← asAddr (tmps.getD a undef))
theorem results_eq (fn : Func) (tmps : Array Value) : results fn tmps = (do let vs ← fn.results.mapM (resF tmps); pure (if h : vs.size = 1 then vs[0] else .tuple vs)) := by
  unfold results
  congr 1
theorem resVal_ok (h : Rel P S0 W S gv fr a w) : ∀ {l : List ResultVar} {K : List AV → Option β} {r : β}, resVal P fr l K = some r → ∃ (vs : List AV) (us : List Value), K vs = some r ∧ vs.length = us.length ∧ us.length = l.length ∧ (∀ (j : Nat) (c : AV) (u : Value), vs[j]? = some c → us[j]? = some u → SV P S gv fr.obj c u) ∧
      (l.mapM (resF a.tmps)).run P w = .ok us w
  | [], K, r, hk => ⟨[], [], hk, rfl, rfl, by simp, by simp⟩
  | .tmp t :: l, K, r, hk => by
    simp only [resVal] at hk
    obtain ⟨vs, us, hk, h1, h2, h3, h4⟩ := resVal_ok h hk
    have hv : SV P S gv fr.obj (fr.get t) (a.tmps.getD t undef) := by
      by_cases ht : t < fr.sl.length
      · exact h.slot t ht
      · have : fr.get t = .junk := by simp [Fr.get, List.getD_eq_getElem?_getD, List.getElem?_eq_none (Nat.le_of_not_lt ht)]
        rw [this]; trivial
    refine ⟨_, a.tmps.getD t undef :: us, hk, by simp [h1], by simp [h2], fun j c u hc hu => ?_, ?_⟩
    · cases j with
      | zero => simp only [List.getElem?_cons_zero, Option.some.injEq] at hc hu; subst hc; subst hu; exact hv
      | succ j => exact h3 j c u (by simpa using hc) (by simpa using hu)
    · simp only [List.mapM_cons, Sem.run_bind, Sem.run_pure, Result.andThen_ok, resF, h4]
  | .cell p t :: l, K, r, hk => by
    simp only [resVal] at hk
    have hv : SV P S gv fr.obj (fr.get p) (a.tmps.getD p undef) := by
      by_cases ht : p < fr.sl.length
      · exact h.slot p ht
      · have : fr.get p = .junk := by simp [Fr.get, List.getD_eq_getElem?_getD, List.getElem?_eq_none (Nat.le_of_not_lt ht)]
        rw [this]; trivial
    obtain ⟨q, v, val, e1, e2, e3, hk⟩ := loadK_ok h (fun _ _ h => h) hk hv
    obtain ⟨vs, us, hk, h1, h2, h3, h4⟩ := resVal_ok h hk
    refine ⟨_, val :: us, hk, by simp [h1], by simp [h2], fun j c u hc hu => ?_, ?_⟩
    · cases j with
      | zero => simp only [List.getElem?_cons_zero, Option.some.injEq] at hc hu; subst hc; subst hu; exact e3
      | succ j => exact h3 j c u (by simpa using hc) (by simpa using hu)
    · simp only [List.mapM_cons, Sem.run_bind, Sem.run_pure, Result.andThen_ok, resF, e1, run_asAddr, e2]
      simp only [h4, Result.andThen_ok]

variable {C : Cfg}
/-- A function answers what its code evaluates to. -/
theorem ok_of_body (hS : Sound C) (hdraw : ∀ {S0 : Stab} {W : World} {id : Nat} {os : Array Oper} {fr : Fr} {K : Kont AV} {r : AV} {S : Stab} {gv : Nat → Value} {a : Act} {w : World} {Q : Exit → Act → World → Prop}, GlobOk C.glob S0 W → Rel C.P S0 W S gv fr a w → region C id os.toList true fr K = some r →
      (∀ e fr' S' gv' a' w', K e fr' = some r → Rel C.P S0 W S' gv' fr' a' w' → Q (toExit e) a' w') → (Code.region id os true).wp C.P Q a w) {f : FuncId} {fn : Func} (hf : C.P.funcs[f]? = some fn) {fl : List Bool} {args : List AV} {res : AV} (hk : body C fl fn args = some res) : Ok C.P C.glob f args res := by
  intro S w vals hag hG hVL
  unfold body at hk
  split at hk
  · rename_i c hb
    have hc := (some_of_bif hk).1
    replace hk := (some_of_bif hk).2
    simp only [Bool.and_eq_true, beq_iff_eq, decide_eq_true_eq] at hc
    have hl : vals.length = args.length := hVL.1.symm
    refine calls_of_wp hf hb ?_
    have hlen : (args ++ List.replicate (fn.ntmps - args.length) AV.junk).length = fn.ntmps := by simp; omega
    have hR : Rel C.P S w S (fun _ => undef) (entry fn args) { tmps := vals.toArray ++ Array.replicate (fn.ntmps - vals.toArray.size) undef, defers := [] } w := by
      refine { below := Below.refl _ _, agree := hag, ext := Stab.le_refl S, fresh := fun _ _ hx => .inl hx, len := ?_, obl := ?_, defers := rfl, slot := fun t ht => ?_, objs := fun r o ho => ?_, dis := fun r r' o o' g ho _ _ _ => ?_ }
      · simp [entry, hl]
      · simp [entry]; omega
      · simp only [entry, Fr.get, List.getD_eq_getElem?_getD]
        by_cases htl : t < args.length
        · rw [List.getElem?_append_left htl, List.getElem?_eq_getElem htl]
          have htv : t < vals.length := by omega
          have e : (vals.toArray ++ Array.replicate (fn.ntmps - vals.toArray.size) undef).getD t undef = vals[t] := by
            rw [Array.getD_eq_getD_getElem?, Array.getElem?_append_left (by simpa using htv)]
            simp [List.getElem?_eq_getElem htv]
          rw [e]
          exact (hVL.2 t _ _ (List.getElem?_eq_getElem htl) (List.getElem?_eq_getElem htv)).toSV
        · rw [List.getElem?_append_right (by omega)]
          have : ((List.replicate (fn.ntmps - args.length) AV.junk)[t - args.length]?).getD .junk = .junk := by
            rw [List.getElem?_replicate]; split <;> rfl
          rw [this]; trivial
      · exfalso
        have : (entry fn args).obj r = none := by
          simp only [entry, Fr.obj, List.getD_eq_getElem?_getD, List.getElem?_replicate]
          split <;> rfl
        rw [this] at ho; cases ho
      · exfalso
        have : (entry fn args).obj r = none := by
          simp only [entry, Fr.obj, List.getD_eq_getElem?_getD, List.getElem?_replicate]
          split <;> rfl
        rw [this] at ho; cases ho
    have hpost : ∀ {e : EX}, (e = .normal ∨ e = .ret) → ∀ (fr' : Fr) (S' : Stab) (gv' : Nat → Value) (a' : Act) (w' : World), retK C fl fn some e fr' = some res → Rel C.P S w S' gv' fr' a' w' →
        a'.defers = [] ∧ ∃ v, (results fn a'.tmps).run C.P w' = .ok v w' ∧ ∃ v2 S2, Ending.returned v = .returned v2 ∧ S.le S2 ∧ Agree S2 w' ∧ (∀ x u, S2 x = some u → S x = some u ∨ w.heap.size ≤ x.block) ∧ Below w.heap.size w w' ∧ VRet C.P w.heap.size S2 w' res v2 := by
      intro e he fr' S' gv' a' w' hK hR'
      have hK : (resVal C.P fr' fn.results.toList fun vs => resL C.P fl fn.resultTypes.toList vs fr' fun rs => (match rs with | [r] => some r | rs => some (.tup rs))) = some res := by
        rcases he with rfl | rfl <;> exact hK
      obtain ⟨vs, us, hK, h1, h2, h3, h4⟩ := resVal_ok hR' hK
      obtain ⟨rs, S2, hK, hle, hag2, hfr2, _, hlen2, hV, _, hdis⟩ := resL_ok hR' hK h1 h3
      have hrun : (results fn a'.tmps).run C.P w' = .ok (if h : us.toArray.size = 1 then us.toArray[0] else .tuple us.toArray) w' := by
        rw [results_eq, Array.mapM_eq_mapM_toList]
        simp only [Sem.run_bind, Sem.run_map, h4, Result.andThen_ok]
        rfl
      refine ⟨hR'.defers, _, hrun, _, S2, rfl, fun x v hx => hle _ _ (hR'.ext x v hx), hag2, hfr2, hR'.below, ?_⟩
      match rs, us, hlen2, hV, hdis, hK with
      | [r0], [u0], _, hV, _, hK =>
        simp only [Option.some.injEq] at hK
        subst hK
        have := hV 0 r0 u0 rfl rfl
        cases r0 <;> first | exact this | (cases (show V S2 _ _ from this))
      | [], [], _, hV, hdis, hK =>
        simp only [Option.some.injEq] at hK
        subst hK
        exact ⟨[], rfl, rfl, hV, hdis⟩
      | r0 :: r1 :: rs, u0 :: u1 :: us, hl, hV, hdis, hK =>
        simp only [Option.some.injEq] at hK
        subst hK
        refine ⟨u0 :: u1 :: us, ?_, hl, hV, hdis⟩
        rw [dif_neg (by simp)]
      | [r0], [], hl, _, _, _ => simp at hl
      | [], _ :: _, hl, _, _, _ => simp at hl
      | [r0], _ :: _ :: _, hl, _, _, _ => simp at hl
      | _ :: _ :: _, [], hl, _, _, _ => simp at hl
      | _ :: _ :: _, [u0], hl, _, _, _ => simp at hl
    refine code_ok hS hG (hdraw hG) c hR hk fun e fr' S' gv' a' w' hK hR' => ?_
    cases e with
    | normal => exact hpost (.inl rfl) fr' S' gv' a' w' hK hR'
    | ret => exact hpost (.inr rfl) fr' S' gv' a' w' hK hR'
    | exit id => cases hK
  · cases hk
end Go.Proofs.YtilbahgfjfcikaaDoor.Eng
