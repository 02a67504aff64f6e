/- Several texts of this proof in one file: E17, E18, E19, E20, E21, E22, E23, E25. -/
import Derived.Test.YtbkhmkcmbaffoaaGreatDoorMEAdaptTells1
import Derived.Orders
import Derived.IntWalk
import Derived.SizedLaws
import Derived.ChangeSlices
import Derived.Deep.Slices
import Derived.ChangeSame
/- The engine, part 17: a function's answer. -/
set_option linter.unusedVariables false
set_option linter.unusedSimpArgs false
namespace Go.Proofs.YtbkhmkcmbaffoaaGreatDoor.Eng
open Go Go.RowKit
variable {P : Program} {S0 S S' : Stab} {W : Ent} {w w' : World} {gv gv' : Nat → Value} {fr : Fr} {a : Act} {ob ob' : Nat → Option Ob} {β : Type}

theorem Rel.sv_kill (r : Nat) {x : AV} {v : Value} (hx : SV P S gv fr.obj x v) : SV P S gv ({ fr with ob := fr.ob.set r none } : Fr).obj x v := by
  refine hx.mono (Stab.le_refl S) fun s _ => ⟨?_, fun _ => rfl⟩
  show Kin _ ((fr.ob.set r none).getD s none)
  rw [getD_set]
  split
  · unfold Kin; split <;> simp_all
  · exact Kin.refl _

theorem MapR.mono {b : Nat} {kvs : List (ByteArray × AV)} (h : MapR S w b kvs) (hS : S.le S') : MapR S' w b kvs := by
  obtain ⟨es, clock, h3, h4, h5, h6⟩ := h
  exact ⟨es, clock, h3, h4, h5, fun i p e hp he => ⟨(h6 i p e hp he).1, (h6 i p e hp he).2.mono hS⟩⟩
theorem resL_ok : ∀ {fl : List Bool} {ts : List TypeId} {vs : List AV} {fr : Fr} {S : Stab} {K : List AV → Fr → Option β} {r : β}, Rel P S0 W S gv fr a w → resL P fl ts vs fr K = some r → ∀ {us : List Value}, vs.length = us.length → (∀ (j : Nat) (c : AV) (u : Value), vs[j]? = some c → us[j]? = some u → SV P S gv fr.obj c u) →
    ∃ rs S' fr', K rs fr' = some r ∧ S.le S' ∧ Rel P S0 W S' gv fr' a w ∧ (∀ q o, fr'.obj q = some o → ∃ o0, fr.obj q = some o0) ∧ (∀ x v, S' x = some v → S x = some v ∨ ∃ q o, fr.obj q = some o ∧ hblk (gv q) = some x.block) ∧
      rs.length = us.length ∧ (∀ (j : Nat) (c : AV) (u : Value), rs[j]? = some c → us[j]? = some u → VRes P W.w.heap.size W.x S' w c u) ∧
      (∀ (j : Nat) (c : AV) (u : Value) (g : Nat), rs[j]? = some c → us[j]? = some u → c.isFresh = true → hblk u = some g → ∃ q o, fr.obj q = some o ∧ hblk (gv q) = some g ∧ fr'.obj q = none) ∧
      (∀ (i j : Nat) (c d : AV) (u v : Value) (g : Nat), rs[i]? = some c → rs[j]? = some d → c.isFresh = true → d.isFresh = true → us[i]? = some u → us[j]? = some v → hblk u = some g → hblk v = some g → i = j)
  | fl, [], [], fr, S, K, r, h, hk, us, hl, hm => ⟨[], S, fr, hk, Stab.le_refl S, h, fun q o ho => ⟨o, ho⟩, fun _ _ hx => .inl hx, hl, by simp, by simp, by simp⟩
  | fl, [], _ :: _, fr, S, K, r, h, hk, us, hl, hm => by cases hk
  | fl, _ :: _, [], fr, S, K, r, h, hk, us, hl, hm => by cases hk
  | fl, t :: ts, v :: vs, fr, S, K, r, h, hk, [], hl, hm => by cases hl
  | fl, t :: ts, v :: vs, fr, S, K, r, h, hk, u :: us, hl, hm => by
    have hv0 := hm 0 v u rfl rfl
    have hms : ∀ (j : Nat) (c : AV) (x : Value), vs[j]? = some c → us[j]? = some x → SV P S gv fr.obj c x := fun j c x hc hx => hm (j + 1) c x (by simpa using hc) (by simpa using hx)
    simp only [resL] at hk
    -- an object that goes as new
    have hkill : ∀ {q : Nat} {o0 : Ob} {c0 : AV}, fr.obj q = some o0 → c0.isFresh = true → (∀ g, hblk u = some g → hblk (gv q) = some g) →
        (∀ S', S.le S' → (∀ x v, S' x = some v → S x = some v ∨ ∃ s o, fr.obj s = some o ∧ s ≠ q ∧ hblk (gv s) = some x.block) → VRes P W.w.heap.size W.x S' w c0 u) →
        resL P fl.tail ts vs { fr with ob := fr.ob.set q none } (fun l fr' => K (c0 :: l) fr') = some r → ∃ rs S' fr', K rs fr' = some r ∧ S.le S' ∧ Rel P S0 W S' gv fr' a w ∧ (∀ q o, fr'.obj q = some o → ∃ o0, fr.obj q = some o0) ∧ (∀ x v, S' x = some v → S x = some v ∨ ∃ q o, fr.obj q = some o ∧ hblk (gv q) = some x.block) ∧
      rs.length = (u :: us).length ∧ (∀ (j : Nat) (c : AV) (y : Value), rs[j]? = some c → (u :: us)[j]? = some y → VRes P W.w.heap.size W.x S' w c y) ∧
      (∀ (j : Nat) (c : AV) (y : Value) (g : Nat), rs[j]? = some c → (u :: us)[j]? = some y → c.isFresh = true → hblk y = some g → ∃ q o, fr.obj q = some o ∧ hblk (gv q) = some g ∧ fr'.obj q = none) ∧
      (∀ (i j : Nat) (c d : AV) (y v : Value) (g : Nat), rs[i]? = some c → rs[j]? = some d → c.isFresh = true → d.isFresh = true → (u :: us)[i]? = some y → (u :: us)[j]? = some v → hblk y = some g → hblk v = some g → i = j) := by
      intro q o0 c0 hq hcf hbk hV0 hk
      have hR := h.kill q
      obtain ⟨rs, S', fr', hK, hle, hR', hback, hadd, hlen, hV, hlive, hdis⟩ := resL_ok hR hk (us := us) (by simpa using hl) (fun j c x hc hx => Rel.sv_kill q (hms j c x hc hx))
      have hsub : ∀ s o, ({ fr with ob := fr.ob.set q none } : Fr).obj s = some o → fr.obj s = some o ∧ s ≠ q := by
        intro s o hs
        have hs : (fr.ob.set q none).getD s none = some o := hs
        rw [getD_set] at hs
        split at hs
        · cases hs
        · rename_i hne
          exact ⟨hs, fun e => hne ⟨e.symm, by rw [e]; exact obj_lt hq⟩⟩
      have hgone : fr'.obj q = none := by
        cases hc : fr'.obj q with
        | none => rfl
        | some o =>
          obtain ⟨o1, h1⟩ := hback q o hc
          exact absurd rfl (hsub q o1 h1).2
      refine ⟨_, S', fr', hK, hle, hR', fun s o hs => (hback s o hs).elim fun o1 h1 => ⟨o1, (hsub s o1 h1).1⟩, fun x v hx => ?_, by simp [hlen], fun j c y hc hy => ?_, fun j c y g hc hy hf hg => ?_, fun i j c d y v g hc hd hfc hfd hy hv hgy hgv => ?_⟩
      · rcases hadd x v hx with hx | ⟨s, o, hs, hb⟩
        · exact .inl hx
        · exact .inr ⟨s, o, (hsub s o hs).1, hb⟩
      · cases j with
        | zero =>
          simp only [List.getElem?_cons_zero, Option.some.injEq] at hc hy
          subst hc; subst hy
          refine hV0 S' hle fun x v hx => ?_
          rcases hadd x v hx with hx | ⟨s, o, hs, hb⟩
          · exact .inl hx
          · exact .inr ⟨s, o, (hsub s o hs).1, (hsub s o hs).2, hb⟩
        | succ j => exact hV j c y (by simpa using hc) (by simpa using hy)
      · cases j with
        | zero =>
          simp only [List.getElem?_cons_zero, Option.some.injEq] at hy
          subst hy
          exact ⟨q, _, hq, hbk g hg, hgone⟩
        | succ j =>
          obtain ⟨s, o, hs, hb, hn⟩ := hlive j c y g (by simpa using hc) (by simpa using hy) hf hg
          exact ⟨s, o, (hsub s o hs).1, hb, hn⟩
      · cases i with
        | zero =>
          simp only [List.getElem?_cons_zero, Option.some.injEq] at hy
          subst hy
          cases j with
          | zero => rfl
          | succ j =>
            obtain ⟨s, o, hs, hb, _⟩ := hlive j d v g (by simpa using hd) (by simpa using hv) hfd hgv
            obtain ⟨h1, h2⟩ := hsub s o hs
            exact absurd (h.dis s q o _ g h1 hq hb (hbk g hgy)) h2
        | succ i =>
          cases j with
          | zero =>
            simp only [List.getElem?_cons_zero, Option.some.injEq] at hv
            subst hv
            obtain ⟨s, o, hs, hb, _⟩ := hlive i c y g (by simpa using hc) (by simpa using hy) hfc hgy
            obtain ⟨h1, h2⟩ := hsub s o hs
            exact absurd (h.dis s q o _ g h1 hq hb (hbk g hgv)) h2
          | succ j => rw [hdis i j c d y v g (by simpa using hc) (by simpa using hd) hfc hfd (by simpa using hy) (by simpa using hv) hgy hgv]
    have hrow : ∀ {q : Nat} {e : TypeId} {xs ys : List AV}, fr.obj q = some (.row e xs false) → (∃ n, n ≤ xs.length ∧ ys = xs.take n ∧ u = cutV n (gv q)) →
        ∀ S', S.le S' → (∀ x v, S' x = some v → S x = some v ∨ ∃ s o, fr.obj s = some o ∧ s ≠ q ∧ hblk (gv s) = some x.block) → VRes P W.w.heap.size W.x S' w (.fresh e ys) u := by
      rintro q e xs ys hq ⟨n, hn, rfl, rfl⟩ S' hle hadd
      obtain ⟨us0, hown, hsz, hE, hSb⟩ := row_els (h.objs q _ hq)
      refine ⟨_, owns_take hown hE hn, hsz, (hE.take n).mono hle, fun g hg => ?_⟩
      rw [cutV_hblk] at hg
      refine ⟨(hSb g hg).1, fun x v hx hxb => ?_⟩
      rcases hadd x v hx with hx | ⟨s, o, hs, hne, hb⟩
      · have := ((hSb g hg).2 x v hx hxb).1
        cases this
      · exact hne (h.dis s q o _ g hs hq (by rw [← hxb]; exact hb) hg)
    cases hf : fl.headD false with
    | true =>
      rw [hf] at hk
      simp only [cond_true] at hk
      cases v with
      | own q =>
        simp only at hk
        split at hk
        · rename_i e xs hq
          obtain ⟨us0, hown, _⟩ := row_els (h.objs q _ hq)
          have hu := hv0.2 _ _ _ hq
          have hcut : u = cutV xs.length (gv q) := by
            rw [hu]
            rcases ownsRow_form hown with ⟨hv, hn⟩ | ⟨g, cap, hv, _⟩
            · rw [hv, hn]; rfl
            · rw [hv]; rfl
          exact hkill hq rfl (fun g hg => by rw [← hu]; exact hg) (hrow hq ⟨xs.length, Nat.le_refl _, (List.take_length).symm, hcut⟩) hk
        · cases hk
      | ownp q n =>
        simp only at hk
        split at hk
        · rename_i e xs hq
          obtain ⟨hn, hu⟩ := hv0.2 _ _ _ hq
          exact hkill hq rfl (fun g hg => by rw [hu, cutV_hblk] at hg; exact hg) (hrow hq ⟨n, hn, rfl, hu⟩) hk
        · cases hk
      | mref q =>
        simp only at hk
        split at hk
        · rename_i kvs hq
          have hu := hv0.2 kvs hq
          obtain ⟨b, hb, hown, hM⟩ := h.objs q _ hq
          exact hkill (c0 := .lmap kvs) hq rfl (fun g hg => by rw [← hu]; exact hg) (fun S' hle _ => ⟨b, by rw [hu, hb], hown, hM.mono hle⟩) hk
        · cases hk
      | nils =>
        simp only at hk
        split at hk
        · rename_i e hu
          have hz := (some_of_bif' hk).1
          replace hk := (some_of_bif' hk).2
          have hV0 : V S .nils u := hv0
          have hu0 : u = .slice none 0 0 := by cases hV0; rfl
          subst hu0
          obtain ⟨rs, S', fr', hK, hle, hR', hback, hadd, hlen, hV, hlive, hdis⟩ := resL_ok h hk (us := us) (by simpa using hl) hms
          refine ⟨_, S', fr', hK, hle, hR', hback, hadd, by simp [hlen], fun j c y hc hy => ?_, fun j c y g hc hy hf hg => ?_, fun i j c d y v g hc hd hfc hfd hy hv hgy hgv => ?_⟩
          · cases j with
            | zero =>
              simp only [List.getElem?_cons_zero, Option.some.injEq] at hc hy
              subst hc; subst hy
              have : 0 < P.cellsOf e := by
                have := beq_eq_false_iff_ne.1 hz
                omega
              exact ⟨[], World.ownsRow_nil w _ e _, this, ⟨by simp, by simp, by simp⟩, fun g hg => by simp [hblk] at hg⟩
            | succ j => exact hV j c y (by simpa using hc) (by simpa using hy)
          · cases j with
            | zero =>
              simp only [List.getElem?_cons_zero, Option.some.injEq] at hy
              subst hy
              simp [hblk] at hg
            | succ j => exact hlive j c y g (by simpa using hc) (by simpa using hy) hf hg
          · cases i with
            | zero =>
              simp only [List.getElem?_cons_zero, Option.some.injEq] at hy
              subst hy
              simp [hblk] at hgy
            | succ i =>
              cases j with
              | zero =>
                simp only [List.getElem?_cons_zero, Option.some.injEq] at hv
                subst hv
                simp [hblk] at hgv
              | succ j => rw [hdis i j c d y v g (by simpa using hc) (by simpa using hd) hfc hfd (by simpa using hy) (by simpa using hv) hgy hgv]
        · cases hk
      | _ => cases hk
    | false =>
      rw [hf] at hk
      simp only [cond_false] at hk
      obtain ⟨v', u', S1, hk, hF, hV1⟩ := frz_ok h (Sim.of fun _ _ h => h) hk hv0
      obtain ⟨rs, S', fr', hK, hle, hR', hback', hadd, hlen, hV, hlive, hdis⟩ := resL_ok hF.rel hk (us := us) (by simpa using hl) (fun j c x hc hx => hF.sv (hms j c x hc hx))
      have hback : ∀ q o, ({ fr with ob := applyU fr.ob u' } : Fr).obj q = some o → ∃ o0, fr.obj q = some o0 := by
        intro q o hq
        have := hF.kin q
        rw [hq] at this
        cases hq0 : fr.obj q with
        | none => rw [hq0] at this; cases o <;> exact this.elim
        | some o0 => exact ⟨o0, rfl⟩
      have hnf : v'.isFresh = false := by cases v' <;> first | rfl | cases hV1
      refine ⟨_, S', fr', hK, Stab.le_trans hF.le hle, hR', fun q o hq => (hback' q o hq).elim fun o1 h1 => hback q o1 h1, fun x v hx => ?_, by simp [hlen], fun j c y hc hy => ?_, fun j c y g hc hy hf hg => ?_, fun i j c d y v g hc hd hfc hfd hy hv hgy hgv => ?_⟩
      · rcases hadd x v hx with hx | ⟨q, o, hq, hb⟩
        · exact hF.add x v hx
        · obtain ⟨o0, h0⟩ := hback q o hq
          exact .inr ⟨q, o0, h0, hb⟩
      · cases j with
        | zero =>
          simp only [List.getElem?_cons_zero, Option.some.injEq] at hc hy
          subst hc; subst hy
          have := hV1.mono hle
          cases v' <;> first | exact this | (simp [AV.isFresh] at hnf)
        | succ j => exact hV j c y (by simpa using hc) (by simpa using hy)
      · cases j with
        | zero =>
          simp only [List.getElem?_cons_zero, Option.some.injEq] at hc
          subst hc
          rw [hnf] at hf; cases hf
        | succ j =>
          obtain ⟨q, o, hq, hb, hn⟩ := hlive j c y g (by simpa using hc) (by simpa using hy) hf hg
          obtain ⟨o0, h0⟩ := hback q o hq
          exact ⟨q, o0, h0, hb, hn⟩
      · cases i with
        | zero =>
          simp only [List.getElem?_cons_zero, Option.some.injEq] at hc
          subst hc
          rw [hnf] at hfc; cases hfc
        | succ i =>
          cases j with
          | zero =>
            simp only [List.getElem?_cons_zero, Option.some.injEq] at hd
            subst hd
            rw [hnf] at hfd; cases hfd
          | succ j => rw [hdis i j c d y v g (by simpa using hc) (by simpa using hd) hfc hfd (by simpa using hy) (by simpa using hv) hgy hgv]

theorem run_asAddr (q : Addr) : (asAddr (.pointer (some q))).run P w = .ok q w := rfl
def resF (tmps : Array Value) : ResultVar → Sem Value
  | .tmp t => pure (tmps.getD t undef)
  | .cell a t => do loadVar t (← asAddr (tmps.getD a undef))
theorem results_eq (fn : Func) (tmps : Array Value) : results fn tmps = (do let vs ← fn.results.mapM (resF tmps); pure (if h : vs.size = 1 then vs[0] else .tuple vs)) := by
  unfold results
  congr 1
theorem resVal_ok (h : Rel P S0 W S gv fr a w) : ∀ {l : List ResultVar} {K : List AV → Option β} {r : β}, resVal P fr l K = some r → ∃ (vs : List AV) (us : List Value), K vs = some r ∧ vs.length = us.length ∧ us.length = l.length ∧ (∀ (j : Nat) (c : AV) (u : Value), vs[j]? = some c → us[j]? = some u → SV P S gv fr.obj c u) ∧
      (l.mapM (resF a.tmps)).run P w = .ok us w
  | [], K, r, hk => ⟨[], [], hk, rfl, rfl, by simp, by simp⟩
  | .tmp t :: l, K, r, hk => by
    simp only [resVal] at hk
    obtain ⟨vs, us, hk, h1, h2, h3, h4⟩ := resVal_ok h hk
    have hv : SV P S gv fr.obj (fr.get t) (a.tmps.getD t undef) := by
      by_cases ht : t < fr.sl.length
      · exact h.slot t ht
      · have : fr.get t = .junk := by simp [Fr.get, List.getD_eq_getElem?_getD, List.getElem?_eq_none (Nat.le_of_not_lt ht)]
        rw [this]; trivial
    refine ⟨_, a.tmps.getD t undef :: us, hk, by simp [h1], by simp [h2], fun j c u hc hu => ?_, ?_⟩
    · cases j with
      | zero => simp only [List.getElem?_cons_zero, Option.some.injEq] at hc hu; subst hc; subst hu; exact hv
      | succ j => exact h3 j c u (by simpa using hc) (by simpa using hu)
    · simp only [List.mapM_cons, Sem.run_bind, Sem.run_pure, Result.andThen_ok, resF, h4]
  | .cell p t :: l, K, r, hk => by
    simp only [resVal] at hk
    have hv : SV P S gv fr.obj (fr.get p) (a.tmps.getD p undef) := by
      by_cases ht : p < fr.sl.length
      · exact h.slot p ht
      · have : fr.get p = .junk := by simp [Fr.get, List.getD_eq_getElem?_getD, List.getElem?_eq_none (Nat.le_of_not_lt ht)]
        rw [this]; trivial
    obtain ⟨q, v, val, e1, e2, e3, hk⟩ := loadK_ok h (fun _ _ h => h) hk hv
    obtain ⟨vs, us, hk, h1, h2, h3, h4⟩ := resVal_ok h hk
    refine ⟨_, val :: us, hk, by simp [h1], by simp [h2], fun j c u hc hu => ?_, ?_⟩
    · cases j with
      | zero => simp only [List.getElem?_cons_zero, Option.some.injEq] at hc hu; subst hc; subst hu; exact e3
      | succ j => exact h3 j c u (by simpa using hc) (by simpa using hu)
    · simp only [List.mapM_cons, Sem.run_bind, Sem.run_pure, Result.andThen_ok, resF, e1, run_asAddr, e2]
      simp only [h4, Result.andThen_ok]

/-! ### What was lent, at the end -/
theorem outCs_ok {nt : Nat} {σ : Nat → Option Ob} : ∀ {i : Nat} {ts : List TypeId} {cs0 cs : List AV} {K : List AV → Upd → Option β} {r : β} {S : Stab} {fr : Fr}, Rel P S0 W S gv fr a w → Sim σ fr.obj → outCs P σ nt i ts cs0 cs K = some r → ∀ {us : List Value}, cs.length = us.length →
    (∀ (j : Nat) (c : AV) (u : Value), cs[j]? = some c → us[j]? = some u → SV1 P S gv fr.obj c u) → (∀ (j q : Nat) (u : Value), cs[j]? = some (.opq q) → us[j]? = some u → σ q = some .opq → gv q = .tuple #[u]) →
    ∃ l u S', K l u = some r ∧ Frz P S0 W S gv fr a w σ S' u ∧ cs0.length = us.length ∧ l.length = us.length ∧ (∀ (j : Nat) (c : AV) (x : Value), l[j]? = some c → us[j]? = some x → (c = .hold ∧ cs0[j]? = some .hold ∧ σ (holdN nt (i + j)) = some .opq ∧ gv (holdN nt (i + j)) = .tuple #[x]) ∨ (c.leaf = true ∧ V S' c x))
  | i, [], [], [], K, r, S, fr, h, hs, hk, us, hl, hm, ho => ⟨[], [], S, by simpa [outCs] using hk, Frz.nil h hs, hl, hl, by simp⟩
  | i, [], _ :: _, _, K, r, S, fr, h, hs, hk, us, hl, hm, ho => by simp [outCs] at hk
  | i, [], [], _ :: _, K, r, S, fr, h, hs, hk, us, hl, hm, ho => by simp [outCs] at hk
  | i, _ :: _, [], _, K, r, S, fr, h, hs, hk, us, hl, hm, ho => by simp [outCs] at hk
  | i, _ :: _, _ :: _, [], K, r, S, fr, h, hs, hk, us, hl, hm, ho => by simp [outCs] at hk
  | i, t :: ts, c0 :: cs0, c :: cs, K, r, S, fr, h, hs, hk, [], hl, hm, ho => by cases hl
  | i, t :: ts, c0 :: cs0, c :: cs, K, r, S, fr, h, hs, hk, x :: us, hl, hm, ho => by
    have hij : ∀ j, i + 1 + j = i + (j + 1) := fun j => by omega
    have ho' : ∀ (j q : Nat) (u : Value), cs[j]? = some (.opq q) → us[j]? = some u → σ q = some .opq → gv q = .tuple #[u] := fun j q u hc hu => ho (j + 1) q u (by simpa using hc) (by simpa using hu)
    simp only [outCs] at hk
    split at hk
    · rename_i q
      split at hk
      · obtain ⟨hc, hk⟩ := some_of_bif hk
        simp only [Bool.and_eq_true, beq_iff_eq] at hc
        obtain ⟨hq, hop⟩ := hc
        have hop : σ q = some .opq := by
          unfold isOpq at hop
          split at hop
          · assumption
          · cases hop
        obtain ⟨l, u', S2, hk, hF', e1, e2, hVs⟩ := outCs_ok h hs hk (us := us) (by simpa using hl) (fun j c u hc hu => hm (j + 1) c u (by simpa using hc) (by simpa using hu)) ho'
        refine ⟨_, _, S2, hk, hF', by simp [e1], by simp [e2], fun j d y hd hy => ?_⟩
        cases j with
        | zero =>
          simp only [List.getElem?_cons_zero, Option.some.injEq] at hd hy
          subst hy
          refine .inl ⟨hd.symm, rfl, ?_⟩
          rw [Nat.add_zero, ← hq]
          exact ⟨hop, ho 0 q x rfl rfl hop⟩
        | succ j => rw [← hij]; simpa using hVs j d y (by simpa using hd) (by simpa using hy)
      · cases hk
    · obtain ⟨c', u, S1, hk, hF, hV, hlf⟩ := frz1_ok h hs hk (hm 0 c x rfl rfl)
      obtain ⟨l, u', S2, hk, hF', e1, e2, hVs⟩ := outCs_ok hF.rel hF.sim hk (us := us) (by simpa using hl) (fun j c u hc hu => hF.sv1 (hm (j + 1) c u (by simpa using hc) (by simpa using hu))) ho'
      refine ⟨c' :: l, u ++ u', S2, hk, hF.trans hF', by simp [e1], by simp [e2], fun j d y hd hy => ?_⟩
      cases j with
      | zero =>
        simp only [List.getElem?_cons_zero, Option.some.injEq] at hd hy
        subst hd; subst hy
        exact .inr ⟨hlf, hV.mono hF'.le⟩
      | succ j => rw [← hij]; simpa using hVs j d y (by simpa using hd) (by simpa using hy)
theorem shapeC_hold {cs : List AV} {k : Nat} (h : (cs.map shapeC)[k]? = some .hold) : cs[k]? = some .hold := by
  rw [List.getElem?_map] at h
  obtain ⟨c, hc, e⟩ := Option.map_eq_some_iff.1 h
  cases c <;> first | exact hc | (simp [shapeC] at e)
/-- Where a lent box's cell lay, at the beginning. -/
def cellOf (w : World) (v : Value) (k : Nat) : Value :=
  match v with
  | .pointer (some q) => match w.heap[q.block]? with
    | some (.cells u _ _) => u.getD k undef
    | _ => undef
  | _ => undef
theorem outL_ok {nt : Nat} {S00 : Stab} : ∀ {args : List AV} {vals : List Value} {j : Nat} {ts : List TypeId} {fr : Fr} {S : Stab} {K : List AV → Option β} {r : β}, Rel P S0 W S gv fr a w → outL P nt fr j ts (args.map shape1) K = some r → LArgs P S00 W.w args vals →
    (∀ (i : Nat) (c : AV) (v : Value), args[i]? = some c → vals[i]? = some v → c.isLent = true → W.held (j + i) = some v) →
    (∀ (i k : Nat) (cs : List AV) (v : Value), args[i]? = some (.lent cs) → vals[i]? = some v → cs[k]? = some .hold → W.held (holdN nt k) = some (.tuple #[cellOf W.w v k])) →
    ∃ ls S', K ls = some r ∧ S.le S' ∧ Agree S' w ∧ (∀ x v, S' x = some v → S0 x = some v ∨ W.own x.block) ∧ (∀ x v, S' x = some v → S x = some v ∨ ∃ q o, fr.obj q = some o ∧ hblk (gv q) = some x.block) ∧ LBack P S' W.w w args vals ls ∧ ∀ g ∈ lentB args vals, ∃ q o, fr.obj q = some o ∧ hblk (gv q) = some g
  | [], vals, j, ts, fr, S, K, r, h, hk, hL, h1, h2 => ⟨[], S, by simpa [outL] using hk, Stab.le_refl S, h.agree, h.fresh, fun _ _ hx => .inl hx, rfl, by simp [lentB]⟩
  | c :: as, [], j, ts, fr, S, K, r, h, hk, hL, h1, h2 => by cases hL.1
  | c :: as, v :: vs, j, ts, fr, S, K, r, h, hk, hL, h1, h2 => by
    have hji : ∀ i, j + 1 + i = j + (i + 1) := fun i => by omega
    have hL' : LArgs P S00 W.w as vs := ⟨by simpa using hL.1, fun i d x hd hx => hL.2 (i + 1) d x (by simpa using hd) (by simpa using hx)⟩
    have h1' : ∀ (i : Nat) (c : AV) (v : Value), as[i]? = some c → vs[i]? = some v → c.isLent = true → W.held (j + 1 + i) = some v := fun i c v hc hv hl => by rw [hji]; exact h1 (i + 1) c v (by simpa using hc) (by simpa using hv) hl
    have h2' : ∀ (i k : Nat) (cs : List AV) (v : Value), as[i]? = some (.lent cs) → vs[i]? = some v → cs[k]? = some .hold → W.held (holdN nt k) = some (.tuple #[cellOf W.w v k]) := fun i k cs v hc hv => h2 (i + 1) k cs v (by simpa using hc) (by simpa using hv)
    have h0 := hL.2 0 c v rfl rfl
    have hh0 := h1 0 c v rfl rfl
    rw [Nat.add_zero] at hh0
    -- an object that goes back
    have done : ∀ {fr1 : Fr} {S1 : Stab} {o1 : Ob} {l1 : AV}, Rel P S0 W S1 gv fr1 a w → S.le S1 → (∀ q o, fr1.obj q = some o → ∃ o0, fr.obj q = some o0) → (∀ x v, S1 x = some v → S x = some v ∨ ∃ q o, fr.obj q = some o ∧ hblk (gv q) = some x.block) → fr1.obj j = some o1 → gv j = v →
        (∀ S' ls', S1.le S' → (∀ x z, S' x = some z → S1 x = some z ∨ hblk v ≠ some x.block) → LBack P S' W.w w as vs ls' → LBack P S' W.w w (c :: as) (v :: vs) (l1 :: ls')) →
        outL P nt { fr1 with ob := fr1.ob.set j none } (j + 1) ts.tail (as.map shape1) (fun ls => K (l1 :: ls)) = some r →
        ∃ ls S', K ls = some r ∧ S.le S' ∧ Agree S' w ∧ (∀ x v, S' x = some v → S0 x = some v ∨ W.own x.block) ∧ (∀ x v, S' x = some v → S x = some v ∨ ∃ q o, fr.obj q = some o ∧ hblk (gv q) = some x.block) ∧ LBack P S' W.w w (c :: as) (v :: vs) ls ∧ ∀ g ∈ lentB (c :: as) (v :: vs), ∃ q o, fr.obj q = some o ∧ hblk (gv q) = some g := by
      intro fr1 S1 o1 l1 hR hle hback hadd1 ho1 hgj hLB hk
      obtain ⟨ls, S', hK, q1, q2, q3, q4, q5, q6⟩ := outL_ok (hR.kill j) hk hL' h1' h2'
      have hsub : ∀ s o, ({ fr1 with ob := fr1.ob.set j none } : Fr).obj s = some o → fr1.obj s = some o ∧ s ≠ j := by
        intro s o hs
        have hs : (fr1.ob.set j none).getD s none = some o := hs
        rw [getD_set] at hs
        split at hs
        · cases hs
        · rename_i hne
          exact ⟨hs, fun e => hne ⟨e.symm, by rw [e]; exact obj_lt ho1⟩⟩
      refine ⟨_, S', hK, Stab.le_trans hle q1, q2, q3, fun x z hx => ?_, hLB S' ls q1 (fun x z hx => ?_) q5, fun g hg => ?_⟩
      · rcases q4 x z hx with hx | ⟨s, o, hs, hb⟩
        · exact hadd1 x z hx
        · obtain ⟨o0, e0⟩ := hback s o (hsub s o hs).1
          exact .inr ⟨s, o0, e0, hb⟩
      · rcases q4 x z hx with hx | ⟨s, o, hs, hb⟩
        · exact .inl hx
        · refine .inr fun e => ?_
          obtain ⟨p1, p2⟩ := hsub s o hs
          exact p2 (hR.dis s j o _ _ p1 ho1 hb (by rw [hgj]; exact e))
      · simp only [lentB, List.mem_append] at hg
        rcases hg with hg | hg
        · obtain ⟨o0, e0⟩ := hback j _ ho1
          refine ⟨j, o0, e0, ?_⟩
          rw [hgj]
          cases hcl : c.isLent with
          | true => rw [hcl] at hg; simpa using hg
          | false => rw [hcl] at hg; simp at hg
        · obtain ⟨s, o, hs, hb⟩ := q6 g hg
          obtain ⟨o0, e0⟩ := hback s o (hsub s o hs).1
          exact ⟨s, o0, e0, hb⟩
    have skip : c.isLent = false → LBack P S00 W.w w (c :: as) (v :: vs) = LBack P S00 W.w w (c :: as) (v :: vs) → outL P nt fr (j + 1) ts.tail (as.map shape1) K = some r →
        ∃ ls S', K ls = some r ∧ S.le S' ∧ Agree S' w ∧ (∀ x v, S' x = some v → S0 x = some v ∨ W.own x.block) ∧ (∀ x v, S' x = some v → S x = some v ∨ ∃ q o, fr.obj q = some o ∧ hblk (gv q) = some x.block) ∧ LBack P S' W.w w (c :: as) (v :: vs) ls ∧ ∀ g ∈ lentB (c :: as) (v :: vs), ∃ q o, fr.obj q = some o ∧ hblk (gv q) = some g := by
      intro hcl _ hk
      obtain ⟨ls, S', hK, q1, q2, q3, q4, q5, q6⟩ := outL_ok h hk hL' h1' h2'
      refine ⟨ls, S', hK, q1, q2, q3, q4, ?_, fun g hg => ?_⟩
      · cases c <;> first | exact ⟨v, vs, rfl, q5⟩ | (simp [AV.isLent] at hcl)
      · simp only [lentB, hcl, cond_false, List.nil_append] at hg
        exact q6 g hg
    rw [List.map_cons] at hk
    simp only [outL] at hk
    cases c with
    | lent cs =>
      simp only [shape1] at hk
      split at hk
      · rename_i cs1 E hj hE
        have hgj : gv j = v := h.held j v (hh0 rfl) _ hj
        obtain ⟨g0, u0, T0, e1, e2, e3, e4, e5, e6⟩ := h0
        obtain ⟨g, u1, T1, d1, d2, d3, d4, d5, d6, d7⟩ := h.objs j _ hj
        rw [hgj, e1] at d1
        cases d1
        obtain ⟨l, u, S1, hk, hF, f1, f2, f3⟩ := outCs_ok h (Sim.of fun _ _ q => q) hk (us := u1.toList) (by simpa using d4.symm) (fun i d z hd hz => d6 i d z hd (by simpa using hz)) (fun i q z hd hz hq => (d6 i _ z hd (by simpa using hz)).2 hq)
        have hback : ∀ q o, ({ fr with ob := applyU fr.ob u } : Fr).obj q = some o → ∃ o0, fr.obj q = some o0 := by
          intro q o hq
          have := hF.kin q
          rw [hq] at this
          cases hq0 : fr.obj q with
          | none => rw [hq0] at this; cases o <;> exact this.elim
          | some o0 => exact ⟨o0, rfl⟩
        rw [List.length_map] at f1
        -- the box itself, as it is now
        have hcases : ∀ S', S1.le S' → ∀ (k : Nat) (d : AV) (z : Value), l[k]? = some d → u1[k]? = some z → (d = .hold ∧ cs[k]? = some .hold ∧ u0[k]? = some z) ∨ (d.leaf = true ∧ V S' d z) := by
          intro S' hle' k d z hd hz
          rcases f3 k d z hd (by simpa using hz) with ⟨p1, p2, p3, p4⟩ | ⟨p1, p2⟩
          · have p2 := shapeC_hold p2
            refine .inl ⟨p1, p2, ?_⟩
            have hkl : k < u0.size := by rw [e3]; exact (List.getElem?_eq_some_iff.1 p2).1
            rw [Nat.zero_add] at p3 p4
            have h3 := h.held _ _ (h2 0 k cs v rfl rfl p2) _ p3
            rw [p4] at h3
            have h4 : z = cellOf W.w v k := by simpa using h3
            rw [h4, e1]
            simp only [cellOf, e2]
            rw [Array.getD_eq_getD_getElem?, Array.getElem?_eq_getElem hkl]
            rfl
          · exact .inr ⟨p1, p2.mono hle'⟩
        have hj1 : ({ fr with ob := applyU fr.ob u } : Fr).obj j = some (.box cs1) := by
          show (applyU fr.ob u).getD j none = _
          rw [applyU_other u fr.ob (by
            cases hc : (u.map (·.1)).contains j with
            | false => rfl
            | true =>
              obtain ⟨e, xs, fz, hr⟩ := hF.rows j (List.contains_iff_mem.1 hc)
              rw [hj] at hr
              cases hr)]
          exact hj
        refine done hF.rel hF.le hback hF.add hj1 hgj (fun S' ls' hle' hav hb => ?_) hk
        refine ⟨v, vs, l, ls', g0, u0, u1, T0, T1, rfl, rfl, e1, e2, d3, by rw [f2, ← f1], e3, by rw [f2]; simp, d5, hcases S' hle', fun x z hx hxb => ?_, hb⟩
        rcases hav x z hx with q | q
        · obtain ⟨g1, u2, T2, a1, _, _, _, _, _, a7⟩ := hF.rel.objs j _ hj1
          rw [hgj, e1] at a1
          cases a1
          exact a7 x z q hxb
        · exact q (by rw [e1, ← hxb]; rfl)
      · cases hk
    | lmap kvs0 =>
      simp only [shape1] at hk
      split at hk
      · rename_i kvs hj
        have hgj : gv j = v := h.held j v (hh0 rfl) _ hj
        obtain ⟨b, d1, d2, d3⟩ := h.objs j _ hj
        exact done h (Stab.le_refl S) (fun q o hq => ⟨o, hq⟩) (fun _ _ hx => .inl hx) hj hgj (fun S' ls' hle' hav hb => ⟨v, vs, kvs, ls', b, rfl, rfl, by rw [← hgj, d1], d3.mono hle', hb⟩) hk
      · cases hk
    | lrow e0 xs0 =>
      simp only [shape1] at hk
      split at hk
      · rename_i e xs hj
        have hgj : gv j = v := h.held j v (hh0 rfl) _ hj
        obtain ⟨us, d1, d2, d3, d4⟩ := row_els (h.objs j _ hj)
        rw [hgj] at d1 d4
        refine done h (Stab.le_refl S) (fun q o hq => ⟨o, hq⟩) (fun _ _ hx => .inl hx) hj hgj (fun S' ls' hle' hav hb => ⟨v, vs, e, xs, us, ls', rfl, rfl, d1, d2, d3.mono hle', fun g hg x z hx hxb => ?_, hb⟩) hk
        rcases hav x z hx with q | q
        · have := ((d4 g hg).2 x z q hxb).1
          cases this
        · exact q (by rw [hg, ← hxb])
      · cases hk
    | _ => exact skip rfl rfl hk

/-! ### What a call finds in its hands -/
def holdVs (w : World) (nt : Nat) (v : Value) : Nat → List AV → List (Nat × Value)
  | _, [] => []
  | i, .hold :: cs => (holdN nt i, .tuple #[cellOf w v i]) :: holdVs w nt v (i + 1) cs
  | i, _ :: cs => holdVs w nt v (i + 1) cs
def entryVs (w : World) (nt : Nat) : Nat → List AV → List Value → List (Nat × Value)
  | j, .lent cs :: as, v :: vs => (j, v) :: (holdVs w nt v 0 cs ++ entryVs w nt (j + 1) as vs)
  | j, .lmap _ :: as, v :: vs => (j, v) :: entryVs w nt (j + 1) as vs
  | j, .lrow .. :: as, v :: vs => (j, v) :: entryVs w nt (j + 1) as vs
  | j, .fresh .. :: as, v :: vs => (j, v) :: entryVs w nt (j + 1) as vs
  | j, _ :: as, _ :: vs => entryVs w nt (j + 1) as vs
  | _, _, _ => []
def look (l : List (Nat × Value)) (r : Nat) : Value := (l.lookup r).getD undef
theorem look_mem : ∀ {l : List (Nat × Value)} {r : Nat} {v : Value}, (l.map (·.1)).Nodup → (r, v) ∈ l → look l r = v
  | [], r, v, _, hm => by simp at hm
  | (q, x) :: l, r, v, hn, hm => by
    simp only [List.map_cons, List.nodup_cons] at hn
    unfold look
    rcases List.mem_cons.1 hm with hm | hm
    · cases hm
      simp [List.lookup]
    · have hne : r ≠ q := fun e => hn.1 (by rw [← e]; exact List.mem_map.2 ⟨_, hm, rfl⟩)
      have hb : (r == q) = false := by simpa using hne
      rw [List.lookup, hb]
      exact look_mem hn.2 hm
theorem holdVs_names (w : World) (nt : Nat) (v : Value) : ∀ (i : Nat) (cs : List AV), (holdVs w nt v i cs).map (·.1) = (holdOs nt i cs).map (·.1)
  | i, [] => rfl
  | i, c :: cs => by cases c <;> simp [holdVs, holdOs, holdVs_names w nt v (i + 1) cs]
theorem entryVs_names (w : World) (nt : Nat) : ∀ (j : Nat) (args : List AV) (vals : List Value), args.length = vals.length → (entryVs w nt j args vals).map (·.1) = (entryOs nt j args).map (·.1)
  | j, [], [], _ => rfl
  | j, [], _ :: _, h => by cases h
  | j, _ :: _, [], h => by cases h
  | j, c :: as, v :: vs, h => by
    have ih := entryVs_names w nt (j + 1) as vs (by simpa using h)
    cases c <;> simp [entryVs, entryOs, ih, holdVs_names]
def obOf (nt : Nat) : AV → Ob
  | .lent cs => .box (holdCs nt 0 cs)
  | .lmap kvs => .map kvs
  | .lrow e xs | .fresh e xs => .row e xs false
  | _ => .opq
theorem mem_holdOs {nt : Nat} {r : Nat} {o : Ob} : ∀ {i : Nat} {cs : List AV}, (r, o) ∈ holdOs nt i cs → ∃ k, cs[k]? = some .hold ∧ r = holdN nt (i + k) ∧ o = .opq
  | i, [], h => by simp [holdOs] at h
  | i, c :: cs, h => by
    have tl : (r, o) ∈ holdOs nt (i + 1) cs → ∃ k, (c :: cs)[k]? = some .hold ∧ r = holdN nt (i + k) ∧ o = .opq := fun h => by
      obtain ⟨k, h1, h2, h3⟩ := mem_holdOs h
      exact ⟨k + 1, by simpa using h1, by rw [h2]; congr 1; omega, h3⟩
    cases c with
    | hold =>
      simp only [holdOs, List.mem_cons, Prod.mk.injEq] at h
      rcases h with ⟨rfl, rfl⟩ | h
      · exact ⟨0, rfl, rfl, rfl⟩
      · exact tl h
    | _ => exact tl h
theorem mem_entryOs {nt : Nat} {r : Nat} {o : Ob} : ∀ {j : Nat} {args : List AV}, (r, o) ∈ entryOs nt j args → (∃ (i : Nat) (c : AV), args[i]? = some c ∧ c.isRes = true ∧ r = j + i ∧ o = obOf nt c) ∨ ∃ (i : Nat) (cs : List AV) (k : Nat), args[i]? = some (AV.lent cs) ∧ cs[k]? = some AV.hold ∧ r = holdN nt k ∧ o = .opq
  | j, [], h => by simp [entryOs] at h
  | j, c :: as, h => by
    have tl : (r, o) ∈ entryOs nt (j + 1) as → (∃ (i : Nat) (d : AV), (c :: as)[i]? = some d ∧ d.isRes = true ∧ r = j + i ∧ o = obOf nt d) ∨ ∃ (i : Nat) (cs : List AV) (k : Nat), (c :: as)[i]? = some (AV.lent cs) ∧ cs[k]? = some AV.hold ∧ r = holdN nt k ∧ o = .opq := fun h => by
      rcases mem_entryOs h with ⟨i, d, h1, h2, h3, h4⟩ | ⟨i, cs, k, h1, h2, h3, h4⟩
      · exact .inl ⟨i + 1, d, by simpa using h1, h2, by omega, h4⟩
      · exact .inr ⟨i + 1, cs, k, by simpa using h1, h2, h3, h4⟩
    cases c with
    | lent cs =>
      simp only [entryOs, List.mem_cons, Prod.mk.injEq, List.mem_append] at h
      rcases h with ⟨rfl, rfl⟩ | h | h
      · exact .inl ⟨0, _, rfl, rfl, rfl, rfl⟩
      · obtain ⟨k, h1, h2, h3⟩ := mem_holdOs h
        exact .inr ⟨0, cs, k, rfl, h1, by rw [h2, Nat.zero_add], h3⟩
      · exact tl h
    | lmap kvs =>
      simp only [entryOs, List.mem_cons, Prod.mk.injEq] at h
      rcases h with ⟨rfl, rfl⟩ | h
      · exact .inl ⟨0, _, rfl, rfl, rfl, rfl⟩
      · exact tl h
    | lrow e xs =>
      simp only [entryOs, List.mem_cons, Prod.mk.injEq] at h
      rcases h with ⟨rfl, rfl⟩ | h
      · exact .inl ⟨0, _, rfl, rfl, rfl, rfl⟩
      · exact tl h
    | fresh e xs =>
      simp only [entryOs, List.mem_cons, Prod.mk.injEq] at h
      rcases h with ⟨rfl, rfl⟩ | h
      · exact .inl ⟨0, _, rfl, rfl, rfl, rfl⟩
      · exact tl h
    | _ => exact tl h
theorem mem_holdVs {w : World} {nt : Nat} {v : Value} : ∀ {i : Nat} {cs : List AV} {k : Nat}, cs[k]? = some .hold → (holdN nt (i + k), Value.tuple #[cellOf w v (i + k)]) ∈ holdVs w nt v i cs
  | i, [], k, h => by simp at h
  | i, c :: cs, 0, h => by
    simp only [List.getElem?_cons_zero, Option.some.injEq] at h
    subst h
    simp [holdVs]
  | i, c :: cs, k + 1, h => by
    have := mem_holdVs (w := w) (nt := nt) (v := v) (i := i + 1) (cs := cs) (k := k) (by simpa using h)
    rw [show i + 1 + k = i + (k + 1) from by omega] at this
    cases c <;> first | exact this | exact List.mem_cons_of_mem _ this
theorem mem_entryVs {w : World} {nt : Nat} : ∀ {j : Nat} {args : List AV} {vals : List Value} {i : Nat} {c : AV} {v : Value}, args[i]? = some c → vals[i]? = some v → c.isRes = true →
    (j + i, v) ∈ entryVs w nt j args vals ∧ ∀ cs k, c = .lent cs → cs[k]? = some .hold → (holdN nt k, Value.tuple #[cellOf w v k]) ∈ entryVs w nt j args vals
  | j, [], _, i, c, v, h, _, _ => by simp at h
  | j, _ :: _, [], i, c, v, _, h, _ => by simp at h
  | j, d :: as, x :: vs, 0, c, v, h1, h2, h3 => by
    simp only [List.getElem?_cons_zero, Option.some.injEq] at h1 h2
    subst h1; subst h2
    cases d <;> first | (simp [AV.isRes] at h3; done) | skip
    · exact ⟨by simp [entryVs], fun cs k e => by cases e⟩
    · rename_i cs0
      refine ⟨by simp [entryVs], fun cs k e hk => ?_⟩
      cases e
      have := mem_holdVs (w := w) (nt := nt) (v := x) (i := 0) hk
      rw [Nat.zero_add] at this
      simp only [entryVs, List.mem_cons, List.mem_append]
      exact .inr (.inl this)
    · exact ⟨by simp [entryVs], fun cs k e => by cases e⟩
    · exact ⟨by simp [entryVs], fun cs k e => by cases e⟩
  | j, d :: as, x :: vs, i + 1, c, v, h1, h2, h3 => by
    obtain ⟨q1, q2⟩ := mem_entryVs (w := w) (nt := nt) (j := j + 1) (i := i) (by simpa using h1) (by simpa using h2) h3
    rw [show j + 1 + i = j + (i + 1) from by omega] at q1
    have sub : ∀ {y : Nat × Value}, y ∈ entryVs w nt (j + 1) as vs → y ∈ entryVs w nt j (d :: as) (x :: vs) := by
      intro y hy
      cases d <;> first | exact hy | exact List.mem_cons_of_mem _ hy | exact List.mem_cons_of_mem _ (List.mem_append.2 (.inr hy))
    exact ⟨sub q1, fun cs k e hk => sub (q2 cs k e hk)⟩
def slOf (j : Nat) : AV → AV
  | .lent _ => .loc j 0
  | .lmap _ => .mref j
  | .lrow .. | .fresh .. => .own j
  | a => a
theorem entrySl_get : ∀ {j : Nat} {args : List AV} (i : Nat), (entrySl j args)[i]? = (args[i]?).map (slOf (j + i))
  | j, [], i => by simp [entrySl]
  | j, c :: as, 0 => by cases c <;> rfl
  | j, c :: as, i + 1 => by
    have ih := entrySl_get (j := j + 1) (args := as) i
    rw [show j + 1 + i = j + (i + 1) from by omega] at ih
    cases c <;> simpa [entrySl] using ih
theorem entrySl_len : ∀ (j : Nat) (args : List AV), (entrySl j args).length = args.length
  | j, [] => rfl
  | j, c :: as => by cases c <;> simp [entrySl, entrySl_len (j + 1) as]
theorem addN_size : ∀ (n : New) (l : List (Option Ob)), (addN l n).length = l.length
  | [], _ => rfl
  | x :: n, l => by rw [show addN l (x :: n) = addN (l.set x.1 (some x.2)) n from rfl, addN_size n]; simp
theorem addN_mem : ∀ {n : New} {l : List (Option Ob)} {r : Nat} {o : Ob}, (addN l n).getD r none = some o → (r, o) ∈ n ∨ l.getD r none = some o
  | [], l, r, o, h => .inr h
  | (q, x) :: n, l, r, o, h => by
    rw [show addN l ((q, x) :: n) = addN (l.set q (some x)) n from rfl] at h
    rcases addN_mem h with h | h
    · exact .inl (List.mem_cons_of_mem _ h)
    · rw [getD_set] at h
      split at h
      · rename_i hq
        cases h
        exact .inl (by rw [← hq.1]; exact List.mem_cons_self ..)
      · exact .inr h
theorem resB_mem {g : Nat} : ∀ {args : List AV} {vals : List Value} {i : Nat} {c : AV} {v : Value}, args[i]? = some c → vals[i]? = some v → c.isRes = true → hblk v = some g → g ∈ resB args vals
  | [], _, i, c, v, h, _, _, _ => by simp at h
  | _ :: _, [], i, c, v, _, h, _, _ => by simp at h
  | d :: as, x :: vs, 0, c, v, h1, h2, h3, h4 => by
    simp only [List.getElem?_cons_zero, Option.some.injEq] at h1 h2
    subst h1; subst h2
    simp [resB, h3, h4]
  | d :: as, x :: vs, i + 1, c, v, h1, h2, h3, h4 => by
    simp only [resB, List.mem_append]
    exact .inr (resB_mem (i := i) (by simpa using h1) (by simpa using h2) h3 h4)
theorem resB_inj {g : Nat} : ∀ {args : List AV} {vals : List Value} {i i' : Nat} {c c' : AV} {v v' : Value}, (resB args vals).Nodup → args[i]? = some c → vals[i]? = some v → c.isRes = true → hblk v = some g → args[i']? = some c' → vals[i']? = some v' → c'.isRes = true → hblk v' = some g → i = i'
  | [], _, i, _, c, _, v, _, _, h, _, _, _, _, _, _, _ => by simp at h
  | _ :: _, [], i, _, c, _, v, _, _, _, h, _, _, _, _, _, _ => by simp at h
  | d :: as, x :: vs, i, i', c, c', v, v', hn, h1, h2, h3, h4, k1, k2, k3, k4 => by
    obtain ⟨n1, n2, n3⟩ := List.nodup_append.1 (show ((bif d.isRes then (hblk x).toList else []) ++ resB as vs).Nodup from hn)
    have hd : ∀ {c : AV} {v : Value}, d = c → x = v → c.isRes = true → hblk v = some g → g ∈ (bif d.isRes then (hblk x).toList else []) := by
      rintro c v rfl rfl q1 q2
      simp [q1, q2]
    cases i with
    | zero =>
      cases i' with
      | zero => rfl
      | succ i' =>
        have m1 := hd (by simpa using h1) (by simpa using h2) h3 h4
        have m2 := resB_mem (args := as) (vals := vs) (i := i') (by simpa using k1) (by simpa using k2) k3 k4
        exact absurd rfl (n3 g m1 g m2)
    | succ i =>
      cases i' with
      | zero =>
        have m1 := hd (by simpa using k1) (by simpa using k2) k3 k4
        have m2 := resB_mem (args := as) (vals := vs) (i := i) (by simpa using h1) (by simpa using h2) h3 h4
        exact absurd rfl (n3 g m1 g m2)
      | succ i' =>
        congr 1
        exact resB_inj n2 (by simpa using h1) (by simpa using h2) h3 h4 (by simpa using k1) (by simpa using k2) k3 k4
theorem holdCs_get {nt : Nat} : ∀ {i : Nat} {cs : List AV} (k : Nat), (holdCs nt i cs)[k]? = (cs[k]?).map fun c => match c with | .hold => .opq (holdN nt (i + k)) | c => c
  | i, [], k => by simp [holdCs]
  | i, c :: cs, 0 => by cases c <;> rfl
  | i, c :: cs, k + 1 => by
    have ih := holdCs_get (nt := nt) (i := i + 1) (cs := cs) k
    rw [show i + 1 + k = i + (k + 1) from by omega] at ih
    cases c <;> simpa [holdCs] using ih
theorem holdCs_len {nt : Nat} : ∀ (i : Nat) (cs : List AV), (holdCs nt i cs).length = cs.length
  | i, [] => rfl
  | i, c :: cs => by cases c <;> simp [holdCs, holdCs_len (i + 1) cs]
def entryW (w : World) (nt : Nat) (args : List AV) (vals : List Value) : Ent :=
  { w := w, x := resB args vals, held := fun r => bif (lentNs nt 0 args).contains r then some (look (entryVs w nt 0 args vals) r) else none }
theorem entry_rel {P : Program} {fn : Func} {args : List AV} {vals : List Value} (hag : Agree S w) (hL : LArgs P S w args vals) (hnt : args.length ≤ fn.ntmps) (hnd : (resB args vals).Nodup) (hn : ((entryOs fn.ntmps 0 args).map (·.1)).Nodup) (hlt : ∀ x ∈ entryOs fn.ntmps 0 args, x.1 < 4 * fn.ntmps) :
    Rel P S (entryW w fn.ntmps args vals) S (look (entryVs w fn.ntmps 0 args vals)) (entry fn args) { tmps := vals.toArray ++ Array.replicate (fn.ntmps - vals.toArray.size) undef, defers := [] } w := by
  have hl : vals.length = args.length := hL.1.symm
  have hvn : ((entryVs w fn.ntmps 0 args vals).map (·.1)).Nodup := by rw [entryVs_names w _ 0 args vals hL.1]; exact hn
  have hval : ∀ {i : Nat} {c : AV}, args[i]? = some c → ∃ v, vals[i]? = some v := fun {i c} hc => ⟨vals[i]'(by rw [hl]; exact (List.getElem?_eq_some_iff.1 hc).1), List.getElem?_eq_getElem _⟩
  have hgv : ∀ {i : Nat} {c : AV} {v : Value}, args[i]? = some c → vals[i]? = some v → c.isRes = true → look (entryVs w fn.ntmps 0 args vals) i = v := fun {i c v} hc hv hr => by
    have := look_mem hvn (mem_entryVs (w := w) (nt := fn.ntmps) (j := 0) hc hv hr).1
    rwa [Nat.zero_add] at this
  have hgh : ∀ {i k : Nat} {cs : List AV} {v : Value}, args[i]? = some (.lent cs) → vals[i]? = some v → cs[k]? = some .hold → look (entryVs w fn.ntmps 0 args vals) (holdN fn.ntmps k) = .tuple #[cellOf w v k] := fun {i k cs v} hc hv hk =>
    look_mem hvn ((mem_entryVs (w := w) (nt := fn.ntmps) (j := 0) hc hv rfl).2 cs k rfl hk)
  have hobj : ∀ r o, (entry fn args).obj r = some o → (∃ (i : Nat) (c : AV), args[i]? = some c ∧ c.isRes = true ∧ r = i ∧ o = obOf fn.ntmps c) ∨ ∃ (i : Nat) (cs : List AV) (k : Nat), args[i]? = some (AV.lent cs) ∧ cs[k]? = some AV.hold ∧ r = holdN fn.ntmps k ∧ o = .opq := by
    intro r o ho
    have ho : (addN (List.replicate (4 * fn.ntmps) none) (entryOs fn.ntmps 0 args)).getD r none = some o := ho
    rcases addN_mem ho with h | h
    · rcases mem_entryOs h with ⟨i, c, h1, h2, h3, h4⟩ | h
      · exact .inl ⟨i, c, h1, h2, by omega, h4⟩
      · exact .inr h
    · rw [List.getD_eq_getElem?_getD, List.getElem?_replicate] at h
      split at h <;> cases h
  have hown : ∀ {i : Nat} {c : AV} {v : Value} {g : Nat}, args[i]? = some c → vals[i]? = some v → c.isRes = true → hblk v = some g → (entryW w fn.ntmps args vals).own g := fun hc hv hr hg => .inr (resB_mem hc hv hr hg)
  refine { below := BelX.refl _, agree := hag, ext := Stab.le_refl S, fresh := fun _ _ hx => .inl hx, held := fun r v hv o ho => ?_, len := ?_, obl := ?_, defers := rfl, slot := fun t ht => ?_, objs := fun r o ho => ?_, dis := fun r r' o o' g ho ho' hb hb' => ?_ }
  · simp only [entryW] at hv
    cases hc : (lentNs fn.ntmps 0 args).contains r with
    | true => rw [hc] at hv; exact Option.some.inj hv
    | false => rw [hc] at hv; cases hv
  · simp [entry, entrySl_len, hl]
  · simp [entry, entrySl_len, addN_size]; omega
  · simp only [entry, Fr.get, List.getD_eq_getElem?_getD]
    by_cases htl : t < args.length
    · rw [List.getElem?_append_left (by rw [entrySl_len]; exact htl), entrySl_get, List.getElem?_eq_getElem htl]
      have htv : t < vals.length := by omega
      have e : (vals.toArray ++ Array.replicate (fn.ntmps - vals.toArray.size) undef).getD t undef = vals[t] := by
        rw [Array.getD_eq_getD_getElem?, Array.getElem?_append_left (by simpa using htv)]
        simp [List.getElem?_eq_getElem htv]
      rw [e]
      have hc := List.getElem?_eq_getElem htl
      have hv := List.getElem?_eq_getElem htv
      have h0 := hL.2 t _ _ hc hv
      have h1 := hgv hc hv
      simp only [Option.map_some, Option.getD_some, Nat.zero_add]
      generalize args[t] = c at h0 h1
      generalize vals[t] = v at h0 h1
      cases c with
      | lent cs =>
        obtain ⟨g, u, T, rfl, _⟩ := h0
        exact ⟨rfl, fun o' _ hB => ⟨g, h1 rfl, rfl⟩⟩
      | lmap kvs =>
        obtain ⟨b, rfl, _⟩ := h0
        exact ⟨rfl, fun kvs' _ => (h1 rfl).symm⟩
      | lrow e xs =>
        obtain ⟨us, hown, _⟩ := h0
        refine ⟨?_, fun _ _ _ _ => (h1 rfl).symm⟩
        rcases ownsRow_form hown with ⟨hv, _⟩ | ⟨g, cap, hv, _⟩ <;> rw [hv] <;> rfl
      | fresh e xs =>
        obtain ⟨us, hown, _⟩ := h0
        refine ⟨?_, fun _ _ _ _ => (h1 rfl).symm⟩
        rcases ownsRow_form hown with ⟨hv, _⟩ | ⟨g, cap, hv, _⟩ <;> rw [hv] <;> rfl
      | _ => exact V.toSV (show V S _ _ from h0)
    · rw [List.getElem?_append_right (by rw [entrySl_len]; omega)]
      have : ((List.replicate (fn.ntmps - args.length) AV.junk)[t - (entrySl 0 args).length]?).getD .junk = .junk := by
        rw [List.getElem?_replicate]; split <;> rfl
      rw [this]; trivial
  · rcases hobj r o ho with ⟨i, c, hc, hr, rfl, rfl⟩ | ⟨i, cs, k, hc, hk, rfl, rfl⟩
    · obtain ⟨v, hv⟩ := hval hc
      have h0 := hL.2 _ _ _ hc hv
      have h1 := hgv hc hv hr
      have h2 := fun g => hown (g := g) hc hv hr
      have h3 := fun cs k (e : c = .lent cs) => hgh (i := r) (k := k) (cs := cs) (by rw [← e]; exact hc) hv
      cases c <;> first | (simp [AV.isRes] at hr; done) | skip
      · obtain ⟨us, q1, q2, q3, q4⟩ := h0
        exact ⟨us, by rw [h1]; exact q1, q2, q3.2.1, q3.2.2, fun g hg => ⟨h2 g (by rw [← h1]; exact hg), fun x z hx hxb => absurd hxb (q4 g (by rw [← h1]; exact hg) x z hx)⟩⟩
      · rename_i cs
        obtain ⟨g, u, T, rfl, q1, q2, q3, q4, q5⟩ := h0
        refine ⟨g, u, T, h1, h2 g rfl, q1, by rw [q2, holdCs_len], q3, fun k c z hc' hz => ?_, q5⟩
        rw [holdCs_get, Nat.zero_add] at hc'
        obtain ⟨c0, hc0, rfl⟩ := Option.map_eq_some_iff.1 hc'
        rcases q4 k c0 z hc0 hz with rfl | ⟨hlf, hV⟩
        · refine ⟨q3 k z hz, fun _ => ?_⟩
          rw [h3 cs k rfl hc0]
          simp only [cellOf, q1]
          rw [Array.getD_eq_getD_getElem?, hz]
          rfl
        · cases c0 <;> first | exact hV.toSV1 | (cases hV; done)
      · obtain ⟨b, rfl, q⟩ := h0
        exact ⟨b, h1, h2 b rfl, q⟩
      · obtain ⟨us, q1, q2, q3, q4⟩ := h0
        exact ⟨us, by rw [h1]; exact q1, q2, q3.2.1, q3.2.2, fun g hg => ⟨h2 g (by rw [← h1]; exact hg), fun x z hx hxb => absurd hxb (q4 g (by rw [← h1]; exact hg) x z hx)⟩⟩
    · obtain ⟨v, hv⟩ := hval hc
      show hblk (look _ _) = none
      rw [hgh hc hv hk]
      rfl
  · rcases hobj r o ho with ⟨i, c, hc, hr, rfl, rfl⟩ | ⟨i, cs, k, hc, hk, rfl, rfl⟩
    · obtain ⟨v, hv⟩ := hval hc
      rcases hobj r' o' ho' with ⟨i', c', hc', hr', rfl, rfl⟩ | ⟨i', cs', k', hc', hk', rfl, rfl⟩
      · obtain ⟨v', hv'⟩ := hval hc'
        rw [hgv hc hv hr] at hb
        rw [hgv hc' hv' hr'] at hb'
        exact resB_inj hnd hc hv hr hb hc' hv' hr' hb'
      · obtain ⟨v', hv'⟩ := hval hc'
        rw [hgh hc' hv' hk'] at hb'
        cases hb'
    · obtain ⟨v, hv⟩ := hval hc
      rw [hgh hc hv hk] at hb
      cases hb
theorem lentNs_mem {nt : Nat} : ∀ {j : Nat} {args : List AV} {i : Nat} {c : AV}, args[i]? = some c → c.isLent = true → j + i ∈ lentNs nt j args ∧ ∀ cs k, c = .lent cs → cs[k]? = some .hold → holdN nt k ∈ lentNs nt j args
  | j, [], i, c, h, _ => by simp at h
  | j, d :: as, 0, c, h1, h2 => by
    simp only [List.getElem?_cons_zero, Option.some.injEq] at h1
    subst h1
    cases d <;> first | (simp [AV.isLent] at h2; done) | skip
    · refine ⟨by simp [lentNs], fun cs k e hk => ?_⟩
      cases e
      have hm := mem_holdVs (w := default) (nt := nt) (v := undef) (i := 0) hk
      rw [Nat.zero_add] at hm
      have this : holdN nt k ∈ (holdVs default nt undef 0 _).map (·.1) := List.mem_map.2 ⟨_, hm, rfl⟩
      rw [holdVs_names] at this
      simp only [lentNs, List.mem_cons, List.mem_append]
      exact .inr (.inl this)
    · exact ⟨by simp [lentNs], fun cs k e => by cases e⟩
    · exact ⟨by simp [lentNs], fun cs k e => by cases e⟩
  | j, d :: as, i + 1, c, h1, h2 => by
    obtain ⟨q1, q2⟩ := lentNs_mem (nt := nt) (j := j + 1) (i := i) (by simpa using h1) h2
    rw [show j + 1 + i = j + (i + 1) from by omega] at q1
    have sub : ∀ {y : Nat}, y ∈ lentNs nt (j + 1) as → y ∈ lentNs nt j (d :: as) := by
      intro y hy
      cases d <;> first | exact hy | exact List.mem_cons_of_mem _ hy | exact List.mem_cons_of_mem _ (List.mem_append.2 (.inr hy))
    exact ⟨sub q1, fun cs k e hk => sub (q2 cs k e hk)⟩

variable {C : Cfg}
theorem oneOr_ok {rs : List AV} {us : List Value} {K : AV → Option β} {r : β} {B : Nat} {X : List Nat} (hk : oneOr rs K = some r) (hl : rs.length = us.length) (hV : ∀ (j : Nat) (c : AV) (u : Value), rs[j]? = some c → us[j]? = some u → VRes P B X S w c u)
    (hdis : ∀ (i j : Nat) (c d : AV) (u v : Value) (g : Nat), rs[i]? = some c → rs[j]? = some d → c.isFresh = true → d.isFresh = true → us[i]? = some u → us[j]? = some v → hblk u = some g → hblk v = some g → i = j) :
    ∃ x, K x = some r ∧ VRet P B X S w x (if h : us.toArray.size = 1 then us.toArray[0] else .tuple us.toArray) ∧ (∀ g ∈ frB x (if h : us.toArray.size = 1 then us.toArray[0] else .tuple us.toArray), ∃ (j : Nat) (c : AV) (u : Value), rs[j]? = some c ∧ us[j]? = some u ∧ c.isFresh = true ∧ hblk u = some g) := by
  have hfb : ∀ {g : Nat} {rs : List AV} {us : List Value}, g ∈ frBs rs us → ∃ (j : Nat) (c : AV) (u : Value), rs[j]? = some c ∧ us[j]? = some u ∧ c.isFresh = true ∧ hblk u = some g := by
    intro g rs
    induction rs with
    | nil => intro us h; simp [frBs] at h
    | cons c rs ih =>
      intro us h
      cases us with
      | nil => simp [frBs] at h
      | cons u us =>
        simp only [frBs, List.mem_append, frB1] at h
        rcases h with h | h
        · cases hc : c.isFresh with
          | true => rw [hc] at h; exact ⟨0, c, u, rfl, rfl, hc, by simpa using h⟩
          | false => rw [hc] at h; simp at h
        · obtain ⟨j, c', u', q1, q2, q3⟩ := ih h
          exact ⟨j + 1, c', u', by simpa using q1, by simpa using q2, q3⟩
  match rs, us, hl, hV, hdis, hk with
  | [r0], [u0], _, hV, _, hk =>
    have e0 : (if h : [u0].toArray.size = 1 then [u0].toArray[0] else Value.tuple [u0].toArray) = u0 := by simp
    have this := hV 0 r0 u0 rfl rfl
    rw [e0]
    refine ⟨r0, hk, ?_, fun g hg => ?_⟩
    · cases r0 <;> first | exact this | (cases (show V S _ _ from this))
    · refine hfb (rs := [r0]) (us := [u0]) ?_
      have e : frB r0 u0 = frB1 r0 u0 := by
        unfold frB
        cases r0 <;> first | rfl | (cases (show V S _ _ from this))
      rw [e] at hg
      simpa [frBs] using hg
  | [], [], _, hV, hdis, hk =>
    exact ⟨.tup [], hk, ⟨[], rfl, rfl, hV, hdis⟩, fun g hg => by simp [frB, frBs] at hg⟩
  | r0 :: r1 :: rs, u0 :: u1 :: us, hl, hV, hdis, hk =>
    refine ⟨.tup (r0 :: r1 :: rs), hk, ⟨u0 :: u1 :: us, ?_, hl, hV, hdis⟩, fun g hg => ?_⟩
    · rw [dif_neg (by simp)]
    · rw [dif_neg (by simp)] at hg
      exact hfb (by simpa [frB] using hg)
  | [r0], [], hl, _, _, _ => simp at hl
  | [], _ :: _, hl, _, _, _ => simp at hl
  | [r0], _ :: _ :: _, hl, _, _, _ => simp at hl
  | _ :: _ :: _, [], hl, _, _, _ => simp at hl
  | _ :: _ :: _, [u0], hl, _, _, _ => simp at hl
theorem shape_cons {args : List AV} (h : (shape args).isEmpty = false) : shape args = args.map shape1 := by
  unfold shape at h ⊢
  cases hc : args.any AV.isRes with
  | true => rfl
  | false => rw [hc] at h; cases h
theorem VRes.mono {B : Nat} {X : List Nat} {c : AV} {u : Value} (h : VRes P B X S w c u) (hS : S.le S') (hav : ∀ g ∈ frB1 c u, ∀ x v, S' x = some v → x.block = g → S x = some v) : VRes P B X S' w c u := by
  cases c <;> first | exact V.mono hS (show V S _ _ from h) | skip
  · obtain ⟨us, h1, h2, h3, h4⟩ := h
    exact ⟨us, h1, h2, h3.mono hS, fun g hg => ⟨(h4 g hg).1, fun x v hx hxb => (h4 g hg).2 x v (hav g (by simp [frB1, AV.isFresh, hg]) x v hx hxb) hxb⟩⟩
  · obtain ⟨b, h1, h2, h3⟩ := h
    exact ⟨b, h1, h2, h3.mono hS⟩
/-- A function answers what its code evaluates to. -/
theorem ok_of_body (hS : Sound C) (hdraw : ∀ {C' : Cfg}, C'.P = C.P → Sound C' → ∀ {S0 : Stab} {W : Ent} {id : Nat} {os : Array Oper} {fr : Fr} {K : Kont AV} {r : AV} {S : Stab} {gv : Nat → Value} {a : Act} {w : World} {Q : Exit → Act → World → Prop}, Ctx C' S0 W → Rel C'.P S0 W S gv fr a w → region C' id os.toList true fr K = some r →
      (∀ e fr' S' gv' a' w', K e fr' = some r → Rel C'.P S0 W S' gv' fr' a' w' → Q (toExit e) a' w') → (Code.region id os true).wp C'.P Q a w) {f : FuncId} {fn : Func} (hf : C.P.funcs[f]? = some fn) {fl : List Bool} {args : List AV} {res : AV} (hk : body C fl fn args = some res) : Ok C.P C.glob f args res := by
  intro S w vals hag hG hL hndB hoff
  unfold body at hk
  split at hk
  · rename_i c hb
    have hc := (some_of_bif hk).1
    replace hk := (some_of_bif hk).2
    simp only [Bool.and_eq_true, beq_iff_eq, decide_eq_true_eq] at hc
    have hn := (some_of_bif hk).1
    replace hk := (some_of_bif hk).2
    simp only [Bool.and_eq_true] at hn
    have hl : vals.length = args.length := hL.1.symm
    refine calls_of_wp hf hb ?_
    have hR := entry_rel hag hL hc.2 hndB (nodupN_ok hn.1) (fun x hx => by simpa using List.all_eq_true.1 hn.2 x hx)
    let C1 : Cfg := { C with rs := lentNs fn.ntmps 0 args }
    have hS1 : Sound C1 := hS
    have hCtx : Ctx C1 S (entryW w fn.ntmps args vals) := ⟨⟨hG, hoff⟩, fun t ht => by
      show (bif (lentNs fn.ntmps 0 args).contains t then _ else none) = none
      rw [show (lentNs fn.ntmps 0 args).contains t = false from ht]
      rfl⟩
    have hpost : ∀ {e : EX}, (e = .normal ∨ e = .ret) → ∀ (fr' : Fr) (S' : Stab) (gv' : Nat → Value) (a' : Act) (w' : World), retK C1 fl fn (shape args) some e fr' = some res → Rel C.P S (entryW w fn.ntmps args vals) S' gv' fr' a' w' →
        a'.defers = [] ∧ ∃ v, (results fn a'.tmps).run C.P w' = .ok v w' ∧ ∃ v2 S2, Ending.returned v = .returned v2 ∧ S.le S2 ∧ Agree S2 w' ∧ (∀ x u, S2 x = some u → S x = some u ∨ w.heap.size ≤ x.block ∨ x.block ∈ resB args vals) ∧ BelX { w := w, x := resB args vals, held := fun _ => none } w' ∧ RetR C.P S2 w w' args vals res v2 := by
      intro e he fr' S' gv' a' w' hK hR'
      have hK : (resVal C.P fr' fn.results.toList fun vs => resL C.P fl fn.resultTypes.toList vs fr' fun rs fr'' => bif (shape args).isEmpty then oneOr rs some else outL C.P fn.ntmps fr'' 0 fn.params.toList (shape args) fun ls => oneOr rs fun r => some (.lback r ls)) = some res := by
        rcases he with rfl | rfl <;> exact hK
      obtain ⟨vs, us, hK, h1, h2, h3, h4⟩ := resVal_ok hR' hK
      obtain ⟨rs, S2, fr2, hK, hle, hR2, hback, hadd, hlen2, hV, hlive, hdis⟩ := resL_ok hR' hK h1 h3
      have hrun : (results fn a'.tmps).run C.P w' = .ok (if h : us.toArray.size = 1 then us.toArray[0] else .tuple us.toArray) w' := by
        rw [results_eq, Array.mapM_eq_mapM_toList]
        simp only [Sem.run_bind, Sem.run_map, h4, Result.andThen_ok]
        rfl
      have hbel : BelX { w := w, x := resB args vals, held := fun _ => none } w' := ⟨hR'.below.os, hR'.below.tape, hR'.below.output, hR'.below.size, hR'.below.block⟩
      cases hsh : (shape args).isEmpty with
      | true =>
        rw [hsh, cond_true] at hK
        obtain ⟨x, hx, hVR, _⟩ := oneOr_ok hK hlen2 hV hdis
        cases hx
        refine ⟨hR'.defers, _, hrun, _, S2, rfl, fun x v hx => hle _ _ (hR'.ext x v hx), hR2.agree, hR2.fresh, hbel, ?_⟩
        cases res <;> first | exact hVR | (cases (show V S2 _ _ from hVR))
      | false =>
        rw [hsh, cond_false, shape_cons hsh] at hK
        obtain ⟨ls, S3, hK, q1, q2, q3, q4, q5, q6⟩ := outL_ok (S00 := S) hR2 hK hL (fun i c v hc hv hcl => by
          show (bif (lentNs fn.ntmps 0 args).contains (0 + i) then _ else none) = _
          rw [List.contains_iff_mem.2 (lentNs_mem hc hcl).1, cond_true]
          have hcr : c.isRes = true := by cases c <;> first | rfl | (simp [AV.isLent] at hcl)
          rw [look_mem (by rw [entryVs_names w _ 0 args vals hL.1]; exact nodupN_ok hn.1) (mem_entryVs hc hv hcr).1]) (fun i k cs v hc hv hk => by
          show (bif (lentNs fn.ntmps 0 args).contains (holdN fn.ntmps k) then _ else none) = _
          rw [List.contains_iff_mem.2 ((lentNs_mem (j := 0) hc rfl).2 cs k rfl hk), cond_true]
          rw [look_mem (by rw [entryVs_names w _ 0 args vals hL.1]; exact nodupN_ok hn.1) ((mem_entryVs (j := 0) hc hv rfl).2 cs k rfl hk)]; rfl)
        have hV3 : ∀ (j : Nat) (c : AV) (u : Value), rs[j]? = some c → us[j]? = some u → VRes C.P w.heap.size (resB args vals) S3 w' c u := fun j c u hc hu => by
          refine (hV j c u hc hu).mono q1 fun g hg x z hx hxb => ?_
          unfold frB1 at hg
          cases hcf : c.isFresh with
          | false => rw [hcf] at hg; simp at hg
          | true =>
            rw [hcf] at hg
            have hgg : hblk u = some g := by simpa using hg
            rcases q4 x z hx with q | ⟨s, o, hs, hb⟩
            · exact q
            · exfalso
              obtain ⟨s', o', hs', hb', hn'⟩ := hlive j c u g hc hu hcf hgg
              obtain ⟨o2, ho2⟩ := hback s o hs
              have := hR'.dis s s' o2 o' g ho2 hs' (by rw [← hxb]; exact hb) hb'
              subst this
              rw [hs] at hn'
              cases hn'
        obtain ⟨x, hx, hVR, hfb⟩ := oneOr_ok hK hlen2 hV3 hdis
        cases hx
        refine ⟨hR'.defers, _, hrun, _, S3, rfl, fun x v hx => q1 _ _ (hle _ _ (hR'.ext x v hx)), q2, q3, hbel, hVR, q5, fun g hg hm => ?_⟩
        obtain ⟨j, c, u, hc, hu, hcf, hgg⟩ := hfb g hg
        obtain ⟨s', o', hs', hb', hn'⟩ := hlive j c u g hc hu hcf hgg
        obtain ⟨s, o, hs, hb⟩ := q6 g hm
        obtain ⟨o2, ho2⟩ := hback s o hs
        have := hR'.dis s s' o2 o' g ho2 hs' hb hb'
        subst this
        rw [hs] at hn'
        cases hn'
    refine code_ok hS1 hCtx (fun {id os fr K S gv a w Q} => hdraw (C' := C1) rfl hS1 hCtx) c hR hk fun e fr' S' gv' a' w' hK hR' => ?_
    cases e with
    | normal => exact hpost (.inl rfl) fr' S' gv' a' w' hK hR'
    | ret => exact hpost (.inr rfl) fr' S' gv' a' w' hK hR'
    | exit id => cases hK
  · cases hk
end Go.Proofs.YtbkhmkcmbaffoaaGreatDoor.Eng


/- The engine, part 18: what the evaluator does is one thing, whatever comes behind. -/
set_option linter.unusedVariables false
set_option linter.unusedSimpArgs false
namespace Go.Proofs.YtbkhmkcmbaffoaaGreatDoor.Eng
open Go
variable {β : Type} {P : Program} {σ : Nat → Option Ob} {C : Cfg}

theorem bif_bind {γ : Type} (c : Bool) (x : Option γ) (f : γ → Option β) : (bif c then x else none).bind f = bif c then x.bind f else none := by cases c <;> rfl

theorem bif_bind' {γ : Type} (c : Bool) (x : Option γ) (f : γ → Option β) : (bif c then none else x).bind f = bif c then none else x.bind f := by cases c <;> rfl

theorem bif_bind2 {γ : Type} (c : Bool) (x y : Option γ) (f : γ → Option β) : (bif c then x else y).bind f = bif c then x.bind f else y.bind f := by cases c <;> rfl
def cast1D (P : Program) (T : TypeId) (v : AV) : Option AV := cast1 P T v some
theorem cast1_lin (T : TypeId) (v : AV) (K : AV → Option β) : cast1 P T v K = (cast1D P T v).bind K := by
  unfold cast1D cast1
  (repeat' split) <;> simp [bif_bind]
def castPreD (P : Program) (ts : List TypeId) (cs : List AV) : Option (List AV) := castPre P ts cs some
theorem castPre_lin : ∀ {β : Type} (ts : List TypeId) (cs : List AV) (K : List AV → Option β), castPre P ts cs K = (castPreD P ts cs).bind K
  | _, [], _, K => by simp [castPreD, castPre]
  | _, _ :: _, [], K => by simp [castPreD, castPre]
  | _, t :: ts, c :: cs, K => by unfold castPreD castPre; simp [cast1_lin, castPre_lin ts cs, Option.bind_assoc]
def loadTD (P : Program) (T : TypeId) (cs : List AV) : Option AV := loadT P T cs some
theorem loadT_lin (T : TypeId) (cs : List AV) (K : AV → Option β) : loadT P T cs K = (loadTD P T cs).bind K := by
  unfold loadTD loadT
  cases isAggT P T <;> simp only [cond_true, cond_false]
  · split <;> simp [cast1_lin, Option.bind_assoc]
  · simp [bif_bind, castPre_lin, Option.bind_assoc]

def castP1D (P : Program) (T : TypeId) (v : AV) : Option AV := castP1 P T v some
theorem castP1_lin (T : TypeId) (v : AV) (K : AV → Option β) : castP1 P T v K = (castP1D P T v).bind K := by
  unfold castP1D castP1 atBool atInt atStr atList
  (repeat' split) <;> simp [bif_bind]
theorem cellAt_bind {γ : Type} (cs : List AV) (off : Nat) (K : AV → Option γ) (f : γ → Option β) : (cellAt cs off K).bind f = cellAt cs off fun c => (K c).bind f := by
  unfold cellAt
  split <;> rfl
theorem atAgg_bind {γ : Type} (n : Nat) (v : AV) (K : List AV → Option γ) (f : γ → Option β) : (atAgg n v K).bind f = atAgg n v fun c => (K c).bind f := by
  unfold atAgg
  split <;> simp [bif_bind]
def castPreAtD (P : Program) (ts : List TypeId) (cs : List AV) (off : Nat) : Option (List AV) := castPreAt P ts cs off some
theorem castPreAt_lin : ∀ {β : Type} (ts : List TypeId) (cs : List AV) (off : Nat) (K : List AV → Option β), castPreAt P ts cs off K = (castPreAtD P ts cs off).bind K
  | _, [], _, _, K => by simp [castPreAtD, castPreAt]
  | _, t :: ts, cs, off, K => by unfold castPreAtD castPreAt; simp [castP1_lin, castPreAt_lin ts cs, Option.bind_assoc, cellAt_bind]
def castTPD (P : Program) (T : TypeId) (v : AV) : Option AV := castTP P T v some
theorem castTP_lin (T : TypeId) (v : AV) (K : AV → Option β) : castTP P T v K = (castTPD P T v).bind K := by
  unfold castTPD castTP
  cases isAggT P T <;> simp only [cond_true, cond_false]
  · rw [castP1_lin (K := K)]; rfl
  · simp [atAgg_bind, castPreAt_lin, Option.bind_assoc]
def loadTPD (P : Program) (T : TypeId) (cs : List AV) (off : Nat) : Option AV := loadTP P T cs off some
theorem loadTP_lin (T : TypeId) (cs : List AV) (off : Nat) (K : AV → Option β) : loadTP P T cs off K = (loadTPD P T cs off).bind K := by
  unfold loadTPD loadTP
  cases isAggT P T <;> simp only [cond_true, cond_false]
  · simp [cellAt_bind, castP1_lin]
  · simp [bif_bind, castPreAt_lin, Option.bind_assoc]

def frz1D (P : Program) (σ : Nat → Option Ob) (T : TypeId) (v : AV) : Option (AV × Upd) := frz1 P σ T v fun v u => some (v, u)
theorem frz1_lin (T : TypeId) (v : AV) (K : AV → Upd → Option β) : frz1 P σ T v K = (frz1D P σ T v).bind fun x => K x.1 x.2 := by
  unfold frz1D frz1
  (repeat' split) <;> simp
def frzCsD (P : Program) (σ : Nat → Option Ob) (ts : List TypeId) (cs : List AV) : Option (List AV × Upd) := frzCs P σ ts cs fun v u => some (v, u)
theorem frzCs_lin : ∀ {β : Type} (ts : List TypeId) (cs : List AV) (K : List AV → Upd → Option β), frzCs P σ ts cs K = (frzCsD P σ ts cs).bind fun x => K x.1 x.2
  | _, [], [], K => by simp [frzCsD, frzCs]
  | _, [], _ :: _, K => by simp [frzCsD, frzCs]
  | _, _ :: _, [], K => by simp [frzCsD, frzCs]
  | _, t :: ts, c :: cs, K => by unfold frzCsD frzCs; simp [frz1_lin, frzCs_lin ts cs, Option.bind_assoc]
def frzD (P : Program) (σ : Nat → Option Ob) (T : TypeId) (v : AV) : Option (AV × Upd) := frz P σ T v fun v u => some (v, u)
theorem frz_lin (T : TypeId) (v : AV) (K : AV → Upd → Option β) : frz P σ T v K = (frzD P σ T v).bind fun x => K x.1 x.2 := by
  unfold frzD frz
  cases isAggT P T <;> simp only [cond_true, cond_false]
  · rw [frz1_lin (K := K)]; rfl
  · split <;> simp [frzCs_lin, Option.bind_assoc]
def frzLD (P : Program) (σ : Nat → Option Ob) (ts : List TypeId) (cs : List AV) : Option (List AV × Upd) := frzL P σ ts cs fun v u => some (v, u)
theorem frzL_lin : ∀ {β : Type} (ts : List TypeId) (cs : List AV) (K : List AV → Upd → Option β), frzL P σ ts cs K = (frzLD P σ ts cs).bind fun x => K x.1 x.2
  | _, [], [], K => by simp [frzLD, frzL]
  | _, [], _ :: _, K => by simp [frzLD, frzL]
  | _, _ :: _, [], K => by simp [frzLD, frzL]
  | _, t :: ts, c :: cs, K => by unfold frzLD frzL; simp [frz_lin, frzL_lin ts cs, Option.bind_assoc]

def intOpD (op : BinOp) (k : IntKind) (a b : Int) : Option AV := intOp op k a b some
theorem intOp_lin (op : BinOp) (k : IntKind) (a b : Int) (K : AV → Option β) : intOp op k a b K = (intOpD op k a b).bind K := by
  unfold intOpD intOp
  split <;> first | rfl | (split <;> first | rfl | simp_all) | (cases decide (b = 0) <;> rfl)
def strOpD (op : BinOp) (a b : ByteArray) : Option AV := strOp op a b some
theorem strOp_lin (op : BinOp) (a b : ByteArray) (K : AV → Option β) : strOp op a b K = (strOpD op a b).bind K := by
  unfold strOpD strOp
  split <;> first | rfl | (simp only [bif_bind]; rfl)
def bopD (P : Program) (op : BinOp) (T : TypeId) (xo yo : Operand) (x y : AV) : Option AV := bop P op T xo yo x y some
theorem bop_lin (op : BinOp) (T : TypeId) (xo yo : Operand) (x y : AV) (K : AV → Option β) : bop P op T xo yo x y K = (bopD P op T xo yo x y).bind K := by
  unfold bopD bop nilOp nilB
  (repeat' split) <;> first | rfl | simp [bif_bind, bif_bind', intOp_lin, strOp_lin, Option.bind_assoc]
def uopD (op : UnOp) (x : AV) : Option AV := uop op x some
theorem uop_lin (op : UnOp) (x : AV) (K : AV → Option β) : uop op x K = (uopD op x).bind K := by
  unfold uopD uop
  split <;> rfl
def lenAVD (P : Program) (σ : Nat → Option Ob) (T : TypeId) (v : AV) : Option Nat := lenAV P σ T v some
theorem lenAV_lin (T : TypeId) (v : AV) (K : Nat → Option β) : lenAV P σ T v K = (lenAVD P σ T v).bind K := by
  unfold lenAVD lenAV
  (repeat' split) <;> simp [bif_bind]
def bound1D (x : Option AV) (d y : Nat) : Option Nat := bound1 x d y some
theorem bound1_lin (x : Option AV) (d y : Nat) (K : Nat → Option β) : bound1 x d y K = (bound1D x d y).bind K := by
  unfold bound1D bound1
  split <;> simp [bif_bind]
def sliceLD (sz : Nat) (xs : List AV) (lo hi : Option AV) (u : Upd) : Option (AV × Upd) := sliceL sz xs lo hi u fun v u => some (v, u)
theorem sliceL_lin (sz : Nat) (xs : List AV) (lo hi : Option AV) (u : Upd) (K : AV → Upd → Option β) : sliceL sz xs lo hi u K = (sliceLD sz xs lo hi u).bind fun x => K x.1 x.2 := by
  unfold sliceLD sliceL
  simp [bound1_lin, Option.bind_assoc]
def sliceD (P : Program) (σ : Nat → Option Ob) (T : TypeId) (x : AV) (lo hi : Option AV) : Option (AV × Upd) := sliceK P σ T x lo hi fun v u => some (v, u)
theorem slice_lin (T : TypeId) (x : AV) (lo hi : Option AV) (K : AV → Upd → Option β) : sliceK P σ T x lo hi K = (sliceD P σ T x lo hi).bind fun x => K x.1 x.2 := by
  unfold sliceD sliceK
  split
  · split <;> simp [bound1_lin, Option.bind_assoc]
  · rename_i e _
    cases P.cellsOf e == 0 <;> simp only [cond_true, cond_false]
    · split
      · simp [bif_bind, sliceL_lin, Option.bind_assoc]
      · simp [bound1_lin, Option.bind_assoc]
      · split
        · split <;> simp [bif_bind, bound1_lin, sliceL_lin, Option.bind_assoc]
        · rfl
      · split
        · split <;> simp [bif_bind, bound1_lin, sliceL_lin, Option.bind_assoc]
        · rfl
      · rfl
    · rfl
  · rfl
def fieldAddrD (P : Program) (σ : Nat → Option Ob) (S : TypeId) (x : AV) (f : Nat) : Option AV := fieldAddrK P σ S x f some
theorem fieldAddr_lin (S : TypeId) (x : AV) (f : Nat) (K : AV → Option β) : fieldAddrK P σ S x f K = (fieldAddrD P σ S x f).bind K := by
  unfold fieldAddrD fieldAddrK
  split
  · rename_i fd _
    cases P.cellsOf fd.type == 0 <;> simp only [cond_true, cond_false]
    · split <;> simp [bif_bind]
    · rfl
  · rfl
def idxOfD (i : AV) (n : Nat) : Option Nat := idxOf i n some
theorem idxOf_lin (i : AV) (n : Nat) (K : Nat → Option β) : idxOf i n K = (idxOfD i n).bind K := by
  unfold idxOfD idxOf
  split <;> simp [bif_bind]
def indexAddrD (P : Program) (σ : Nat → Option Ob) (T : TypeId) (x i : AV) : Option AV := indexAddrK P σ T x i some
theorem indexAddr_lin (T : TypeId) (x i : AV) (K : AV → Option β) : indexAddrK P σ T x i K = (indexAddrD P σ T x i).bind K := by
  unfold indexAddrD indexAddrK
  split
  · split
    · simp [bif_bind, idxOf_lin, Option.bind_assoc]
    · split <;> simp [bif_bind, idxOf_lin, Option.bind_assoc]
    · split <;> simp [bif_bind, idxOf_lin, Option.bind_assoc]
    · rfl
  · rename_i n e _
    cases P.cellsOf e == 0 <;> simp only [cond_true, cond_false]
    · split <;> simp [bif_bind, idxOf_lin, Option.bind_assoc]
    · rfl
  · rfl
def indexD (P : Program) (T : TypeId) (x i : AV) : Option AV := indexK P T x i some
theorem index_lin (T : TypeId) (x i : AV) (K : AV → Option β) : indexK P T x i K = (indexD P T x i).bind K := by
  unfold indexD indexK
  split
  · split <;> simp [idxOf_lin, Option.bind_assoc]
  · split
    · rename_i n e _
      cases (isAggT P e || !(P.cellsOf e == 1) || !(P.info? e).isSome) with
      | true => rfl
      | false =>
        simp only [cond_false]
        rw [idxOf_lin, idxOf_lin (K := fun j => cellAt _ j fun c => castP1 P _ c some), Option.bind_assoc]
        congr 1
        funext j
        rw [cellAt_bind]
        congr 1
        funext c
        rw [castP1_lin]; rfl
    · rfl
  · rfl
def loadD (P : Program) (σ : Nat → Option Ob) (T : TypeId) (p : AV) : Option AV := loadK P σ T p some
theorem load_lin (T : TypeId) (p : AV) (K : AV → Option β) : loadK P σ T p K = (loadD P σ T p).bind K := by
  unfold loadD loadK
  split
  · split
    · rw [bif_bind2, loadT_lin (K := K), loadTP_lin (K := K)]; rfl
    · rw [loadTP_lin (K := K)]; rfl
    · rfl
  · split
    · simp [loadTP_lin, Option.bind_assoc]
    · rfl
  · rw [loadTP_lin (K := K)]; rfl
  · rfl
def storeD (P : Program) (σ : Nat → Option Ob) (T : TypeId) (p x : AV) : Option (AV × Upd) := storeK P σ T p x fun v u => some (v, u)
theorem store_lin (T : TypeId) (p x : AV) (K : AV → Upd → Option β) : storeK P σ T p x K = (storeD P σ T p x).bind fun x => K x.1 x.2 := by
  unfold storeD storeK
  split
  · split <;> simp [bif_bind]
  · split
    · simp [frz_lin, Option.bind_assoc, bif_bind]
    · rfl
  · rfl
def buildD (P : Program) (T : TypeId) (ps : List (Nat × AV)) : Option AV := buildK P T ps some
theorem build_lin (T : TypeId) (ps : List (Nat × AV)) (K : AV → Option β) : buildK P T ps K = (buildD P T ps).bind K := by
  unfold buildD buildK
  split <;> simp [bif_bind, Option.bind_assoc]
def frzPartsD (P : Program) (σ : Nat → Option Ob) (e : TypeId) (l : List (Nat × AV)) : Option (List (Nat × AV) × Upd) := frzParts P σ e l fun l u => some (l, u)
theorem frzParts_lin (e : TypeId) : ∀ {β : Type} (l : List (Nat × AV)) (K : List (Nat × AV) → Upd → Option β), frzParts P σ e l K = (frzPartsD P σ e l).bind fun x => K x.1 x.2
  | _, [], K => by simp [frzPartsD, frzParts]
  | _, (i, v) :: l, K => by unfold frzPartsD frzParts; simp [frz_lin, frzParts_lin e l, Option.bind_assoc, bif_bind]
def srcD (P : Program) (σ : Nat → Option Ob) (e : TypeId) (x : AV) : Option (List AV) := srcK P σ e x some
theorem src_lin (e : TypeId) (x : AV) (K : List AV → Option β) : srcK P σ e x K = (srcD P σ e x).bind K := by
  unfold srcD srcK
  (repeat' split) <;> simp [bif_bind]
def convD (P : Program) (σ : Nat → Option Ob) (src dst : TypeId) (x : AV) : Option AV := conv P σ src dst x some
theorem conv_lin (src dst : TypeId) (x : AV) (K : AV → Option β) : conv P σ src dst x K = (convD P σ src dst x).bind K := by
  unfold convD conv
  (repeat' split) <;> simp [bif_bind, src_lin, Option.bind_assoc]
def convOwnD (P : Program) (σ : Nat → Option Ob) (T : TypeId) (x : AV) : Option (AV × Upd) := convOwn P σ T x fun v u => some (v, u)
theorem convOwn_lin (T : TypeId) (x : AV) (K : AV → Upd → Option β) : convOwn P σ T x K = (convOwnD P σ T x).bind fun x => K x.1 x.2 := by
  unfold convOwnD convOwn
  (repeat' split) <;> simp [bif_bind]
abbrev R3 := AV × Upd × New
def some3 (v : AV) (u : Upd) (n : New) : Option R3 := some (v, u, n)
def b3 (x : Option R3) (K : AV → Upd → New → Option β) : Option β := x.bind fun x => K x.1 x.2.1 x.2.2
theorem some3_bind (v : AV) (u : Upd) (n : New) (f : R3 → Option β) : (some3 v u n).bind f = f (v, u, n) := rfl
def growD (P : Program) (dst : Nat) (e : TypeId) (u : Upd) (xs : List AV) (fz : Bool) (ys : List AV) : Option R3 := growK P dst e u xs fz ys some3
theorem grow_lin (dst : Nat) (e : TypeId) (u : Upd) (xs : List AV) (fz : Bool) (ys : List AV) (K : AV → Upd → New → Option β) : growK P dst e u xs fz ys K = (growD P dst e u xs fz ys).bind fun x => K x.1 x.2.1 x.2.2 := by
  unfold growD growK
  simp [bif_bind, some3_bind]
def appendD (P : Program) (σ : Nat → Option Ob) (dst : Nat) (T : TypeId) (s x : AV) : Option R3 := appendK P σ dst T s x some3
theorem append_lin (dst : Nat) (T : TypeId) (s x : AV) (K : AV → Upd → New → Option β) : appendK P σ dst T s x K = (appendD P σ dst T s x).bind fun x => K x.1 x.2.1 x.2.2 := by
  unfold appendD appendK
  split
  · simp only [src_lin, bif_bind, Option.bind_assoc]
    congr 1
    congr 1
    funext ys
    (repeat' split) <;> simp [bif_bind, grow_lin, Option.bind_assoc, some3_bind]
  · rfl
def makeD (P : Program) (dst : Nat) (T : TypeId) (l c : AV) : Option R3 := makeK P dst T l c some3
theorem make_lin (dst : Nat) (T : TypeId) (l c : AV) (K : AV → Upd → New → Option β) : makeK P dst T l c K = (makeD P dst T l c).bind fun x => K x.1 x.2.1 x.2.2 := by
  unfold makeD makeK
  (repeat' split) <;> simp [bif_bind, some3_bind]
def recv1D (P : Program) (fl : Bool) (nm : Nat) (T : TypeId) (r : AV) : Option (AV × New) := recv1 P fl nm T r fun v n => some (v, n)
theorem recv1_lin (fl : Bool) (nm : Nat) (T : TypeId) (r : AV) (K : AV → New → Option β) : recv1 P fl nm T r K = (recv1D P fl nm T r).bind fun x => K x.1 x.2 := by
  unfold recv1D recv1
  cases fl <;> simp only [cond_true, cond_false]
  · cases r.isFresh <;> simp [castTP_lin, Option.bind_assoc]
  · split <;> simp [bif_bind]
def recvLD (P : Program) (nt : Nat) (nm : Nat) (fl : List Bool) (ts : List TypeId) (rs : List AV) : Option (List AV × New) := recvL P nt nm fl ts rs fun v n => some (v, n)
theorem recvL_lin (nt : Nat) : ∀ {β : Type} (nm : Nat) (fl : List Bool) (ts : List TypeId) (rs : List AV) (K : List AV → New → Option β), recvL P nt nm fl ts rs K = (recvLD P nt nm fl ts rs).bind fun x => K x.1 x.2
  | _, nm, fl, [], [], K => by simp [recvLD, recvL, atNil, atCons]
  | _, nm, fl, [], _ :: _, K => by simp [recvLD, recvL, atNil, atCons]
  | _, nm, fl, _ :: _, [], K => by simp [recvLD, recvL, atNil, atCons]
  | _, nm, fl, t :: ts, r :: rs, K => by unfold recvLD recvL; simp [atCons, recv1_lin, recvL_lin nt (nm + nt) fl.tail ts rs, Option.bind_assoc]
theorem atTup_bind {γ : Type} (v : AV) (K : List AV → Option γ) (f : γ → Option β) : (atTup v K).bind f = atTup v fun c => (K c).bind f := by
  unfold atTup
  split <;> rfl
theorem atNil_bind {γ : Type} (l : List AV) (x : Option γ) (f : γ → Option β) : (atNil l x).bind f = atNil l (x.bind f) := by
  unfold atNil
  split <;> rfl
def recvD (P : Program) (nt : Nat) (fl : List Bool) (dst : Nat) (T : TypeId) (r : AV) : Option (AV × New) := recv P nt fl dst T r fun v n => some (v, n)
theorem recv_lin (nt : Nat) (fl : List Bool) (dst : Nat) (T : TypeId) (r : AV) (K : AV → New → Option β) : recv P nt fl dst T r K = (recvD P nt fl dst T r).bind fun x => K x.1 x.2 := by
  unfold recvD recv
  split
  · simp [recvL_lin, Option.bind_assoc, bif_bind, atTup_bind]
  · simp [atTup_bind, atNil_bind]
  · cases AV.isTup r <;> simp [recv1_lin, Option.bind_assoc]
def lookVD (P : Program) (e : TypeId) (o : Option AV) (ok : Bool) : Option AV := lookV P e o ok some
theorem lookV_lin (e : TypeId) (o : Option AV) (ok : Bool) (K : AV → Option β) : lookV P e o ok K = (lookVD P e o ok).bind K := by
  unfold lookVD lookV
  cases ok <;> simp [castTP_lin, Option.bind_assoc]
def lookupD (P : Program) (σ : Nat → Option Ob) (T : TypeId) (x i : AV) (ok : Bool) : Option AV := lookupK P σ T x i ok some
theorem lookup_lin (T : TypeId) (x i : AV) (ok : Bool) (K : AV → Option β) : lookupK P σ T x i ok K = (lookupD P σ T x i ok).bind K := by
  unfold lookupD lookupK
  (repeat' split) <;> simp [bif_bind, lookV_lin, Option.bind_assoc]
def mapPutD (P : Program) (σ : Nat → Option Ob) (T : TypeId) (m i v : AV) : Option (AV × Upd) := mapPutK P σ T m i v fun v u => some (v, u)
theorem mapPut_lin (T : TypeId) (m i v : AV) (K : AV → Upd → Option β) : mapPutK P σ T m i v K = (mapPutD P σ T m i v).bind fun x => K x.1 x.2 := by
  unfold mapPutD mapPutK
  (repeat' split) <;> simp [bif_bind, bif_bind', frz_lin, Option.bind_assoc]
def mapDelD (P : Program) (σ : Nat → Option Ob) (T : TypeId) (m i : AV) : Option (AV × Upd) := mapDelK P σ T m i fun v u => some (v, u)
theorem mapDel_lin (T : TypeId) (m i : AV) (K : AV → Upd → Option β) : mapDelK P σ T m i K = (mapDelD P σ T m i).bind fun x => K x.1 x.2 := by
  unfold mapDelD mapDelK
  (repeat' split) <;> simp
def lendCsD (P : Program) (σ : Nat → Option Ob) (hd : List Nat) (i : Nat) (ts : List TypeId) (cs : List AV) : Option (List AV × Upd) := lendCs P σ hd i ts cs fun v u => some (v, u)
theorem lendCs_lin (hd : List Nat) : ∀ {β : Type} (i : Nat) (ts : List TypeId) (cs : List AV) (K : List AV → Upd → Option β), lendCs P σ hd i ts cs K = (lendCsD P σ hd i ts cs).bind fun x => K x.1 x.2
  | _, i, [], [], K => by simp [lendCsD, lendCs]
  | _, i, [], _ :: _, K => by simp [lendCsD, lendCs]
  | _, i, _ :: _, [], K => by simp [lendCsD, lendCs]
  | _, i, t :: ts, c :: cs, K => by
    unfold lendCsD lendCs
    cases hd.contains i <;> simp [frz1_lin, lendCs_lin hd (i + 1) ts cs, Option.bind_assoc]
abbrev L3 := AV × Upd × Lk
def lend1D (P : Program) (σ : Nat → Option Ob) (hd : List Nat) (T : TypeId) (v : AV) : Option L3 := lend1 P σ hd T v fun v u k => some (v, u, k)
theorem lend1_lin (hd : List Nat) (T : TypeId) (v : AV) (K : AV → Upd → Lk → Option β) : lend1 P σ hd T v K = (lend1D P σ hd T v).bind fun x => K x.1 x.2.1 x.2.2 := by
  unfold lend1D lend1
  (repeat' split) <;> simp [lendCs_lin, Option.bind_assoc]
def give1D (P : Program) (σ : Nat → Option Ob) (T : TypeId) (v : AV) : Option L3 := give1 P σ T v fun v u k => some (v, u, k)
theorem give1_lin (T : TypeId) (v : AV) (K : AV → Upd → Lk → Option β) : give1 P σ T v K = (give1D P σ T v).bind fun x => K x.1 x.2.1 x.2.2 := by
  unfold give1D give1
  (repeat' split) <;> simp [bif_bind']
def lendLD (P : Program) (σ : Nat → Option Ob) (hd : List Nat) (ln : List Nat) (ts : List TypeId) (cs : List AV) : Option (List AV × Upd × List Lk) := lendL P σ hd ln ts cs fun v u k => some (v, u, k)
theorem lendL_lin (hd : List Nat) : ∀ {β : Type} (ln : List Nat) (ts : List TypeId) (cs : List AV) (K : List AV → Upd → List Lk → Option β), lendL P σ hd ln ts cs K = (lendLD P σ hd ln ts cs).bind fun x => K x.1 x.2.1 x.2.2
  | _, ln, [], [], K => by simp [lendLD, lendL]
  | _, ln, [], _ :: _, K => by simp [lendLD, lendL]
  | _, ln, _ :: _, [], K => by simp [lendLD, lendL]
  | _, ln, t :: ts, c :: cs, K => by
    unfold lendLD lendL
    split <;> simp [frz_lin, lend1_lin, give1_lin, lendL_lin hd ln.tail ts cs, Option.bind_assoc]
theorem atCons_bind {γ : Type} (l : List AV) (K : AV → List AV → Option γ) (f : γ → Option β) : (atCons l K).bind f = atCons l fun a b => (K a b).bind f := by
  unfold atCons
  split <;> rfl
theorem atHold_bind {γ : Type} (v : AV) (x : Option γ) (f : γ → Option β) : (atHold v x).bind f = atHold v (x.bind f) := by
  unfold atHold
  split <;> rfl
theorem atBack_bind {γ : Type} (v : AV) (K : AV → List AV → Option γ) (f : γ → Option β) : (atBack v K).bind f = atBack v fun a b => (K a b).bind f := by
  unfold atBack
  split <;> rfl
theorem atLent_bind {γ : Type} (v : AV) (K : List AV → Option γ) (f : γ → Option β) : (atLent v K).bind f = atLent v fun a => (K a).bind f := by
  unfold atLent
  split <;> rfl
theorem atLmap_bind {γ : Type} (v : AV) (K : List (ByteArray × AV) → Option γ) (f : γ → Option β) : (atLmap v K).bind f = atLmap v fun a => (K a).bind f := by
  unfold atLmap
  split <;> rfl
theorem atLrow_bind {γ : Type} (e : TypeId) (v : AV) (K : List AV → Option γ) (f : γ → Option β) : (atLrow e v K).bind f = atLrow e v fun a => (K a).bind f := by
  unfold atLrow
  split
  · rw [bif_bind]
  · rfl
def backCsD (P : Program) (hd : List Nat) (i : Nat) (ts : List TypeId) (cs ls : List AV) : Option (List AV) := backCs P hd i ts cs ls some
theorem backCs_lin (hd : List Nat) : ∀ {β : Type} (i : Nat) (ts : List TypeId) (cs ls : List AV) (K : List AV → Option β), backCs P hd i ts cs ls K = (backCsD P hd i ts cs ls).bind K
  | _, i, [], [], ls, K => by simp [backCsD, backCs, atNil_bind]
  | _, i, [], _ :: _, ls, K => by simp [backCsD, backCs]
  | _, i, _ :: _, [], ls, K => by simp [backCsD, backCs]
  | _, i, t :: ts, c :: cs, ls, K => by
    unfold backCsD backCs
    rw [atCons_bind]
    congr 1
    funext x l
    cases hd.contains i
    · simp only [cond_false, castP1_lin, backCs_lin hd (i + 1) ts cs l, Option.bind_assoc, Option.bind_some]
    · simp only [cond_true, backCs_lin hd (i + 1) ts cs l, atHold_bind, Option.bind_assoc, Option.bind_some]
def backLD (P : Program) (hd : List Nat) (ks : List Lk) (ls : List AV) : Option Upd := backL P hd ks ls some
theorem backL_lin (hd : List Nat) : ∀ {β : Type} (ks : List Lk) (ls : List AV) (K : Upd → Option β), backL P hd ks ls K = (backLD P hd ks ls).bind K
  | _, [], ls, K => by simp [backLD, backL, atNil_bind]
  | _, .box r ts cs :: ks, ls, K => by
    unfold backLD backL
    simp only [atCons_bind, atLent_bind, backCs_lin, Option.bind_assoc]
    congr 1
    funext x l
    congr 1
    funext y
    congr 1
    funext z
    rw [backL_lin hd ks l, backL_lin hd ks l (K := fun u => some _), Option.bind_assoc]
    rfl
  | _, .map r :: ks, ls, K => by
    unfold backLD backL
    simp only [atCons_bind, atLmap_bind]
    congr 1
    funext x l
    congr 1
    funext y
    rw [backL_lin hd ks l, backL_lin hd ks l (K := fun u => some _), Option.bind_assoc]
    rfl
  | _, .row r e n :: ks, ls, K => by
    unfold backLD backL
    simp only [atCons_bind, atLrow_bind]
    congr 1
    funext x l
    congr 1
    funext y
    rw [bif_bind, backL_lin hd ks l, backL_lin hd ks l (K := fun u => some _), Option.bind_assoc]
    rfl
  | _, .give r :: ks, ls, K => by
    unfold backLD backL
    rw [backL_lin hd ks ls, backL_lin hd ks ls (K := fun u => some _), Option.bind_assoc]
    rfl
  | _, .none :: ks, ls, K => by
    unfold backLD backL
    exact backL_lin hd ks ls K
def callD (C : Cfg) (nt : Nat) (σ : Nat → Option Ob) (dst : Nat) (T : TypeId) (f : FuncId) (ts : List TypeId) (vs : List AV) (cap : List AV) : Option R3 := callK C nt σ dst T f ts vs cap some3
theorem call_lin (nt : Nat) (dst : Nat) (T : TypeId) (f : FuncId) (ts : List TypeId) (vs : List AV) (cap : List AV) (K : AV → Upd → New → Option β) : callK C nt σ dst T f ts vs cap K = (callD C nt σ dst T f ts vs cap).bind fun x => K x.1 x.2.1 x.2.2 := by
  unfold callD callK
  split
  · simp [frzL_lin, recv_lin, Option.bind_assoc, some3_bind]
  · simp [lendL_lin, backL_lin, recv_lin, bif_bind, atBack_bind, Option.bind_assoc, some3_bind]
def builtinD (C : Cfg) (σ : Nat → Option Ob) (dst : Nat) (b : Builtin) (ts : List TypeId) (vs : List AV) : Option R3 := builtinK C σ dst b ts vs some3
theorem builtin_lin (dst : Nat) (b : Builtin) (ts : List TypeId) (vs : List AV) (K : AV → Upd → New → Option β) : builtinK C σ dst b ts vs K = (builtinD C σ dst b ts vs).bind fun x => K x.1 x.2.1 x.2.2 := by
  unfold builtinD builtinK
  (repeat' split) <;> simp [bif_bind, lenAV_lin, append_lin, mapDel_lin, Option.bind_assoc, some3_bind]
def rangeD (P : Program) (dst : Nat) (T : TypeId) (x : AV) : Option R3 := rangeK P dst T x some3
theorem range_lin (dst : Nat) (T : TypeId) (x : AV) (K : AV → Upd → New → Option β) : rangeK P dst T x K = (rangeD P dst T x).bind fun x => K x.1 x.2.1 x.2.2 := by
  unfold rangeD rangeK
  (repeat' split) <;> simp [some3_bind]
def nextD (σ : Nat → Option Ob) (x : AV) : Option (AV × Upd) := nextK σ x fun v u => some (v, u)
theorem next_lin (x : AV) (K : AV → Upd → Option β) : nextK σ x K = (nextD σ x).bind fun x => K x.1 x.2 := by
  unfold nextD nextK
  (repeat' split) <;> simp [bif_bind2]
def capD (σ : Nat → Option Ob) (vs : List AV) : Option (List AV × Upd) := capK σ vs fun l u => some (l, u)
def cap1D (σ : Nat → Option Ob) (v : AV) : Option (AV × Upd) := cap1 σ v fun l u => some (l, u)
theorem cap1_lin (v : AV) (K : AV → Upd → Option β) : cap1 σ v K = (cap1D σ v).bind fun x => K x.1 x.2 := by
  unfold cap1D cap1
  (repeat' split) <;> simp [bif_bind2]
theorem cap_lin : ∀ {β : Type} (vs : List AV) (K : List AV → Upd → Option β), capK σ vs K = (capD σ vs).bind fun x => K x.1 x.2
  | _, [], K => rfl
  | _, c :: cs, K => by unfold capD capK; simp [cap1_lin, cap_lin cs, Option.bind_assoc]
def opD (C : Cfg) (nt : Nat) (o : Oper) (vs : List AV) (σ : Nat → Option Ob) : Option R3 := opk C nt o vs σ some3
theorem op_lin (nt : Nat) (o : Oper) (vs : List AV) (K : AV → Upd → New → Option β) : opk C nt o vs σ K = (opD C nt o vs σ).bind fun x => K x.1 x.2.1 x.2.2 := by
  unfold opD opk
  simp only
  split <;> first
    | rfl
    | (simp [bif_bind, some3_bind, build_lin, frzParts_lin, load_lin, store_lin, bop_lin, uop_lin, conv_lin, make_lin, range_lin, next_lin, fieldAddr_lin, indexAddr_lin, index_lin, lookup_lin, mapPut_lin, convOwn_lin, cap_lin, bif_bind2, Option.bind_assoc]; done)
    | (split <;> first
      | rfl
      | (simp [bif_bind, some3_bind, build_lin, frzParts_lin, load_lin, store_lin, bop_lin, uop_lin, conv_lin, make_lin, slice_lin, call_lin, builtin_lin, Option.bind_assoc]; done)
      | (cases ‹Bool› <;> rfl))
end Go.Proofs.YtbkhmkcmbaffoaaGreatDoor.Eng


/- The engine, part 19: drawn orders. What two operations that no edge orders do, they do in either order. -/
set_option linter.unusedVariables false
set_option linter.unusedSimpArgs false
namespace Go.Proofs.YtbkhmkcmbaffoaaGreatDoor.Eng
open Go Go.RowKit
variable {P : Program} {S0 S S' : Stab} {W : Ent} {w w' : World} {gv gv' : Nat → Value} {fr fr' : Fr} {a : Act} {β : Type}
variable {C : Cfg} {r : β}

def putT (fr : Fr) (d : Option Tmp) (t : Tr) : Fr := fr.put d t.2.1 t.2.2.1 t.2.2.2
def stepUE (C : Cfg) (o : Oper) (fr : Fr) : Option Tr :=
  (opD C fr.sl.length o ((opnds o.op).map (fr.val C)) (restr (lookN o ((opnds o.op).map (fr.val C))) fr.obj)).bind fun x =>
    bif x.2.2.all fun y => decide (y.1 < 4 * fr.sl.length) && !C.rs.contains y.1 then some (lookN o ((opnds o.op).map (fr.val C)), x) else none
theorem stepU_lin (o : Oper) (fr : Fr) (K : Fr → Tr → Option β) : stepU C o fr K = (stepUE C o fr).bind fun t => K (putT fr o.dst t) t := by
  unfold stepU stepUE putT
  simp only [op_lin, Option.bind_assoc, bif_bind]
  rfl
def stepE (C : Cfg) (all : List Oper) (o : Oper) (fr : Fr) : Option Tr :=
  match o.guard with
  | none => stepUE C o fr
  | some (j, want) => (match (all[j]?).bind (·.dst) with
    | some t => (match fr.get t with
      | .bool q => bif q == want then stepUE C o fr else some ([], .und, [], [])
      | .und => some ([], .und, [], [])
      | _ => none)
    | none => none)
theorem step_lin (all : List Oper) (o : Oper) (fr : Fr) (K : Fr → Tr → Option β) : step C all o fr K = (stepE C all o fr).bind fun t => K (putT fr o.dst t) t := by
  unfold step stepE
  generalize o.guard = g
  cases g with
  | none => exact stepU_lin o fr K
  | some p =>
    obtain ⟨j, want⟩ := p
    simp only
    generalize (all[j]?).bind (fun x => x.dst) = ot
    cases ot with
    | none => rfl
    | some t =>
      simp only
      cases hq : fr.get t with
      | bool q =>
        have hset : ({ fr with sl := fr.sl.set t (.bool q) } : Fr) = fr := fr_set_same hq (by simp)
        cases q <;> cases want <;> simp only [cond_true, cond_false, hset, stepU_lin] <;> rfl
      | und =>
        have hset : ({ fr with sl := fr.sl.set t .und } : Fr) = fr := fr_set_same hq (by simp)
        simp only [hset]
        rfl
      | _ => rfl

def Chain (C : Cfg) (all : List Oper) : List Oper → Fr → List Tr → Prop
  | [], _, ts => ts = []
  | o :: l, fr, t :: ts => stepE C all o fr = some t ∧ Chain C all l (putT fr o.dst t) ts
  | _ :: _, _, [] => False
def runT : List Oper → List Tr → Fr → Fr
  | o :: l, t :: ts, fr => runT l ts (putT fr o.dst t)
  | _, _, fr => fr
theorem ops_chain {all : List Oper} : ∀ {l : List Oper} {fr : Fr} {tr : List Tr} {K : Fr → List Tr → Option β}, ops C all l fr tr K = some r → ∃ ts, Chain C all l fr ts ∧ K (runT l ts fr) (tr ++ ts) = some r
  | [], fr, tr, K, h => ⟨[], rfl, by simpa [ops, runT] using h⟩
  | o :: l, fr, tr, K, h => by
    simp only [ops, step_lin] at h
    cases he : stepE C all o fr with
    | none => rw [he] at h; cases h
    | some t =>
      rw [he] at h
      obtain ⟨ts, hc, hK⟩ := ops_chain (l := l) h
      exact ⟨t :: ts, ⟨he, hc⟩, by simpa [runT, List.append_assoc] using hK⟩

/-! ### Events and the cells they write -/
abbrev Ev := Option Tmp × Tr
def patch (e : Ev) (fr : Fr) : Fr := { sl := setD fr.sl e.1 e.2.2.1, ob := addN (applyU fr.ob e.2.2.2.1) e.2.2.2.2 }
def play (ev : Nat → Ev) (σ : List Nat) (fr : Fr) : Fr := σ.foldl (fun fr i => patch (ev i) fr) fr
inductive Cell where
  | slot (t : Nat)
  | obj (r : Nat)
def agree (fr fr' : Fr) : Cell → Prop
  | .slot t => fr.get t = fr'.get t
  | .obj r => fr.obj r = fr'.obj r
def writes (e : Ev) : Cell → Bool
  | .slot t => e.1 == some t
  | .obj r => (trKeys e.2).contains r
def lens (fr fr' : Fr) : Prop := fr.sl.length = fr'.sl.length ∧ fr.ob.length = fr'.ob.length

theorem applyU_len : ∀ (u : Upd) (ob : List (Option Ob)), (applyU ob u).length = ob.length
  | [], ob => rfl
  | (r, x) :: u, ob => by simp [applyU, applyU_len u]
theorem addN_len : ∀ (n : New) (ob : List (Option Ob)), (addN ob n).length = ob.length
  | [], ob => rfl
  | (r, x) :: n, ob => by simp [addN, addN_len n]
theorem lens_patch (e : Ev) (fr : Fr) : lens (patch e fr) fr := ⟨by simp [patch, setD_length], by simp [patch, addN_len, applyU_len]⟩
theorem lens_play (ev : Nat → Ev) : ∀ (σ : List Nat) (fr : Fr), lens (play ev σ fr) fr
  | [], fr => ⟨rfl, rfl⟩
  | i :: σ, fr => by
    have h1 := lens_play ev σ (patch (ev i) fr)
    have h2 := lens_patch (ev i) fr
    exact ⟨h1.1.trans h2.1, h1.2.trans h2.2⟩
theorem getD_set' {γ : Type} {l l' : List γ} {r x : Nat} {d v : γ} (hl : l.length = l'.length) (h : l.getD r d = l'.getD r d) : (l.set x v).getD r d = (l'.set x v).getD r d := by
  simp only [List.getD_eq_getElem?_getD, List.getElem?_set] at h ⊢
  split
  · rw [hl]
  · exact h
theorem getD_set_ne {γ : Type} {l : List γ} {r x : Nat} {d v : γ} (h : x ≠ r) : (l.set x v).getD r d = l.getD r d := by
  simp [List.getD_eq_getElem?_getD, List.getElem?_set, h]
theorem applyU_agree : ∀ {u : Upd} {ob ob' : List (Option Ob)} {r : Nat}, ob.length = ob'.length → ob.getD r none = ob'.getD r none → (applyU ob u).getD r none = (applyU ob' u).getD r none
  | [], ob, ob', r, hl, h => h
  | (x, v) :: u, ob, ob', r, hl, h => applyU_agree (u := u) (by simpa using hl) (getD_set' hl h)
theorem addN_agree : ∀ {n : New} {ob ob' : List (Option Ob)} {r : Nat}, ob.length = ob'.length → ob.getD r none = ob'.getD r none → (addN ob n).getD r none = (addN ob' n).getD r none
  | [], ob, ob', r, hl, h => h
  | (x, v) :: n, ob, ob', r, hl, h => addN_agree (n := n) (by simpa using hl) (getD_set' hl h)
theorem applyU_ne : ∀ {u : Upd} {ob : List (Option Ob)} {r : Nat}, r ∉ u.map (·.1) → (applyU ob u).getD r none = ob.getD r none
  | [], ob, r, h => rfl
  | (x, v) :: u, ob, r, h => by
    simp only [List.map_cons, List.mem_cons, not_or] at h
    rw [applyU, applyU_ne (u := u) h.2, getD_set_ne (fun e => h.1 e.symm)]
theorem addN_ne : ∀ {n : New} {ob : List (Option Ob)} {r : Nat}, r ∉ n.map (·.1) → (addN ob n).getD r none = ob.getD r none
  | [], ob, r, h => rfl
  | (x, v) :: n, ob, r, h => by
    simp only [List.map_cons, List.mem_cons, not_or] at h
    rw [addN, addN_ne (n := n) h.2, getD_set_ne (fun e => h.1 e.symm)]

theorem patch_agree {e : Ev} {c : Cell} (hl : lens fr fr') (h : agree fr fr' c) : agree (patch e fr) (patch e fr') c := by
  cases c with
  | slot t =>
    simp only [agree, Fr.get, patch] at h ⊢
    cases he : e.1 with
    | none => exact h
    | some d => exact getD_set' hl.1 h
  | obj r => exact addN_agree (by simp [applyU_len, hl.2]) (applyU_agree hl.2 h)
theorem patch_other {e : Ev} {c : Cell} (h : writes e c = false) : agree (patch e fr) fr c := by
  cases c with
  | slot t =>
    simp only [agree, Fr.get, patch, writes] at h ⊢
    cases he : e.1 with
    | none => rfl
    | some d => exact getD_set_ne (fun hd => by rw [he, hd] at h; simp at h)
  | obj r =>
    simp only [writes, trKeys] at h
    have h : r ∉ e.2.2.2.1.map (·.1) ++ e.2.2.2.2.map (·.1) := fun hm => by rw [List.contains_iff_mem.2 hm] at h; cases h
    simp only [List.mem_append, not_or] at h
    simp only [agree, Fr.obj, patch]
    rw [addN_ne h.2, applyU_ne h.1]
theorem agree_trans {fr1 fr2 fr3 : Fr} {c : Cell} (h : agree fr1 fr2 c) (h' : agree fr2 fr3 c) : agree fr1 fr3 c := by
  cases c <;> exact Eq.trans h h'
theorem agree_symm {fr1 fr2 : Fr} {c : Cell} (h : agree fr1 fr2 c) : agree fr2 fr1 c := by cases c <;> exact Eq.symm h
theorem agree_refl {fr1 : Fr} {c : Cell} : agree fr1 fr1 c := by cases c <;> rfl
theorem play_filter {ev : Nat → Ev} {c : Cell} : ∀ {σ : List Nat} {fr fr' : Fr}, lens fr fr' → agree fr fr' c → agree (play ev σ fr) (play ev (σ.filter fun i => writes (ev i) c) fr') c
  | [], fr, fr', hl, h => h
  | i :: σ, fr, fr', hl, h => by
    have l1 := lens_patch (ev i) fr
    have l2 := lens_patch (ev i) fr'
    cases hw : writes (ev i) c with
    | true =>
      rw [List.filter_cons_of_pos (by simpa using hw)]
      exact play_filter (σ := σ) (fr := patch (ev i) fr) ⟨l1.1.trans (hl.1.trans l2.1.symm), l1.2.trans (hl.2.trans l2.2.symm)⟩ (patch_agree hl h)
    | false =>
      rw [List.filter_cons_of_neg (by rw [hw]; simp)]
      exact play_filter (σ := σ) (fr := patch (ev i) fr) ⟨l1.1.trans hl.1, l1.2.trans hl.2⟩ (agree_trans (patch_other hw) h)
theorem sorted_eq : ∀ {l l' : List Nat}, l.Pairwise (· < ·) → l'.Pairwise (· < ·) → (∀ i, i ∈ l ↔ i ∈ l') → l = l'
  | [], [], _, _, _ => rfl
  | [], b :: l', _, _, h => by have := (h b).2 (by simp); cases this
  | a :: l, [], _, _, h => by have := (h a).1 (by simp); cases this
  | a :: l, b :: l', h1, h2, h => by
    rw [List.pairwise_cons] at h1 h2
    have ha : a = b ∨ a ∈ l' := by simpa using (h a).1 (by simp)
    have hb : b = a ∨ b ∈ l := by simpa using (h b).2 (by simp)
    have e : a = b := by
      rcases ha with e | ha
      · exact e
      · rcases hb with e | hb
        · exact e.symm
        · have := h1.1 b hb; have := h2.1 a ha; omega
    subst e
    rw [sorted_eq h1.2 h2.2 fun i => ?_]
    constructor
    · intro hi
      have := (h i).1 (by simp [hi])
      rcases List.mem_cons.1 this with e | h'
      · have := h1.1 i hi; omega
      · exact h'
    · intro hi
      have := (h i).2 (by simp [hi])
      rcases List.mem_cons.1 this with e | h'
      · have := h2.1 i hi; omega
      · exact h'

/-! ### What must come before -/
inductive Bef (l : List Oper) (i : Nat) : Nat → Prop where
  | one {j : Nat} {o : Oper} {e : Edge} : l[j]? = some o → e ∈ o.after.toList → Region.binds .any e = true → e.on = i → Bef l i j
  | more {j : Nat} {o : Oper} {e : Edge} : l[j]? = some o → e ∈ o.after.toList → Region.binds .any e = true → Bef l i e.on → Bef l i j

theorem fold_bits {acc : List Nat} {i : Nat} : ∀ {es : List Edge} {s : Nat}, (es.foldl (fun s e => bif Region.binds .any e then s ||| 2 ^ e.on ||| acc.getD e.on 0 else s) s).testBit i = true →
    s.testBit i = true ∨ ∃ e ∈ es, Region.binds .any e = true ∧ (e.on = i ∨ (acc.getD e.on 0).testBit i = true)
  | [], s, h => .inl h
  | e :: es, s, h => by
    rw [List.foldl_cons] at h
    rcases fold_bits (es := es) h with h | ⟨e', he, hb, h⟩
    · cases hb : Region.binds .any e with
      | false => rw [hb] at h; exact .inl h
      | true =>
        rw [hb] at h
        simp only [cond_true, Nat.testBit_or, Nat.testBit_two_pow, Bool.or_eq_true, decide_eq_true_eq] at h
        rcases h with (h | h) | h
        · exact .inl h
        · exact .inr ⟨e, by simp, hb, .inl h⟩
        · exact .inr ⟨e, by simp, hb, .inr h⟩
    · exact .inr ⟨e', by simp [he], hb, h⟩
theorem befores_go {l : List Oper} : ∀ {l2 : List Oper} {acc : List Nat}, (∀ k, l2[k]? = l[acc.length + k]?) → (∀ j i, (acc.getD j 0).testBit i = true → Bef l i j) →
    ∀ j i, ((l2.foldl (fun acc o => acc ++ [o.after.toList.foldl (fun s e => bif Region.binds .any e then s ||| 2 ^ e.on ||| acc.getD e.on 0 else s) 0]) acc).getD j 0).testBit i = true → Bef l i j
  | [], acc, hl, h, j, i, ht => h j i ht
  | o :: l2, acc, hl, h, j, i, ht => by
    rw [List.foldl_cons] at ht
    refine befores_go (l2 := l2) (fun k => ?_) (fun j i ht => ?_) j i ht
    · have := hl (k + 1)
      simp only [List.getElem?_cons_succ] at this
      rw [this]; simp; congr 1; omega
    · by_cases hj : j < acc.length
      · rw [List.getD_eq_getElem?_getD, List.getElem?_append_left hj, ← List.getD_eq_getElem?_getD] at ht
        exact h j i ht
      · rw [List.getD_eq_getElem?_getD, List.getElem?_append_right (by omega)] at ht
        by_cases hj2 : j = acc.length
        · subst hj2
          simp only [Nat.sub_self, List.getElem?_cons_zero, Option.getD_some] at ht
          have ho : l[acc.length]? = some o := by have := hl 0; simpa using this.symm
          rcases fold_bits ht with h0 | ⟨e, he, hb, h1⟩
          · simp at h0
          · rcases h1 with h1 | h1
            · exact .one ho he hb h1
            · exact .more ho he hb (h _ _ h1)
        · have : j - acc.length = (j - acc.length - 1) + 1 := by omega
          rw [this] at ht
          simp at ht
theorem befores_ok {l : List Oper} {i j : Nat} (h : ((befores l).getD j 0).testBit i = true) : Bef l i j :=
  befores_go (l := l) (l2 := l) (acc := []) (fun k => by simp) (fun j i h => by simp at h) j i h

theorem not_mem_of_disj {a b : List Nat} (h : disj a b = true) {x : Nat} (hx : x ∈ a) : x ∉ b := by
  intro hb
  have := List.all_eq_true.1 h x hx
  rw [List.contains_iff_mem.2 hb] at this
  cases this

/-- What the check tells. -/
structure DC (l : List Oper) (ts : List Tr) (fr : Fr) : Prop where
  back : ∀ {j : Nat} {o : Oper}, l[j]? = some o → ∀ {e : Edge}, e ∈ o.after.toList → Region.binds .any e = true → e.on < j
  new0 : ∀ {j : Nat} {t : Tr}, ts[j]? = some t → disj (trNew t) (frNames fr) = true
  newU : ∀ {j : Nat} {t : Tr}, ts[j]? = some t → disj (trNew t) (uNames t.2.2.1) = true
  pair : ∀ {i j : Nat} {x o : Oper} {s t : Tr}, i < j → l[i]? = some x → l[j]? = some o → ts[i]? = some s → ts[j]? = some t → disj (trNew t) (trNames s) = true ∧ (Bef l i j ∨ apart l x o s t = true)

theorem pairs_ok {l : List Oper} {o : Oper} {t : Tr} {b : Nat} : ∀ {xs : List Oper} {ss : List Tr} {k : Nat}, pairs l o t b k xs ss = true → ∀ {i : Nat} {x : Oper} {s : Tr}, xs[i]? = some x → ss[i]? = some s → disj (trNew t) (trNames s) = true ∧ (Nat.testBit b (k + i) = true ∨ apart l x o s t = true)
  | [], ss, k, h, i, x, s, hx, hs => by simp at hx
  | x' :: xs, [], k, h, i, x, s, hx, hs => by simp at hs
  | x' :: xs, s' :: ss, k, h, i, x, s, hx, hs => by
    simp only [pairs, Bool.and_eq_true, Bool.or_eq_true] at h
    cases i with
    | zero =>
      simp only [List.getElem?_cons_zero, Option.some.injEq] at hx hs
      subst hx; subst hs
      exact ⟨h.1.1, h.1.2⟩
    | succ i =>
      have := pairs_ok (ss := ss) h.2 (i := i) (by simpa using hx) (by simpa using hs)
      rw [show k + 1 + i = k + (i + 1) from by omega] at this
      exact this
theorem drawGo_ok {fr : Fr} {l : List Oper} {tr : List Tr} {bs : List Nat} : ∀ {os : List Oper} {ts : List Tr} {k : Nat}, drawGo fr l tr bs k os ts = true → ∀ {j : Nat} {o : Oper} {t : Tr}, os[j]? = some o → ts[j]? = some t →
    (∀ {e : Edge}, e ∈ o.after.toList → Region.binds .any e = true → e.on < k + j) ∧ disj (trNew t) (frNames fr) = true ∧ disj (trNew t) (uNames t.2.2.1) = true ∧ pairs l o t (bs.getD (k + j) 0) 0 (l.take (k + j)) (tr.take (k + j)) = true
  | [], ts, k, h, j, o, t, ho, ht => by simp at ho
  | o' :: os, [], k, h, j, o, t, ho, ht => by simp at ht
  | o' :: os, t' :: ts, k, h, j, o, t, ho, ht => by
    simp only [drawGo, Bool.and_eq_true] at h
    cases j with
    | zero =>
      simp only [List.getElem?_cons_zero, Option.some.injEq] at ho ht
      subst ho; subst ht
      refine ⟨fun {e} he hb => ?_, h.1.1.1.2, h.1.1.2, h.1.2⟩
      have := List.all_eq_true.1 h.1.1.1.1 e he
      rw [hb] at this
      simpa using this
    | succ j =>
      have := drawGo_ok (ts := ts) h.2 (j := j) (by simpa using ho) (by simpa using ht)
      rw [show k + 1 + j = k + (j + 1) from by omega] at this
      exact this
theorem dc_of {fr : Fr} {l : List Oper} {ts : List Tr} (hl : ts.length = l.length) (h : drawOk fr l ts = true) : DC l ts fr := by
  have key := fun {j o t} ho ht => drawGo_ok (fr := fr) (l := l) (tr := ts) (bs := befores l) (os := l) (ts := ts) (k := 0) h (j := j) (o := o) (t := t) ho ht
  simp only [Nat.zero_add] at key
  have tex : ∀ {j o}, l[j]? = some o → ∃ t, ts[j]? = some t := fun {j o} ho => by
    have : j < l.length := (List.getElem?_eq_some_iff.1 ho).1
    exact ⟨_, List.getElem?_eq_getElem (by omega)⟩
  have oex : ∀ {j t}, ts[j]? = some t → ∃ o, l[j]? = some o := fun {j o} ho => by
    have : j < ts.length := (List.getElem?_eq_some_iff.1 ho).1
    exact ⟨_, List.getElem?_eq_getElem (by omega)⟩
  refine ⟨fun {j o} ho {e} he hb => ?_, fun {j t} ht => ?_, fun {j t} ht => ?_, fun {i j x o s t} hij hx ho hs ht => ?_⟩
  · obtain ⟨t, ht⟩ := tex ho
    exact (key ho ht).1 he hb
  · obtain ⟨o, ho⟩ := oex ht
    exact (key ho ht).2.1
  · obtain ⟨o, ho⟩ := oex ht
    exact (key ho ht).2.2.1
  · have := pairs_ok (key ho ht).2.2.2 (i := i) (x := x) (s := s) (by rw [List.getElem?_take_of_lt hij]; exact hx) (by rw [List.getElem?_take_of_lt hij]; exact hs)
    rw [Nat.zero_add] at this
    exact ⟨this.1, this.2.imp befores_ok id⟩
end Go.Proofs.YtbkhmkcmbaffoaaGreatDoor.Eng


/- The engine, part 20: a drawn region's ops in any order, and a function's answer. -/
set_option linter.unusedVariables false
set_option linter.unusedSimpArgs false
namespace Go.Proofs.YtbkhmkcmbaffoaaGreatDoor.Eng
open Go Go.RowKit
variable {P : Program} {S0 S S' : Stab} {W : Ent} {w w' : World} {gv gv' : Nat → Value} {fr fr' : Fr} {a : Act} {β : Type}
variable {C : Cfg} {r : β} {l : List Oper} {ts : List Tr} {ev : Nat → Ev}

theorem Rel.drawn (h : Rel P S0 W S gv fr a w) (n : Nat) : Rel P S0 W S gv fr a { w with drawn := n } :=
  { below := ⟨h.below.os, h.below.tape, h.below.output, h.below.size, h.below.block⟩, agree := h.agree, ext := h.ext, fresh := h.fresh, held := h.held, len := h.len, obl := h.obl, defers := h.defers, slot := h.slot, objs := h.objs, dis := h.dis }

theorem Bef.lt {i : Nat} (hD : DC l ts fr) : ∀ {j : Nat}, Bef l i j → i < j := by
  intro j h
  induction h with
  | one ho he hb e => rw [← e]; exact hD.back ho he hb
  | more ho he hb _ ih => exact Nat.lt_trans ih (hD.back ho he hb)

/-- An order that heeds the edges. -/
structure Val (l : List Oper) (σ : List Nat) : Prop where
  nodup : σ.Nodup
  lt : ∀ i ∈ σ, i < l.length
  ord : σ.Pairwise fun x y => ¬ Bef l y x
  closed : ∀ j ∈ σ, ∀ i, Bef l i j → i ∈ σ
theorem Val.nil : Val l [] := ⟨by simp, by simp, by simp, by simp⟩
theorem Val.snoc {σ : List Nat} {j : Nat} (h : Val l σ) (hj : j ∉ σ) (hl : j < l.length) (hb : ∀ i, Bef l i j → i ∈ σ) : Val l (σ ++ [j]) := by
  refine ⟨?_, fun i hi => ?_, ?_, fun k hk i hi => ?_⟩
  · rw [List.nodup_append]
    refine ⟨h.nodup, by simp, fun x hx y hy => ?_⟩
    rw [List.mem_singleton] at hy
    subst hy
    exact fun e => hj (e ▸ hx)
  · rcases List.mem_append.1 hi with hi | hi
    · exact h.lt i hi
    · rw [List.mem_singleton] at hi; omega
  · rw [List.pairwise_append]
    refine ⟨h.ord, by simp, fun x hx y hy hB => ?_⟩
    rw [List.mem_singleton] at hy
    subst hy
    exact hj (h.closed x hx y hB)
  · rcases List.mem_append.1 hk with hk | hk
    · exact List.mem_append_left _ (h.closed k hk i hi)
    · rw [List.mem_singleton] at hk
      subst hk
      exact List.mem_append_left _ (hb i hi)
theorem Val.range (hD : DC l ts fr) : ∀ {k : Nat}, k ≤ l.length → Val l (List.range k)
  | 0, _ => Val.nil
  | k + 1, hk => by
    rw [List.range_succ]
    exact (Val.range hD (k := k) (by omega)).snoc (by simp) (by omega) fun i hi => by simpa using hi.lt hD

/-- Which events stand for the ops. -/
structure EvOk (l : List Oper) (ts : List Tr) (ev : Nat → Ev) : Prop where
  len : ts.length = l.length
  ev : ∀ {i o t}, l[i]? = some o → ts[i]? = some t → ev i = (o.dst, t)
def reads (l : List Oper) (o : Oper) (t : Tr) : Cell → Prop
  | .slot x => x ∈ looks l o
  | .obj r => r ∈ t.1

theorem get_both (hE : EvOk l ts ev) {i : Nat} (hi : i < l.length) : ∃ o t, l[i]? = some o ∧ ts[i]? = some t ∧ ev i = (o.dst, t) := by
  have h1 : l[i]? = some l[i] := List.getElem?_eq_getElem hi
  have h2 : ts[i]? = some (ts[i]'(by rw [hE.len]; exact hi)) := List.getElem?_eq_getElem _
  exact ⟨_, _, h1, h2, hE.ev h1 h2⟩
theorem apart_ww {x y : Oper} {s t : Tr} {c : Cell} (h : apart l x y s t = true) (h1 : writes (x.dst, s) c = true) (h2 : writes (y.dst, t) c = true) : False := by
  simp only [apart, Bool.and_eq_true, Bool.not_eq_true'] at h
  cases c with
  | slot z =>
    simp only [writes, beq_iff_eq] at h1 h2
    have := h.1.1.1.1.2
    rw [h1, h2] at this
    simp [dstEq] at this
  | obj r =>
    simp only [writes, List.contains_iff_mem] at h1 h2
    exact not_mem_of_disj h.1.2 h1 h2
theorem apart_wr {x y : Oper} {s t : Tr} {c : Cell} (h : apart l x y s t = true) (h1 : writes (x.dst, s) c = true) (h2 : reads l y t c) : False := by
  simp only [apart, Bool.and_eq_true, Bool.not_eq_true'] at h
  cases c with
  | slot z =>
    simp only [writes, beq_iff_eq] at h1
    have := h.1.1.1.1.1.1
    rw [h1] at this
    simp only [dstIn] at this
    rw [List.contains_iff_mem.2 h2] at this
    cases this
  | obj r =>
    simp only [writes, List.contains_iff_mem] at h1
    exact not_mem_of_disj h.1.1.1.2 h1 h2
theorem apart_rw {x y : Oper} {s t : Tr} {c : Cell} (h : apart l x y s t = true) (h1 : reads l x s c) (h2 : writes (y.dst, t) c = true) : False := by
  simp only [apart, Bool.and_eq_true, Bool.not_eq_true'] at h
  cases c with
  | slot z =>
    simp only [writes, beq_iff_eq] at h2
    have := h.1.1.1.1.1.2
    rw [h2] at this
    simp only [dstIn] at this
    rw [List.contains_iff_mem.2 h1] at this
    cases this
  | obj r =>
    simp only [writes, List.contains_iff_mem] at h2
    exact not_mem_of_disj h.1.1.2 h2 h1
theorem ww (hD : DC l ts fr) (hE : EvOk l ts ev) {i j : Nat} (hi : i < l.length) (hj : j < l.length) (hij : i < j) {c : Cell} (h1 : writes (ev i) c = true) (h2 : writes (ev j) c = true) : Bef l i j := by
  obtain ⟨x, s, hx, hs, e1⟩ := get_both hE hi
  obtain ⟨y, t, hy, ht, e2⟩ := get_both hE hj
  rw [e1] at h1; rw [e2] at h2
  exact (hD.pair hij hx hy hs ht).2.resolve_right fun h => apart_ww h h1 h2
theorem wr (hD : DC l ts fr) (hE : EvOk l ts ev) {i j : Nat} (hi : i < l.length) {y : Oper} {t : Tr} (hy : l[j]? = some y) (ht : ts[j]? = some t) (hne : i ≠ j) {c : Cell} (h1 : writes (ev i) c = true) (h2 : reads l y t c) : (i < j ∧ Bef l i j) ∨ Bef l j i := by
  obtain ⟨x, s, hx, hs, e1⟩ := get_both hE hi
  rw [e1] at h1
  rcases Nat.lt_or_gt_of_ne hne with h | h
  · exact .inl ⟨h, (hD.pair h hx hy hs ht).2.resolve_right fun h => apart_wr h h1 h2⟩
  · exact .inr ((hD.pair h hy hx ht hs).2.resolve_right fun h => apart_rw h h2 h1)

theorem filter_sorted (hD : DC l ts fr) (hE : EvOk l ts ev) {σ : List Nat} (h : Val l σ) (c : Cell) : (σ.filter fun i => writes (ev i) c).Pairwise (· < ·) := by
  have h1 : σ.Pairwise fun x y => x ≠ y ∧ ¬ Bef l y x := List.Pairwise.and h.nodup h.ord
  have h2 : (σ.filter fun i => writes (ev i) c).Pairwise fun x y => x ≠ y ∧ ¬ Bef l y x := h1.sublist List.filter_sublist
  refine h2.imp_of_mem fun {x y} hx hy hxy => ?_
  rw [List.mem_filter] at hx hy
  apply Classical.byContradiction
  intro hn
  exact hxy.2 (ww hD hE (h.lt y hy.1) (h.lt x hx.1) (by have := hxy.1; omega) hy.2 hx.2)

/-- What an op reads is alike after every order that heeds the edges. -/
theorem reads_agree (hD : DC l ts fr) (hE : EvOk l ts ev) {σ σ' : List Nat} (h : Val l σ) (h' : Val l σ') {j : Nat} {y : Oper} {t : Tr} (hy : l[j]? = some y) (ht : ts[j]? = some t) (hj : j ∉ σ) (hj' : j ∉ σ')
    (hb : ∀ i, Bef l i j → i ∈ σ) (hb' : ∀ i, Bef l i j → i ∈ σ') {c : Cell} (hc : reads l y t c) : agree (play ev σ fr) (play ev σ' fr) c := by
  have e : (σ.filter fun i => writes (ev i) c) = (σ'.filter fun i => writes (ev i) c) := by
    refine sorted_eq (filter_sorted hD hE h c) (filter_sorted hD hE h' c) fun i => ?_
    simp only [List.mem_filter]
    constructor
    · intro hi
      refine ⟨?_, hi.2⟩
      rcases wr hD hE (h.lt i hi.1) hy ht (fun e => hj (e ▸ hi.1)) hi.2 hc with hB | hB
      · exact hb' i hB.2
      · exact absurd (h.closed i hi.1 j hB) hj
    · intro hi
      refine ⟨?_, hi.2⟩
      rcases wr hD hE (h'.lt i hi.1) hy ht (fun e => hj' (e ▸ hi.1)) hi.2 hc with hB | hB
      · exact hb i hB.2
      · exact absurd (h'.closed i hi.1 j hB) hj'
  refine agree_trans (play_filter ⟨rfl, rfl⟩ agree_refl) ?_
  rw [e]
  exact agree_symm (play_filter ⟨rfl, rfl⟩ agree_refl)
theorem fr_ext {fr fr' : Fr} (hl : lens fr fr') (h : ∀ c, agree fr fr' c) : fr = fr' := by
  obtain ⟨sl, ob⟩ := fr
  obtain ⟨sl', ob'⟩ := fr'
  have e1 : sl = sl' := by
    refine List.ext_getElem hl.1 fun i h1 h2 => ?_
    have := h (.slot i)
    simpa [agree, Fr.get, List.getD_eq_getElem?_getD, List.getElem?_eq_getElem h1, List.getElem?_eq_getElem h2] using this
  have e2 : ob = ob' := by
    refine List.ext_getElem hl.2 fun i h1 h2 => ?_
    have := h (.obj i)
    simpa [agree, Fr.obj, List.getD_eq_getElem?_getD, List.getElem?_eq_getElem h1, List.getElem?_eq_getElem h2] using this
  rw [e1, e2]
/-- All ops done, the frame is one. -/
theorem all_agree (hD : DC l ts fr) (hE : EvOk l ts ev) {σ σ' : List Nat} (h : Val l σ) (h' : Val l σ') (he : ∀ i, i ∈ σ ↔ i ∈ σ') : play ev σ fr = play ev σ' fr := by
  have l1 := lens_play ev σ fr
  have l2 := lens_play ev σ' fr
  refine fr_ext ⟨l1.1.trans l2.1.symm, l1.2.trans l2.2.symm⟩ fun c => ?_
  have e : (σ.filter fun i => writes (ev i) c) = (σ'.filter fun i => writes (ev i) c) :=
    sorted_eq (filter_sorted hD hE h c) (filter_sorted hD hE h' c) fun i => by simp only [List.mem_filter, he]
  refine agree_trans (play_filter ⟨rfl, rfl⟩ agree_refl) ?_
  rw [e]
  exact agree_symm (play_filter ⟨rfl, rfl⟩ agree_refl)

/-! ### Names -/
theorem mem_namesL {x : Nat} : ∀ {l : List AV}, x ∈ namesL l ↔ ∃ v ∈ l, x ∈ v.names
  | [] => by simp [namesL]
  | v :: l => by simp [namesL, mem_namesL (l := l)]
theorem mem_obsNames {x : Nat} : ∀ {l : List (Option Ob)}, x ∈ obsNames l ↔ ∃ o ∈ l, x ∈ obNames o
  | [] => by simp [obsNames]
  | v :: l => by simp [obsNames, mem_obsNames (l := l)]
theorem names_setD {x : Nat} {sl : List AV} {d : Option Tmp} {v : AV} (h : x ∈ namesL (setD sl d v)) : x ∈ namesL sl ∨ x ∈ v.names := by
  cases d with
  | none => exact .inl h
  | some t =>
    obtain ⟨u, hu, hx⟩ := mem_namesL.1 h
    rcases List.mem_or_eq_of_mem_set hu with hu | rfl
    · exact .inl (mem_namesL.2 ⟨u, hu, hx⟩)
    · exact .inr hx
theorem names_applyU {x : Nat} : ∀ {u : Upd} {ob : List (Option Ob)}, x ∈ obsNames (applyU ob u) → x ∈ obsNames ob ∨ x ∈ uNames u
  | [], ob, h => .inl h
  | (r, o) :: u, ob, h => by
    rcases names_applyU (u := u) h with h | h
    · obtain ⟨o', ho, hx⟩ := mem_obsNames.1 h
      rcases List.mem_or_eq_of_mem_set ho with ho | rfl
      · exact .inl (mem_obsNames.2 ⟨_, ho, hx⟩)
      · exact .inr (by simp [uNames, hx])
    · exact .inr (by simp [uNames, h])
theorem names_addN {x : Nat} : ∀ {n : New} {ob : List (Option Ob)}, x ∈ obsNames (addN ob n) → x ∈ obsNames ob ∨ x ∈ nNames n
  | [], ob, h => .inl h
  | (r, o) :: n, ob, h => by
    rcases names_addN (n := n) h with h | h
    · obtain ⟨o', ho, hx⟩ := mem_obsNames.1 h
      rcases List.mem_or_eq_of_mem_set ho with ho | rfl
      · exact .inl (mem_obsNames.2 ⟨_, ho, hx⟩)
      · exact .inr (by simp [nNames, hx])
    · exact .inr (by simp [nNames, h])
theorem names_patch {x : Nat} {e : Ev} {fr : Fr} (h : x ∈ frNames (patch e fr)) : x ∈ frNames fr ∨ x ∈ trNames e.2 := by
  simp only [frNames, patch, List.mem_append, trNames] at h ⊢
  rcases h with h | h
  · rcases names_setD h with h | h
    · exact .inl (.inl h)
    · exact .inr (.inl h)
  · rcases names_addN h with h | h
    · rcases names_applyU h with h | h
      · exact .inl (.inr h)
      · exact .inr (.inr (.inl h))
    · exact .inr (.inr (.inr h))
theorem names_play {x : Nat} : ∀ {σ : List Nat} {fr : Fr}, x ∈ frNames (play ev σ fr) → x ∈ frNames fr ∨ ∃ i ∈ σ, x ∈ trNames (ev i).2
  | [], fr, h => .inl h
  | i :: σ, fr, h => by
    rcases names_play (σ := σ) (fr := patch (ev i) fr) h with h | ⟨k, hk, h⟩
    · rcases names_patch h with h | h
      · exact .inl h
      · exact .inr ⟨i, by simp, h⟩
    · exact .inr ⟨k, by simp [hk], h⟩
theorem map_self {γ : Type} {f : γ → γ} {l : List γ} (h : ∀ x ∈ l, f x = x) : l.map f = l := by
  have := List.map_congr_left (f := f) (g := id) (l := l) h
  simpa using this
theorem purge_id {ns : List Nat} {v : AV} (h : ∀ x ∈ v.names, x ∉ ns) : purge ns v = v := by
  unfold purge
  have : (v.names.any fun r => ns.contains r) = false := by
    rw [List.any_eq_false]
    intro x hx hc
    exact h x hx (List.contains_iff_mem.1 hc)
  rw [this]; rfl
theorem purgeOb_id {ns : List Nat} {o : Option Ob} (h : ∀ x ∈ obNames o, x ∉ ns) : purgeOb ns o = o := by
  unfold purgeOb
  split
  · rename_i cs
    have : cs.map (purge ns) = cs := map_self fun v hv => purge_id fun x hx => h x (mem_namesL.2 ⟨v, hv, hx⟩)
    rw [this]
  · rfl
theorem put_patch {d : Option Tmp} {t : Tr} {fr : Fr} (h : ∀ x ∈ frNames fr, x ∉ trNew t) (hu : ∀ x ∈ uNames t.2.2.1, x ∉ trNew t) : putT fr d t = patch (d, t) fr := by
  obtain ⟨ns, v, u, n⟩ := t
  simp only [putT, patch]
  cases n with
  | nil => rfl
  | cons y n =>
    simp only [Fr.put]
    have h1 : fr.sl.map (purge (y.1 :: n.map (·.1))) = fr.sl := map_self fun v hv => purge_id fun x hx => h x (List.mem_append_left _ (mem_namesL.2 ⟨v, hv, hx⟩))
    have h2 : (applyU fr.ob u).map (purgeOb (y.1 :: n.map (·.1))) = applyU fr.ob u := by
      refine map_self fun o ho => purgeOb_id fun x hx => ?_
      rcases names_applyU (mem_obsNames.2 ⟨o, ho, hx⟩) with hx | hx
      · exact h x (List.mem_append_right _ hx)
      · exact hu x hx
    rw [h1, h2]
/-- An op's effect, put to a frame that some order has reached. -/
theorem put_play (hD : DC l ts fr) (hE : EvOk l ts ev) {σ : List Nat} (h : Val l σ) {j : Nat} {o : Oper} {t : Tr} (ho : l[j]? = some o) (ht : ts[j]? = some t) (hj : j ∉ σ) : putT (play ev σ fr) o.dst t = play ev (σ ++ [j]) fr := by
  have e : play ev (σ ++ [j]) fr = patch (o.dst, t) (play ev σ fr) := by simp [play, hE.ev ho ht]
  rw [e]
  refine put_patch (fun x hx hn => ?_) (fun x hx hn => not_mem_of_disj (hD.newU ht) hn hx)
  rcases names_play hx with hx | ⟨i, hi, hx⟩
  · exact not_mem_of_disj (hD.new0 ht) hn hx
  · obtain ⟨x', s, hx', hs, e1⟩ := get_both hE (h.lt i hi)
    rw [e1] at hx
    rcases Nat.lt_or_ge i j with hlt | hge
    · exact not_mem_of_disj (hD.pair hlt hx' ho hs ht).1 hn hx
    · have hlt : j < i := by
        rcases Nat.lt_or_ge j i with h | h
        · exact h
        · exact absurd (show i = j from by omega) fun e => hj (e ▸ hi)
      rcases (hD.pair hlt ho hx' ht hs).2 with hB | hA
      · exact hj (h.closed i hi j hB)
      · simp only [apart, Bool.and_eq_true] at hA
        exact not_mem_of_disj hA.2 hn hx

/-! ### The text's order -/
theorem chain_play (hD : DC l ts fr) (hE : EvOk l ts ev) : ∀ {l2 : List Oper} {ts2 : List Tr} {k : Nat}, (∀ i, l2[i]? = l[k + i]?) → (∀ i, ts2[i]? = ts[k + i]?) → Chain C l l2 (play ev (List.range k) fr) ts2 →
    (∀ {i o t}, l2[i]? = some o → ts2[i]? = some t → stepE C l o (play ev (List.range (k + i)) fr) = some t) ∧ runT l2 ts2 (play ev (List.range k) fr) = play ev (List.range (k + l2.length)) fr
  | [], ts2, k, hl, ht, hc => ⟨fun {i o t} h => by simp at h, by simp [runT]⟩
  | o :: l2, [], k, hl, ht, hc => by cases hc
  | o :: l2, t :: ts2, k, hl, ht, hc => by
    have ho : l[k]? = some o := by have := hl 0; simpa using this.symm
    have ht0 : ts[k]? = some t := by have := ht 0; simpa using this.symm
    have hk : k < l.length := (List.getElem?_eq_some_iff.1 ho).1
    have e : putT (play ev (List.range k) fr) o.dst t = play ev (List.range (k + 1)) fr := by
      rw [List.range_succ]
      exact put_play hD hE (Val.range hD (by omega)) ho ht0 (by simp)
    obtain ⟨h1, h2⟩ := hc
    rw [e] at h2
    have := chain_play hD hE (l2 := l2) (ts2 := ts2) (k := k + 1) (fun i => by have := hl (i + 1); simp only [List.getElem?_cons_succ] at this; rw [this]; congr 1; omega) (fun i => by have := ht (i + 1); simp only [List.getElem?_cons_succ] at this; rw [this]; congr 1; omega) h2
    refine ⟨fun {i o' t'} hi hi' => ?_, ?_⟩
    · cases i with
      | zero =>
        simp only [List.getElem?_cons_zero, Option.some.injEq] at hi hi'
        subst hi; subst hi'
        exact h1
      | succ i =>
        have := this.1 (i := i) (by simpa using hi) (by simpa using hi')
        rw [show k + 1 + i = k + (i + 1) from by omega] at this
        exact this
    · simp only [runT, e, this.2, List.length_cons]
      congr 2
      omega
theorem chain_len : ∀ {l2 : List Oper} {fr : Fr} {ts2 : List Tr}, Chain C l l2 fr ts2 → ts2.length = l2.length
  | [], _, _, h => by rw [h]; rfl
  | o :: l2, fr, t :: ts2, h => by simp [chain_len h.2]
  | _ :: _, _, [], h => by cases h

theorem val_congr {o : Operand} (h : ∀ t, o = .tmp t → fr.get t = fr'.get t) : fr.val C o = fr'.val C o := by
  cases o with
  | tmp t => exact h t rfl
  | _ => rfl
theorem stepUE_congr {o : Oper} {t : Tr} (hl : fr.sl.length = fr'.sl.length) (hs : ∀ x, Operand.tmp x ∈ opnds o.op → fr.get x = fr'.get x) (h : stepUE C o fr = some t) (hob : ∀ r ∈ t.1, fr.obj r = fr'.obj r) : stepUE C o fr' = some t := by
  have e1 : (opnds o.op).map (fr'.val C) = (opnds o.op).map (fr.val C) := List.map_congr_left fun x hx => (val_congr fun t ht => hs t (ht ▸ hx)).symm
  unfold stepUE at h ⊢
  rw [e1, ← hl]
  have hns : t.1 = lookN o ((opnds o.op).map (fr.val C)) := by
    cases hx : opD C fr.sl.length o ((opnds o.op).map (fr.val C)) (restr (lookN o ((opnds o.op).map (fr.val C))) fr.obj) with
    | none => rw [hx] at h; cases h
    | some x =>
      rw [hx] at h
      simp only [Option.bind_some] at h
      have := (some_of_bif h).2
      simp only [Option.some.injEq] at this
      rw [← this]
  have e2 : restr (lookN o ((opnds o.op).map (fr.val C))) fr'.obj = restr (lookN o ((opnds o.op).map (fr.val C))) fr.obj := by
    funext r
    unfold restr
    cases hc : (lookN o ((opnds o.op).map (fr.val C))).contains r with
    | false => rfl
    | true => exact (hob r (by rw [hns]; exact List.contains_iff_mem.1 hc)).symm
  rw [e2]
  exact h
theorem mem_looks_op {o : Oper} {x : Tmp} (h : Operand.tmp x ∈ opnds o.op) : x ∈ looks l o := by
  refine List.mem_append_left _ ?_
  rw [List.mem_filterMap]
  exact ⟨_, h, rfl⟩
theorem stepE_congr {o : Oper} {t : Tr} (hl : fr.sl.length = fr'.sl.length) (hc : ∀ c, reads l o t c → agree fr fr' c) (h : stepE C l o fr = some t) : stepE C l o fr' = some t := by
  have hs : ∀ x, x ∈ looks l o → fr.get x = fr'.get x := fun x hx => hc (.slot x) hx
  have hob : ∀ r ∈ t.1, fr.obj r = fr'.obj r := fun r hr => hc (.obj r) hr
  have hU : stepUE C o fr = some t → stepUE C o fr' = some t := fun h => stepUE_congr hl (fun x hx => hs x (mem_looks_op hx)) h hob
  have hg : ∀ j want x, o.guard = some (j, want) → (l[j]?).bind (fun x => x.dst) = some x → fr.get x = fr'.get x := fun j want x hg hx => hs x (by
    refine List.mem_append_right _ ?_
    rw [hg]; simp only [hx]; simp)
  unfold stepE at h ⊢
  revert h hg
  generalize o.guard = g
  cases g with
  | none => intro h _; exact hU h
  | some p =>
    obtain ⟨j, want⟩ := p
    simp only
    intro h hg
    cases hx : (l[j]?).bind (fun x => x.dst) with
    | none => rw [hx] at h; cases h
    | some x =>
      rw [hx] at h
      simp only at h ⊢
      rw [← hg j want x rfl hx]
      cases hq : fr.get x with
      | bool q =>
        rw [hq] at h
        simp only at h ⊢
        cases hw : q == want with
        | true => rw [hw] at h; exact hU h
        | false => rw [hw] at h; exact h
      | und => rw [hq] at h; exact h
      | _ => rw [hq] at h; cases h

/-! ### Any order -/
variable {Q : Exit → Act → World → Prop} {arr : Array Oper}
theorem any_ok (hS : Sound C) (hG : Ctx C S0 W) (hD : DC arr.toList ts fr) (hE : EvOk arr.toList ts ev) (hstep : ∀ {j o t}, arr.toList[j]? = some o → ts[j]? = some t → stepE C arr.toList o (play ev (List.range j) fr) = some t)
    (hQ : ∀ S' gv' a' w', Rel C.P S0 W S' gv' (play ev (List.range arr.size) fr) a' w' → Q .normal a' w') :
    ∀ (fuel : Nat) {listed : Array Bool} {σ : List Nat} {S : Stab} {gv : Nat → Value} {a : Act} {w : World}, Val arr.toList σ → listed.size = arr.size → (∀ i, i < arr.size → (listed.getD i true = true ↔ i ∈ σ)) → fuel + σ.length = arr.size →
      Rel C.P S0 W S gv (play ev σ fr) a w → wpAny C.P .any arr Q fuel listed a w := by
  have hready : ∀ {listed : Array Bool} {σ : List Nat}, Val arr.toList σ → listed.size = arr.size → (∀ i, i < arr.size → (listed.getD i true = true ↔ i ∈ σ)) → Region.ready .any arr listed = [] → ∀ n i, i < n → i < arr.size → i ∈ σ := by
    intro listed σ hV hls hli hr n
    induction n with
    | zero => intro i h; omega
    | succ n ih =>
      intro i hin hia
      apply Classical.byContradiction
      intro hns
      have hmem : i ∈ Region.ready .any arr listed := by
        unfold Region.ready
        rw [List.mem_filter]
        refine ⟨List.mem_range.2 hia, ?_⟩
        have h1 : listed.getD i true = false := by
          cases hc : listed.getD i true with
          | false => rfl
          | true => exact absurd ((hli i hia).1 hc) hns
        rw [h1, Array.getElem?_eq_getElem hia]
        simp only [Bool.not_false, Option.map_some, Option.getD_some, Bool.true_and]
        rw [Array.all_eq_true]
        intro k hk
        cases hb : Region.binds .any arr[i].after[k] with
        | false => rfl
        | true =>
          have hlt : arr[i].after[k].on < i := hD.back (j := i) (o := arr[i]) (by simp [hia]) (by simp) hb
          have := ih arr[i].after[k].on (by omega) (by omega)
          have := (hli _ (show arr[i].after[k].on < arr.size by omega)).2 this
          rw [Array.getD_eq_getD_getElem?, Array.getElem?_eq_getElem (by omega)] at this
          simp only [Option.getD_some] at this
          rw [Array.getD_eq_getD_getElem?, Array.getElem?_eq_getElem (by omega)]
          simpa using this
      rw [hr] at hmem
      cases hmem
  have hend : ∀ {σ : List Nat} {S : Stab} {gv : Nat → Value} {a : Act} {w : World}, Val arr.toList σ → (∀ i, i < arr.size → i ∈ σ) → Rel C.P S0 W S gv (play ev σ fr) a w → Q .normal a w := by
    intro σ S gv a w hV hall h
    refine hQ S gv a w ?_
    rw [← all_agree hD hE hV (Val.range hD (k := arr.size) (by simp)) fun i => ?_]
    · exact h
    · rw [List.mem_range]
      exact ⟨fun hi => by simpa using hV.lt i hi, hall i⟩
  intro fuel
  induction fuel with
  | zero =>
    intro listed σ S gv a w hV hls hli hf h
    have hall : ∀ i, i < arr.size → i ∈ σ := by
      intro i hi
      apply Classical.byContradiction
      intro hn
      have : (i :: σ).length ≤ (List.range arr.size).length := by
        refine List.Nodup.length_le_of_subset (List.nodup_cons.2 ⟨hn, hV.nodup⟩) fun x hx => ?_
        rcases List.mem_cons.1 hx with rfl | hx
        · exact List.mem_range.2 hi
        · exact List.mem_range.2 (by simpa using hV.lt x hx)
      simp at this
      omega
    refine ⟨?_, hend hV hall h⟩
    unfold Region.ready
    rw [List.filter_eq_nil_iff]
    intro i hi
    have hi := List.mem_range.1 hi
    rw [(hli i hi).2 (hall i hi)]
    simp
  | succ fuel ih =>
    intro listed σ S gv a w hV hls hli hf h
    refine ⟨fun hr => hend hV (fun i hi => hready hV hls hli hr (i + 1) i (by omega) hi) h, fun j hj => ?_⟩
    unfold Region.ready at hj
    rw [List.mem_filter, List.mem_range] at hj
    obtain ⟨hja, hj⟩ := hj
    rw [Array.getElem?_eq_getElem hja] at hj
    simp only [Option.map_some, Option.getD_some, Bool.and_eq_true, Bool.not_eq_true'] at hj
    have hns : j ∉ σ := fun hm => by rw [(hli j hja).2 hm] at hj; cases hj.1
    have ho : arr.toList[j]? = some arr[j] := by simp [hja]
    have hB : ∀ i, Bef arr.toList i j → i ∈ σ := by
      intro i hi
      have hdir : ∀ {e : Edge}, e ∈ arr[j].after.toList → Region.binds .any e = true → e.on ∈ σ := by
        intro e he hb
        have h2 := hj.2
        rw [Array.all_eq_true_iff_forall_mem] at h2
        have := h2 e (by simpa using he)
        rw [hb] at this
        simp only [Bool.not_true, Bool.false_or] at this
        have hlt : e.on < j := hD.back ho he hb
        refine (hli e.on (by omega)).1 ?_
        rw [Array.getD_eq_getD_getElem?, Array.getElem?_eq_getElem (by omega)] at this ⊢
        simpa using this
      cases hi with
      | one ho' he hb e =>
        rw [ho] at ho'
        cases ho'
        exact e ▸ hdir he hb
      | more ho' he hb hm =>
        rw [ho] at ho'
        cases ho'
        exact hV.closed _ (hdir he hb) i hm
    obtain ⟨o, t, ho', ht, hev⟩ := get_both hE (show j < arr.toList.length by simpa using hja)
    rw [ho] at ho'
    cases ho'
    have hVr := Val.range hD (k := j) (by simp; omega)
    have hl1 := lens_play ev σ fr
    have hl2 := lens_play ev (List.range j) fr
    have hst : stepE C arr.toList arr[j] (play ev σ fr) = some t := by
      refine stepE_congr (hl2.1.trans hl1.1.symm) (fun c hc => ?_) (hstep ho ht)
      exact reads_agree hD hE hVr hV ho ht (by simp) hns (fun i hi => by simpa using hi.lt hD) hB hc
    have hV2 := hV.snoc hns (by simpa using hja) hB
    have hk : step C arr.toList arr[j] (play ev σ fr) (fun fr' _ => some fr') = some (play ev (σ ++ [j]) fr) := by
      rw [step_lin, hst]
      simp only [Option.bind_some, put_play hD hE hV ho ht hns]
    have := step_ok (Q := Q) (next := wpAny C.P .any arr Q fuel (listed.setIfInBounds j true)) h hS hG hk fun fr' t' S' gv' a' w' he hlen hR => by
      simp only [Option.some.injEq] at he
      subst he
      refine ih hV2 (by simpa using hls) (fun i hi => ?_) (by simp; omega) hR
      simp only [List.mem_append, List.mem_singleton]
      rw [Array.getD_eq_getD_getElem?, Array.getElem?_setIfInBounds]
      by_cases hij : j = i
      · subst hij
        simp [hls, hi]
      · simp only [hij, if_false]
        rw [← Array.getD_eq_getD_getElem?, hli i hi]
        constructor
        · exact fun h => .inl h
        · intro h
          rcases h with h | h
          · exact h
          · exact absurd h.symm hij
    unfold wpOp
    simp only [Array.getElem?_eq_getElem hja]
    rcases this with ⟨hw, hwp⟩ | ⟨hw, hnx⟩
    · rw [if_pos hw]; exact .inl hwp
    · rw [if_neg (by rw [hw]; simp)]; exact hnx

theorem draw_ok (hm : C.P.follows .mixedOrders = true) (hS : Sound C) (hG : Ctx C S0 W) {id : Nat} {os : Array Oper} {fr : Fr} {K : Kont β} {S : Stab} {gv : Nat → Value} {a : Act} {w : World} {Q : Exit → Act → World → Prop} (h : Rel C.P S0 W S gv fr a w) (hk : region C id os.toList true fr K = some r)
    (hn : ∀ e fr' S' gv' a' w', K e fr' = some r → Rel C.P S0 W S' gv' fr' a' w' → Q (toExit e) a' w') : (Code.region id os true).wp C.P Q a w := by
  obtain ⟨S1, gv1, h1⟩ := canon_ok hG h (some id)
  unfold region at hk
  simp only [cond_true] at hk
  revert h1 hk
  generalize canon C (some id) fr = fr0
  intro hk h1
  obtain ⟨ts, hc, hk⟩ := ops_chain hk
  simp only [List.nil_append] at hk
  have hdo := (some_of_bif hk).1
  replace hk := (some_of_bif hk).2
  have hlen := chain_len hc
  have hD := dc_of hlen hdo
  let ev : Nat → Ev := fun i => (((os.toList[i]?).bind (·.dst)), (ts[i]?).getD ([], .junk, [], []))
  have hE : EvOk os.toList ts ev := ⟨hlen, fun {i o t} ho ht => by simp only [ev, ho, ht]; rfl⟩
  have hp := chain_play (C := C) hD hE (l2 := os.toList) (ts2 := ts) (k := 0) (fun i => by simp) (fun i => by simp) hc
  refine wp_region_any hm (any_ok hS hG hD hE (fun {j o t} ho ht => ?_) (fun S' gv' a' w' hR => ?_) os.size (σ := []) Val.nil (by simp) (fun i hi => ?_) (by simp) (h1.drawn _))
  · have := hp.1 ho ht
    rwa [Nat.zero_add] at this
  · refine hn .normal _ S' gv' a' w' hk ?_
    have e := hp.2
    simp only [List.range_zero, Nat.zero_add] at e
    change runT os.toList ts fr0 = _ at e
    rw [e]
    simpa using hR
  · simp [hi]

/-- A function answers what its code evaluates to, whatever orders the run draws. -/
theorem ok_of (hm : C.P.follows .mixedOrders = true) (hS : Sound C) {f : FuncId} {fn : Func} (hf : C.P.funcs[f]? = some fn) {fl : List Bool} {args : List AV} {res : AV} (hk : body C fl fn args = some res) : Ok C.P C.glob f args res :=
  ok_of_body hS (fun {C'} e hS' {S0 W id os fr K r S gv a w Q} hG h hk hn => draw_ok (by rw [e]; exact hm) hS' hG h hk hn) hf hk
end Go.Proofs.YtbkhmkcmbaffoaaGreatDoor.Eng


/- The engine, part 21: what all functions of a program answer, each by its own code; and that runs answer so. -/
set_option linter.unusedVariables false
set_option linter.unusedSimpArgs false
namespace Go.Proofs.YtbkhmkcmbaffoaaGreatDoor.Eng
open Go Go.RowKit

/-- A program, the functions that are evaluated by their code, and those whose answers are given. -/
structure Base where
  P : Program
  fs : List FuncId
  isBase : FuncId → Bool
  base : FuncId → List AV → Option AV
  fl : FuncId → List Bool
  ln : FuncId → List Nat
  hd : FuncId → List Nat
  glob : Nat → Option (List AV)
  dirs : FuncId → Nat → Option Dir
  k : Nat
def Base.cfg (B : Base) (kap : FuncId → List AV → Option AV) (f : FuncId) : Cfg := { P := B.P, kap := kap, fl := B.fl, ln := B.ln, hd := B.hd, rs := [], glob := B.glob, dirs := B.dirs f, k := B.k }
def Base.at (B : Base) (kap : FuncId → List AV → Option AV) (f : FuncId) (args : List AV) : Option AV :=
  match B.P.funcs[f]? with
  | some fn => body (B.cfg kap f) (B.fl f) fn args
  | none => none
def Base.kap (B : Base) : Nat → FuncId → List AV → Option AV
  | 0, f, args => bif B.isBase f then B.base f args else none
  | n + 1, f, args => bif B.isBase f then B.base f args else bif B.fs.contains f then B.at (B.kap n) f args else none
def namedOk (P : Program) (f : FuncId) : Bool := match P.funcs[f]? with | some fn => !(fn.name == "runtime.NumGoroutine") && fn.body.isSome | none => true
structure Base.Good (B : Base) : Prop where
  mixed : B.P.follows .mixedOrders = true
  names : B.fs.all (namedOk B.P) = true
  base : ∀ f args res, B.isBase f = true → B.base f args = some res → Enters B.P f ∧ Ok B.P B.glob f args res

theorem Base.sound {B : Base} (hB : B.Good) : ∀ n f' f args res, B.kap n f args = some res → Enters (B.cfg (B.kap n) f').P f ∧ Ok (B.cfg (B.kap n) f').P (B.cfg (B.kap n) f').glob f args res
  | 0, f', f, args, res, h => by
    simp only [Base.kap] at h
    obtain ⟨h1, h2⟩ := some_of_bif h
    exact hB.base f args res h1 h2
  | n + 1, f', f, args, res, h => by
    simp only [Base.kap] at h
    cases hb : B.isBase f with
    | true => rw [hb] at h; exact hB.base f args res hb h
    | false =>
      rw [hb, cond_false] at h
      obtain ⟨h1, h⟩ := some_of_bif h
      unfold Base.at at h
      cases hf : B.P.funcs[f]? with
      | none => rw [hf] at h; cases h
      | some fn =>
        rw [hf] at h
        refine ⟨⟨fn, hf, ?_⟩, ok_of (C := B.cfg (B.kap n) f) hB.mixed (fun g as rs hg => Base.sound hB n f g as rs hg) hf h⟩
        have := List.all_eq_true.1 hB.names f (List.contains_iff_mem.1 h1)
        simp only [namedOk, hf, Bool.and_eq_true, Bool.not_eq_true'] at this
        refine ⟨this.1, ?_⟩
        rw [Option.isNone_eq_false_iff]
        exact this.2
theorem Base.ok {B : Base} (hB : B.Good) {n : Nat} {f : FuncId} {args : List AV} {res : AV} (h : B.kap n f args = some res) : Ok B.P B.glob f args res := (Base.sound hB n 0 f args res h).2
end Go.Proofs.YtbkhmkcmbaffoaaGreatDoor.Eng


/- The engine, part 22: short words in which the printer of equations writes; a base that is open at its given functions. -/
set_option linter.unusedVariables false
namespace Go.Proofs.YtbkhmkcmbaffoaaGreatDoor.Eng
open Go

def str (l : List UInt8) : ByteArray := ⟨l.toArray⟩
/-- The byte at a place, as a number. -/
def byteAt (s : ByteArray) (i : Nat) : Int := ((UInt8.toNat (List.getD (Array.toList (ByteArray.data s)) i 0) : Nat) : Int)
section
variable {β : Type}
def callB (x : Option AV) (K : Bool → Option β) : Option β := x.bind fun r => bif AV.isTup r then none else bif AV.isFresh r then none else atBool r K
def callI (k : IntKind) (x : Option AV) (K : Int → Option β) : Option β := x.bind fun r => bif AV.isTup r then none else bif AV.isFresh r then none else atInt k r K
def callS (x : Option AV) (K : ByteArray → Option β) : Option β := x.bind fun r => bif AV.isTup r then none else bif AV.isFresh r then none else atStr r K
def callL (sz : Nat) (x : Option AV) (K : List AV → Option β) : Option β := x.bind fun r => bif AV.isTup r then none else bif AV.isFresh r then none else atList sz r K
def callG (n : Nat) (x : Option AV) (K : List AV → Option β) : Option β := x.bind fun r => bif AV.isTup r then none else bif AV.isFresh r then none else atAgg n r K
def callF (e : TypeId) (x : Option AV) (K : List AV → Option β) : Option β := x.bind fun r => bif AV.isTup r then none else atFresh e r K
def callT (x : Option AV) (K : List AV → Option β) : Option β := x.bind fun r => atTup r K
def tupB (rs : List AV) (K : Bool → List AV → Option β) : Option β := atCons rs fun r t => bif AV.isFresh r then none else atBool r fun b => K b t
def tupI (k : IntKind) (rs : List AV) (K : Int → List AV → Option β) : Option β := atCons rs fun r t => bif AV.isFresh r then none else atInt k r fun b => K b t
def tupS (rs : List AV) (K : ByteArray → List AV → Option β) : Option β := atCons rs fun r t => bif AV.isFresh r then none else atStr r fun b => K b t
def tupL (sz : Nat) (rs : List AV) (K : List AV → List AV → Option β) : Option β := atCons rs fun r t => bif AV.isFresh r then none else atList sz r fun b => K b t
def tupG (n : Nat) (rs : List AV) (K : List AV → List AV → Option β) : Option β := atCons rs fun r t => bif AV.isFresh r then none else atAgg n r fun b => K b t
def tupV (rs : List AV) (K : AV → List AV → Option β) : Option β := atCons rs fun r t => bif AV.isFresh r then none else K r t
def tupF (e : TypeId) (rs : List AV) (K : List AV → List AV → Option β) : Option β := atCons rs fun r t => atFresh e r fun b => K b t
def cellI (k : IntKind) (cs : List AV) (off : Nat) (K : Int → Option β) : Option β := cellAt cs off fun c => atInt k c K
def cellS (cs : List AV) (off : Nat) (K : ByteArray → Option β) : Option β := cellAt cs off fun c => atStr c K
def cellL (sz : Nat) (cs : List AV) (off : Nat) (K : List AV → Option β) : Option β := cellAt cs off fun c => atList sz c K

variable {K1 : Bool → Option β} {K2 : Int → Option β} {K3 : ByteArray → Option β} {K4 : List AV → Option β} {K5 : AV → Option β}
variable {J1 : Bool → List AV → Option β} {J2 : Int → List AV → Option β} {J3 : ByteArray → List AV → Option β} {J4 : List AV → List AV → Option β} {J5 : AV → List AV → Option β}
theorem callB_ok (b : Bool) : callB (some (.bool b)) K1 = K1 b := rfl
theorem callI_ok (k : IntKind) (n : Int) : callI k (some (.int k n)) K2 = K2 n := by simp [callI, AV.isTup, AV.isFresh, atInt]
theorem callS_ok (s : ByteArray) : callS (some (.str s)) K3 = K3 s := rfl
theorem callL_ok (sz : Nat) (l : List AV) : callL sz (some (.list sz l)) K4 = K4 l := by simp [callL, AV.isTup, AV.isFresh, atList]
theorem callF_ok (e : TypeId) (l : List AV) : callF e (some (.fresh e l)) K4 = K4 l := by simp [callF, AV.isTup, atFresh]
theorem callT_ok (l : List AV) : callT (some (.tup l)) K4 = K4 l := rfl
theorem tupB_ok (b : Bool) (t : List AV) : tupB (.bool b :: t) J1 = J1 b t := rfl
theorem tupI_ok (k : IntKind) (n : Int) (t : List AV) : tupI k (.int k n :: t) J2 = J2 n t := by simp [tupI, atCons, AV.isFresh, atInt]
theorem tupS_ok (s : ByteArray) (t : List AV) : tupS (.str s :: t) J3 = J3 s t := rfl
theorem tupL_ok (sz : Nat) (l t : List AV) : tupL sz (.list sz l :: t) J4 = J4 l t := by simp [tupL, atCons, AV.isFresh, atList]
theorem tupF_ok (e : TypeId) (l t : List AV) : tupF e (.fresh e l :: t) J4 = J4 l t := by simp [tupF, atCons, atFresh]
theorem atNil_ok (x : Option β) : atNil [] x = x := rfl
theorem cellI_0 (k : IntKind) (n : Int) (cs : List AV) : cellI k (.int k n :: cs) 0 K2 = K2 n := by simp [cellI, cellAt, atInt]
end
def fillS : List (Nat × AV) → List AV → List AV
  | [], l => l
  | (t, v) :: r, l => fillS r (l.set t v)
def fillO : List (Nat × Ob) → List (Option Ob) → List (Option Ob)
  | [], l => l
  | (t, v) :: r, l => fillO r (l.set t (some v))
/-- A frame, told by what is in it. -/
def mkFr (n : Nat) (sl : List (Nat × AV)) (ob : List (Nat × Ob)) : Fr := { sl := fillS sl (List.replicate n .junk), ob := fillO ob (List.replicate (4 * n) none) }

/-- What a claim brings of its own: the functions that are evaluated by their code, and those that are given. -/
structure Ext where
  fs : List FuncId
  isBase : FuncId → Bool
  base : FuncId → List AV → Option AV
theorem Base.kap_at {B : Base} {n : Nat} {f : FuncId} (h1 : B.isBase f = false) (h2 : B.fs.contains f = true) (args : List AV) : B.kap (n + 1) f args = B.at (B.kap n) f args := by
  show (bif B.isBase f then B.base f args else bif B.fs.contains f then B.at (B.kap n) f args else none) = _
  rw [h1, h2]
  rfl
theorem Base.kap_base {B : Base} {n : Nat} {f : FuncId} (h1 : B.isBase f = true) (args : List AV) : B.kap n f args = B.base f args := by
  cases n with
  | zero => show (bif B.isBase f then B.base f args else none) = _; rw [h1]; rfl
  | succ n => show (bif B.isBase f then B.base f args else bif B.fs.contains f then B.at (B.kap n) f args else none) = _; rw [h1]; rfl

/-! Texts and bytes. -/
theorem str_size (l : List UInt8) : (str l).size = l.length := (rfl)
theorem str_inj {l m : List UInt8} : str l = str m ↔ l = m := by simp [str]
theorem str_dec (l m : List UInt8) : decide (str l = str m) = decide (l = m) := by rw [Bool.eq_iff_iff]; simp [str_inj]
theorem str_app (l m : List UInt8) : str l ++ str m = str (l ++ m) := by
  apply ByteArray.ext
  simp [str]
theorem str_ext (l : List UInt8) (a b : Nat) : (str l).extract a b = str ((l.take b).drop a) := by
  apply ByteArray.ext
  simp only [str, ByteArray.data_extract, List.extract_toArray, List.extract_eq_take_drop]
  congr 1
  rw [List.drop_take]
theorem str_byte (l : List UInt8) (i : Nat) : byteAt (str l) i = ((l.getD i 0).toNat : Int) := (rfl)
theorem str_list (l : List UInt8) : (str l).toList = l := by rw [ByteArray.toList_eq]; rfl
theorem i64w {x : Int} (h : -9223372036854775808 ≤ x ∧ x ≤ 9223372036854775807) : IntKind.wrap .i64 x = x := IntWalk.i64_in x h
end Go.Proofs.YtbkhmkcmbaffoaaGreatDoor.Eng


/- The engine, part 23: lists of texts and of numbers as values; loops over lists. -/
set_option linter.unusedVariables false
namespace Go.Proofs.YtbkhmkcmbaffoaaGreatDoor.Eng
open Go
def sv (p : List UInt8) : AV := .str (str p)
def svs (l : List (List UInt8)) : List AV := l.map sv
def iv (n : Int) : AV := .int .i64 n
def ivs (l : List Int) : List AV := l.map iv
def bv (b : Bool) : AV := .bool b
def bvs (l : List Bool) : List AV := l.map bv
theorem svs_len (l : List (List UInt8)) : (svs l).length = l.length := by simp [svs]
theorem ivs_len (l : List Int) : (ivs l).length = l.length := by simp [ivs]
theorem bvs_len (l : List Bool) : (bvs l).length = l.length := by simp [bvs]
theorem svs_snoc (a : List (List UInt8)) (p : List UInt8) : svs a ++ [.str (str p)] = svs (a ++ [p]) := by simp [svs, sv]
theorem ivs_snoc (a : List Int) (p : Int) : ivs a ++ [.int .i64 p] = ivs (a ++ [p]) := by simp [ivs, iv]
theorem svs_take (l : List (List UInt8)) (n : Nat) : (svs l).take n = svs (l.take n) := by simp [svs]
theorem svs_drop (l : List (List UInt8)) (n : Nat) : (svs l).drop n = svs (l.drop n) := by simp [svs]
theorem svs_at (l : List (List UInt8)) (i : Nat) (h : i < l.length) {β : Type} (K : ByteArray → Option β) : (((svs l)[i]?).bind fun y => cellS (AV.cells y) 0 K) = K (str l[i]) := by
  unfold svs
  rw [List.getElem?_map, List.getElem?_eq_getElem h]
  rfl
theorem svs_mid (a b : List (List UInt8)) (p : List UInt8) {β : Type} (K : ByteArray → Option β) : (((svs (a ++ p :: b))[a.length]?).bind fun y => cellS (AV.cells y) 0 K) = K (str p) := by
  rw [svs_at _ _ (by simp)]
  simp
theorem ivs_at (l : List Int) (i : Nat) (h : i < l.length) {β : Type} (K : Int → Option β) : (((ivs l)[i]?).bind fun y => cellI .i64 (AV.cells y) 0 K) = K l[i] := by
  unfold ivs
  rw [List.getElem?_map, List.getElem?_eq_getElem h]
  exact cellI_0 _ _ _
theorem ivs_mid (a b : List Int) (p : Int) {β : Type} (K : Int → Option β) : (((ivs (a ++ p :: b))[a.length]?).bind fun y => cellI .i64 (AV.cells y) 0 K) = K p := by
  rw [ivs_at _ _ (by simp)]
  simp
theorem mid_len {α : Type} (a b : List α) (p : α) : (a ++ p :: b).length = a.length + b.length + 1 := by simp; omega
theorem mid_snoc {α : Type} (a b : List α) (p : α) : a ++ p :: b = (a ++ [p]) ++ b := by simp
theorem mid_byte (a b : List UInt8) (c : UInt8) : (a ++ c :: b).getD a.length 0 = c := by simp [List.getD_eq_getElem?_getD]
theorem mid_cut (a b : List UInt8) (c : UInt8) : ((a ++ c :: b).take (a.length + 1)).drop a.length = [c] := by
  rw [List.take_append, List.take_of_length_le (by omega)]
  simp
/-- What a byte is, as a number. -/
theorem byte_is (c : UInt8) (m : Nat) (h : m < 256) : decide (((c.toNat : Nat) : Int) = ((m : Nat) : Int)) = decide (c = UInt8.ofNat m) := by
  rw [decide_eq_decide]
  constructor
  · intro e
    have : c.toNat = m := by omega
    subst this
    simp
  · rintro rfl
    have : (UInt8.ofNat m).toNat = m := by rw [UInt8.toNat_ofNat']; omega
    rw [this]
/-- A place, in its bounds. -/
theorem inb {i n : Nat} (h : i < n) : (decide ((0 : Int) ≤ ((i : Nat) : Int)) && decide (((i : Nat) : Int) < ((n : Nat) : Int))) = true := by simp; omega
theorem inbE {i n : Nat} (h : i ≤ n) : (decide ((0 : Int) ≤ ((i : Nat) : Int)) && decide (((i : Nat) : Int) ≤ ((n : Nat) : Int))) = true := by simp; omega
theorem nlt {i n : Nat} : decide (((i : Nat) : Int) < ((n : Nat) : Int)) = decide (i < n) := by rw [decide_eq_decide]; omega
theorem nle {i n : Nat} : decide (((i : Nat) : Int) ≤ ((n : Nat) : Int)) = decide (i ≤ n) := by rw [decide_eq_decide]; omega
theorem nge {i n : Nat} : decide (((i : Nat) : Int) ≥ ((n : Nat) : Int)) = decide (i ≥ n) := by rw [decide_eq_decide]; omega
theorem dec0 {n : Nat} : decide ((0 : Int) ≤ ((n : Nat) : Int)) = true := by simp
section
variable {α : Type} {p q : Prop} [Decidable p] [Decidable q] {a b : α} {c d : Bool}
theorem bif_t (h : p) : (bif decide p then a else b) = a := by rw [decide_eq_true h]; rfl
theorem bif_f (h : ¬ p) : (bif decide p then a else b) = b := by rw [decide_eq_false h]; rfl
theorem bif_n : (bif !c then a else b) = (bif c then b else a) := by cases c <;> rfl
theorem bif_a {x : Option α} : (bif c && d then x else none) = (bif c then (bif d then x else none) else none) := by cases c <;> rfl
end
/-- One more. -/
theorem wrap1 {i : Nat} (h : i < 9223372036854775807) : IntKind.wrap .i64 (((i : Nat) : Int) + 1) = ((i + 1 : Nat) : Int) := by rw [i64w (by omega)]; omega
theorem wrapP {i j : Nat} (h : i < 4611686018427387904) (hj : j < 4611686018427387904) : IntKind.wrap .i64 (((i : Nat) : Int) + ((j : Nat) : Int)) = ((i + j : Nat) : Int) := by rw [i64w (by omega)]; omega
theorem wrapM {i : Nat} (h : i < 9223372036854775807) (h0 : 0 < i) : IntKind.wrap .i64 (((i : Nat) : Int) - 1) = ((i - 1 : Nat) : Int) := by rw [i64w (by omega)]; omega
end Go.Proofs.YtbkhmkcmbaffoaaGreatDoor.Eng


/- The engine, part 25: from a datum, as a row reads it, to abstract values: every value that a row hands in is of its type's make, with bounds. -/
set_option linter.unusedVariables false
set_option linter.unusedSectionVars false
namespace Go.Proofs.YtbkhmkcmbaffoaaGreatDoor.Eng.Rdv
open Go Go.ChangeShapes Go.WideShapes Go.Deep Go.Proofs.YtbkhmkcmbaffoaaGreatDoor.Eng

/-- The memory that a call begins with, as what stays. -/
def stab (W : World) : Stab := fun x => W.cell? x
theorem agree_stab (W : World) : Agree (stab W) W := fun _ _ h => h
/-- Cells that hold abstract leaves. -/
def CV (S : Stab) (l : List AV) (cs : List Value) : Prop := l.length = cs.length ∧ ∀ (j : Nat) (c : AV) (v : Value), l[j]? = some c → cs[j]? = some v → c.leaf = true ∧ V S c v
theorem CV.one {S : Stab} {c : AV} {v : Value} (h : V S c v) (hl : c.leaf = true) : CV S [c] [v] := ⟨rfl, fun j c' v' hc hv => by
  cases j with
  | zero => simp only [List.getElem?_cons_zero, Option.some.injEq] at hc hv; subst hc; subst hv; exact ⟨hl, h⟩
  | succ j => simp at hc⟩
theorem CV.app {S : Stab} {l m : List AV} {cs ds : List Value} (h : CV S l cs) (k : CV S m ds) : CV S (l ++ m) (cs ++ ds) := by
  refine ⟨by simp [h.1, k.1], fun j c v hc hv => ?_⟩
  by_cases hj : j < l.length
  · rw [List.getElem?_append_left hj] at hc
    rw [List.getElem?_append_left (by rw [← h.1]; exact hj)] at hv
    exact h.2 j c v hc hv
  · rw [List.getElem?_append_right (by omega)] at hc
    rw [List.getElem?_append_right (by rw [← h.1]; omega), ← h.1] at hv
    exact k.2 _ c v hc hv
/-- Whatever reads as a datum of type t, and weighs no more than can be reached, is told by some r. -/
structure Rd (P : Program) (t : TypeId) {α : Type} (e : α → List AV) (G : α → Prop) : Prop where
  len : ∀ a, (e a).length = P.cellsOf t
  out : ∀ {H : Type} {enc : TypeId × Value → H} {w : World} {base : Nat} {spare : Nat → Bool} {held : Bool} {fuel : Nat} {cs : List Value} {x : DataW H × List MemPlace},
    DataW.trod enc P w base spare held fuel t cs = some x → (∀ n ∈ x.1.weights P t, n ≤ reachBytes) → ∃ r, CV (stab w) (e r) cs ∧ G r

theorem int {P : Program} {t : TypeId} {k : IntKind} (hu : P.underlying t = some (.int k)) (hc : P.cellsOf t = 1) : Rd P t (fun n : Int => [.int k n]) (fun r => k.min ≤ r ∧ r ≤ k.max) :=
  ⟨fun _ => hc.symm, fun h _ => by
    obtain ⟨n, rfl, _, hw⟩ := DataW.trod_int hu h
    refine ⟨n, CV.one (.int _ _) rfl, ?_⟩
    simpa [Lit.wf] using hw⟩
theorem bool {P : Program} {t : TypeId} (hu : P.underlying t = some .bool) (hc : P.cellsOf t = 1) : Rd P t (fun b : Bool => [.bool b]) (fun _ => True) :=
  ⟨fun _ => hc.symm, fun h _ => by
    obtain ⟨n, rfl, _⟩ := DataW.trod_bool hu h
    exact ⟨n, CV.one (.bool _) rfl, trivial⟩⟩
theorem string {P : Program} {t : TypeId} (hu : P.underlying t = some .string) (hc : P.cellsOf t = 1) : Rd P t (fun s : List UInt8 => [.str (str s)]) (fun s => s.length ≤ 140737488351232) :=
  ⟨fun _ => hc.symm, fun h hw => by
    obtain ⟨s, rfl, rfl, _⟩ := DataW.trod_string hu h
    refine ⟨s.data.toList, ?_, ?_⟩
    · have e : str s.data.toList = s := by cases s; simp [str]
      rw [e]
      exact CV.one (.str _) rfl
    · have := hw s.data.toList.length (by simp [DataW.weights])
      exact this⟩

theorem weights_all {H : Type} {P : Program} {e : TypeId} : ∀ {ds : List (DataW H)} {d : DataW H}, d ∈ ds → ∀ n ∈ d.weights P e, n ∈ DataW.weightsAll P e ds
  | [], _, h, _, _ => by cases h
  | d0 :: ds, d, h, n, hn => by
    simp only [DataW.weightsAll, List.mem_append]
    rcases List.mem_cons.1 h with rfl | h
    · exact .inl hn
    · exact .inr (weights_all h n hn)


theorem all_reads {α : Type} {G : α → Prop} {R : Nat → α → List Value → Prop} (n : Nat) (h : ∀ i, i < n → ∃ r c, R i r c ∧ G r) :
    ∃ l : List α, l.length = n ∧ (∀ x ∈ l, G x) ∧ ∀ j p, l[j]? = some p → ∃ c, R j p c := by
  induction n with
  | zero => exact ⟨[], rfl, by simp, by simp⟩
  | succ n ih =>
    obtain ⟨l, hl, hg, hr⟩ := ih (fun i hi => h i (by omega))
    obtain ⟨r, c, h1, h2⟩ := h n (by omega)
    refine ⟨l ++ [r], by simp [hl], ?_, ?_⟩
    · intro x hx
      rcases List.mem_append.1 hx with hx | hx
      · exact hg x hx
      · rw [List.mem_singleton.1 hx]; exact h2
    · intro j p hj
      by_cases hjl : j < l.length
      · rw [List.getElem?_append_left hjl] at hj
        exact hr j p hj
      · have e : j = n := by
          have := (List.getElem?_eq_some_iff.1 hj).1
          rw [List.length_append, List.length_singleton] at this
          omega
        subst e
        rw [← hl, List.getElem?_append_right (by omega)] at hj
        simp at hj
        subst hj
        exact ⟨c, h1⟩


/-- A slice, over its elements' make. -/
theorem slice {P : Program} {t e : TypeId} {α : Type} {en : α → List AV} {G : α → Prop} {B : Nat} (el : α → AV) (hel : ∀ a, (el a).cells = en a) (hu : P.underlying t = some (.slice e)) (hc : P.cellsOf t = 1) (hB : P.bytesOf e = B) (he : Rd P e en G) :
    Rd P t (fun l : List α => [.list (P.cellsOf e) (l.map el)]) (fun l => l.length * B ≤ 140737488351232 ∧ ∀ x ∈ l, G x) :=
  ⟨fun _ => hc.symm, fun {H enc w base spare held fuel cs x} h hw => by
    rcases Go.Deep.open_slice hu h with ⟨rfl, rfl⟩ | ⟨a, len, cap, m, n, D, Pl, rfl, hb, hl, hm, hmm, rfl, hx⟩
    · exact ⟨[], CV.one (.listn _) rfl, by simp, by simp⟩
    · have hlm : len ≤ m := by rw [hmm]; split <;> omega
      have hel' : ∀ i, i < len → ∃ r c, (CV (stab w) (en r) c ∧ ∀ k u, c[k]? = some u → w.cell? (a.add (i * P.cellsOf e + k)) = some u) ∧ G r := by
        intro i hi
        obtain ⟨cs', h1, h2⟩ := hx i (by omega)
        obtain ⟨r, hr, hg⟩ := he.out h2 (fun n hn => hw n (by
          simp only [DataW.weights, hu, List.mem_cons, List.mem_append]
          exact .inr (.inl (weights_all (List.mem_map.2 ⟨i, List.mem_range.2 hi, rfl⟩) n hn))))
        obtain ⟨_, hcl, hat⟩ := World.cells?_some h1
        refine ⟨r, cs', ⟨hr, fun k u hk => ?_⟩, hg⟩
        have hk' : k < P.cellsOf e := by rw [← hcl]; exact (List.getElem?_eq_some_iff.1 hk).1
        rw [← Go.Deep.add_add, hat k hk', hk]
      obtain ⟨l, hll, hg, hr⟩ := all_reads (R := fun i r c => CV (stab w) (en r) c ∧ ∀ k u, c[k]? = some u → w.cell? (a.add (i * P.cellsOf e + k)) = some u) len hel'
      have hz : len * B ≤ 140737488351232 := by
        have := hw ((len + (m - len)) * B) (by simp [DataW.weights, hu, hB])
        exact Nat.le_trans (Nat.mul_le_mul_right _ (by omega)) this
      refine ⟨l, CV.one ?_ rfl, by rw [hll]; exact hz, hg⟩
      have key : ∀ (i : Nat) (y : AV), (l.map el)[i]? = some y → ∃ p, l[i]? = some p ∧ y = el p := by
        intro i y hy
        rw [List.getElem?_map] at hy
        obtain ⟨p, hp, rfl⟩ := Option.map_eq_some_iff.1 hy
        exact ⟨p, hp, rfl⟩
      have cell : ∀ (i : Nat) (y : AV) (j : Nat) (c : AV), (l.map el)[i]? = some y → y.cells[j]? = some c → ∃ v, w.cell? (a.add (i * P.cellsOf e + j)) = some v ∧ c.leaf = true ∧ V (stab w) c v := by
        intro i y j c hy hc
        obtain ⟨p, hp, rfl⟩ := key i y hy
        obtain ⟨cs, h1, h2⟩ := hr i p hp
        rw [hel] at hc
        have hj : j < cs.length := by rw [← h1.1]; exact (List.getElem?_eq_some_iff.1 hc).1
        obtain ⟨q1, q2⟩ := h1.2 j c cs[j] hc (List.getElem?_eq_getElem hj)
        exact ⟨cs[j], h2 j _ (List.getElem?_eq_getElem hj), q1, q2⟩
      have hlen : (l.map el).length = len := by simp [hll]
      have := V.list (S := stab w) (P.cellsOf e) (l.map el) a cap (fun i j => (w.cell? (a.add (i * P.cellsOf e + j))).getD undef) (by rw [hlen]; exact hl)
        (fun i y hy => by obtain ⟨p, _, rfl⟩ := key i y hy; rw [hel, he.len]) (fun i y j c hy hc => by obtain ⟨v, _, h, _⟩ := cell i y j c hy hc; exact h)
        (fun i y j c hy hc => by obtain ⟨v, h, _⟩ := cell i y j c hy hc; show w.cell? _ = _; rw [h]; rfl) (fun i y j c hy hc => by obtain ⟨v, h, _, hv⟩ := cell i y j c hy hc; rw [h]; exact hv)
      rw [hlen] at this
      exact this⟩

theorem sliceAt {P : Program} {t e : TypeId} {α : Type} {en : α → List AV} {G : α → Prop} {B sz : Nat} (el : α → AV) (hel : ∀ a, (el a).cells = en a) (hu : P.underlying t = some (.slice e)) (hc : P.cellsOf t = 1) (hB : P.bytesOf e = B) (hz : P.cellsOf e = sz) (he : Rd P e en G) :
    Rd P t (fun l : List α => [.list sz (l.map el)]) (fun l => l.length * B ≤ 140737488351232 ∧ ∀ x ∈ l, G x) := by
  subst hz
  exact slice el hel hu hc hB he
/-- Fields in line, from the cell o on. -/
structure RdF (P : Program) (ts : List TypeId) {α : Type} (e : α → List AV) (G : α → Prop) : Prop where
  len : ∀ a, (e a).length = (ts.map P.cellsOf).sum
  out : ∀ {H : Type} {enc : TypeId × Value → H} {w : World} {base : Nat} {spare : Nat → Bool} {held : Bool} {fuel : Nat} {cs : List Value} {ys : List (DataW H × List MemPlace)},
    cs.length = (ts.map P.cellsOf).sum → ys.length = ts.length → (∀ (i : Nat) (t : TypeId), ts[i]? = some t → DataW.trod enc P w base spare held fuel t ((cs.drop ((ts.take i).map P.cellsOf).sum).take (P.cellsOf t)) = ys[i]?) →
    (∀ n ∈ DataW.weightsEach P ts (ys.map (·.1)), n ≤ reachBytes) → ∃ r, CV (stab w) (e r) cs ∧ G r
theorem one {P : Program} {t : TypeId} {α : Type} {e : α → List AV} {G : α → Prop} (h : Rd P t e G) : RdF P [t] e G :=
  ⟨fun a => by simpa using h.len a, fun {H enc w base spare held fuel cs ys} hcs hys hg hw => by
    match ys, hys with
    | [y], _ =>
      have h0 := hg 0 t rfl
      have hcs : cs.length = P.cellsOf t := by simpa using hcs
      simp only [List.take_zero, List.map_nil, List.sum_nil, List.drop_zero, List.getElem?_cons_zero, ← hcs, List.take_length] at h0
      exact h.out h0 (fun n hn => hw n (by simp only [List.map_cons, DataW.weightsEach, List.mem_append]; exact .inl hn))⟩
theorem cons {P : Program} {t t' : TypeId} {ts : List TypeId} {α β : Type} {a : α → List AV} {b : β → List AV} {G : α → Prop} {G' : β → Prop} (h : Rd P t a G) (h' : RdF P (t' :: ts) b G') :
    RdF P (t :: t' :: ts) (fun x : α × β => a x.1 ++ b x.2) (fun x => G x.1 ∧ G' x.2) :=
  ⟨fun x => by rw [List.length_append, h.len, h'.len]; simp, fun {H enc w base spare held fuel cs ys} hcs hys hg hw => by
    match ys, hys with
    | y :: ys, hys =>
      have hsz : cs.length = P.cellsOf t + ((t' :: ts).map P.cellsOf).sum := by simpa using hcs
      have h0 := hg 0 t rfl
      simp only [List.take_zero, List.map_nil, List.sum_nil, List.drop_zero, List.getElem?_cons_zero] at h0
      obtain ⟨r, hr, gr⟩ := h.out h0 (fun n hn => hw n (by simp only [List.map_cons, DataW.weightsEach, List.mem_append]; exact .inl hn))
      obtain ⟨r', hr', gr'⟩ := h'.out (cs := cs.drop (P.cellsOf t)) (ys := ys) (by rw [List.length_drop]; omega) (by simpa using hys) (fun i u hi => by
        have := hg (i + 1) u (by simpa using hi)
        simp only [List.take_succ_cons, List.map_cons, List.sum_cons, List.getElem?_cons_succ] at this
        rw [List.drop_drop]
        exact this) (fun n hn => hw n (by simp only [List.map_cons, DataW.weightsEach, List.mem_append] at hn ⊢; exact .inr hn))
      refine ⟨(r, r'), ?_, gr, gr'⟩
      have := hr.app hr'
      rwa [List.take_append_drop] at this⟩
theorem iso {P : Program} {ts : List TypeId} {α β : Type} {e : α → List AV} {G : α → Prop} (e' : β → List AV) (f : β → α) (g : α → β) (hfg : ∀ x, f (g x) = x) (he : ∀ x, e' x = e (f x)) (h : RdF P ts e G) : RdF P ts e' (fun y => G (f y)) :=
  ⟨fun y => by rw [he]; exact h.len _, fun {H enc w base spare held fuel cs ys} hcs hys hg hw => by
    obtain ⟨r, hr, gr⟩ := h.out hcs hys hg hw
    exact ⟨g r, by rw [he, hfg]; exact hr, by show G (f (g r)); rw [hfg]; exact gr⟩⟩
/-- The fields' offsets are the sums of the cells ahead. -/
def offs (P : Program) : Nat → List Field → Bool
  | _, [] => true
  | o, f :: fs => f.offset == o && offs P (o + P.cellsOf f.type) fs
theorem offs_at {P : Program} : ∀ {fs : List Field} {o : Nat}, offs P o fs = true → ∀ (i : Nat) (f : Field), fs[i]? = some f → f.offset = o + (((fs.map (·.type)).take i).map P.cellsOf).sum
  | [], _, _, _, _, h => by simp at h
  | f0 :: fs, o, ho, 0, f, h => by
    simp only [List.getElem?_cons_zero, Option.some.injEq] at h
    subst h
    simp only [offs, Bool.and_eq_true, beq_iff_eq] at ho
    simp [ho.1]
  | f0 :: fs, o, ho, i + 1, f, h => by
    simp only [offs, Bool.and_eq_true, beq_iff_eq] at ho
    have := offs_at ho.2 i f (by simpa using h)
    simp only [List.map_cons, List.take_succ_cons, List.sum_cons]
    omega
theorem struct {P : Program} {t : TypeId} {fs : List Field} {ts : List TypeId} {α : Type} {e : α → List AV} {G : α → Prop} (hu : P.underlying t = some (.struct fs.toArray)) (hts : fs.map (·.type) = ts) (ho : offs P 0 fs = true) (hC : P.cellsOf t = (ts.map P.cellsOf).sum)
    (h : RdF P ts e G) : Rd P t e G :=
  ⟨fun a => by rw [h.len, hC], fun {H enc w base spare held fuel cs x} hx hw => by
    obtain ⟨xs, n, _, rfl, hcl, hxl, hi⟩ := DataW.trod_struct hu hx
    subst hts
    refine h.out (enc := enc) (w := w) (base := base) (spare := spare) (held := held) (fuel := n) (ys := xs) (by rw [hcl, hC]) (by rw [hxl]; simp) (fun i t' hi' => ?_) (fun n hn => hw n (by simpa [DataW.weights, hu] using hn))
    rw [List.getElem?_map, Option.map_eq_some_iff] at hi'
    obtain ⟨f, hf, rfl⟩ := hi'
    have hoff := offs_at ho i f hf
    have := hi i f (by simpa using hf)
    rw [hoff, Nat.zero_add] at this
    exact this⟩
theorem weaken {P : Program} {t : TypeId} {α : Type} {e : α → List AV} {G G' : α → Prop} (h : Rd P t e G) (hg : ∀ x, G x → G' x) : Rd P t e G' :=
  ⟨h.len, fun a b => let ⟨r, h1, h2⟩ := h.out a b; ⟨r, h1, hg r h2⟩⟩

/-- A weight of the whole, of one argument. -/
theorem weights_one {H : Type} {P : Program} {ts : List TypeId} {ds : List (DataW H)} {j : Nat} {t : TypeId} {d : DataW H} (hsz : (DataW.weightsEach P ts ds).all (· ≤ reachBytes) = true) (ht : ts[j]? = some t) (hd : ds[j]? = some d) :
    ∀ n ∈ d.weights P t, n ≤ reachBytes := fun n hn => by
  have := List.all_eq_true.1 hsz n (DataW.weights_mem_each ht hd n hn)
  simpa using this
/-- An argument of one cell. -/
theorem of_one {H : Type} {enc : TypeId × Value → H} {P : Program} {w : World} {base : Nat} {spare : Nat → Bool} {held : Bool} {t : TypeId} {α : Type} {el : α → AV} {G : α → Prop} {v : Value} {x : DataW H} {ps : List MemPlace} (hR : Rd P t (fun a => [el a]) G)
    (h : DataW.Trod enc P w base spare held t v x ps) (hv : v.cells.toList = [v]) (hw : ∀ n ∈ x.weights P t, n ≤ reachBytes) : ∃ r, V (stab w) (el r) v ∧ G r := by
  obtain ⟨fuel, hf⟩ := h
  obtain ⟨r, hr, hG⟩ := hR.out hf hw
  rw [hv] at hr
  exact ⟨r, (hr.2 0 _ _ rfl rfl).2, hG⟩
/-- An argument of many cells. -/
theorem of_agg {H : Type} {enc : TypeId × Value → H} {P : Program} {w : World} {base : Nat} {spare : Nat → Bool} {held : Bool} {t : TypeId} {α : Type} {e : α → List AV} {G : α → Prop} {v : Value} {x : DataW H} {ps : List MemPlace} (hR : Rd P t e G)
    (h : DataW.Trod enc P w base spare held t v x ps) (hv : ∃ cs, v = .agg cs) (hw : ∀ n ∈ x.weights P t, n ≤ reachBytes) : ∃ r, V (stab w) (.agg (e r)) v ∧ G r := by
  obtain ⟨fuel, hf⟩ := h
  obtain ⟨cs, rfl⟩ := hv
  obtain ⟨r, hr, hG⟩ := hR.out hf hw
  refine ⟨r, ?_, hG⟩
  have e : (Value.agg cs).cells.toList = cs.toList := rfl
  rw [e] at hr
  have := V.agg (S := stab w) _ cs.toList hr.1 (fun j c hc => ?_) (fun j c u hc hu => (hr.2 j c u hc hu).2)
  · simpa using this
  · have hj : j < cs.toList.length := by rw [← hr.1]; exact (List.getElem?_eq_some_iff.1 hc).1
    exact (hr.2 j c _ hc (List.getElem?_eq_getElem hj)).1
end Go.Proofs.YtbkhmkcmbaffoaaGreatDoor.Eng.Rdv

