/- The engine, part 14: any operation. -/
import Derived.Test.YtilbahgfjfcikaaDoorE13
set_option linter.unusedVariables false
set_option linter.unusedSimpArgs false
namespace Go.Proofs.YtilbahgfjfcikaaDoor.Eng
open Go Go.RowKit
variable {P : Program} {S0 S S' : Stab} {W w w' : World} {gv gv' : Nat → Value} {fr : Fr} {a : Act} {ob ob' : Nat → Option Ob} {β : Type}
variable {C : Cfg} {o : Oper} {K : AV → Upd → New → Option β} {r : β} {next : Act → World → Prop} {Q : Exit → Act → World → Prop}

theorem pure_ok (h : Rel C.P S0 W S gv fr a w) {v : AV} {val : Value} (hrun : (execOp a.eval o).run C.P w = .ok (.value val) w) (hv : SV C.P S gv fr.obj v val) (hk : K v [] [] = some r) (hn : Fin C.P S0 W fr o K r next) : o.wp C.P a w next Q :=
  wp_value hrun (hn _ _ _ _ _ _ _ hk (h.put0 hv o.dst))
theorem some_of_guard {c : Bool} {x : Option β} {r : β} (h : (bif c then x else none) = some r) : c = true ∧ x = some r := some_of_bif h

theorem map_two {α γ : Type} {f : α → γ} {l : List α} {x y : γ} (h : l.map f = [x, y]) : ∃ p q, l = [p, q] ∧ f p = x ∧ f q = y := by
  match l, h with
  | [p, q], h => simp at h; exact ⟨p, q, rfl, h.1, h.2⟩
theorem run_max2 (k : IntKind) (x y : Int) : (Builtin.max2 (.int k x) (.int k y)).run P w = .ok (.int k (if y > x then y else x)) w := rfl
theorem run_min2 (k : IntKind) (x y : Int) : (Builtin.min2 (.int k x) (.int k y)).run P w = .ok (.int k (if y < x then y else x)) w := rfl

theorem opk_ok (h : Rel C.P S0 W S gv fr a w) (hS : Sound C) (hG : GlobOk C.glob S0 W) {σ : Nat → Option Ob} (hσ : ∀ r o, σ r = some o → fr.obj r = some o) {nt : Nat} {vs : List AV} (hvs : (opnds o.op).map (fr.val C) = vs)
    (hlt : ∀ v u n, K v u n = some r → ∀ y ∈ n, y.1 < fr.ob.length) (hk : opk C nt o vs σ K = some r) (hn : Fin C.P S0 W fr o K r next) : o.wp C.P a w next Q := by
  have hval : ∀ x : Operand, SV C.P S gv fr.obj (fr.val C x) (a.eval x) := fun x => val_ok h hG x
  have hnew : ∀ {v : AV} {u : Upd} {t : Nat} {ob : Ob}, K v u [(t, ob)] = some r → t < fr.ob.length := fun hk => hlt _ _ _ hk (_, _) (List.mem_singleton.2 rfl)
  have hlist : ∀ {l : List (Nat × Operand)} {vs : List AV}, (l.map (·.2)).map (fr.val C) = vs → vs.length = l.length ∧ ∀ (j : Nat) (q : Nat × Operand) (v : AV), l[j]? = some q → vs[j]? = some v → SV C.P S gv fr.obj v (a.eval q.2) := by
    rintro l vs rfl
    refine ⟨by simp, fun j q v hq hv => ?_⟩
    rw [List.getElem?_map, List.getElem?_map, hq] at hv
    cases hv
    exact hval _
  unfold opk at hk
  simp only at hk
  split at hk
  · rename_i x v heq
    simp only [heq, opnds, List.map_cons, List.map_nil, List.cons.injEq, and_true] at hvs
    subst hvs
    exact pure_ok h (by unfold execOp; simp only [heq]; rfl) (hval x) hk hn
  · rename_i x v heq
    simp only [heq, opnds, List.map_cons, List.map_nil, List.cons.injEq, and_true] at hvs
    subst hvs
    exact pure_ok h (by unfold execOp; simp only [heq]; rfl) (hval x) hk hn
  · rename_i c x y q va vb heq
    simp only [heq, opnds, List.map_cons, List.map_nil, List.cons.injEq, and_true] at hvs
    obtain ⟨hc, hx, hy⟩ := hvs
    have sc := hval c
    rw [hc] at sc
    have sx := hval x
    rw [hx] at sx
    have sy := hval y
    rw [hy] at sy
    have hrun : (execOp a.eval o).run C.P w = .ok (.value (if q then a.eval x else a.eval y)) w := by
      unfold execOp
      simp only [heq, sc.bool, asBool, Sem.run_bind, Sem.run_pure, Result.andThen_ok]
    split at hk
    · refine pure_ok h hrun ?_ hk hn
      cases q
      · exact sy
      · exact sx
    · cases q
      · exact pure_ok h hrun sy hk hn
      · exact pure_ok h hrun sx hk hn
  · rename_i e heq
    obtain ⟨hz, hk⟩ := some_of_guard hk
    exact alloc_ok h heq (hnew hk) hz hk hn
  · rename_i e x v heq
    obtain ⟨hc, hk⟩ := some_of_guard hk
    simp only [Bool.and_eq_true, List.isEmpty_iff] at hc
    simp only [heq, opnds, List.map_cons, List.map_nil, List.cons.injEq, and_true] at hvs
    have sx := hval x
    rw [hvs] at sx
    exact box_ok h heq (hnew hk) sx hc.1.2 hk hc.2 hn
  · rename_i t ps vs heq
    simp only [heq, opnds] at hvs
    obtain ⟨q1, q2⟩ := hlist hvs
    exact build_ok h heq q1 q2 hk hn
  · rename_i t n ps vs heq
    simp only [heq, opnds] at hvs
    obtain ⟨q1, q2⟩ := hlist hvs
    split at hk
    · rename_i e hu
      obtain ⟨hc, hk⟩ := some_of_guard hk
      simp only [Bool.and_eq_true, decide_eq_true_eq] at hc
      exact buildSlice_ok h hσ heq hu hlt q1 q2 hc.1.1.1 hc.1.1.2 hc.1.2 hc.2 hk hn
    · cases hk
  · rename_i t x p heq
    simp only [heq, opnds, List.map_cons, List.map_nil, List.cons.injEq, and_true] at hvs
    have sx := hval x
    rw [hvs] at sx
    exact load_ok h hσ heq sx hk hn
  · rename_i t po xo p x heq
    obtain ⟨hsol, hk⟩ := some_of_guard hk
    simp only [heq, opnds, List.map_cons, List.map_nil, List.cons.injEq, and_true] at hvs
    have sp := hval po
    rw [hvs.1] at sp
    have sx := hval xo
    rw [hvs.2] at sx
    unfold storeK at hk
    cases p <;> simp only at hk <;> first | (cases hk; done) | skip
    · split at hk
      · rename_i cs hq
        obtain ⟨hc, hk⟩ := some_of_guard hk
        simp only [Bool.and_eq_true, beq_iff_eq, decide_eq_true_eq] at hc
        exact store_loc h heq sp sx hsol (hσ _ _ hq) hc.1.1 hc.1.2 hc.2 hk hn
      · cases hk
    · split at hk
      · rename_i e xs hq
        exact store_rloc h hσ heq sp sx hq hk hn
      · cases hk
  · rename_i x p heq
    simp only [heq, opnds, List.map_cons, List.map_nil, List.cons.injEq, and_true] at hvs
    have sx := hval x
    rw [hvs] at sx
    have hptr : ∀ {q : Option Addr}, a.eval x = .pointer q → q ≠ none → (execOp a.eval o).run C.P w = .ok (.value (a.eval x)) w := by
      intro q hq hne
      unfold execOp
      simp only [heq]
      rw [hq]
      cases q with
      | none => exact absurd rfl hne
      | some q => rfl
    split at hk
    · obtain ⟨hb, hk⟩ := some_of_guard hk
      unfold isBox at hb
      split at hb
      · rename_i cs hq
        obtain ⟨g, hg, hv⟩ := sx.2 cs (hσ _ _ hq)
        exact pure_ok h (hptr hv (by simp)) sx hk hn
      · cases hb
    · obtain ⟨hb, hk⟩ := some_of_guard hk
      unfold isRow at hb
      split at hb
      · rename_i e xs fz hq
        obtain ⟨_, g, m, c, hg, hv⟩ := sx.2 e xs fz (hσ _ _ hq)
        exact pure_ok h (hptr hv (by simp)) sx hk hn
      · cases hb
    · rename_i cs off
      refine pure_ok h ?_ sx hk hn
      have hV : V S (.eptr cs off) (a.eval x) := sx
      have : ∃ q, a.eval x = .pointer (some q) := by
        generalize a.eval x = v at hV
        cases hV; exact ⟨_, rfl⟩
      obtain ⟨q, hq⟩ := this
      exact hptr hq (by simp)
    · rename_i f fs cs
      refine pure_ok h ?_ sx hk hn
      have hV : V S (.func (.func f) fs cs) (a.eval x) := sx
      have : ∃ fv cv, a.eval x = .func (.func f) fv cv := by
        generalize a.eval x = v at hV
        cases hV; exact ⟨_, _, rfl⟩
      obtain ⟨fv, cv, hq⟩ := this
      unfold execOp
      simp only [heq]
      rw [hq]
      rfl
    · cases hk
  · rename_i op t xo yo yt x y heq
    simp only [heq, opnds, List.map_cons, List.map_nil, List.cons.injEq, and_true] at hvs
    have sx := hval xo
    rw [hvs.1] at sx
    have sy := hval yo
    rw [hvs.2] at sy
    obtain ⟨v, val, e1, e2, e3⟩ := bop_ok (w := w) hk sx sy
    refine pure_ok h ?_ e2 e3 hn
    unfold execOp
    simp only [heq, Sem.run_bind] at e1 ⊢
    rw [e1]
    rfl
  · rename_i op t xo x heq
    simp only [heq, opnds, List.map_cons, List.map_nil, List.cons.injEq, and_true] at hvs
    have sx := hval xo
    rw [hvs] at sx
    obtain ⟨v, val, e1, e2, e3⟩ := uop_ok (P := C.P) (w := w) hk sx
    refine pure_ok h ?_ e2 e3 hn
    unfold execOp
    simp only [heq, Sem.run_bind, e1, Result.andThen_ok]
    rfl
  · rename_i s d xo x heq
    simp only [heq, opnds, List.map_cons, List.map_nil, List.cons.injEq, and_true] at hvs
    have sx := hval xo
    rw [hvs] at sx
    exact conv_ok h hσ heq sx hk hn
  · rename_i vs _ vs1 f first captured heq
    obtain ⟨hp, hk⟩ := some_of_guard hk
    simp only [heq, opnds] at hvs
    have hvV : ∀ (j : Nat) (c : AV) (x : Value), vs[j]? = some c → ((first.toList ++ captured.toList).map a.eval)[j]? = some x → V S c x := by
      intro j c x hc hx
      rw [← hvs, List.getElem?_map] at hc
      rw [List.getElem?_map] at hx
      obtain ⟨q, hq, rfl⟩ := Option.map_eq_some_iff.1 hx
      rw [hq] at hc
      cases hc
      have hpp : (fr.val C q).pure1 = true := List.all_eq_true.1 hp _ (by rw [← hvs]; exact List.mem_map.2 ⟨q, List.mem_of_getElem? hq, rfl⟩)
      have := hval q
      rw [SV_eq (by cases hh : fr.val C q <;> rw [hh] at hpp <;> first | rfl | (simp [AV.pure1] at hpp))] at this
      exact this.toV hpp
    have hlen : vs.length = first.toList.length + captured.toList.length := by rw [← hvs]; simp
    refine pure_ok h (val := .func (.func f) (first.map a.eval) (captured.map a.eval)) (by unfold execOp; simp only [heq, Instr.makeFunc, Sem.run_bind, Sem.run_pure, Result.andThen_ok]) ?_ hk hn
    have hf : first.map a.eval = (first.toList.map a.eval).toArray := by apply Array.ext'; simp
    have hc : captured.map a.eval = (captured.toList.map a.eval).toArray := by apply Array.ext'; simp
    rw [hf, hc]
    refine (V.func _ _ _ _ _ ?_ ?_ (fun j c x hc hx => ?_) (fun j c x hc hx => ?_)).toSV
    · simp; simp at hlen; omega
    · simp; simp at hlen; omega
    · have hj : j < first.size := by
        have := (List.getElem?_eq_some_iff.1 hx).1
        simpa using this
      rw [List.getElem?_take, if_pos hj] at hc
      refine hvV j c x hc ?_
      rw [List.map_append, List.getElem?_append_left (by simpa using hj)]
      exact hx
    · rw [List.getElem?_drop] at hc
      refine hvV _ c x hc ?_
      rw [List.map_append, List.getElem?_append_right (by simp)]
      simpa using hx
  · rename_i t lo co l c heq
    simp only [heq, opnds, List.map_cons, List.map_nil, List.cons.injEq, and_true] at hvs
    have sl := hval lo
    rw [hvs.1] at sl
    have sc := hval co
    rw [hvs.2] at sc
    exact make_ok h heq hlt sl sc hk hn
  · rename_i vs _ vs1 t xo lo hi heq
    simp only [heq, opnds] at hvs
    split at hk
    · rename_i x
      simp only [List.append_nil, List.map_cons, List.map_nil, List.cons.injEq, and_true] at hvs
      have sx := hval xo
      rw [hvs] at sx
      exact slice_ok h hσ heq sx (fun v hv => by cases hv) (fun _ => rfl) (fun v hv => by cases hv) (fun _ => rfl) hk hn
    · rename_i lq x l
      simp only [List.append_nil, List.map_cons, List.map_nil, List.cons.injEq, and_true] at hvs
      have sx := hval xo
      rw [hvs.1] at sx
      have sl := hval lq
      rw [hvs.2] at sl
      exact slice_ok h hσ heq sx (fun v hv => by cases hv; exact ⟨_, rfl, sl⟩) (fun hh => by cases hh) (fun v hv => by cases hv) (fun _ => rfl) hk hn
    · rename_i hq x hv'
      simp only [List.nil_append, List.map_cons, List.map_nil, List.cons.injEq, and_true] at hvs
      have sx := hval xo
      rw [hvs.1] at sx
      have sh := hval hq
      rw [hvs.2] at sh
      exact slice_ok h hσ heq sx (fun v hv => by cases hv) (fun _ => rfl) (fun v hv => by cases hv; exact ⟨_, rfl, sh⟩) (fun hh => by cases hh) hk hn
    · rename_i lq hq x l hv'
      simp only [List.cons_append, List.nil_append, List.map_cons, List.map_nil, List.cons.injEq, and_true] at hvs
      have sx := hval xo
      rw [hvs.1] at sx
      have sl := hval lq
      rw [hvs.2.1] at sl
      have sh := hval hq
      rw [hvs.2.2] at sh
      exact slice_ok h hσ heq sx (fun v hv => by cases hv; exact ⟨_, rfl, sl⟩) (fun hh => by cases hh) (fun v hv => by cases hv; exact ⟨_, rfl, sh⟩) (fun hh => by cases hh) hk hn
    · cases hk
  · rename_i s xo f x heq
    simp only [heq, opnds, List.map_cons, List.map_nil, List.cons.injEq, and_true] at hvs
    have sx := hval xo
    rw [hvs] at sx
    obtain ⟨v, val, e1, e2, e3⟩ := fieldAddrK_ok (w := w) hσ hk sx
    refine pure_ok h ?_ e2 e3 hn
    unfold execOp
    simp only [heq, Sem.run_bind, e1, Result.andThen_ok]
    rfl
  · rename_i t xo io x i heq
    simp only [heq, opnds, List.map_cons, List.map_nil, List.cons.injEq, and_true] at hvs
    have sx := hval xo
    rw [hvs.1] at sx
    have si := hval io
    rw [hvs.2] at si
    obtain ⟨v, val, e1, e2, e3⟩ := indexAddrK_ok h hσ hk sx si
    refine pure_ok h ?_ e2 e3 hn
    unfold execOp
    simp only [heq, Sem.run_bind, e1, Result.andThen_ok]
    rfl
  · rename_i t xo io x i heq
    simp only [heq, opnds, List.map_cons, List.map_nil, List.cons.injEq, and_true] at hvs
    have sx := hval xo
    rw [hvs.1] at sx
    have si := hval io
    rw [hvs.2] at si
    obtain ⟨v, val, e1, e2, e3⟩ := indexK_ok (P := C.P) (w := w) hk sx si
    refine pure_ok h ?_ e2 e3 hn
    unfold execOp
    simp only [heq, Sem.run_bind, e1, Result.andThen_ok]
    rfl
  · rename_i xo i l heq
    simp only [heq, opnds, List.map_cons, List.map_nil, List.cons.injEq, and_true] at hvs
    have sx := hval xo
    rw [hvs] at sx
    obtain ⟨us, hv, hl, hm⟩ := sx
    split at hk
    · rename_i c hc
      have hlt' : i < us.length := by rw [← hl]; exact (List.getElem?_eq_some_iff.1 hc).1
      have hu := List.getElem?_eq_getElem hlt'
      have s1 := hm i c _ hc hu
      refine pure_ok h (val := us[i]) ?_ ?_ hk hn
      · unfold execOp
        simp only [heq, hv, Instr.extract, List.getElem?_toArray, hu, Sem.run_bind, Sem.run_pure, Result.andThen_ok]
      · by_cases hcc : c.isC = true
        · cases c <;> first | (simp [AV.isC] at hcc; done) | skip
          · exact V.toSV (show V S _ _ from s1)
          · cases (show V S _ _ from s1)
        · rw [SV_eq (by simpa using hcc)]; exact s1
    · cases hk
  · rename_i t xo x heq
    simp only [heq, opnds, List.map_cons, List.map_nil, List.cons.injEq, and_true] at hvs
    have sx := hval xo
    rw [hvs] at sx
    unfold rangeK at hk
    split at hk
    · rename_i hu
      split at hk
      · rename_i s
        exact range_ok h heq (hnew hk) hu sx hk hn
      · cases hk
    · cases hk
  · rename_i xo x heq
    simp only [heq, opnds, List.map_cons, List.map_nil, List.cons.injEq, and_true] at hvs
    have sx := hval xo
    rw [hvs] at sx
    unfold nextK at hk
    split at hk
    · split at hk
      · rename_i it s pos hit
        exact next_ok h heq (hσ _ _ hit) sx hk hn
      · cases hk
    · cases hk
  · rename_i vs1 c heq
    obtain ⟨callee, args, ats⟩ := c
    simp only [heq, opnds] at hvs
    split at hk
    · rename_i fo f first cap as hcal
      obtain ⟨hfst, hk⟩ := some_of_guard hk
      have hfst : first = [] := by simpa using hfst
      subst hfst
      simp only at hcal
      subst hcal
      simp only [List.cons_append, List.nil_append, List.map_cons, List.cons.injEq] at hvs
      have sf := hval fo
      rw [hvs.1] at sf
      refine call_ok h hS hG hσ heq sf (by rw [← hvs.2]; simp) (fun j q v hq hv => ?_) hlt hk hn
      rw [← hvs.2, List.getElem?_map, hq] at hv
      cases hv
      exact hval q
    · rename_i b vs' hcal
      simp only at hcal
      subst hcal
      simp only [List.nil_append] at hvs
      unfold builtinK at hk
      split at hk
      · rename_i T v hats
        match hal : args.toList, hvs with
        | [xo], hvs =>
          simp only [List.map_cons, List.map_nil, List.cons.injEq, and_true] at hvs
          have sx := hval xo
          rw [hvs] at sx
          have hargs : args = #[xo] := by apply Array.ext'; simpa using hal
          have hats' : ats = #[T] := by apply Array.ext'; simpa using hats
          subst hargs; subst hats'
          exact len_ok h hσ heq sx hk hn
      · rename_i T T' s x hats
        have hT := beq_iff_eq.1 (some_of_guard hk).1
        replace hk := (some_of_guard hk).2
        subst hT
        obtain ⟨so, xo, hal, h1, h2⟩ := map_two hvs
        · have ss := hval so
          rw [h1] at ss
          have sx := hval xo
          rw [h2] at sx
          have hargs : args = #[so, xo] := by apply Array.ext'; simpa using hal
          have hats' : ats = #[T, T] := by apply Array.ext'; simpa using hats
          subst hargs; subst hats'
          exact append_ok h hσ heq hlt ss sx hk hn
      · rename_i k x k' y
        have hkk := of_decide_eq_true (some_of_guard hk).1
        replace hk := (some_of_guard hk).2
        subst hkk
        obtain ⟨so, xo, hal, h1, h2⟩ := map_two hvs
        have ss := hval so
        rw [h1] at ss
        have sx := hval xo
        rw [h2] at sx
        have hargs : args = #[so, xo] := by apply Array.ext'; simpa using hal
        subst hargs
        refine pure_ok h ?_ (V.int _ _).toSV hk hn
        · unfold execOp
          simp only [heq, resolve, invoke, builtin, Builtin.max_, List.map_toArray, List.map_cons, List.map_nil, Sem.run_bind, Sem.run_pure, Result.andThen_ok, ss.int, sx.int, List.foldlM_cons, List.foldlM_nil, run_max2]
      · rename_i k x k' y
        have hkk := of_decide_eq_true (some_of_guard hk).1
        replace hk := (some_of_guard hk).2
        subst hkk
        obtain ⟨so, xo, hal, h1, h2⟩ := map_two hvs
        have ss := hval so
        rw [h1] at ss
        have sx := hval xo
        rw [h2] at sx
        have hargs : args = #[so, xo] := by apply Array.ext'; simpa using hal
        subst hargs
        refine pure_ok h ?_ (V.int _ _).toSV hk hn
        · unfold execOp
          simp only [heq, resolve, invoke, builtin, Builtin.min_, List.map_toArray, List.map_cons, List.map_nil, Sem.run_bind, Sem.run_pure, Result.andThen_ok, ss.int, sx.int, List.foldlM_cons, List.foldlM_nil, run_min2]
      · cases hk
    · cases hk
  · cases hk
end Go.Proofs.YtilbahgfjfcikaaDoor.Eng
