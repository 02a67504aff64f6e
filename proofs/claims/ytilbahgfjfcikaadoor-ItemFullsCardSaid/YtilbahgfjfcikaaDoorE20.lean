/- The engine, part 20: a drawn region's ops in any order, and a function's answer. -/
import Derived.Test.YtilbahgfjfcikaaDoorE19
set_option linter.unusedVariables false
set_option linter.unusedSimpArgs false
namespace Go.Proofs.YtilbahgfjfcikaaDoor.Eng
open Go Go.RowKit
variable {P : Program} {S0 S S' : Stab} {W w w' : World} {gv gv' : Nat → Value} {fr fr' : Fr} {a : Act} {β : Type}
variable {C : Cfg} {r : β} {l : List Oper} {ts : List Tr} {ev : Nat → Ev}

theorem Rel.drawn (h : Rel P S0 W S gv fr a w) (n : Nat) : Rel P S0 W S gv fr a { w with drawn := n } :=
  { below := ⟨h.below.os, h.below.tape, h.below.output, h.below.size, h.below.block⟩, agree := h.agree, ext := h.ext, fresh := h.fresh, len := h.len, obl := h.obl, defers := h.defers, slot := h.slot, objs := h.objs, dis := h.dis }

theorem Bef.lt {i : Nat} (hD : DC l ts fr) : ∀ {j : Nat}, Bef l i j → i < j := by
  intro j h
  induction h with
  | one ho he hb e => rw [← e]; exact hD.back ho he hb
  | more ho he hb _ ih => exact Nat.lt_trans ih (hD.back ho he hb)

/-- An order that heeds the edges. -/
structure Val (l : List Oper) (σ : List Nat) : Prop where
  nodup : σ.Nodup
  lt : ∀ i ∈ σ, i < l.length
  ord : σ.Pairwise fun x y => ¬ Bef l y x
  closed : ∀ j ∈ σ, ∀ i, Bef l i j → i ∈ σ
theorem Val.nil : Val l [] := ⟨by simp, by simp, by simp, by simp⟩
theorem Val.snoc {σ : List Nat} {j : Nat} (h : Val l σ) (hj : j ∉ σ) (hl : j < l.length) (hb : ∀ i, Bef l i j → i ∈ σ) : Val l (σ ++ [j]) := by
  refine ⟨?_, fun i hi => ?_, ?_, fun k hk i hi => ?_⟩
  · rw [List.nodup_append]
    refine ⟨h.nodup, by simp, fun x hx y hy => ?_⟩
    rw [List.mem_singleton] at hy
    subst hy
    exact fun e => hj (e ▸ hx)
  · rcases List.mem_append.1 hi with hi | hi
    · exact h.lt i hi
    · rw [List.mem_singleton] at hi; omega
  · rw [List.pairwise_append]
    refine ⟨h.ord, by simp, fun x hx y hy hB => ?_⟩
    rw [List.mem_singleton] at hy
    subst hy
    exact hj (h.closed x hx y hB)
  · rcases List.mem_append.1 hk with hk | hk
    · exact List.mem_append_left _ (h.closed k hk i hi)
    · rw [List.mem_singleton] at hk
      subst hk
      exact List.mem_append_left _ (hb i hi)
theorem Val.range (hD : DC l ts fr) : ∀ {k : Nat}, k ≤ l.length → Val l (List.range k)
  | 0, _ => Val.nil
  | k + 1, hk => by
    rw [List.range_succ]
    exact (Val.range hD (k := k) (by omega)).snoc (by simp) (by omega) fun i hi => by simpa using hi.lt hD

/-- Which events stand for the ops. -/
structure EvOk (l : List Oper) (ts : List Tr) (ev : Nat → Ev) : Prop where
  len : ts.length = l.length
  ev : ∀ {i o t}, l[i]? = some o → ts[i]? = some t → ev i = (o.dst, t)
def reads (l : List Oper) (o : Oper) (t : Tr) : Cell → Prop
  | .slot x => x ∈ looks l o
  | .obj r => r ∈ t.1

theorem get_both (hE : EvOk l ts ev) {i : Nat} (hi : i < l.length) : ∃ o t, l[i]? = some o ∧ ts[i]? = some t ∧ ev i = (o.dst, t) := by
  have h1 : l[i]? = some l[i] := List.getElem?_eq_getElem hi
  have h2 : ts[i]? = some (ts[i]'(by rw [hE.len]; exact hi)) := List.getElem?_eq_getElem _
  exact ⟨_, _, h1, h2, hE.ev h1 h2⟩
theorem apart_ww {x y : Oper} {s t : Tr} {c : Cell} (h : apart l x y s t = true) (h1 : writes (x.dst, s) c = true) (h2 : writes (y.dst, t) c = true) : False := by
  simp only [apart, Bool.and_eq_true, Bool.not_eq_true'] at h
  cases c with
  | slot z =>
    simp only [writes, beq_iff_eq] at h1 h2
    have := h.1.1.1.1.2
    rw [h1, h2] at this
    simp [dstEq] at this
  | obj r =>
    simp only [writes, List.contains_iff_mem] at h1 h2
    exact not_mem_of_disj h.1.2 h1 h2
theorem apart_wr {x y : Oper} {s t : Tr} {c : Cell} (h : apart l x y s t = true) (h1 : writes (x.dst, s) c = true) (h2 : reads l y t c) : False := by
  simp only [apart, Bool.and_eq_true, Bool.not_eq_true'] at h
  cases c with
  | slot z =>
    simp only [writes, beq_iff_eq] at h1
    have := h.1.1.1.1.1.1
    rw [h1] at this
    simp only [dstIn] at this
    rw [List.contains_iff_mem.2 h2] at this
    cases this
  | obj r =>
    simp only [writes, List.contains_iff_mem] at h1
    exact not_mem_of_disj h.1.1.1.2 h1 h2
theorem apart_rw {x y : Oper} {s t : Tr} {c : Cell} (h : apart l x y s t = true) (h1 : reads l x s c) (h2 : writes (y.dst, t) c = true) : False := by
  simp only [apart, Bool.and_eq_true, Bool.not_eq_true'] at h
  cases c with
  | slot z =>
    simp only [writes, beq_iff_eq] at h2
    have := h.1.1.1.1.1.2
    rw [h2] at this
    simp only [dstIn] at this
    rw [List.contains_iff_mem.2 h1] at this
    cases this
  | obj r =>
    simp only [writes, List.contains_iff_mem] at h2
    exact not_mem_of_disj h.1.1.2 h2 h1
theorem ww (hD : DC l ts fr) (hE : EvOk l ts ev) {i j : Nat} (hi : i < l.length) (hj : j < l.length) (hij : i < j) {c : Cell} (h1 : writes (ev i) c = true) (h2 : writes (ev j) c = true) : Bef l i j := by
  obtain ⟨x, s, hx, hs, e1⟩ := get_both hE hi
  obtain ⟨y, t, hy, ht, e2⟩ := get_both hE hj
  rw [e1] at h1; rw [e2] at h2
  exact (hD.pair hij hx hy hs ht).2.resolve_right fun h => apart_ww h h1 h2
theorem wr (hD : DC l ts fr) (hE : EvOk l ts ev) {i j : Nat} (hi : i < l.length) {y : Oper} {t : Tr} (hy : l[j]? = some y) (ht : ts[j]? = some t) (hne : i ≠ j) {c : Cell} (h1 : writes (ev i) c = true) (h2 : reads l y t c) : (i < j ∧ Bef l i j) ∨ Bef l j i := by
  obtain ⟨x, s, hx, hs, e1⟩ := get_both hE hi
  rw [e1] at h1
  rcases Nat.lt_or_gt_of_ne hne with h | h
  · exact .inl ⟨h, (hD.pair h hx hy hs ht).2.resolve_right fun h => apart_wr h h1 h2⟩
  · exact .inr ((hD.pair h hy hx ht hs).2.resolve_right fun h => apart_rw h h2 h1)

theorem filter_sorted (hD : DC l ts fr) (hE : EvOk l ts ev) {σ : List Nat} (h : Val l σ) (c : Cell) : (σ.filter fun i => writes (ev i) c).Pairwise (· < ·) := by
  have h1 : σ.Pairwise fun x y => x ≠ y ∧ ¬ Bef l y x := List.Pairwise.and h.nodup h.ord
  have h2 : (σ.filter fun i => writes (ev i) c).Pairwise fun x y => x ≠ y ∧ ¬ Bef l y x := h1.sublist List.filter_sublist
  refine h2.imp_of_mem fun {x y} hx hy hxy => ?_
  rw [List.mem_filter] at hx hy
  apply Classical.byContradiction
  intro hn
  exact hxy.2 (ww hD hE (h.lt y hy.1) (h.lt x hx.1) (by have := hxy.1; omega) hy.2 hx.2)

/-- What an op reads is alike after every order that heeds the edges. -/
theorem reads_agree (hD : DC l ts fr) (hE : EvOk l ts ev) {σ σ' : List Nat} (h : Val l σ) (h' : Val l σ') {j : Nat} {y : Oper} {t : Tr} (hy : l[j]? = some y) (ht : ts[j]? = some t) (hj : j ∉ σ) (hj' : j ∉ σ')
    (hb : ∀ i, Bef l i j → i ∈ σ) (hb' : ∀ i, Bef l i j → i ∈ σ') {c : Cell} (hc : reads l y t c) : agree (play ev σ fr) (play ev σ' fr) c := by
  have e : (σ.filter fun i => writes (ev i) c) = (σ'.filter fun i => writes (ev i) c) := by
    refine sorted_eq (filter_sorted hD hE h c) (filter_sorted hD hE h' c) fun i => ?_
    simp only [List.mem_filter]
    constructor
    · intro hi
      refine ⟨?_, hi.2⟩
      rcases wr hD hE (h.lt i hi.1) hy ht (fun e => hj (e ▸ hi.1)) hi.2 hc with hB | hB
      · exact hb' i hB.2
      · exact absurd (h.closed i hi.1 j hB) hj
    · intro hi
      refine ⟨?_, hi.2⟩
      rcases wr hD hE (h'.lt i hi.1) hy ht (fun e => hj' (e ▸ hi.1)) hi.2 hc with hB | hB
      · exact hb i hB.2
      · exact absurd (h'.closed i hi.1 j hB) hj'
  refine agree_trans (play_filter ⟨rfl, rfl⟩ agree_refl) ?_
  rw [e]
  exact agree_symm (play_filter ⟨rfl, rfl⟩ agree_refl)
theorem fr_ext {fr fr' : Fr} (hl : lens fr fr') (h : ∀ c, agree fr fr' c) : fr = fr' := by
  obtain ⟨sl, ob⟩ := fr
  obtain ⟨sl', ob'⟩ := fr'
  have e1 : sl = sl' := by
    refine List.ext_getElem hl.1 fun i h1 h2 => ?_
    have := h (.slot i)
    simpa [agree, Fr.get, List.getD_eq_getElem?_getD, List.getElem?_eq_getElem h1, List.getElem?_eq_getElem h2] using this
  have e2 : ob = ob' := by
    refine List.ext_getElem hl.2 fun i h1 h2 => ?_
    have := h (.obj i)
    simpa [agree, Fr.obj, List.getD_eq_getElem?_getD, List.getElem?_eq_getElem h1, List.getElem?_eq_getElem h2] using this
  rw [e1, e2]
/-- All ops done, the frame is one. -/
theorem all_agree (hD : DC l ts fr) (hE : EvOk l ts ev) {σ σ' : List Nat} (h : Val l σ) (h' : Val l σ') (he : ∀ i, i ∈ σ ↔ i ∈ σ') : play ev σ fr = play ev σ' fr := by
  have l1 := lens_play ev σ fr
  have l2 := lens_play ev σ' fr
  refine fr_ext ⟨l1.1.trans l2.1.symm, l1.2.trans l2.2.symm⟩ fun c => ?_
  have e : (σ.filter fun i => writes (ev i) c) = (σ'.filter fun i => writes (ev i) c) :=
    sorted_eq (filter_sorted hD hE h c) (filter_sorted hD hE h' c) fun i => by simp only [List.mem_filter, he]
  refine agree_trans (play_filter ⟨rfl, rfl⟩ agree_refl) ?_
  rw [e]
  exact agree_symm (play_filter ⟨rfl, rfl⟩ agree_refl)

/-! ### Names -/
theorem mem_namesL {x : Nat} : ∀ {l : List AV}, x ∈ namesL l ↔ ∃ v ∈ l, x ∈ v.names
  | [] => by simp [namesL]
  | v :: l => by simp [namesL, mem_namesL (l := l)]
theorem mem_obsNames {x : Nat} : ∀ {l : List (Option Ob)}, x ∈ obsNames l ↔ ∃ o ∈ l, x ∈ obNames o
  | [] => by simp [obsNames]
  | v :: l => by simp [obsNames, mem_obsNames (l := l)]
theorem names_setD {x : Nat} {sl : List AV} {d : Option Tmp} {v : AV} (h : x ∈ namesL (setD sl d v)) : x ∈ namesL sl ∨ x ∈ v.names := by
  cases d with
  | none => exact .inl h
  | some t =>
    obtain ⟨u, hu, hx⟩ := mem_namesL.1 h
    rcases List.mem_or_eq_of_mem_set hu with hu | rfl
    · exact .inl (mem_namesL.2 ⟨u, hu, hx⟩)
    · exact .inr hx
theorem names_applyU {x : Nat} : ∀ {u : Upd} {ob : List (Option Ob)}, x ∈ obsNames (applyU ob u) → x ∈ obsNames ob ∨ x ∈ uNames u
  | [], ob, h => .inl h
  | (r, o) :: u, ob, h => by
    rcases names_applyU (u := u) h with h | h
    · obtain ⟨o', ho, hx⟩ := mem_obsNames.1 h
      rcases List.mem_or_eq_of_mem_set ho with ho | rfl
      · exact .inl (mem_obsNames.2 ⟨_, ho, hx⟩)
      · exact .inr (by simp [uNames, hx])
    · exact .inr (by simp [uNames, h])
theorem names_addN {x : Nat} : ∀ {n : New} {ob : List (Option Ob)}, x ∈ obsNames (addN ob n) → x ∈ obsNames ob ∨ x ∈ nNames n
  | [], ob, h => .inl h
  | (r, o) :: n, ob, h => by
    rcases names_addN (n := n) h with h | h
    · obtain ⟨o', ho, hx⟩ := mem_obsNames.1 h
      rcases List.mem_or_eq_of_mem_set ho with ho | rfl
      · exact .inl (mem_obsNames.2 ⟨_, ho, hx⟩)
      · exact .inr (by simp [nNames, hx])
    · exact .inr (by simp [nNames, h])
theorem names_patch {x : Nat} {e : Ev} {fr : Fr} (h : x ∈ frNames (patch e fr)) : x ∈ frNames fr ∨ x ∈ trNames e.2 := by
  simp only [frNames, patch, List.mem_append, trNames] at h ⊢
  rcases h with h | h
  · rcases names_setD h with h | h
    · exact .inl (.inl h)
    · exact .inr (.inl h)
  · rcases names_addN h with h | h
    · rcases names_applyU h with h | h
      · exact .inl (.inr h)
      · exact .inr (.inr (.inl h))
    · exact .inr (.inr (.inr h))
theorem names_play {x : Nat} : ∀ {σ : List Nat} {fr : Fr}, x ∈ frNames (play ev σ fr) → x ∈ frNames fr ∨ ∃ i ∈ σ, x ∈ trNames (ev i).2
  | [], fr, h => .inl h
  | i :: σ, fr, h => by
    rcases names_play (σ := σ) (fr := patch (ev i) fr) h with h | ⟨k, hk, h⟩
    · rcases names_patch h with h | h
      · exact .inl h
      · exact .inr ⟨i, by simp, h⟩
    · exact .inr ⟨k, by simp [hk], h⟩
theorem map_self {γ : Type} {f : γ → γ} {l : List γ} (h : ∀ x ∈ l, f x = x) : l.map f = l := by
  have := List.map_congr_left (f := f) (g := id) (l := l) h
  simpa using this
theorem purge_id {ns : List Nat} {v : AV} (h : ∀ x ∈ v.names, x ∉ ns) : purge ns v = v := by
  unfold purge
  have : (v.names.any fun r => ns.contains r) = false := by
    rw [List.any_eq_false]
    intro x hx hc
    exact h x hx (List.contains_iff_mem.1 hc)
  rw [this]; rfl
theorem purgeOb_id {ns : List Nat} {o : Option Ob} (h : ∀ x ∈ obNames o, x ∉ ns) : purgeOb ns o = o := by
  unfold purgeOb
  split
  · rename_i cs
    have : cs.map (purge ns) = cs := map_self fun v hv => purge_id fun x hx => h x (mem_namesL.2 ⟨v, hv, hx⟩)
    rw [this]
  · rfl
theorem put_patch {d : Option Tmp} {t : Tr} {fr : Fr} (h : ∀ x ∈ frNames fr, x ∉ trNew t) (hu : ∀ x ∈ uNames t.2.2.1, x ∉ trNew t) : putT fr d t = patch (d, t) fr := by
  obtain ⟨ns, v, u, n⟩ := t
  simp only [putT, patch]
  cases n with
  | nil => rfl
  | cons y n =>
    simp only [Fr.put]
    have h1 : fr.sl.map (purge (y.1 :: n.map (·.1))) = fr.sl := map_self fun v hv => purge_id fun x hx => h x (List.mem_append_left _ (mem_namesL.2 ⟨v, hv, hx⟩))
    have h2 : (applyU fr.ob u).map (purgeOb (y.1 :: n.map (·.1))) = applyU fr.ob u := by
      refine map_self fun o ho => purgeOb_id fun x hx => ?_
      rcases names_applyU (mem_obsNames.2 ⟨o, ho, hx⟩) with hx | hx
      · exact h x (List.mem_append_right _ hx)
      · exact hu x hx
    rw [h1, h2]
/-- An op's effect, put to a frame that some order has reached. -/
theorem put_play (hD : DC l ts fr) (hE : EvOk l ts ev) {σ : List Nat} (h : Val l σ) {j : Nat} {o : Oper} {t : Tr} (ho : l[j]? = some o) (ht : ts[j]? = some t) (hj : j ∉ σ) : putT (play ev σ fr) o.dst t = play ev (σ ++ [j]) fr := by
  have e : play ev (σ ++ [j]) fr = patch (o.dst, t) (play ev σ fr) := by simp [play, hE.ev ho ht]
  rw [e]
  refine put_patch (fun x hx hn => ?_) (fun x hx hn => not_mem_of_disj (hD.newU ht) hn hx)
  rcases names_play hx with hx | ⟨i, hi, hx⟩
  · exact not_mem_of_disj (hD.new0 ht) hn hx
  · obtain ⟨x', s, hx', hs, e1⟩ := get_both hE (h.lt i hi)
    rw [e1] at hx
    rcases Nat.lt_or_ge i j with hlt | hge
    · exact not_mem_of_disj (hD.pair hlt hx' ho hs ht).1 hn hx
    · have hlt : j < i := by
        rcases Nat.lt_or_ge j i with h | h
        · exact h
        · exact absurd (show i = j from by omega) fun e => hj (e ▸ hi)
      rcases (hD.pair hlt ho hx' ht hs).2 with hB | hA
      · exact hj (h.closed i hi j hB)
      · simp only [apart, Bool.and_eq_true] at hA
        exact not_mem_of_disj hA.2 hn hx

/-! ### The text's order -/
theorem chain_play (hD : DC l ts fr) (hE : EvOk l ts ev) : ∀ {l2 : List Oper} {ts2 : List Tr} {k : Nat}, (∀ i, l2[i]? = l[k + i]?) → (∀ i, ts2[i]? = ts[k + i]?) → Chain C l l2 (play ev (List.range k) fr) ts2 →
    (∀ {i o t}, l2[i]? = some o → ts2[i]? = some t → stepE C l o (play ev (List.range (k + i)) fr) = some t) ∧ runT l2 ts2 (play ev (List.range k) fr) = play ev (List.range (k + l2.length)) fr
  | [], ts2, k, hl, ht, hc => ⟨fun {i o t} h => by simp at h, by simp [runT]⟩
  | o :: l2, [], k, hl, ht, hc => by cases hc
  | o :: l2, t :: ts2, k, hl, ht, hc => by
    have ho : l[k]? = some o := by have := hl 0; simpa using this.symm
    have ht0 : ts[k]? = some t := by have := ht 0; simpa using this.symm
    have hk : k < l.length := (List.getElem?_eq_some_iff.1 ho).1
    have e : putT (play ev (List.range k) fr) o.dst t = play ev (List.range (k + 1)) fr := by
      rw [List.range_succ]
      exact put_play hD hE (Val.range hD (by omega)) ho ht0 (by simp)
    obtain ⟨h1, h2⟩ := hc
    rw [e] at h2
    have := chain_play hD hE (l2 := l2) (ts2 := ts2) (k := k + 1) (fun i => by have := hl (i + 1); simp only [List.getElem?_cons_succ] at this; rw [this]; congr 1; omega) (fun i => by have := ht (i + 1); simp only [List.getElem?_cons_succ] at this; rw [this]; congr 1; omega) h2
    refine ⟨fun {i o' t'} hi hi' => ?_, ?_⟩
    · cases i with
      | zero =>
        simp only [List.getElem?_cons_zero, Option.some.injEq] at hi hi'
        subst hi; subst hi'
        exact h1
      | succ i =>
        have := this.1 (i := i) (by simpa using hi) (by simpa using hi')
        rw [show k + 1 + i = k + (i + 1) from by omega] at this
        exact this
    · simp only [runT, e, this.2, List.length_cons]
      congr 2
      omega
theorem chain_len : ∀ {l2 : List Oper} {fr : Fr} {ts2 : List Tr}, Chain C l l2 fr ts2 → ts2.length = l2.length
  | [], _, _, h => by rw [h]; rfl
  | o :: l2, fr, t :: ts2, h => by simp [chain_len h.2]
  | _ :: _, _, [], h => by cases h

theorem val_congr {o : Operand} (h : ∀ t, o = .tmp t → fr.get t = fr'.get t) : fr.val C o = fr'.val C o := by
  cases o with
  | tmp t => exact h t rfl
  | _ => rfl
theorem stepUE_congr {o : Oper} {t : Tr} (hl : fr.sl.length = fr'.sl.length) (hs : ∀ x, Operand.tmp x ∈ opnds o.op → fr.get x = fr'.get x) (h : stepUE C o fr = some t) (hob : ∀ r ∈ t.1, fr.obj r = fr'.obj r) : stepUE C o fr' = some t := by
  have e1 : (opnds o.op).map (fr'.val C) = (opnds o.op).map (fr.val C) := List.map_congr_left fun x hx => (val_congr fun t ht => hs t (ht ▸ hx)).symm
  unfold stepUE at h ⊢
  rw [e1, ← hl]
  have hns : t.1 = namesL ((opnds o.op).map (fr.val C)) := by
    cases hx : opD C fr.sl.length o ((opnds o.op).map (fr.val C)) (restr (namesL ((opnds o.op).map (fr.val C))) fr.obj) with
    | none => rw [hx] at h; cases h
    | some x =>
      rw [hx] at h
      simp only [Option.bind_some] at h
      have := (some_of_bif h).2
      simp only [Option.some.injEq] at this
      rw [← this]
  have e2 : restr (namesL ((opnds o.op).map (fr.val C))) fr'.obj = restr (namesL ((opnds o.op).map (fr.val C))) fr.obj := by
    funext r
    unfold restr
    cases hc : (namesL ((opnds o.op).map (fr.val C))).contains r with
    | false => rfl
    | true => exact (hob r (by rw [hns]; exact List.contains_iff_mem.1 hc)).symm
  rw [e2]
  exact h
theorem mem_looks_op {o : Oper} {x : Tmp} (h : Operand.tmp x ∈ opnds o.op) : x ∈ looks l o := by
  refine List.mem_append_left _ ?_
  rw [List.mem_filterMap]
  exact ⟨_, h, rfl⟩
theorem stepE_congr {o : Oper} {t : Tr} (hl : fr.sl.length = fr'.sl.length) (hc : ∀ c, reads l o t c → agree fr fr' c) (h : stepE C l o fr = some t) : stepE C l o fr' = some t := by
  have hs : ∀ x, x ∈ looks l o → fr.get x = fr'.get x := fun x hx => hc (.slot x) hx
  have hob : ∀ r ∈ t.1, fr.obj r = fr'.obj r := fun r hr => hc (.obj r) hr
  have hU : stepUE C o fr = some t → stepUE C o fr' = some t := fun h => stepUE_congr hl (fun x hx => hs x (mem_looks_op hx)) h hob
  have hg : ∀ j want x, o.guard = some (j, want) → (l[j]?).bind (fun x => x.dst) = some x → fr.get x = fr'.get x := fun j want x hg hx => hs x (by
    refine List.mem_append_right _ ?_
    rw [hg]; simp only [hx]; simp)
  unfold stepE at h ⊢
  revert h hg
  generalize o.guard = g
  cases g with
  | none => intro h _; exact hU h
  | some p =>
    obtain ⟨j, want⟩ := p
    simp only
    intro h hg
    cases hx : (l[j]?).bind (fun x => x.dst) with
    | none => rw [hx] at h; cases h
    | some x =>
      rw [hx] at h
      simp only at h ⊢
      rw [← hg j want x rfl hx]
      cases hq : fr.get x with
      | bool q =>
        rw [hq] at h
        simp only at h ⊢
        cases hw : q == want with
        | true => rw [hw] at h; exact hU h
        | false => rw [hw] at h; exact h
      | und => rw [hq] at h; exact h
      | _ => rw [hq] at h; cases h

/-! ### Any order -/
variable {Q : Exit → Act → World → Prop} {arr : Array Oper}
theorem any_ok (hS : Sound C) (hG : GlobOk C.glob S0 W) (hD : DC arr.toList ts fr) (hE : EvOk arr.toList ts ev) (hstep : ∀ {j o t}, arr.toList[j]? = some o → ts[j]? = some t → stepE C arr.toList o (play ev (List.range j) fr) = some t)
    (hQ : ∀ S' gv' a' w', Rel C.P S0 W S' gv' (play ev (List.range arr.size) fr) a' w' → Q .normal a' w') :
    ∀ (fuel : Nat) {listed : Array Bool} {σ : List Nat} {S : Stab} {gv : Nat → Value} {a : Act} {w : World}, Val arr.toList σ → listed.size = arr.size → (∀ i, i < arr.size → (listed.getD i true = true ↔ i ∈ σ)) → fuel + σ.length = arr.size →
      Rel C.P S0 W S gv (play ev σ fr) a w → wpAny C.P .any arr Q fuel listed a w := by
  have hready : ∀ {listed : Array Bool} {σ : List Nat}, Val arr.toList σ → listed.size = arr.size → (∀ i, i < arr.size → (listed.getD i true = true ↔ i ∈ σ)) → Region.ready .any arr listed = [] → ∀ n i, i < n → i < arr.size → i ∈ σ := by
    intro listed σ hV hls hli hr n
    induction n with
    | zero => intro i h; omega
    | succ n ih =>
      intro i hin hia
      apply Classical.byContradiction
      intro hns
      have hmem : i ∈ Region.ready .any arr listed := by
        unfold Region.ready
        rw [List.mem_filter]
        refine ⟨List.mem_range.2 hia, ?_⟩
        have h1 : listed.getD i true = false := by
          cases hc : listed.getD i true with
          | false => rfl
          | true => exact absurd ((hli i hia).1 hc) hns
        rw [h1, Array.getElem?_eq_getElem hia]
        simp only [Bool.not_false, Option.map_some, Option.getD_some, Bool.true_and]
        rw [Array.all_eq_true]
        intro k hk
        cases hb : Region.binds .any arr[i].after[k] with
        | false => rfl
        | true =>
          have hlt : arr[i].after[k].on < i := hD.back (j := i) (o := arr[i]) (by simp [hia]) (by simp) hb
          have := ih arr[i].after[k].on (by omega) (by omega)
          have := (hli _ (show arr[i].after[k].on < arr.size by omega)).2 this
          rw [Array.getD_eq_getD_getElem?, Array.getElem?_eq_getElem (by omega)] at this
          simp only [Option.getD_some] at this
          rw [Array.getD_eq_getD_getElem?, Array.getElem?_eq_getElem (by omega)]
          simpa using this
      rw [hr] at hmem
      cases hmem
  have hend : ∀ {σ : List Nat} {S : Stab} {gv : Nat → Value} {a : Act} {w : World}, Val arr.toList σ → (∀ i, i < arr.size → i ∈ σ) → Rel C.P S0 W S gv (play ev σ fr) a w → Q .normal a w := by
    intro σ S gv a w hV hall h
    refine hQ S gv a w ?_
    rw [← all_agree hD hE hV (Val.range hD (k := arr.size) (by simp)) fun i => ?_]
    · exact h
    · rw [List.mem_range]
      exact ⟨fun hi => by simpa using hV.lt i hi, hall i⟩
  intro fuel
  induction fuel with
  | zero =>
    intro listed σ S gv a w hV hls hli hf h
    have hall : ∀ i, i < arr.size → i ∈ σ := by
      intro i hi
      apply Classical.byContradiction
      intro hn
      have : (i :: σ).length ≤ (List.range arr.size).length := by
        refine List.Nodup.length_le_of_subset (List.nodup_cons.2 ⟨hn, hV.nodup⟩) fun x hx => ?_
        rcases List.mem_cons.1 hx with rfl | hx
        · exact List.mem_range.2 hi
        · exact List.mem_range.2 (by simpa using hV.lt x hx)
      simp at this
      omega
    refine ⟨?_, hend hV hall h⟩
    unfold Region.ready
    rw [List.filter_eq_nil_iff]
    intro i hi
    have hi := List.mem_range.1 hi
    rw [(hli i hi).2 (hall i hi)]
    simp
  | succ fuel ih =>
    intro listed σ S gv a w hV hls hli hf h
    refine ⟨fun hr => hend hV (fun i hi => hready hV hls hli hr (i + 1) i (by omega) hi) h, fun j hj => ?_⟩
    unfold Region.ready at hj
    rw [List.mem_filter, List.mem_range] at hj
    obtain ⟨hja, hj⟩ := hj
    rw [Array.getElem?_eq_getElem hja] at hj
    simp only [Option.map_some, Option.getD_some, Bool.and_eq_true, Bool.not_eq_true'] at hj
    have hns : j ∉ σ := fun hm => by rw [(hli j hja).2 hm] at hj; cases hj.1
    have ho : arr.toList[j]? = some arr[j] := by simp [hja]
    have hB : ∀ i, Bef arr.toList i j → i ∈ σ := by
      intro i hi
      have hdir : ∀ {e : Edge}, e ∈ arr[j].after.toList → Region.binds .any e = true → e.on ∈ σ := by
        intro e he hb
        have h2 := hj.2
        rw [Array.all_eq_true_iff_forall_mem] at h2
        have := h2 e (by simpa using he)
        rw [hb] at this
        simp only [Bool.not_true, Bool.false_or] at this
        have hlt : e.on < j := hD.back ho he hb
        refine (hli e.on (by omega)).1 ?_
        rw [Array.getD_eq_getD_getElem?, Array.getElem?_eq_getElem (by omega)] at this ⊢
        simpa using this
      cases hi with
      | one ho' he hb e =>
        rw [ho] at ho'
        cases ho'
        exact e ▸ hdir he hb
      | more ho' he hb hm =>
        rw [ho] at ho'
        cases ho'
        exact hV.closed _ (hdir he hb) i hm
    obtain ⟨o, t, ho', ht, hev⟩ := get_both hE (show j < arr.toList.length by simpa using hja)
    rw [ho] at ho'
    cases ho'
    have hVr := Val.range hD (k := j) (by simp; omega)
    have hl1 := lens_play ev σ fr
    have hl2 := lens_play ev (List.range j) fr
    have hst : stepE C arr.toList arr[j] (play ev σ fr) = some t := by
      refine stepE_congr (hl2.1.trans hl1.1.symm) (fun c hc => ?_) (hstep ho ht)
      exact reads_agree hD hE hVr hV ho ht (by simp) hns (fun i hi => by simpa using hi.lt hD) hB hc
    have hV2 := hV.snoc hns (by simpa using hja) hB
    have hk : step C arr.toList arr[j] (play ev σ fr) (fun fr' _ => some fr') = some (play ev (σ ++ [j]) fr) := by
      rw [step_lin, hst]
      simp only [Option.bind_some, put_play hD hE hV ho ht hns]
    have := step_ok (Q := Q) (next := wpAny C.P .any arr Q fuel (listed.setIfInBounds j true)) h hS hG hk fun fr' t' S' gv' a' w' he hlen hR => by
      simp only [Option.some.injEq] at he
      subst he
      refine ih hV2 (by simpa using hls) (fun i hi => ?_) (by simp; omega) hR
      simp only [List.mem_append, List.mem_singleton]
      rw [Array.getD_eq_getD_getElem?, Array.getElem?_setIfInBounds]
      by_cases hij : j = i
      · subst hij
        simp [hls, hi]
      · simp only [hij, if_false]
        rw [← Array.getD_eq_getD_getElem?, hli i hi]
        constructor
        · exact fun h => .inl h
        · intro h
          rcases h with h | h
          · exact h
          · exact absurd h.symm hij
    unfold wpOp
    simp only [Array.getElem?_eq_getElem hja]
    rcases this with ⟨hw, hwp⟩ | ⟨hw, hnx⟩
    · rw [if_pos hw]; exact .inl hwp
    · rw [if_neg (by rw [hw]; simp)]; exact hnx

theorem draw_ok (hm : C.P.follows .mixedOrders = true) (hS : Sound C) (hG : GlobOk C.glob S0 W) {id : Nat} {os : Array Oper} {fr : Fr} {K : Kont β} {S : Stab} {gv : Nat → Value} {a : Act} {w : World} {Q : Exit → Act → World → Prop} (h : Rel C.P S0 W S gv fr a w) (hk : region C id os.toList true fr K = some r)
    (hn : ∀ e fr' S' gv' a' w', K e fr' = some r → Rel C.P S0 W S' gv' fr' a' w' → Q (toExit e) a' w') : (Code.region id os true).wp C.P Q a w := by
  obtain ⟨S1, gv1, h1⟩ := canon_ok h (some id)
  unfold region at hk
  simp only [cond_true] at hk
  revert h1 hk
  generalize canon C (some id) fr = fr0
  intro hk h1
  obtain ⟨ts, hc, hk⟩ := ops_chain hk
  simp only [List.nil_append] at hk
  have hdo := (some_of_bif hk).1
  replace hk := (some_of_bif hk).2
  have hlen := chain_len hc
  have hD := dc_of hlen hdo
  let ev : Nat → Ev := fun i => (((os.toList[i]?).bind (·.dst)), (ts[i]?).getD ([], .junk, [], []))
  have hE : EvOk os.toList ts ev := ⟨hlen, fun {i o t} ho ht => by simp only [ev, ho, ht]; rfl⟩
  have hp := chain_play (C := C) hD hE (l2 := os.toList) (ts2 := ts) (k := 0) (fun i => by simp) (fun i => by simp) hc
  refine wp_region_any hm (any_ok hS hG hD hE (fun {j o t} ho ht => ?_) (fun S' gv' a' w' hR => ?_) os.size (σ := []) Val.nil (by simp) (fun i hi => ?_) (by simp) (h1.drawn _))
  · have := hp.1 ho ht
    rwa [Nat.zero_add] at this
  · refine hn .normal _ S' gv' a' w' hk ?_
    have e := hp.2
    simp only [List.range_zero, Nat.zero_add] at e
    change runT os.toList ts fr0 = _ at e
    rw [e]
    simpa using hR
  · simp [hi]

/-- A function answers what its code evaluates to, whatever orders the run draws. -/
theorem ok_of (hm : C.P.follows .mixedOrders = true) (hS : Sound C) {f : FuncId} {fn : Func} (hf : C.P.funcs[f]? = some fn) {fl : List Bool} {args : List AV} {res : AV} (hk : body C fl fn args = some res) : Ok C.P C.glob f args res :=
  ok_of_body hS (fun hG h hk hn => draw_ok hm hS hG h hk hn) hf hk
end Go.Proofs.YtilbahgfjfcikaaDoor.Eng
