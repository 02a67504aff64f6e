/- The engine, part 19: drawn orders. What two operations that no edge orders do, they do in either order. -/
import Derived.Test.YtilbahgfjfcikaaDoorE17
import Derived.Test.YtilbahgfjfcikaaDoorE18
import Derived.Orders
set_option linter.unusedVariables false
set_option linter.unusedSimpArgs false
namespace Go.Proofs.YtilbahgfjfcikaaDoor.Eng
open Go Go.RowKit
variable {P : Program} {S0 S S' : Stab} {W w w' : World} {gv gv' : Nat → Value} {fr fr' : Fr} {a : Act} {β : Type}
variable {C : Cfg} {r : β}

def putT (fr : Fr) (d : Option Tmp) (t : Tr) : Fr := fr.put d t.2.1 t.2.2.1 t.2.2.2
def stepUE (C : Cfg) (o : Oper) (fr : Fr) : Option Tr :=
  (opD C fr.sl.length o ((opnds o.op).map (fr.val C)) (restr (namesL ((opnds o.op).map (fr.val C))) fr.obj)).bind fun x =>
    bif x.2.2.all fun y => decide (y.1 < 4 * fr.sl.length) then some (namesL ((opnds o.op).map (fr.val C)), x) else none
theorem stepU_lin (o : Oper) (fr : Fr) (K : Fr → Tr → Option β) : stepU C o fr K = (stepUE C o fr).bind fun t => K (putT fr o.dst t) t := by
  unfold stepU stepUE putT
  simp only [op_lin, Option.bind_assoc, bif_bind]
  rfl
def stepE (C : Cfg) (all : List Oper) (o : Oper) (fr : Fr) : Option Tr :=
  match o.guard with
  | none => stepUE C o fr
  | some (j, want) => (match (all[j]?).bind (·.dst) with
    | some t => (match fr.get t with
      | .bool q => bif q == want then stepUE C o fr else some ([], .und, [], [])
      | .und => some ([], .und, [], [])
      | _ => none)
    | none => none)
theorem step_lin (all : List Oper) (o : Oper) (fr : Fr) (K : Fr → Tr → Option β) : step C all o fr K = (stepE C all o fr).bind fun t => K (putT fr o.dst t) t := by
  unfold step stepE
  generalize o.guard = g
  cases g with
  | none => exact stepU_lin o fr K
  | some p =>
    obtain ⟨j, want⟩ := p
    simp only
    generalize (all[j]?).bind (fun x => x.dst) = ot
    cases ot with
    | none => rfl
    | some t =>
      simp only
      cases hq : fr.get t with
      | bool q =>
        have hset : ({ fr with sl := fr.sl.set t (.bool q) } : Fr) = fr := fr_set_same hq (by simp)
        cases q <;> cases want <;> simp only [cond_true, cond_false, hset, stepU_lin] <;> rfl
      | und =>
        have hset : ({ fr with sl := fr.sl.set t .und } : Fr) = fr := fr_set_same hq (by simp)
        simp only [hset]
        rfl
      | _ => rfl

def Chain (C : Cfg) (all : List Oper) : List Oper → Fr → List Tr → Prop
  | [], _, ts => ts = []
  | o :: l, fr, t :: ts => stepE C all o fr = some t ∧ Chain C all l (putT fr o.dst t) ts
  | _ :: _, _, [] => False
def runT : List Oper → List Tr → Fr → Fr
  | o :: l, t :: ts, fr => runT l ts (putT fr o.dst t)
  | _, _, fr => fr
theorem ops_chain {all : List Oper} : ∀ {l : List Oper} {fr : Fr} {tr : List Tr} {K : Fr → List Tr → Option β}, ops C all l fr tr K = some r → ∃ ts, Chain C all l fr ts ∧ K (runT l ts fr) (tr ++ ts) = some r
  | [], fr, tr, K, h => ⟨[], rfl, by simpa [ops, runT] using h⟩
  | o :: l, fr, tr, K, h => by
    simp only [ops, step_lin] at h
    cases he : stepE C all o fr with
    | none => rw [he] at h; cases h
    | some t =>
      rw [he] at h
      obtain ⟨ts, hc, hK⟩ := ops_chain (l := l) h
      exact ⟨t :: ts, ⟨he, hc⟩, by simpa [runT, List.append_assoc] using hK⟩

/-! ### Events and the cells they write -/
abbrev Ev := Option Tmp × Tr
def patch (e : Ev) (fr : Fr) : Fr := { sl := setD fr.sl e.1 e.2.2.1, ob := addN (applyU fr.ob e.2.2.2.1) e.2.2.2.2 }
def play (ev : Nat → Ev) (σ : List Nat) (fr : Fr) : Fr := σ.foldl (fun fr i => patch (ev i) fr) fr
inductive Cell where
  | slot (t : Nat)
  | obj (r : Nat)
def agree (fr fr' : Fr) : Cell → Prop
  | .slot t => fr.get t = fr'.get t
  | .obj r => fr.obj r = fr'.obj r
def writes (e : Ev) : Cell → Bool
  | .slot t => e.1 == some t
  | .obj r => (trKeys e.2).contains r
def lens (fr fr' : Fr) : Prop := fr.sl.length = fr'.sl.length ∧ fr.ob.length = fr'.ob.length

theorem applyU_len : ∀ (u : Upd) (ob : List (Option Ob)), (applyU ob u).length = ob.length
  | [], ob => rfl
  | (r, x) :: u, ob => by simp [applyU, applyU_len u]
theorem addN_len : ∀ (n : New) (ob : List (Option Ob)), (addN ob n).length = ob.length
  | [], ob => rfl
  | (r, x) :: n, ob => by simp [addN, addN_len n]
theorem lens_patch (e : Ev) (fr : Fr) : lens (patch e fr) fr := ⟨by simp [patch, setD_length], by simp [patch, addN_len, applyU_len]⟩
theorem lens_play (ev : Nat → Ev) : ∀ (σ : List Nat) (fr : Fr), lens (play ev σ fr) fr
  | [], fr => ⟨rfl, rfl⟩
  | i :: σ, fr => by
    have h1 := lens_play ev σ (patch (ev i) fr)
    have h2 := lens_patch (ev i) fr
    exact ⟨h1.1.trans h2.1, h1.2.trans h2.2⟩
theorem getD_set' {γ : Type} {l l' : List γ} {r x : Nat} {d v : γ} (hl : l.length = l'.length) (h : l.getD r d = l'.getD r d) : (l.set x v).getD r d = (l'.set x v).getD r d := by
  simp only [List.getD_eq_getElem?_getD, List.getElem?_set] at h ⊢
  split
  · rw [hl]
  · exact h
theorem getD_set_ne {γ : Type} {l : List γ} {r x : Nat} {d v : γ} (h : x ≠ r) : (l.set x v).getD r d = l.getD r d := by
  simp [List.getD_eq_getElem?_getD, List.getElem?_set, h]
theorem applyU_agree : ∀ {u : Upd} {ob ob' : List (Option Ob)} {r : Nat}, ob.length = ob'.length → ob.getD r none = ob'.getD r none → (applyU ob u).getD r none = (applyU ob' u).getD r none
  | [], ob, ob', r, hl, h => h
  | (x, v) :: u, ob, ob', r, hl, h => applyU_agree (u := u) (by simpa using hl) (getD_set' hl h)
theorem addN_agree : ∀ {n : New} {ob ob' : List (Option Ob)} {r : Nat}, ob.length = ob'.length → ob.getD r none = ob'.getD r none → (addN ob n).getD r none = (addN ob' n).getD r none
  | [], ob, ob', r, hl, h => h
  | (x, v) :: n, ob, ob', r, hl, h => addN_agree (n := n) (by simpa using hl) (getD_set' hl h)
theorem applyU_ne : ∀ {u : Upd} {ob : List (Option Ob)} {r : Nat}, r ∉ u.map (·.1) → (applyU ob u).getD r none = ob.getD r none
  | [], ob, r, h => rfl
  | (x, v) :: u, ob, r, h => by
    simp only [List.map_cons, List.mem_cons, not_or] at h
    rw [applyU, applyU_ne (u := u) h.2, getD_set_ne (fun e => h.1 e.symm)]
theorem addN_ne : ∀ {n : New} {ob : List (Option Ob)} {r : Nat}, r ∉ n.map (·.1) → (addN ob n).getD r none = ob.getD r none
  | [], ob, r, h => rfl
  | (x, v) :: n, ob, r, h => by
    simp only [List.map_cons, List.mem_cons, not_or] at h
    rw [addN, addN_ne (n := n) h.2, getD_set_ne (fun e => h.1 e.symm)]

theorem patch_agree {e : Ev} {c : Cell} (hl : lens fr fr') (h : agree fr fr' c) : agree (patch e fr) (patch e fr') c := by
  cases c with
  | slot t =>
    simp only [agree, Fr.get, patch] at h ⊢
    cases he : e.1 with
    | none => exact h
    | some d => exact getD_set' hl.1 h
  | obj r => exact addN_agree (by simp [applyU_len, hl.2]) (applyU_agree hl.2 h)
theorem patch_other {e : Ev} {c : Cell} (h : writes e c = false) : agree (patch e fr) fr c := by
  cases c with
  | slot t =>
    simp only [agree, Fr.get, patch, writes] at h ⊢
    cases he : e.1 with
    | none => rfl
    | some d => exact getD_set_ne (fun hd => by rw [he, hd] at h; simp at h)
  | obj r =>
    simp only [writes, trKeys] at h
    have h : r ∉ e.2.2.2.1.map (·.1) ++ e.2.2.2.2.map (·.1) := fun hm => by rw [List.contains_iff_mem.2 hm] at h; cases h
    simp only [List.mem_append, not_or] at h
    simp only [agree, Fr.obj, patch]
    rw [addN_ne h.2, applyU_ne h.1]
theorem agree_trans {fr1 fr2 fr3 : Fr} {c : Cell} (h : agree fr1 fr2 c) (h' : agree fr2 fr3 c) : agree fr1 fr3 c := by
  cases c <;> exact Eq.trans h h'
theorem agree_symm {fr1 fr2 : Fr} {c : Cell} (h : agree fr1 fr2 c) : agree fr2 fr1 c := by cases c <;> exact Eq.symm h
theorem agree_refl {fr1 : Fr} {c : Cell} : agree fr1 fr1 c := by cases c <;> rfl
theorem play_filter {ev : Nat → Ev} {c : Cell} : ∀ {σ : List Nat} {fr fr' : Fr}, lens fr fr' → agree fr fr' c → agree (play ev σ fr) (play ev (σ.filter fun i => writes (ev i) c) fr') c
  | [], fr, fr', hl, h => h
  | i :: σ, fr, fr', hl, h => by
    have l1 := lens_patch (ev i) fr
    have l2 := lens_patch (ev i) fr'
    cases hw : writes (ev i) c with
    | true =>
      rw [List.filter_cons_of_pos (by simpa using hw)]
      exact play_filter (σ := σ) (fr := patch (ev i) fr) ⟨l1.1.trans (hl.1.trans l2.1.symm), l1.2.trans (hl.2.trans l2.2.symm)⟩ (patch_agree hl h)
    | false =>
      rw [List.filter_cons_of_neg (by rw [hw]; simp)]
      exact play_filter (σ := σ) (fr := patch (ev i) fr) ⟨l1.1.trans hl.1, l1.2.trans hl.2⟩ (agree_trans (patch_other hw) h)
theorem sorted_eq : ∀ {l l' : List Nat}, l.Pairwise (· < ·) → l'.Pairwise (· < ·) → (∀ i, i ∈ l ↔ i ∈ l') → l = l'
  | [], [], _, _, _ => rfl
  | [], b :: l', _, _, h => by have := (h b).2 (by simp); cases this
  | a :: l, [], _, _, h => by have := (h a).1 (by simp); cases this
  | a :: l, b :: l', h1, h2, h => by
    rw [List.pairwise_cons] at h1 h2
    have ha : a = b ∨ a ∈ l' := by simpa using (h a).1 (by simp)
    have hb : b = a ∨ b ∈ l := by simpa using (h b).2 (by simp)
    have e : a = b := by
      rcases ha with e | ha
      · exact e
      · rcases hb with e | hb
        · exact e.symm
        · have := h1.1 b hb; have := h2.1 a ha; omega
    subst e
    rw [sorted_eq h1.2 h2.2 fun i => ?_]
    constructor
    · intro hi
      have := (h i).1 (by simp [hi])
      rcases List.mem_cons.1 this with e | h'
      · have := h1.1 i hi; omega
      · exact h'
    · intro hi
      have := (h i).2 (by simp [hi])
      rcases List.mem_cons.1 this with e | h'
      · have := h2.1 i hi; omega
      · exact h'

/-! ### What must come before -/
inductive Bef (l : List Oper) (i : Nat) : Nat → Prop where
  | one {j : Nat} {o : Oper} {e : Edge} : l[j]? = some o → e ∈ o.after.toList → Region.binds .any e = true → e.on = i → Bef l i j
  | more {j : Nat} {o : Oper} {e : Edge} : l[j]? = some o → e ∈ o.after.toList → Region.binds .any e = true → Bef l i e.on → Bef l i j

theorem fold_bits {acc : List Nat} {i : Nat} : ∀ {es : List Edge} {s : Nat}, (es.foldl (fun s e => bif Region.binds .any e then s ||| 2 ^ e.on ||| acc.getD e.on 0 else s) s).testBit i = true →
    s.testBit i = true ∨ ∃ e ∈ es, Region.binds .any e = true ∧ (e.on = i ∨ (acc.getD e.on 0).testBit i = true)
  | [], s, h => .inl h
  | e :: es, s, h => by
    rw [List.foldl_cons] at h
    rcases fold_bits (es := es) h with h | ⟨e', he, hb, h⟩
    · cases hb : Region.binds .any e with
      | false => rw [hb] at h; exact .inl h
      | true =>
        rw [hb] at h
        simp only [cond_true, Nat.testBit_or, Nat.testBit_two_pow, Bool.or_eq_true, decide_eq_true_eq] at h
        rcases h with (h | h) | h
        · exact .inl h
        · exact .inr ⟨e, by simp, hb, .inl h⟩
        · exact .inr ⟨e, by simp, hb, .inr h⟩
    · exact .inr ⟨e', by simp [he], hb, h⟩
theorem befores_go {l : List Oper} : ∀ {l2 : List Oper} {acc : List Nat}, (∀ k, l2[k]? = l[acc.length + k]?) → (∀ j i, (acc.getD j 0).testBit i = true → Bef l i j) →
    ∀ j i, ((l2.foldl (fun acc o => acc ++ [o.after.toList.foldl (fun s e => bif Region.binds .any e then s ||| 2 ^ e.on ||| acc.getD e.on 0 else s) 0]) acc).getD j 0).testBit i = true → Bef l i j
  | [], acc, hl, h, j, i, ht => h j i ht
  | o :: l2, acc, hl, h, j, i, ht => by
    rw [List.foldl_cons] at ht
    refine befores_go (l2 := l2) (fun k => ?_) (fun j i ht => ?_) j i ht
    · have := hl (k + 1)
      simp only [List.getElem?_cons_succ] at this
      rw [this]; simp; congr 1; omega
    · by_cases hj : j < acc.length
      · rw [List.getD_eq_getElem?_getD, List.getElem?_append_left hj, ← List.getD_eq_getElem?_getD] at ht
        exact h j i ht
      · rw [List.getD_eq_getElem?_getD, List.getElem?_append_right (by omega)] at ht
        by_cases hj2 : j = acc.length
        · subst hj2
          simp only [Nat.sub_self, List.getElem?_cons_zero, Option.getD_some] at ht
          have ho : l[acc.length]? = some o := by have := hl 0; simpa using this.symm
          rcases fold_bits ht with h0 | ⟨e, he, hb, h1⟩
          · simp at h0
          · rcases h1 with h1 | h1
            · exact .one ho he hb h1
            · exact .more ho he hb (h _ _ h1)
        · have : j - acc.length = (j - acc.length - 1) + 1 := by omega
          rw [this] at ht
          simp at ht
theorem befores_ok {l : List Oper} {i j : Nat} (h : ((befores l).getD j 0).testBit i = true) : Bef l i j :=
  befores_go (l := l) (l2 := l) (acc := []) (fun k => by simp) (fun j i h => by simp at h) j i h

theorem not_mem_of_disj {a b : List Nat} (h : disj a b = true) {x : Nat} (hx : x ∈ a) : x ∉ b := by
  intro hb
  have := List.all_eq_true.1 h x hx
  rw [List.contains_iff_mem.2 hb] at this
  cases this

/-- What the check tells. -/
structure DC (l : List Oper) (ts : List Tr) (fr : Fr) : Prop where
  back : ∀ {j : Nat} {o : Oper}, l[j]? = some o → ∀ {e : Edge}, e ∈ o.after.toList → Region.binds .any e = true → e.on < j
  new0 : ∀ {j : Nat} {t : Tr}, ts[j]? = some t → disj (trNew t) (frNames fr) = true
  newU : ∀ {j : Nat} {t : Tr}, ts[j]? = some t → disj (trNew t) (uNames t.2.2.1) = true
  pair : ∀ {i j : Nat} {x o : Oper} {s t : Tr}, i < j → l[i]? = some x → l[j]? = some o → ts[i]? = some s → ts[j]? = some t → disj (trNew t) (trNames s) = true ∧ (Bef l i j ∨ apart l x o s t = true)

theorem pairs_ok {l : List Oper} {o : Oper} {t : Tr} {b : Nat} : ∀ {xs : List Oper} {ss : List Tr} {k : Nat}, pairs l o t b k xs ss = true → ∀ {i : Nat} {x : Oper} {s : Tr}, xs[i]? = some x → ss[i]? = some s → disj (trNew t) (trNames s) = true ∧ (Nat.testBit b (k + i) = true ∨ apart l x o s t = true)
  | [], ss, k, h, i, x, s, hx, hs => by simp at hx
  | x' :: xs, [], k, h, i, x, s, hx, hs => by simp at hs
  | x' :: xs, s' :: ss, k, h, i, x, s, hx, hs => by
    simp only [pairs, Bool.and_eq_true, Bool.or_eq_true] at h
    cases i with
    | zero =>
      simp only [List.getElem?_cons_zero, Option.some.injEq] at hx hs
      subst hx; subst hs
      exact ⟨h.1.1, h.1.2⟩
    | succ i =>
      have := pairs_ok (ss := ss) h.2 (i := i) (by simpa using hx) (by simpa using hs)
      rw [show k + 1 + i = k + (i + 1) from by omega] at this
      exact this
theorem drawGo_ok {fr : Fr} {l : List Oper} {tr : List Tr} {bs : List Nat} : ∀ {os : List Oper} {ts : List Tr} {k : Nat}, drawGo fr l tr bs k os ts = true → ∀ {j : Nat} {o : Oper} {t : Tr}, os[j]? = some o → ts[j]? = some t →
    (∀ {e : Edge}, e ∈ o.after.toList → Region.binds .any e = true → e.on < k + j) ∧ disj (trNew t) (frNames fr) = true ∧ disj (trNew t) (uNames t.2.2.1) = true ∧ pairs l o t (bs.getD (k + j) 0) 0 (l.take (k + j)) (tr.take (k + j)) = true
  | [], ts, k, h, j, o, t, ho, ht => by simp at ho
  | o' :: os, [], k, h, j, o, t, ho, ht => by simp at ht
  | o' :: os, t' :: ts, k, h, j, o, t, ho, ht => by
    simp only [drawGo, Bool.and_eq_true] at h
    cases j with
    | zero =>
      simp only [List.getElem?_cons_zero, Option.some.injEq] at ho ht
      subst ho; subst ht
      refine ⟨fun {e} he hb => ?_, h.1.1.1.2, h.1.1.2, h.1.2⟩
      have := List.all_eq_true.1 h.1.1.1.1 e he
      rw [hb] at this
      simpa using this
    | succ j =>
      have := drawGo_ok (ts := ts) h.2 (j := j) (by simpa using ho) (by simpa using ht)
      rw [show k + 1 + j = k + (j + 1) from by omega] at this
      exact this
theorem dc_of {fr : Fr} {l : List Oper} {ts : List Tr} (hl : ts.length = l.length) (h : drawOk fr l ts = true) : DC l ts fr := by
  have key := fun {j o t} ho ht => drawGo_ok (fr := fr) (l := l) (tr := ts) (bs := befores l) (os := l) (ts := ts) (k := 0) h (j := j) (o := o) (t := t) ho ht
  simp only [Nat.zero_add] at key
  have tex : ∀ {j o}, l[j]? = some o → ∃ t, ts[j]? = some t := fun {j o} ho => by
    have : j < l.length := (List.getElem?_eq_some_iff.1 ho).1
    exact ⟨_, List.getElem?_eq_getElem (by omega)⟩
  have oex : ∀ {j t}, ts[j]? = some t → ∃ o, l[j]? = some o := fun {j o} ho => by
    have : j < ts.length := (List.getElem?_eq_some_iff.1 ho).1
    exact ⟨_, List.getElem?_eq_getElem (by omega)⟩
  refine ⟨fun {j o} ho {e} he hb => ?_, fun {j t} ht => ?_, fun {j t} ht => ?_, fun {i j x o s t} hij hx ho hs ht => ?_⟩
  · obtain ⟨t, ht⟩ := tex ho
    exact (key ho ht).1 he hb
  · obtain ⟨o, ho⟩ := oex ht
    exact (key ho ht).2.1
  · obtain ⟨o, ho⟩ := oex ht
    exact (key ho ht).2.2.1
  · have := pairs_ok (key ho ht).2.2.2 (i := i) (x := x) (s := s) (by rw [List.getElem?_take_of_lt hij]; exact hx) (by rw [List.getElem?_take_of_lt hij]; exact hs)
    rw [Nat.zero_add] at this
    exact ⟨this.1, this.2.imp befores_ok id⟩
end Go.Proofs.YtilbahgfjfcikaaDoor.Eng
