/- The engine, part 15: a frame in order. -/
import Derived.Test.YtilbahgfjfcikaaDoorE14
set_option linter.unusedVariables false
set_option linter.unusedSimpArgs false
namespace Go.Proofs.YtilbahgfjfcikaaDoor.Eng
open Go Go.RowKit
variable {P : Program} {S0 S S' : Stab} {W w w' : World} {gv gv' gvN : Nat → Value} {fr cur new : Fr} {a : Act} {ob ob' : Nat → Option Ob} {β : Type} {d : Dir}

/-- Rows may be said to be frozen. -/
theorem Rel.weak (h : Rel P S0 W S gv fr a w) : Rel P S0 W S gv { fr with ob := fr.ob.map weakOb } a w := by
  have ho : ∀ r, ({ fr with ob := fr.ob.map weakOb } : Fr).obj r = weakOb (fr.obj r) := by
    intro r
    simp only [Fr.obj, List.getD_eq_getElem?_getD, List.getElem?_map]
    cases fr.ob[r]? with
    | none => rfl
    | some x => rfl
  have hk : ∀ r, Kin (fr.obj r) (({ fr with ob := fr.ob.map weakOb } : Fr).obj r) := by
    intro r
    rw [ho r]
    cases fr.obj r with
    | none => trivial
    | some x => cases x <;> simp [Kin, weakOb]
  have hb : ∀ r o, ({ fr with ob := fr.ob.map weakOb } : Fr).obj r = some o → ∃ o0, fr.obj r = some o0 ∧ weakOb (some o0) = some o := by
    intro r o hr
    rw [ho r] at hr
    cases hh : fr.obj r with
    | none => rw [hh] at hr; cases hr
    | some o0 => rw [hh] at hr; exact ⟨o0, rfl, hr⟩
  refine { below := h.below, agree := h.agree, ext := h.ext, fresh := h.fresh, len := h.len, obl := by simpa using h.obl, defers := h.defers, slot := fun t ht => (h.slot t ht).mono (Stab.le_refl S) fun r _ => ⟨hk r, fun _ => rfl⟩, objs := fun r o hr => ?_, dis := fun r r' o o' g hr hr' hg hg' => ?_ }
  · obtain ⟨o0, h0, e⟩ := hb r o hr
    have := (h.objs r o0 h0).mono (w' := w) (gv' := gv) (S' := S) (ob' := ({ fr with ob := fr.ob.map weakOb } : Fr).obj) (fun _ _ => rfl) rfl (Stab.le_refl S) (fun _ _ _ _ hx _ => hx) (fun cs _ j c v hc hv => hv.mono (Stab.le_refl S) fun r _ => ⟨hk r, fun _ => rfl⟩)
    cases o0 with
    | box cs => cases e; exact this
    | it s pos => cases e; exact this
    | row e' xs fz =>
      cases e
      obtain ⟨us, h1, h2, h3, h4, h5⟩ := this
      exact ⟨us, h1, h2, h3, h4, fun g hg x v hx hxb => ⟨rfl, (h5 g hg x v hx hxb).2⟩⟩
  · obtain ⟨o1, h1, _⟩ := hb r o hr
    obtain ⟨o2, h2, _⟩ := hb r' o' hr'
    exact h.dis r r' o1 o2 g h1 h2 hg hg'

structure CI (P : Program) (S0 : Stab) (W : World) (S : Stab) (gv gvN : Nat → Value) (d : Dir) (fr cur new : Fr) (a : Act) (w : World) : Prop where
  rel : Rel P S0 W S gv cur a w
  csl : cur.sl = fr.sl
  sub : ∀ r o, cur.obj r = some o → fr.obj r = some o
  nsl : new.sl.length = fr.sl.length
  nob : new.ob.length = fr.ob.length
  slot : ∀ t, t < fr.sl.length → new.get t = .junk ∨ (new.get t = fr.get t ∧ ∀ r ∈ (fr.get t).names, d.boxes.contains r = true) ∨ V S (new.get t) (a.tmps.getD t undef) ∨
    (new.get t = .own t ∧ d.boxes.contains t = false ∧ a.tmps.getD t undef = gvN t ∧ (gvN t).oneCell' = true)
  nobj : ∀ t o, new.obj t = some o → d.boxes.contains t = false ∧ (∃ e xs fz, o = .row e xs fz) ∧ ∀ ob', ObR P W.heap.size S gvN ob' w t o
  live : ∀ t o g, new.obj t = some o → hblk (gvN t) = some g → ∀ r o', cur.obj r = some o' → hblk (gv r) ≠ some g
  ndis : ∀ t t' o o' g, new.obj t = some o → new.obj t' = some o' → hblk (gvN t) = some g → hblk (gvN t') = some g → t = t'

theorem get_set' (sl : List AV) (ob : List (Option Ob)) {t s : Nat} (v : AV) (hs : s < sl.length) : ({ sl := sl.set t v, ob := ob } : Fr).get s = if t = s then v else sl.getD s .junk := Fr.get_set sl ob t s v hs
theorem lt_of_get {t : Nat} {v : AV} (h : fr.get t = v) (hv : v ≠ .junk) : t < fr.sl.length := by
  apply Classical.byContradiction
  intro hn
  have : fr.get t = .junk := by simp [Fr.get, List.getD_eq_getElem?_getD, List.getElem?_eq_none (Nat.le_of_not_lt hn)]
  exact hv (by rw [← h, this])

/-- A slot set to a value that is pure, or kept. -/
theorem CI.setSlot (h : CI P S0 W S gv gvN d fr cur new a w) {t : Nat} {v : AV} (hv : t < fr.sl.length → (v = fr.get t ∧ ∀ r ∈ (fr.get t).names, d.boxes.contains r = true) ∨ V S v (a.tmps.getD t undef)) : CI P S0 W S gv gvN d fr cur { new with sl := new.sl.set t v } a w where
  rel := h.rel
  csl := h.csl
  sub := h.sub
  nsl := by simpa using h.nsl
  nob := h.nob
  slot := fun s hs => by
    rw [get_set' new.sl new.ob v (by rw [h.nsl]; exact hs)]
    by_cases hts : t = s
    · subst hts
      rw [if_pos rfl]
      rcases hv hs with ⟨q1, q2⟩ | q
      · exact .inr (.inl ⟨q1, q2⟩)
      · exact .inr (.inr (.inl q))
    · rw [if_neg hts]; exact h.slot s hs
  nobj := h.nobj
  live := h.live
  ndis := h.ndis
/-- More cells stay. -/
theorem CI.grow (h : CI P S0 W S gv gvN d fr cur new a w) (hle : S.le S') (hR : Rel P S0 W S' gv cur a w) (hadd : ∀ x v, S' x = some v → S x = some v ∨ ∃ q o, cur.obj q = some o ∧ hblk (gv q) = some x.block) : CI P S0 W S' gv gvN d fr cur new a w where
  rel := hR
  csl := h.csl
  sub := h.sub
  nsl := h.nsl
  nob := h.nob
  slot := fun s hs => by
    rcases h.slot s hs with q | q | q | q
    · exact .inl q
    · exact .inr (.inl q)
    · exact .inr (.inr (.inl (q.mono hle)))
    · exact .inr (.inr (.inr q))
  nobj := fun t o ho => by
    obtain ⟨h1, h2, h3⟩ := h.nobj t o ho
    refine ⟨h1, h2, fun ob' => (h3 ob').mono (fun _ _ => rfl) rfl hle (fun g hg x v hx hxb => ?_) (fun cs hcs => by obtain ⟨e, xs, fz, rfl⟩ := h2; cases hcs)⟩
    rcases hadd x v hx with q | ⟨q, o', hq, hb⟩
    · exact q
    · exact absurd (by rw [hb, hxb]) (h.live t o g ho hg q o' hq)
  live := h.live
  ndis := h.ndis
/-- A row taken out of the elder frame, under its slot's name. -/
theorem CI.take (h : CI P S0 W S gv gvN d fr cur new a w) {t q n : Nat} {e : TypeId} {xs : List AV} {fz fz' : Bool} (hq : cur.obj q = some (.row e xs fz')) (hn : n ≤ xs.length) (hnf : n = xs.length ∨ fz' = false) (hv : a.tmps.getD t undef = cutV n (gv q)) (hb : d.boxes.contains t = false) (hnew : new.obj t = none) (ht : t < new.ob.length) (hts : t < fr.sl.length) :
    CI P S0 W S gv (upd gvN t (cutV n (gv q))) d fr { cur with ob := cur.ob.set q none } { sl := new.sl.set t (.own t), ob := new.ob.set t (some (.row e (xs.take n) (fz || fz'))) } a w := by
  obtain ⟨us, hown, hsz, hE, hSb⟩ := row_els (h.rel.objs q _ hq)
  have hbk : ∀ g, hblk (cutV n (gv q)) = some g → hblk (gv q) = some g := by
    intro g hg
    rcases ownsRow_form hown with ⟨hv, _⟩ | ⟨g', cap, hv, hb⟩ <;> rw [hv] at hg ⊢ <;> exact hg
  have hone : (cutV n (gv q)).oneCell' = true := by
    rcases ownsRow_form hown with ⟨hv, _⟩ | ⟨g', cap, hv, hb⟩ <;> rw [hv] <;> rfl
  have ho : ∀ s, ({ sl := new.sl.set t (.own t), ob := new.ob.set t (some (.row e (xs.take n) (fz || fz'))) } : Fr).obj s = if t = s then some (.row e (xs.take n) (fz || fz')) else new.obj s := by
    intro s
    show (new.ob.set t _).getD s none = _
    rw [getD_set]
    by_cases hs : t = s
    · subst hs; simp [ht]
    · simp [hs, Fr.obj]
  have hsub : ∀ s o, ({ cur with ob := cur.ob.set q none } : Fr).obj s = some o → cur.obj s = some o ∧ s ≠ q := by
    intro s o hs
    have hs : (cur.ob.set q none).getD s none = some o := hs
    rw [getD_set] at hs
    split at hs
    · cases hs
    · rename_i hne
      exact ⟨hs, fun e => hne ⟨e.symm, by rw [e]; exact obj_lt hq⟩⟩
  have hg : ∀ s, s ≠ t → upd gvN t (cutV n (gv q)) s = gvN s := fun s hs => by simp [upd, hs]
  have hgt : upd gvN t (cutV n (gv q)) t = cutV n (gv q) := by simp [upd]
  refine { rel := h.rel.kill q, csl := h.csl, sub := fun r o hr => h.sub r o (hsub r o hr).1, nsl := by simpa using h.nsl, nob := by simpa using h.nob, slot := fun s hs => ?_, nobj := fun s o hs => ?_, live := fun s o g hs hgg r o' hr => ?_, ndis := fun s s' o o' g hs hs' hgg hgg' => ?_ }
  · rw [get_set' new.sl _ _ (by rw [h.nsl]; exact hs)]
    by_cases hst : t = s
    · subst hst
      rw [if_pos rfl]
      exact .inr (.inr (.inr ⟨rfl, hb, by rw [hgt]; exact hv, by rw [hgt]; exact hone⟩))
    · rw [if_neg hst]
      rcases h.slot s hs with q' | q' | q' | ⟨q1, q2, q3, q4⟩
      · exact .inl q'
      · exact .inr (.inl q')
      · exact .inr (.inr (.inl q'))
      · exact .inr (.inr (.inr ⟨q1, q2, by rw [hg s (fun e => hst e.symm)]; exact q3, by rw [hg s (fun e => hst e.symm)]; exact q4⟩))
  · rw [ho s] at hs
    by_cases hst : t = s
    · subst hst
      rw [if_pos rfl] at hs
      cases hs
      refine ⟨hb, ⟨_, _, _, rfl⟩, fun ob' => ?_⟩
      have hE' := hE.take n
      have hlen' : (xs.take n).length = n := by simp [Nat.min_eq_left hn]
      refine ⟨_, ?_, hsz, hE'.2.1, hE'.2.2, fun g hg x v hx hxb => ?_⟩
      · rw [hgt]
        refine ⟨hE'.1, ?_⟩
        rw [hlen']
        rcases hown.2 with ⟨hv', hn0⟩ | ⟨g, cap, cur', hv', hb', hh, hnc, hcm, hcs, htk⟩
        · rw [hv']
          have : n = 0 := by omega
          subst this
          exact .inl ⟨rfl, rfl⟩
        · rw [hv']
          refine .inr ⟨g, cap, cur', rfl, hb', hh, by omega, hcm, hcs, ?_⟩
          rw [← htk, List.take_take, Nat.min_eq_left (Nat.mul_le_mul_right _ hn)]
      · rw [hgt] at hg
        obtain ⟨p1, p2, p3⟩ := hSb g (hbk g hg) x v hx hxb
        rcases hnf with hnn | hff
        · exact ⟨by rw [p1]; simp, p2, by rw [hlen', hnn]; exact p3⟩
        · rw [hff] at p1; cases p1
    · rw [if_neg hst] at hs
      obtain ⟨p1, p2, p3⟩ := h.nobj s o hs
      refine ⟨p1, p2, fun ob' => (p3 ob').mono (fun _ _ => rfl) (hg s (fun e => hst e.symm)) (Stab.le_refl S) (fun _ _ _ _ hx _ => hx) (fun cs hcs => by obtain ⟨e, xs, fz, rfl⟩ := p2; cases hcs)⟩
  · obtain ⟨hr1, hr2⟩ := hsub r o' hr
    rw [ho s] at hs
    by_cases hst : t = s
    · subst hst
      rw [hgt] at hgg
      exact fun e => hr2 (h.rel.dis r q _ _ g hr1 hq e (hbk g hgg))
    · rw [if_neg hst] at hs
      rw [hg s (fun e => hst e.symm)] at hgg
      exact h.live s o g hs hgg r o' hr1
  · rw [ho s] at hs
    rw [ho s'] at hs'
    by_cases hst : t = s
    · by_cases hst' : t = s'
      · rw [← hst, ← hst']
      · rw [if_neg hst'] at hs'
        rw [hg s' (fun e => hst' e.symm)] at hgg'
        subst hst
        rw [hgt] at hgg
        exact absurd (hbk g hgg) (h.live s' o' g hs' hgg' q _ hq)
    · rw [if_neg hst] at hs
      rw [hg s (fun e => hst e.symm)] at hgg
      by_cases hst' : t = s'
      · subst hst'
        rw [hgt] at hgg'
        exact absurd (hbk g hgg') (h.live s o g hs hgg q _ hq)
      · rw [if_neg hst'] at hs'
        rw [hg s' (fun e => hst' e.symm)] at hgg'
        exact h.ndis s s' o o' g hs hs' hgg hgg'

theorem CI.setNil (h : CI P S0 W S gv gvN d fr cur new a w) {t : Nat} {e : TypeId} {fz : Bool} (hv : a.tmps.getD t undef = .slice none 0 0) (hb : d.boxes.contains t = false) (hnew : new.obj t = none) (ht : t < new.ob.length) (hz : 0 < P.cellsOf e) :
    CI P S0 W S gv (upd gvN t (.slice none 0 0)) d fr cur { sl := new.sl.set t (.own t), ob := new.ob.set t (some (.row e [] fz)) } a w := by
  have ho : ∀ s, ({ sl := new.sl.set t (.own t), ob := new.ob.set t (some (.row e [] fz)) } : Fr).obj s = if t = s then some (.row e [] fz) else new.obj s := by
    intro s
    show (new.ob.set t _).getD s none = _
    rw [getD_set]
    by_cases hs : t = s
    · subst hs; simp [ht]
    · simp [hs, Fr.obj]
  have hg : ∀ s, s ≠ t → upd gvN t (.slice none 0 0) s = gvN s := fun s hs => by simp [upd, hs]
  have hgt : upd gvN t (.slice none 0 0) t = .slice none 0 0 := by simp [upd]
  refine { rel := h.rel, csl := h.csl, sub := h.sub, nsl := by simpa using h.nsl, nob := by simpa using h.nob, slot := fun s hs => ?_, nobj := fun s o hs => ?_, live := fun s o g hs hgg r o' hr => ?_, ndis := fun s s' o o' g hs hs' hgg hgg' => ?_ }
  · rw [get_set' new.sl _ _ (by rw [h.nsl]; exact hs)]
    by_cases hst : t = s
    · subst hst
      rw [if_pos rfl]
      exact .inr (.inr (.inr ⟨rfl, hb, by rw [hgt]; exact hv, by rw [hgt]; rfl⟩))
    · rw [if_neg hst]
      rcases h.slot s hs with q' | q' | q' | ⟨q1, q2, q3, q4⟩
      · exact .inl q'
      · exact .inr (.inl q')
      · exact .inr (.inr (.inl q'))
      · exact .inr (.inr (.inr ⟨q1, q2, by rw [hg s (fun e => hst e.symm)]; exact q3, by rw [hg s (fun e => hst e.symm)]; exact q4⟩))
  · rw [ho s] at hs
    by_cases hst : t = s
    · subst hst
      rw [if_pos rfl] at hs
      cases hs
      exact ⟨hb, ⟨_, _, _, rfl⟩, fun ob' => ⟨[], by rw [hgt]; exact World.ownsRow_nil w _ e _, hz, by simp, by simp, fun g hg => by rw [hgt] at hg; simp [hblk] at hg⟩⟩
    · rw [if_neg hst] at hs
      obtain ⟨p1, p2, p3⟩ := h.nobj s o hs
      exact ⟨p1, p2, fun ob' => (p3 ob').mono (fun _ _ => rfl) (hg s (fun e => hst e.symm)) (Stab.le_refl S) (fun _ _ _ _ hx _ => hx) (fun cs hcs => by obtain ⟨e, xs, fz, rfl⟩ := p2; cases hcs)⟩
  · rw [ho s] at hs
    by_cases hst : t = s
    · subst hst
      rw [hgt] at hgg
      simp [hblk] at hgg
    · rw [if_neg hst] at hs
      rw [hg s (fun e => hst e.symm)] at hgg
      exact h.live s o g hs hgg r o' hr
  · rw [ho s] at hs
    rw [ho s'] at hs'
    by_cases hst : t = s
    · subst hst
      rw [hgt] at hgg
      simp [hblk] at hgg
    · rw [if_neg hst] at hs
      rw [hg s (fun e => hst e.symm)] at hgg
      by_cases hst' : t = s'
      · subst hst'
        rw [hgt] at hgg'
        simp [hblk] at hgg'
      · rw [if_neg hst'] at hs'
        rw [hg s' (fun e => hst' e.symm)] at hgg'
        exact h.ndis s s' o o' g hs hs' hgg hgg'

theorem CI.slotVal (h : CI P S0 W S gv gvN d fr cur new a w) {t : Nat} (ht : t < fr.sl.length) : cur.get t = fr.get t ∧ SV P S gv cur.obj (fr.get t) (a.tmps.getD t undef) := by
  have e : cur.get t = fr.get t := by simp [Fr.get, h.csl]
  exact ⟨e, by rw [← e]; exact h.rel.slot t (by rw [h.csl]; exact ht)⟩

theorem canonSlot_ok (h : CI P S0 W S gv gvN d fr cur new a w) (t : Nat) (md : Md) : ∃ S' gvN', CI P S0 W S' gv gvN' d fr (canonSlot P d t md cur new).1 (canonSlot P d t md cur new).2 a w := by
  have hget : cur.get t = fr.get t := by simp [Fr.get, h.csl]
  -- a row that is frozen already is frozen once more: nothing turns
  have hfrz : ∀ {q : Nat} {e : TypeId} {xs : List AV}, cur.obj q = some (.row e xs true) → ∃ S', CI P S0 W S' gv gvN d fr cur new a w ∧ ∀ n, n ≤ xs.length → V S' (.list (P.cellsOf e) (xs.take n)) (cutV n (gv q)) := by
    intro q e xs hq
    obtain ⟨S', hle, hR, hadd, hV⟩ := h.rel.freeze hq
    have hsame : ({ cur with ob := cur.ob.set q (some (.row e xs true)) } : Fr) = cur := by
      have hl := obj_lt hq
      have : cur.ob[q] = some (.row e xs true) := by
        have := hq
        simpa [Fr.obj, List.getD_eq_getElem?_getD, List.getElem?_eq_getElem hl] using this
      rw [← this, List.set_getElem_self]
    rw [hsame] at hR
    exact ⟨S', h.grow hle hR (fun x v hx => (hadd x v hx).imp (fun q => q) fun hb => ⟨q, _, hq, hb⟩), hV⟩
  cases md with
  | keep =>
    simp only [canonSlot]
    cases hc : (cur.get t).names.all fun r => d.boxes.contains r with
    | true =>
      refine ⟨S, gvN, h.setSlot fun ht => .inl ⟨hget, fun r hr => ?_⟩⟩
      rw [hget] at hc
      exact List.all_eq_true.1 hc r hr
    | false => exact ⟨S, gvN, h⟩
  | frz =>
    simp only [canonSlot]
    cases hv : cur.get t with
    | own q =>
      simp only
      split
      · rename_i e xs hq
        obtain ⟨S', hC, hV⟩ := hfrz hq
        refine ⟨S', gvN, hC.setSlot fun ht => .inr ?_⟩
        obtain ⟨_, hs⟩ := h.slotVal ht
        rw [← hget, hv] at hs
        rw [hs.2 _ _ _ hq]
        have := hV xs.length (Nat.le_refl _)
        rw [List.take_length] at this
        obtain ⟨us, hown, _⟩ := row_els (h.rel.objs q _ hq)
        rcases ownsRow_form hown with ⟨hv', hn⟩ | ⟨g', cap, hv', hb⟩
        · rw [hv'] at this ⊢
          rw [hn] at this
          exact this
        · rw [hv'] at this ⊢; exact this
      · exact ⟨S, gvN, h⟩
    | ownp q n =>
      simp only
      split
      · rename_i e xs hq
        obtain ⟨S', hC, hV⟩ := hfrz hq
        refine ⟨S', gvN, hC.setSlot fun ht => .inr ?_⟩
        obtain ⟨_, hs⟩ := h.slotVal ht
        rw [← hget, hv] at hs
        obtain ⟨hn, hs⟩ := hs.2 _ _ _ hq
        rw [hs]
        exact hV n hn
      · exact ⟨S, gvN, h⟩
    | list sz xs =>
      refine ⟨S, gvN, h.setSlot fun ht => .inr ?_⟩
      obtain ⟨_, hs⟩ := h.slotVal ht
      rw [← hget, hv] at hs
      exact hs
    | _ => exact ⟨S, gvN, h⟩
  | own e fz =>
    simp only [canonSlot]
    cases hc : d.boxes.contains t || decide (new.ob.length ≤ t) || (new.obj t).isSome with
    | true => exact ⟨S, gvN, h⟩
    | false =>
      simp only [Bool.or_eq_false_iff, decide_eq_false_iff_not, Nat.not_le] at hc
      obtain ⟨⟨hb, hlt⟩, hnone⟩ := hc
      have hnone : new.obj t = none := by
        cases hh : new.obj t with
        | none => rfl
        | some _ => rw [hh] at hnone; cases hnone
      simp only [cond_false]
      cases hv : cur.get t with
      | nils =>
        simp only
        cases hz : P.cellsOf e == 0 with
        | true => exact ⟨S, gvN, h⟩
        | false =>
          have ht : t < fr.sl.length := by rw [← h.csl]; exact lt_of_get hv (by simp)
          obtain ⟨_, hs⟩ := h.slotVal ht
          rw [← hget, hv] at hs
          have hV : V S .nils (a.tmps.getD t undef) := hs
          have : a.tmps.getD t undef = .slice none 0 0 := by generalize a.tmps.getD t undef = u at hV; cases hV; rfl
          exact ⟨S, _, h.setNil this hb hnone hlt (by have := beq_eq_false_iff_ne.1 hz; omega)⟩
      | own q =>
        simp only
        split
        · rename_i e' xs fz' hq
          cases he : e' == e with
          | false => exact ⟨S, gvN, h⟩
          | true =>
            have he := beq_iff_eq.1 he
            subst he
            have ht : t < fr.sl.length := by rw [← h.csl]; exact lt_of_get hv (by simp)
            obtain ⟨_, hs⟩ := h.slotVal ht
            rw [← hget, hv] at hs
            have hs := hs.2 _ _ _ hq
            obtain ⟨us, hown, _⟩ := row_els (h.rel.objs q _ hq)
            have hcut : cutV xs.length (gv q) = gv q := by
              rcases ownsRow_form hown with ⟨hv', hn⟩ | ⟨g', cap, hv', hb⟩
              · rw [hv', hn]; rfl
              · rw [hv']; rfl
            have := h.take (fz := fz) (n := xs.length) hq (Nat.le_refl _) (.inl rfl) (by rw [hcut]; exact hs) hb hnone hlt ht
            rw [List.take_length] at this
            exact ⟨S, _, this⟩
        · exact ⟨S, gvN, h⟩
      | ownp q n =>
        simp only
        split
        · rename_i e' xs hq
          cases he : e' == e with
          | false => exact ⟨S, gvN, h⟩
          | true =>
            have he := beq_iff_eq.1 he
            subst he
            have ht : t < fr.sl.length := by rw [← h.csl]; exact lt_of_get hv (by simp)
            obtain ⟨_, hs⟩ := h.slotVal ht
            rw [← hget, hv] at hs
            obtain ⟨hn, hs⟩ := hs.2 _ _ _ hq
            have := h.take (fz := fz) (n := n) hq hn (.inr rfl) hs hb hnone hlt ht
            rw [Bool.or_false] at this
            exact ⟨S, _, this⟩
        · exact ⟨S, gvN, h⟩
      | _ => exact ⟨S, gvN, h⟩
theorem canonFold_ok : ∀ (l : List (Nat × Md)) {S : Stab} {gvN : Nat → Value} {cur new : Fr}, CI P S0 W S gv gvN d fr cur new a w → ∃ S' gvN', CI P S0 W S' gv gvN' d fr (canonFold P d l (cur, new)).1 (canonFold P d l (cur, new)).2 a w
  | [], S, gvN, cur, new, h => ⟨S, gvN, h⟩
  | (t, md) :: l, S, gvN, cur, new, h => by
    obtain ⟨S1, gvN1, h1⟩ := canonSlot_ok h t md
    exact canonFold_ok l h1

theorem keepBoxes_sl (d : Dir) : ∀ (l : List Nat) (cur new : Fr), (keepBoxes d l cur new).sl = new.sl ∧ (keepBoxes d l cur new).ob.length = new.ob.length
  | [], cur, new => ⟨rfl, rfl⟩
  | r :: l, cur, new => by
    obtain ⟨h1, h2⟩ := keepBoxes_sl d l cur { new with ob := new.ob.set r (keepOb d (cur.obj r)) }
    exact ⟨h1, by rw [keepBoxes, h2]; simp⟩
theorem keepBoxes_obj (d : Dir) : ∀ (l : List Nat) (cur new : Fr) (r : Nat), r < new.ob.length → (keepBoxes d l cur new).obj r = if l.contains r then keepOb d (cur.obj r) else new.obj r
  | [], cur, new, r, h => by simp [keepBoxes]
  | q :: l, cur, new, r, h => by
    rw [keepBoxes, keepBoxes_obj d l _ _ r (by simpa using h)]
    by_cases hl : l.contains r = true
    · rw [if_pos hl, if_pos (by rw [List.contains_cons, hl]; simp)]
    · simp only [hl, List.contains_cons]
      show (if _ then _ else (new.ob.set q _).getD r none) = _
      rw [getD_set]
      by_cases hq : q = r
      · subst hq; simp [h]
      · have : (r == q) = false := by simp; exact fun e => hq e.symm
        simp [hq, this, Fr.obj]

theorem canonD_ok (h : Rel P S0 W S gv fr a w) (d : Dir) : ∃ S' gv', Rel P S0 W S' gv' (canonD P d fr) a w := by
  unfold canonD
  simp only
  have hw : Rel P S0 W S gv (bif d.slots.any fun x => x.2.isFrz then { fr with ob := fr.ob.map weakOb } else fr) a w := by
    cases d.slots.any fun x => x.2.isFrz
    · exact h
    · exact h.weak
  generalize (bif d.slots.any fun x => x.2.isFrz then { fr with ob := fr.ob.map weakOb } else fr : Fr) = f1 at hw
  have hnone : ∀ r, ({ sl := List.replicate f1.sl.length AV.junk, ob := List.replicate f1.ob.length none } : Fr).obj r = none := by
    intro r
    simp only [Fr.obj, List.getD_eq_getElem?_getD, List.getElem?_replicate]
    split <;> rfl
  have h0 : CI P S0 W S gv gv d f1 f1 { sl := List.replicate f1.sl.length .junk, ob := List.replicate f1.ob.length none } a w := by
    refine { rel := hw, csl := rfl, sub := fun _ _ h => h, nsl := by simp, nob := by simp, slot := fun t ht => .inl ?_, nobj := fun t o ho => ?_, live := fun t o g ho => ?_, ndis := fun t t' o o' g ho => ?_ }
    · simp [Fr.get, List.getD_eq_getElem?_getD, List.getElem?_replicate, ht]
    · rw [hnone t] at ho; cases ho
    · rw [hnone t] at ho; cases ho
    · rw [hnone t] at ho; cases ho
  obtain ⟨S1, gvN, h1⟩ := canonFold_ok d.slots h0
  generalize hx : canonFold P d d.slots (f1, { sl := List.replicate f1.sl.length .junk, ob := List.replicate f1.ob.length none }) = x at h1
  obtain ⟨cur, new⟩ := x
  simp only at h1 ⊢
  obtain ⟨k1, k2⟩ := keepBoxes_sl d d.boxes cur new
  have hob : ∀ r, (keepBoxes d d.boxes cur new).obj r = if d.boxes.contains r then keepOb d (cur.obj r) else new.obj r := by
    intro r
    by_cases hr : r < new.ob.length
    · exact keepBoxes_obj d d.boxes cur new r hr
    · have e1 : (keepBoxes d d.boxes cur new).obj r = none := by
        simp only [Fr.obj, List.getD_eq_getElem?_getD]
        rw [List.getElem?_eq_none (by rw [k2]; omega)]; rfl
      have e2 : new.obj r = none := by
        simp only [Fr.obj, List.getD_eq_getElem?_getD]
        rw [List.getElem?_eq_none (by omega)]; rfl
      have e3 : cur.obj r = none := by
        cases hc : cur.obj r with
        | none => rfl
        | some o =>
          have := obj_lt (h1.sub r o hc)
          rw [h1.nob] at hr
          omega
      rw [e1, e2, e3]
      split <;> rfl
  let gvF : Nat → Value := fun r => if d.boxes.contains r then gv r else gvN r
  have hgb : ∀ r, d.boxes.contains r = true → gvF r = gv r := fun r hr => by show (if _ then _ else _) = _; rw [if_pos hr]
  have hgn : ∀ r, d.boxes.contains r = false → gvF r = gvN r := fun r hr => by show (if _ then _ else _) = _; rw [if_neg (by rw [hr]; simp)]
  have hkin : ∀ r, d.boxes.contains r = true → Kin (cur.obj r) ((keepBoxes d d.boxes cur new).obj r) ∧ ((keepBoxes d d.boxes cur new).obj r ≠ none → gvF r = gv r) := by
    intro r hr
    refine ⟨?_, fun _ => hgb r hr⟩
    rw [hob r, if_pos hr]
    cases cur.obj r with
    | none => trivial
    | some o => cases o <;> simp [Kin, keepOb]
  have hcases : ∀ r o, (keepBoxes d d.boxes cur new).obj r = some o → (d.boxes.contains r = true ∧ ∃ o0, cur.obj r = some o0 ∧ keepOb d (some o0) = some o) ∨ (d.boxes.contains r = false ∧ new.obj r = some o) := by
    intro r o hr
    rw [hob r] at hr
    cases hb : d.boxes.contains r with
    | true =>
      rw [if_pos hb] at hr
      cases hc : cur.obj r with
      | none => rw [hc] at hr; cases hr
      | some o0 => rw [hc] at hr; exact .inl ⟨rfl, o0, rfl, hr⟩
    | false => rw [if_neg (by rw [hb]; simp)] at hr; exact .inr ⟨rfl, hr⟩
  refine ⟨S1, gvF, { below := h1.rel.below, agree := h1.rel.agree, ext := h1.rel.ext, fresh := h1.rel.fresh, len := ?_, obl := ?_, defers := h1.rel.defers, slot := fun t ht => ?_, objs := fun r o hr => ?_, dis := fun r r' o o' g hr hr' hg hg' => ?_ }⟩
  · rw [k1, h1.nsl, hw.len]
  · rw [k1, k2, h1.nsl, h1.nob]; exact hw.obl
  · have ht' : t < f1.sl.length := by rw [k1, h1.nsl] at ht; exact ht
    have e : (keepBoxes d d.boxes cur new).get t = new.get t := by simp [Fr.get, k1]
    rw [e]
    rcases h1.slot t ht' with q | ⟨q1, q2⟩ | q | ⟨q1, q2, q3, q4⟩
    · rw [q]; trivial
    · rw [q1]
      exact (h1.slotVal ht').2.mono (Stab.le_refl S1) fun r hr => hkin r (q2 r hr)
    · exact q.toSV
    · rw [q1]
      refine ⟨by rw [q3]; exact q4, fun e xs fz _ => by rw [q3, hgn t q2]⟩
  · rcases hcases r o hr with ⟨hb, o0, h0', e⟩ | ⟨hb, hn⟩
    · have hO := h1.rel.objs r o0 h0'
      cases o0 with
      | box cs =>
        cases e
        obtain ⟨g, u, T, a1, a2, a3, a4, a5, a6, a7⟩ := hO
        refine ⟨g, u, T, by rw [hgb r hb]; exact a1, a2, a3, by simp [a4], a5, fun j c v hc hv => ?_, a7⟩
        rw [List.getElem?_map] at hc
        obtain ⟨c0, hc0, rfl⟩ := Option.map_eq_some_iff.1 hc
        cases hn : c0.names.all fun r => d.boxes.contains r with
        | false => trivial
        | true => exact (a6 j c0 v hc0 hv).mono (Stab.le_refl S1) fun s hs => hkin s (List.all_eq_true.1 hn s (name1_sub s hs))
      | row e' xs fz =>
        cases e
        exact hO.mono (fun _ _ => rfl) (hgb r hb) (Stab.le_refl S1) (fun _ _ _ _ hx _ => hx) (fun cs hcs => by cases hcs)
      | it s pos =>
        cases e
        exact hO.mono (fun _ _ => rfl) (hgb r hb) (Stab.le_refl S1) (fun _ _ _ _ hx _ => hx) (fun cs hcs => by cases hcs)
    · obtain ⟨_, ⟨e, xs, fz, rfl⟩, p3⟩ := h1.nobj r o hn
      exact (p3 (fun _ => none)).mono (fun _ _ => rfl) (hgn r hb) (Stab.le_refl S1) (fun _ _ _ _ hx _ => hx) (fun cs hcs => by cases hcs)
  · rcases hcases r o hr with ⟨hb, o0, h0', _⟩ | ⟨hb, hn⟩
    · rw [hgb r hb] at hg
      rcases hcases r' o' hr' with ⟨hb', o1, h1', _⟩ | ⟨hb', hn'⟩
      · rw [hgb r' hb'] at hg'
        exact h1.rel.dis r r' o0 o1 g h0' h1' hg hg'
      · rw [hgn r' hb'] at hg'
        exact absurd hg (h1.live r' o' g hn' hg' r o0 h0')
    · rw [hgn r hb] at hg
      rcases hcases r' o' hr' with ⟨hb', o1, h1', _⟩ | ⟨hb', hn'⟩
      · rw [hgb r' hb'] at hg'
        exact absurd hg' (h1.live r o g hn hg r' o1 h1')
      · rw [hgn r' hb'] at hg'
        exact h1.ndis r r' o o' g hn hn' hg hg'
end Go.Proofs.YtilbahgfjfcikaaDoor.Eng
