/- The engine, part 4: objects of the call's own: laid, turned, let go, frozen. -/
import Derived.Test.YtilbahgfjfcikaaDoorE3
set_option linter.unusedVariables false
set_option linter.unusedSimpArgs false
namespace Go.Proofs.YtilbahgfjfcikaaDoor.Eng
open Go Go.RowKit
variable {P : Program} {S0 S S' : Stab} {W w w' : World} {gv gv' : Nat → Value} {fr : Fr} {a : Act} {ob ob' : Nat → Option Ob} {β : Type}

theorem getD_set (l : List (Option Ob)) (t s : Nat) (v : Option Ob) : (l.set t v).getD s none = if t = s ∧ s < l.length then v else l.getD s none := by
  simp only [List.getD_eq_getElem?_getD, List.getElem?_set]
  by_cases h : t = s
  · subst h
    by_cases hs : t < l.length
    · simp [hs]
    · simp [hs, List.getElem?_eq_none (Nat.le_of_not_lt hs)]
  · simp [h]
theorem obj_lt {r : Nat} {o : Ob} (h : fr.obj r = some o) : r < fr.ob.length := by
  unfold Fr.obj at h
  rw [List.getD_eq_getElem?_getD] at h
  cases hh : fr.ob[r]? with
  | none => rw [hh] at h; cases h
  | some _ => exact (List.getElem?_eq_some_iff.1 hh).1
def upd (gv : Nat → Value) (t : Nat) (v : Value) : Nat → Value := fun r => if r = t then v else gv r

theorem ObR.mono {B r : Nat} {o : Ob} (h : ObR P B S gv ob w r o) (hblock : ∀ g, hblk (gv r) = some g → w'.heap[g]? = w.heap[g]?) (hg : gv' r = gv r) (hS : S.le S')
    (hnew : ∀ g, hblk (gv r) = some g → ∀ x v, S' x = some v → x.block = g → S x = some v)
    (hc : ∀ cs, o = .box cs → ∀ (j : Nat) (c : AV) (v : Value), cs[j]? = some c → SV1 P S gv ob c v → SV1 P S' gv' ob' c v) : ObR P B S' gv' ob' w' r o := by
  cases o with
  | box cs =>
    obtain ⟨g, u, T, h1, h2, h3, h4, h5, h6, h7⟩ := h
    have hb : hblk (gv r) = some g := by rw [h1]; rfl
    exact ⟨g, u, T, by rw [hg]; exact h1, h2, by rw [hblock g hb]; exact h3, h4, h5, fun j c v hj hv => hc cs rfl j c v hj (h6 j c v hj hv), fun x v hx e => h7 x v (hnew g hb x v hx e) e⟩
  | row e xs fz =>
    obtain ⟨us, h1, h2, h3, h4, h5⟩ := h
    refine ⟨us, ?_, h2, h3, fun i x hx => ⟨(h4 i x hx).1, fun j c hj => ⟨((h4 i x hx).2 j c hj).1, fun v hv => (((h4 i x hx).2 j c hj).2 v hv).mono hS⟩⟩, fun g hgg x v hx hxb => ?_⟩
    · obtain ⟨hl, hown⟩ := h1
      refine ⟨hl, ?_⟩
      rw [hg]
      rcases hown with hn | ⟨g, cap, cur, hv, hb, hh, rest⟩
      · exact .inl hn
      · exact .inr ⟨g, cap, cur, hv, hb, by rw [hblock g (by rw [hv]; rfl)]; exact hh, rest⟩
    · rw [hg] at hgg
      exact h5 g hgg x v (hnew g hgg x v hx hxb) hxb
  | it s pos =>
    obtain ⟨g, h1, h2, h3⟩ := h
    exact ⟨g, by rw [hg]; exact h1, h2, by rw [hblock g (by rw [h1]; rfl)]; exact h3⟩

/-- An object is let go. -/
theorem Rel.kill (h : Rel P S0 W S gv fr a w) (r : Nat) : Rel P S0 W S gv { fr with ob := fr.ob.set r none } a w := by
  have ho : ∀ s, ({ fr with ob := fr.ob.set r none } : Fr).obj s = if r = s ∧ s < fr.ob.length then none else fr.obj s := fun s => getD_set fr.ob r s none
  have hk : ∀ s, Kin (fr.obj s) (({ fr with ob := fr.ob.set r none } : Fr).obj s) := by
    intro s
    rw [ho s]
    split
    · unfold Kin; split <;> simp_all
    · cases hs : fr.obj s with
      | none => trivial
      | some o => cases o <;> simp [Kin]
  have hm : ∀ s o, ({ fr with ob := fr.ob.set r none } : Fr).obj s = some o → fr.obj s = some o := by
    intro s o hs
    rw [ho s] at hs
    split at hs
    · cases hs
    · exact hs
  exact {
    below := h.below, agree := h.agree, ext := h.ext, fresh := h.fresh, len := h.len, obl := by simpa using h.obl, defers := h.defers
    slot := fun t ht => (h.slot t ht).mono (fun _ _ h => h) fun s _ => ⟨hk s, fun _ => rfl⟩
    objs := fun s o hs => (h.objs s o (hm s o hs)).mono (fun _ _ => rfl) rfl (fun _ _ h => h) (fun _ _ _ _ hx _ => hx) fun cs _ j c v hc hv => hv.mono (fun _ _ h => h) fun s _ => ⟨hk s, fun _ => rfl⟩
    dis := fun s s' o o' g hs hs' => h.dis s s' o o' g (hm s o hs) (hm s' o' hs') }

theorem purge_names {ns : List Nat} {v : AV} : ∀ r ∈ (purge ns v).names, r ∈ v.names ∧ r ∉ ns := by
  intro r hr
  unfold purge at hr
  cases hc : v.names.any fun r => ns.contains r with
  | true => rw [hc] at hr; simp [AV.names, AV.name1] at hr
  | false =>
    rw [hc] at hr
    simp only [cond_false] at hr
    refine ⟨hr, fun hm => ?_⟩
    have := List.any_eq_false.1 hc r hr
    simp [hm] at this
theorem purge_SV {ns : List Nat} {v : AV} {val : Value} (h : SV P S gv ob v val) : SV P S gv ob (purge ns v) val := by
  unfold purge
  cases v.names.any fun r => ns.contains r with
  | true => trivial
  | false => exact h
theorem purge_SV1 {ns : List Nat} {v : AV} {val : Value} (h : SV1 P S gv ob v val) : SV1 P S gv ob (purge ns v) val := by
  unfold purge
  cases v.names.any fun r => ns.contains r with
  | true => trivial
  | false => exact h
theorem name1_sub {v : AV} : ∀ r ∈ v.name1, r ∈ v.names := by
  intro r hr
  cases v <;> first | exact hr | (simp [AV.name1] at hr)

/-- A new object, under a name of its own. -/
theorem Rel.new (h : Rel P S0 W S gv fr a w) {t : Nat} {o : Ob} {hv : Value} {dst : Option Tmp} {v : AV} {val : Value}
    (hw : Below W.heap.size W w') (hag : Agree S w') (ht : t < fr.ob.length)
    (hoth : ∀ r o' g, fr.obj r = some o' → r ≠ t → hblk (gv r) = some g → w'.heap[g]? = w.heap[g]?)
    (hdis : ∀ r o' g, fr.obj r = some o' → r ≠ t → hblk hv = some g → hblk (gv r) ≠ some g)
    (hnew : ∀ ob', ObR P W.heap.size S (upd gv t hv) ob' w' t o)
    (hval : ∀ ob', ob' t = some o → SV P S (upd gv t hv) ob' v val) :
    Rel P S0 W S (upd gv t hv) (fr.put dst v [] [(t, o)]) (a.put dst val) w' := by
  have hob : ∀ s, (fr.put dst v [] [(t, o)]).obj s = if t = s then some o else purgeOb [t] (fr.obj s) := by
    intro s
    show ((fr.ob.map (purgeOb [t])).set t (some o)).getD s none = _
    rw [getD_set]
    by_cases hs : t = s
    · subst hs; simp [ht]
    · rw [if_neg (by simp [hs]), if_neg hs]
      simp only [List.getD_eq_getElem?_getD, List.getElem?_map, Fr.obj]
      cases fr.ob[s]? with
      | none => rfl
      | some x => rfl
  have hkin : ∀ s, s ≠ t → Kin (fr.obj s) ((fr.put dst v [] [(t, o)]).obj s) := by
    intro s hs
    rw [hob s, if_neg (fun e => hs e.symm)]
    cases fr.obj s with
    | none => trivial
    | some x => cases x <;> simp [Kin, purgeOb]
  have hgv : ∀ s, s ≠ t → upd gv t hv s = gv s := fun s hs => by simp [upd, hs]
  have hm : ∀ s o', (fr.put dst v [] [(t, o)]).obj s = some o' → s ≠ t → ∃ o1, fr.obj s = some o1 ∧ purgeOb [t] (some o1) = some o' := by
    intro s o' hs hst
    rw [hob s, if_neg (fun e => hst e.symm)] at hs
    cases hh : fr.obj s with
    | none => rw [hh] at hs; cases hs
    | some o1 => rw [hh] at hs; exact ⟨o1, rfl, hs⟩
  have hsv1 : ∀ (c : AV) (u : Value), SV1 P S gv fr.obj c u → SV1 P S (upd gv t hv) (fr.put dst v [] [(t, o)]).obj (purge [t] c) u := by
    intro c u hc
    refine (purge_SV1 hc).mono (fun _ _ h => h) fun r hr => ?_
    have := (purge_names r (name1_sub r hr)).2
    have hrt : r ≠ t := by simpa using this
    exact ⟨hkin r hrt, fun _ => hgv r hrt⟩
  have hsv : ∀ (c : AV) (u : Value), SV P S gv fr.obj c u → SV P S (upd gv t hv) (fr.put dst v [] [(t, o)]).obj (purge [t] c) u := by
    intro c u hc
    refine (purge_SV hc).mono (fun _ _ h => h) fun r hr => ?_
    have hrt : r ≠ t := by simpa using (purge_names r hr).2
    exact ⟨hkin r hrt, fun _ => hgv r hrt⟩
  refine { below := hw, agree := hag, ext := h.ext, fresh := h.fresh, len := ?_, obl := by simpa [Fr.put, setD_length, applyU, addN] using h.obl, defers := by rw [put_defers]; exact h.defers, slot := ?_, objs := ?_, dis := ?_ }
  · rw [put_tmps_size, h.len]; simp [Fr.put, setD_length]
  · refine slot_put (sl := fr.sl.map (purge [t])) (by simp [h.len]) (fun s hs => ?_) (hval _ (by rw [hob t, if_pos rfl]))
    have hs' : s < fr.sl.length := by simpa using hs
    have e : (fr.sl.map (purge [t])).getD s .junk = purge [t] (fr.sl.getD s .junk) := by
      simp [List.getD_eq_getElem?_getD, List.getElem?_eq_getElem hs']
    rw [e]
    exact hsv _ _ (h.slot s hs')
  · intro s o' hs
    by_cases hst : s = t
    · subst hst
      rw [hob s, if_pos rfl] at hs
      cases hs
      exact hnew _
    · obtain ⟨o1, e1, e2⟩ := hm s o' hs hst
      have h1 := h.objs s o1 e1
      cases o1 with
      | box cs =>
        cases e2
        obtain ⟨g, u, T, a1, a2, a3, a4, a5, a6, a7⟩ := h1
        refine ⟨g, u, T, by rw [hgv s hst]; exact a1, a2, by rw [hoth s _ g e1 hst (by rw [a1]; rfl)]; exact a3, by simp [a4], a5, fun j c v' hc hv' => ?_, a7⟩
        rw [List.getElem?_map] at hc
        obtain ⟨c1, hc1, rfl⟩ := Option.map_eq_some_iff.1 hc
        exact hsv1 c1 v' (a6 j c1 v' hc1 hv')
      | row e xs fz =>
        cases e2
        exact h1.mono (hoth s _ · e1 hst) (hgv s hst) (fun _ _ h => h) (fun _ _ _ _ hx _ => hx) (fun cs hcs => by cases hcs)
      | it q pos =>
        cases e2
        exact h1.mono (hoth s _ · e1 hst) (hgv s hst) (fun _ _ h => h) (fun _ _ _ _ hx _ => hx) (fun cs hcs => by cases hcs)
  · intro s s' o1 o2 g hs hs' hb hb'
    by_cases hst : s = t
    · by_cases hst' : s' = t
      · rw [hst, hst']
      · obtain ⟨o3, e3, _⟩ := hm s' o2 hs' hst'
        rw [hst] at hb
        simp only [upd, if_pos] at hb
        rw [hgv s' hst'] at hb'
        exact absurd hb' (hdis s' o3 g e3 hst' hb)
    · obtain ⟨o4, e4, _⟩ := hm s o1 hs hst
      by_cases hst' : s' = t
      · rw [hst'] at hb'
        simp only [upd, if_pos] at hb'
        rw [hgv s hst] at hb
        exact absurd hb (hdis s o4 g e4 hst hb')
      · obtain ⟨o3, e3, _⟩ := hm s' o2 hs' hst'
        rw [hgv s hst] at hb
        rw [hgv s' hst'] at hb'
        exact h.dis s s' o4 o3 g e4 e3 hb hb'
theorem put_split (fr : Fr) (dst : Option Tmp) (v : AV) (u : Upd) (n : New) : fr.put dst v u n = ({ fr with ob := applyU fr.ob u } : Fr).put dst v [] n := by cases n <;> rfl

/-- An object is turned in its place. -/
theorem Rel.turn (h : Rel P S0 W S gv fr a w) {r : Nat} {o o' : Ob} (hr : fr.obj r = some o) (hS : S.le S') (hk : Kin (some o) (some o'))
    (hw : Below W.heap.size W w') (hag : Agree S' w')
    (hoth : ∀ s o1 g, fr.obj s = some o1 → s ≠ r → hblk (gv s) = some g → w'.heap[g]? = w.heap[g]? ∧ ∀ x v, S' x = some v → x.block = g → S x = some v)
    (hfr : ∀ x v, S' x = some v → S x = some v ∨ W.heap.size ≤ x.block)
    (hnew : ∀ ob', (∀ s, Kin (fr.obj s) (ob' s)) → ObR P W.heap.size S' gv ob' w' r o') :
    Rel P S0 W S' gv { fr with ob := fr.ob.set r (some o') } a w' := by
  have hrl := obj_lt hr
  have ho : ∀ s, ({ fr with ob := fr.ob.set r (some o') } : Fr).obj s = if r = s then some o' else fr.obj s := by
    intro s
    show (fr.ob.set r (some o')).getD s none = _
    rw [getD_set]
    by_cases hs : r = s
    · subst hs; simp [hrl]
    · simp [hs, Fr.obj]
  have hkin : ∀ s, Kin (fr.obj s) (({ fr with ob := fr.ob.set r (some o') } : Fr).obj s) := by
    intro s
    rw [ho s]
    by_cases hs : r = s
    · subst hs; rw [if_pos rfl, hr]; exact hk
    · rw [if_neg hs]
      cases fr.obj s with
      | none => trivial
      | some x => cases x <;> simp [Kin]
  refine { below := hw, agree := hag, ext := fun x v hx => hS _ _ (h.ext x v hx), fresh := fun x v hx => (hfr x v hx).elim (h.fresh x v) .inr, len := h.len, obl := by simpa using h.obl, defers := h.defers, slot := fun t ht => (h.slot t ht).mono hS fun s _ => ⟨hkin s, fun _ => rfl⟩, objs := ?_, dis := ?_ }
  · intro s o1 hs
    rw [ho s] at hs
    by_cases hsr : r = s
    · subst hsr
      rw [if_pos rfl] at hs
      cases hs
      exact hnew _ hkin
    · rw [if_neg hsr] at hs
      have hsr' : s ≠ r := fun e => hsr e.symm
      exact (h.objs s o1 hs).mono (fun g hg => (hoth s o1 g hs hsr' hg).1) rfl hS (fun g hg => (hoth s o1 g hs hsr' hg).2) fun cs _ j c v hc hv => hv.mono hS fun s _ => ⟨hkin s, fun _ => rfl⟩
  · intro s s' o1 o2 g hs hs' hb hb'
    have : ∀ s o1, ({ fr with ob := fr.ob.set r (some o') } : Fr).obj s = some o1 → ∃ o2, fr.obj s = some o2 := by
      intro s o1 hs
      rw [ho s] at hs
      by_cases hsr : r = s
      · subst hsr; exact ⟨o, hr⟩
      · rw [if_neg hsr] at hs; exact ⟨_, hs⟩
    obtain ⟨o3, e3⟩ := this s o1 hs
    obtain ⟨o4, e4⟩ := this s' o2 hs'
    exact h.dis s s' o3 o4 g e3 e4 hb hb'

theorem cell_of_us {B e sz n : Nat} {v : Value} {us : List Value} {g m c : Nat} (hown : w.ownsRow B e sz v n us) (hv : v = .slice (some ⟨g, 0, none⟩) m c) {k : Nat} {u : Value} (hu : us[k]? = some u) : w.cell? ⟨g, k, none⟩ = some u := by
  have := hown.cells (g := g) (by rw [hv]; rfl) k u hu
  rw [add_lit', Nat.zero_add] at this
  exact this
theorem ownsRow_form {B e sz n : Nat} {v : Value} {us : List Value} (hown : w.ownsRow B e sz v n us) : (v = .slice none 0 0 ∧ n = 0) ∨ ∃ g cap, v = .slice (some ⟨g, 0, none⟩) n cap ∧ B ≤ g := by
  rcases hown.2 with h | ⟨g, cap, cur, hv, hb, _⟩
  · exact .inl h
  · exact .inr ⟨g, cap, hv, hb⟩
theorem flat_lt {i j n sz : Nat} (hi : i < n) (hj : j < sz) : i * sz + j < n * sz := by
  have : (i + 1) * sz ≤ n * sz := Nat.mul_le_mul_right _ hi
  rw [Nat.add_mul, Nat.one_mul] at this
  omega

/-- A row of one's own, frozen: from here on its cells stay. -/
theorem Rel.freeze (h : Rel P S0 W S gv fr a w) {r : Nat} {e : TypeId} {xs : List AV} {fz : Bool} (hr : fr.obj r = some (.row e xs fz)) :
    ∃ S', S.le S' ∧ Rel P S0 W S' gv { fr with ob := fr.ob.set r (some (.row e xs true)) } a w ∧ (∀ x v, S' x = some v → S x = some v ∨ hblk (gv r) = some x.block) ∧ ∀ n, n ≤ xs.length → V S' (.list (P.cellsOf e) (xs.take n)) (cutV n (gv r)) := by
  obtain ⟨us, hown, hsz, hone, hel, hSb⟩ := h.objs r _ hr
  have hul : us.length = xs.length * P.cellsOf e := hown.1
  rcases ownsRow_form hown with ⟨hv, hn⟩ | ⟨g, cap, hv, hb⟩
  · have hx : xs = [] := List.eq_nil_of_length_eq_zero hn
    subst hx
    refine ⟨S, fun _ _ h => h, h.turn hr (fun _ _ h => h) (by simp [Kin]) h.below h.agree (fun _ _ _ _ _ _ => ⟨rfl, fun _ _ hx _ => hx⟩) (fun _ _ hx => .inl hx) (fun ob' _ => ⟨us, hown, hsz, hone, by simp, fun g hg => by rw [hv] at hg; simp [hblk] at hg⟩), fun _ _ hx => .inl hx, fun n hn => ?_⟩
    obtain rfl : n = 0 := by simpa using hn
    rw [hv]
    exact .listn _
  · have hbl : hblk (gv r) = some g := by rw [hv]; rfl
    let S' : Stab := fun x => if x.block = g ∧ x.spot = none ∧ x.off < xs.length * P.cellsOf e then w.cell? x else S x
    have hle : S.le S' := by
      intro x v hx
      show (if _ then _ else _) = _
      split
      · exact h.agree x v hx
      · exact hx
    have hS'g : ∀ k u, us[k]? = some u → S' ⟨g, k, none⟩ = some u := by
      intro k u hu
      have hk : k < xs.length * P.cellsOf e := by rw [← hul]; exact (List.getElem?_eq_some_iff.1 hu).1
      show (if _ then _ else _) = _
      rw [if_pos ⟨rfl, rfl, hk⟩]
      exact cell_of_us hown hv hu
    refine ⟨S', hle, ?_, fun x v hx => ?_, fun n hn => ?_⟩
    · refine h.turn hr hle (by simp [Kin]) h.below (fun x v hx => ?_) (fun s o1 g' hs hsr hg' => ⟨rfl, fun x v hx hxb => ?_⟩) (fun x v hx => ?_) (fun ob' _ => ⟨us, hown, hsz, hone, fun i x hx => ⟨(hel i x hx).1, fun j c hj => ⟨((hel i x hx).2 j c hj).1, fun v hv => (((hel i x hx).2 j c hj).2 v hv).mono hle⟩⟩, fun g' hg' x v hx hxb => ?_⟩)
      · have hx : (if x.block = g ∧ x.spot = none ∧ x.off < xs.length * P.cellsOf e then w.cell? x else S x) = some v := hx
        split at hx
        · exact hx
        · exact h.agree x v hx
      · have hne : g' ≠ g := fun e => hsr (h.dis s r o1 _ g' hs hr hg' (by rw [e]; exact hbl))
        have hx : (if x.block = g ∧ x.spot = none ∧ x.off < xs.length * P.cellsOf e then w.cell? x else S x) = some v := hx
        rw [if_neg (fun hh => hne (hxb.symm.trans hh.1))] at hx
        exact hx
      · have hx : (if x.block = g ∧ x.spot = none ∧ x.off < xs.length * P.cellsOf e then w.cell? x else S x) = some v := hx
        split at hx
        · rename_i hh; exact .inr (by rw [hh.1]; exact hb)
        · exact .inl hx
      · rw [hbl] at hg'
        cases hg'
        have hx : (if x.block = g ∧ x.spot = none ∧ x.off < xs.length * P.cellsOf e then w.cell? x else S x) = some v := hx
        split at hx
        · rename_i hh; exact ⟨rfl, hh.2⟩
        · exact ⟨rfl, (hSb g hbl x v hx hxb).2⟩
    · have hx : (if x.block = g ∧ x.spot = none ∧ x.off < xs.length * P.cellsOf e then w.cell? x else S x) = some v := hx
      split at hx
      · rename_i hh; exact .inr (by rw [hbl, hh.1])
      · exact .inl hx
    · rw [hv]
      have hc : cutV n (.slice (some ⟨g, 0, none⟩) xs.length cap) = .slice (some ⟨g, 0, none⟩) (xs.take n).length cap := by
        simp [cutV, Nat.min_eq_left hn]
      rw [hc]
      have hcle : xs.length ≤ cap := by
        rcases hown.2 with ⟨hv2, _⟩ | ⟨g2, cap2, cur2, hv2, _, _, hnc, _⟩
        · rw [hv] at hv2; cases hv2
        · rw [hv] at hv2; cases hv2; exact hnc
      have hin : ∀ (i : Nat) (x : AV), (xs.take n)[i]? = some x → xs[i]? = some x := by
        intro i x hx
        rw [List.getElem?_take] at hx
        split at hx
        · exact hx
        · cases hx
      have hval : ∀ (i : Nat) (x : AV) (j : Nat) (c : AV), (xs.take n)[i]? = some x → x.cells[j]? = some c → us[i * P.cellsOf e + j]? = some (us.getD (i * P.cellsOf e + j) undef) := by
        intro i x j c hx hj
        have hx := hin i x hx
        have hi : i < xs.length := (List.getElem?_eq_some_iff.1 hx).1
        have hj' : j < P.cellsOf e := by rw [← (hel i x hx).1]; exact (List.getElem?_eq_some_iff.1 hj).1
        have hlt : i * P.cellsOf e + j < us.length := by rw [hul]; exact flat_lt hi hj'
        rw [List.getD_eq_getElem?_getD, List.getElem?_eq_getElem hlt]; rfl
      exact .list _ _ _ _ (fun i j => us.getD (i * P.cellsOf e + j) undef) (by simp; omega) (fun i x hx => (hel i x (hin i x hx)).1) (fun i x j c hx hj => ((hel i x (hin i x hx)).2 j c hj).1)
        (fun i x j c hx hj => by rw [add_lit', Nat.zero_add]; exact hS'g _ _ (hval i x j c hx hj))
        (fun i x j c hx hj => ((((hel i x (hin i x hx)).2 j c hj).2 _ (hval i x j c hx hj))).mono hle)

/-- The world grows; cells of new blocks stay from here on. -/
theorem Rel.grow (h : Rel P S0 W S gv fr a w) (hS : S.le S') (hw : Below W.heap.size W w') (hb : ∀ k, k < w.heap.size → w'.heap[k]? = w.heap[k]?) (hag : Agree S' w') (hfr : ∀ x v, S' x = some v → S x = some v ∨ w.heap.size ≤ x.block) : Rel P S0 W S' gv fr a w' where
  below := hw
  agree := hag
  ext := fun x v hx => hS _ _ (h.ext x v hx)
  fresh := fun x v hx => (hfr x v hx).elim (h.fresh x v) (fun hl => .inr (Nat.le_trans h.below.size hl))
  len := h.len
  obl := h.obl
  defers := h.defers
  slot := fun t ht => (h.slot t ht).mono hS fun r _ => ⟨by cases fr.obj r with | none => trivial | some x => cases x <;> simp [Kin], fun _ => rfl⟩
  objs := fun r o hr => by
    have hlt : ∀ g, hblk (gv r) = some g → g < w.heap.size := by
      intro g hg
      have := h.objs r o hr
      cases o with
      | box cs =>
        obtain ⟨g', u, T, h1, h2, h3, _⟩ := this
        rw [h1] at hg; cases hg
        exact (Array.getElem?_eq_some_iff.1 h3).1
      | row e xs fz =>
        obtain ⟨us, h1, _⟩ := this
        rcases h1.2 with ⟨hv, _⟩ | ⟨g', cap, cur, hv, hb, hh, _⟩
        · rw [hv] at hg; cases hg
        · rw [hv] at hg; cases hg
          exact (Array.getElem?_eq_some_iff.1 hh).1
      | it s pos =>
        obtain ⟨g', h1, h2, h3⟩ := this
        rw [h1] at hg; cases hg
        exact (Array.getElem?_eq_some_iff.1 h3).1
    exact (h.objs r o hr).mono (fun g hg => hb g (hlt g hg)) rfl hS (fun g hg x v hx hxb => (hfr x v hx).resolve_right (by have := hlt g hg; omega)) fun cs _ j c v hc hv => hv.mono hS fun s _ => ⟨by cases fr.obj s with | none => trivial | some x => cases x <;> simp [Kin], fun _ => rfl⟩
  dis := h.dis
end Go.Proofs.YtilbahgfjfcikaaDoor.Eng
