/- The engine, part 10: append, make, a slice's literal. -/
import Derived.Test.YtilbahgfjfcikaaDoorE9
set_option linter.unusedVariables false
set_option linter.unusedSimpArgs false
namespace Go.Proofs.YtilbahgfjfcikaaDoor.Eng
open Go Go.RowKit
variable {P : Program} {S0 S S' : Stab} {W w w' : World} {gv gv' : Nat → Value} {fr : Fr} {a : Act} {ob ob' : Nat → Option Ob} {β : Type}

/-- Elements, and the cells that hold them. -/
def Els (P : Program) (S : Stab) (e : TypeId) (ys : List AV) (news : List Value) : Prop :=
  news.length = ys.length * P.cellsOf e ∧ (∀ u ∈ news, u.oneCell' = true) ∧
  ∀ (i : Nat) (y : AV), ys[i]? = some y → y.cells.length = P.cellsOf e ∧ ∀ (j : Nat) (c : AV), y.cells[j]? = some c → c.leaf = true ∧ ∀ v, news[i * P.cellsOf e + j]? = some v → V S c v
theorem Els.append {e : TypeId} {xs ys : List AV} {us vs : List Value} (h : Els P S e xs us) (k : Els P S e ys vs) : Els P S e (xs ++ ys) (us ++ vs) := by
  obtain ⟨h1, h2, h3⟩ := h
  obtain ⟨k1, k2, k3⟩ := k
  refine ⟨by rw [List.length_append, h1, k1, List.length_append, Nat.add_mul], fun u hu => (List.mem_append.1 hu).elim (h2 u) (k2 u), fun i y hy => ?_⟩
  by_cases hi : i < xs.length
  · rw [List.getElem?_append_left hi] at hy
    obtain ⟨q1, q2⟩ := h3 i y hy
    refine ⟨q1, fun j c hc => ⟨(q2 j c hc).1, fun v hv => (q2 j c hc).2 v ?_⟩⟩
    have hj : j < P.cellsOf e := by rw [← q1]; exact (List.getElem?_eq_some_iff.1 hc).1
    rwa [List.getElem?_append_left (by rw [h1]; exact flat_lt hi hj)] at hv
  · rw [List.getElem?_append_right (by omega)] at hy
    obtain ⟨q1, q2⟩ := k3 (i - xs.length) y hy
    refine ⟨q1, fun j c hc => ⟨(q2 j c hc).1, fun v hv => (q2 j c hc).2 v ?_⟩⟩
    have hle : xs.length * P.cellsOf e ≤ i * P.cellsOf e := Nat.mul_le_mul_right _ (by omega)
    rw [List.getElem?_append_right (by rw [h1]; omega), h1] at hv
    rwa [show i * P.cellsOf e + j - xs.length * P.cellsOf e = (i - xs.length) * P.cellsOf e + j from by rw [Nat.sub_mul]; omega] at hv
theorem Els.take {e : TypeId} {xs : List AV} {us : List Value} (h : Els P S e xs us) (n : Nat) : Els P S e (xs.take n) (us.take ((xs.take n).length * P.cellsOf e)) := by
  obtain ⟨h1, h2, h3⟩ := h
  have hle : (xs.take n).length * P.cellsOf e ≤ us.length := by rw [h1]; exact Nat.mul_le_mul_right _ (by simp; omega)
  refine ⟨by rw [List.length_take]; omega, fun u hu => h2 u (List.mem_of_mem_take hu), fun i y hy => ?_⟩
  have hi : i < (xs.take n).length := (List.getElem?_eq_some_iff.1 hy).1
  have hy' : xs[i]? = some y := by
    rw [List.getElem?_take] at hy
    split at hy
    · exact hy
    · cases hy
  obtain ⟨q1, q2⟩ := h3 i y hy'
  refine ⟨q1, fun j c hc => ⟨(q2 j c hc).1, fun v hv => (q2 j c hc).2 v ?_⟩⟩
  rw [List.getElem?_take] at hv
  split at hv
  · exact hv
  · cases hv
theorem Els.mono {e : TypeId} {xs : List AV} {us : List Value} (h : Els P S e xs us) (hS : S.le S') : Els P S' e xs us :=
  ⟨h.1, h.2.1, fun i y hy => ⟨(h.2.2 i y hy).1, fun j c hc => ⟨((h.2.2 i y hy).2 j c hc).1, fun v hv => (((h.2.2 i y hy).2 j c hc).2 v hv).mono hS⟩⟩⟩
theorem row_els {B : Nat} {r : Nat} {e : TypeId} {xs : List AV} {fz : Bool} (h : ObR P B S gv ob w r (.row e xs fz)) : ∃ us, w.ownsRow B e (P.cellsOf e) (gv r) xs.length us ∧ 0 < P.cellsOf e ∧ Els P S e xs us ∧ (∀ g, hblk (gv r) = some g → ∀ x v, S x = some v → x.block = g → fz = true ∧ x.spot = none ∧ x.off < xs.length * P.cellsOf e) := by
  obtain ⟨us, h1, h2, h3, h4, h5⟩ := h
  exact ⟨us, h1, h2, ⟨h1.1, h3, h4⟩, h5⟩

theorem srcK_ok (h : Rel P S0 W S gv fr a w) {σ : Nat → Option Ob} (hσ : ∀ r o, σ r = some o → fr.obj r = some o) {e : TypeId} (hz : 0 < P.cellsOf e) {x : AV} {K : List AV → Option β} {r : β} (hk : srcK P σ e x K = some r) {xv : Value} (hx : SV P S gv fr.obj x xv) :
    ∃ ys news, K ys = some r ∧ Els P S e ys news ∧ ((xv = .slice none 0 0 ∧ ys.length = 0) ∨ ∃ a c, xv = .slice (some a) ys.length c ∧ ∀ j u, news[j]? = some u → w.cell? (a.add j) = some u) := by
  cases x <;> simp only [srcK] at hk <;> first | (cases hk; done) | skip
  case nils =>
    have hV : V S .nils xv := hx
    cases hV
    exact ⟨[], [], hk, ⟨by simp, by simp, by simp⟩, .inl ⟨rfl, rfl⟩⟩
  case list sz ys =>
    have he := beq_iff_eq.1 (some_of_bif hk).1
    replace hk := (some_of_bif hk).2
    subst he
    have hV : V S (.list (P.cellsOf e) ys) xv := hx
    cases hV with
    | list0 _ ad cap => exact ⟨[], [], hk, ⟨by simp, by simp, by simp⟩, .inr ⟨ad, cap, rfl, by simp⟩⟩
    | listn _ => exact ⟨[], [], hk, ⟨by simp, by simp, by simp⟩, .inl ⟨rfl, rfl⟩⟩
    | list _ _ ad cap f h0 h1 h2 h3 h4 =>
      have key : ∀ k, k < ys.length * P.cellsOf e → ∃ y c, ys[k / P.cellsOf e]? = some y ∧ y.cells[k % P.cellsOf e]? = some c ∧ k / P.cellsOf e * P.cellsOf e + k % P.cellsOf e = k := by
        intro k hk
        have hd : k / P.cellsOf e < ys.length := Nat.div_lt_of_lt_mul (by rw [Nat.mul_comm]; exact hk)
        have hm : k % P.cellsOf e < P.cellsOf e := Nat.mod_lt _ hz
        have hl := h1 _ _ (List.getElem?_eq_getElem hd)
        have hm' : k % P.cellsOf e < (ys[k / P.cellsOf e]).cells.length := by rw [hl]; exact hm
        exact ⟨_, _, List.getElem?_eq_getElem hd, List.getElem?_eq_getElem hm', by rw [Nat.mul_comm]; exact Nat.div_add_mod _ _⟩
      have hget : ∀ k u, ((List.range (ys.length * P.cellsOf e)).map fun k => f (k / P.cellsOf e) (k % P.cellsOf e))[k]? = some u → k < ys.length * P.cellsOf e ∧ u = f (k / P.cellsOf e) (k % P.cellsOf e) := by
        intro k u hu
        rw [List.getElem?_map] at hu
        obtain ⟨i, hi, rfl⟩ := Option.map_eq_some_iff.1 hu
        obtain ⟨hlt, rfl⟩ := List.getElem?_eq_some_iff.1 hi
        rw [List.length_range] at hlt
        rw [List.getElem_range]
        exact ⟨hlt, rfl⟩
      refine ⟨ys, (List.range (ys.length * P.cellsOf e)).map fun k => f (k / P.cellsOf e) (k % P.cellsOf e), hk, ⟨by simp, fun u hu => ?_, fun i y hy => ⟨h1 i y hy, fun j c hc => ⟨h2 i y j c hy hc, fun v hv => ?_⟩⟩⟩, .inr ⟨ad, cap, rfl, fun k u hu => ?_⟩⟩
      · obtain ⟨k, hk⟩ := List.getElem?_of_mem hu
        obtain ⟨hlt, rfl⟩ := hget k u hk
        obtain ⟨y, c, hy, hc, _⟩ := key k hlt
        exact (h4 _ y _ c hy hc).one (h2 _ y _ c hy hc)
      · obtain ⟨_, rfl⟩ := hget _ v hv
        have hj : j < P.cellsOf e := by rw [← h1 i y hy]; exact (List.getElem?_eq_some_iff.1 hc).1
        rw [show (i * P.cellsOf e + j) / P.cellsOf e = i from by rw [Nat.mul_comm, Nat.mul_add_div hz, Nat.div_eq_of_lt hj]; omega, show (i * P.cellsOf e + j) % P.cellsOf e = j from by rw [Nat.mul_comm, Nat.mul_add_mod, Nat.mod_eq_of_lt hj]]
        exact h4 i y j c hy hc
      · obtain ⟨hlt, rfl⟩ := hget k u hu
        obtain ⟨y, c, hy, hc, hkk⟩ := key k hlt
        have := h3 _ y _ c hy hc
        rw [hkk] at this
        exact h.agree _ _ this
  case own q =>
    split at hk
    · rename_i e' ys fz hq
      have he := beq_iff_eq.1 (some_of_bif hk).1
      replace hk := (some_of_bif hk).2
      subst he
      have hq' := hσ _ _ hq
      obtain ⟨us, hown, hsz, hE, _⟩ := row_els (h.objs q _ hq')
      obtain ⟨_, hxv⟩ := hx
      have hxv := hxv _ _ _ hq'
      refine ⟨ys, us, hk, hE, ?_⟩
      rcases ownsRow_form hown with ⟨hv, hn⟩ | ⟨g, cap, hv, hb⟩
      · exact .inl ⟨by rw [hxv, hv], hn⟩
      · exact .inr ⟨_, cap, by rw [hxv, hv], fun j u hu => by rw [add_lit', Nat.zero_add]; exact cell_of_us hown hv hu⟩
    · cases hk
  case ownp q n =>
    split at hk
    · rename_i e' ys fz hq
      have he := beq_iff_eq.1 (some_of_bif hk).1
      replace hk := (some_of_bif hk).2
      subst he
      have hq' := hσ _ _ hq
      obtain ⟨us, hown, hsz, hE, _⟩ := row_els (h.objs q _ hq')
      obtain ⟨_, hxv⟩ := hx
      obtain ⟨hn', hxv⟩ := hxv _ _ _ hq'
      refine ⟨ys.take n, _, hk, hE.take n, ?_⟩
      rcases ownsRow_form hown with ⟨hv, hn⟩ | ⟨g, cap, hv, hb⟩
      · have : n = 0 := by omega
        subst this
        exact .inl ⟨by rw [hxv, hv]; rfl, by simp⟩
      · refine .inr ⟨_, cap, by rw [hxv, hv]; simp [cutV, Nat.min_eq_left hn']; rfl, fun j u hu => ?_⟩
        rw [add_lit', Nat.zero_add]
        rw [List.getElem?_take] at hu
        split at hu
        · exact cell_of_us hown hv hu
        · cases hu
    · cases hk

section ops
variable {C : Cfg} {o : Oper} {K : AV → Upd → New → Option β} {r : β} {next : Act → World → Prop} {Q : Exit → Act → World → Prop}

/-- A new row, under its name: laid, or grown out of one that is let go. -/
theorem Rel.newRow (h : Rel P S0 W S gv fr a w) {t : Nat} {e : TypeId} {xs : List AV} {fz : Bool} {us : List Value} {hv : Value} {dst : Option Tmp} (ht : t < fr.ob.length) (hw : Below W.heap.size W w') (hag : Agree S w')
    (hoth : ∀ r o' g, fr.obj r = some o' → r ≠ t → hblk (gv r) = some g → w'.heap[g]? = w.heap[g]? ∧ hblk hv ≠ some g)
    (hown : w'.ownsRow W.heap.size e (P.cellsOf e) hv xs.length us) (hsz : 0 < P.cellsOf e) (hE : Els P S e xs us)
    (hS : ∀ g, hblk hv = some g → ∀ x v, S x = some v → x.block = g → fz = true ∧ x.spot = none ∧ x.off < xs.length * P.cellsOf e) (hone : hv.oneCell' = true) :
    Rel P S0 W S (upd gv t hv) (fr.put dst (.own t) [] [(t, .row e xs fz)]) (a.put dst hv) w' := by
  have hu : upd gv t hv t = hv := by simp [upd]
  refine h.new hw hag ht (fun r o' g hr hrt hg => (hoth r o' g hr hrt hg).1) (fun r o' g hr hrt hg hg' => (hoth r o' g hr hrt hg').2 hg) (fun ob' => ⟨us, by rw [hu]; exact hown, hsz, hE.2.1, hE.2.2, by rw [hu]; exact hS⟩) (fun ob' ho => ⟨hone, fun e' xs' fz' h' => ?_⟩)
  rw [hu]

theorem append_ok (h : Rel C.P S0 W S gv fr a w) {σ : Nat → Option Ob} (hσ : ∀ r o, σ r = some o → fr.obj r = some o) {T : TypeId} {so xo : Operand} {s x : AV} {t : Nat} (ho : o.op = .call { callee := .builtin .append, args := #[so, xo], argTypes := #[T, T] })
    (ht : ∀ v u n, K v u n = some r → ∀ y ∈ n, y.1 < fr.ob.length) (hs : SV C.P S gv fr.obj s (a.eval so)) (hx : SV C.P S gv fr.obj x (a.eval xo)) (hk : appendK C.P σ t T s x K = some r) (hn : Fin C.P S0 W fr o K r next) : o.wp C.P a w next Q := by
  unfold appendK at hk
  split at hk
  · rename_i e hu
    have hz := (some_of_bif hk).1
    replace hk := (some_of_bif hk).2
    simp only [Bool.and_eq_true, Bool.not_eq_true', beq_eq_false_iff_ne] at hz
    obtain ⟨hzo, hz0⟩ := hz
    have hsz : 0 < C.P.cellsOf e := by omega
    obtain ⟨i, z, hi, hiz, his, _, hzs, _⟩ := zero_ok hzo
    obtain ⟨ys, news, hk, hE, hxv⟩ := srcK_ok h hσ hsz hk hx
    have hby : C.P.bytesOf e = i.bytes := by simp [Program.bytesOf, hi]
    have go : ∀ {u : Upd} {xs : List AV} {fz : Bool} {us : List Value}, w.ownsRow W.heap.size e (C.P.cellsOf e) (a.eval so) xs.length us → Els C.P S e xs us → Rel C.P S0 W S gv { fr with ob := applyU fr.ob u } a w →
        (∀ g, hblk (a.eval so) = some g → (∀ q o' , ({ fr with ob := applyU fr.ob u } : Fr).obj q = some o' → hblk (gv q) ≠ some g) ∧ ∀ x v, S x = some v → x.block = g → fz = true ∧ x.spot = none ∧ x.off < xs.length * C.P.cellsOf e) →
        growK C.P t e u xs fz ys K = some r → o.wp C.P a w next Q := by
      intro u xs fz us hown hEx hR hfree hk
      unfold growK at hk
      have hc := (some_of_bif hk).1
      replace hk := (some_of_bif hk).2
      simp only [Bool.and_eq_true, decide_eq_true_eq] at hc
      obtain ⟨v', w', hrun, hown', hgr, hblk', hkeep⟩ := run_append_mine (P := C.P) W.heap.size T o.type e i z hu hi hiz (by rw [hzs, his]) (by rw [his]; exact hsz) (a.eval so) xs.length us (by rw [his]; exact hown) (a.eval xo) ys.length news
        (hxv.imp (fun q => ⟨q.1, by rw [q.2]⟩) (fun q => q)) (by rw [his]; exact hE.1) hE.2.1 (by simp [maxLen]; omega) (by rw [← hby]; exact hc.1) h.below.size
      rw [his] at hown'
      have hsome : ∀ g, hblk (a.eval so) = some g → W.heap.size ≤ g := by
        intro g hg
        rcases ownsRow_form hown with ⟨hv, _⟩ | ⟨g', cap, hv, hb⟩
        · rw [hv] at hg; cases hg
        · rw [hv] at hg; cases hg; exact hb
      have hobk : (a.eval so).ownBlock = hblk (a.eval so) := by
        rcases ownsRow_form hown with ⟨hv, _⟩ | ⟨g', cap, hv, hb⟩ <;> rw [hv] <;> rfl
      rw [hobk] at hgr
      have hbel : Below W.heap.size W w' := h.below.grown hgr h.below.size hsome
      have hag : Agree S w' := by
        intro y v hy
        have hc := h.agree y v hy
        by_cases hyb : hblk (a.eval so) = some y.block
        · obtain ⟨_, hsp, hoff⟩ := (hfree _ hyb).2 y v hy rfl
          have hyy : y = ⟨y.block, y.off, none⟩ := by cases y; simp at hsp; subst hsp; rfl
          have hlt : y.off < us.length := by rw [hown.1]; exact hoff
          have hcell : w.cell? ⟨y.block, y.off, none⟩ = some us[y.off] := by
            rcases ownsRow_form hown with ⟨hv, _⟩ | ⟨g', cap, hv, hb⟩
            · rw [hv] at hyb; cases hyb
            · rw [hv] at hyb; cases hyb
              exact cell_of_us hown hv (List.getElem?_eq_getElem hlt)
          rw [hyy] at hc ⊢
          rw [hcell] at hc
          cases hc
          exact hkeep y.block y.off _ hyb (List.getElem?_eq_getElem hlt)
        · exact (World.cell?_of_block (hgr.block y.block (World.block_lt_of_cell? w y hc) (fun e => hyb e.symm))).trans hc
      have htl : t < (applyU fr.ob u).length := by
        have := ht _ _ _ hk (t, .row e (xs ++ ys) fz) (by simp)
        have hl : ∀ (u : Upd) (l : List (Option Ob)), (applyU l u).length = l.length := by
          intro u
          induction u with
          | nil => intro l; rfl
          | cons x u ih => intro l; rw [show applyU l (x :: u) = applyU (l.set x.1 x.2) u from rfl, ih]; simp
        rw [hl]; exact this
      refine wp_value (w' := w') (val := v') ?_ (hn (.own t) u [(t, .row e (xs ++ ys) fz)] S (upd gv t v') _ _ hk (by
        rw [put_split]
        refine hR.newRow htl hbel hag (fun q o' g hq hqt hg => ?_) (by rw [List.length_append]; exact hown') hsz (hEx.append hE) (fun g hg y v hy hyb => ?_) ?_
        · have hlt := hblk_lt hR hq hg
          have hne : hblk (a.eval so) ≠ some g := fun e => (hfree g e).1 q o' hq hg
          refine ⟨hgr.block g hlt (fun e => hne e.symm), fun e => ?_⟩
          rcases hblk' g e with e' | e'
          · exact hne e'.symm
          · omega
        · have hlt := agree_lt h.agree hy
          rcases hblk' g hg with e' | e'
          · obtain ⟨q1, q2, q3⟩ := (hfree g e'.symm).2 y v hy hyb
            refine ⟨q1, q2, ?_⟩
            rw [List.length_append, Nat.add_mul]; omega
          · omega
        · rcases ownsRow_form hown' with ⟨hv, _⟩ | ⟨g', cap, hv, hb⟩ <;> rw [hv] <;> rfl))
      unfold execOp
      simp only [ho, resolve, invoke, builtin, Sem.run_bind, Sem.run_pure, Result.andThen_ok, List.map_toArray, List.map_cons, List.map_nil, hrun]
    cases s with
    | nils =>
      simp only at hk
      have hV : V S .nils (a.eval so) := hs
      have hv : a.eval so = .slice none 0 0 := by generalize a.eval so = v at hV; cases hV; rfl
      refine go (u := []) (xs := []) (us := []) (by rw [hv]; exact World.ownsRow_nil w _ e _) ⟨by simp, by simp, by simp⟩ h (fun g hg => by rw [hv] at hg; cases hg) hk
    | own q =>
      simp only at hk
      split at hk
      · rename_i e' xs fz hq
        have he := beq_iff_eq.1 (some_of_bif hk).1
        replace hk := (some_of_bif hk).2
        subst he
        have hq' := hσ _ _ hq
        obtain ⟨us, hown, hsz, hEx, hSb⟩ := row_els (h.objs q _ hq')
        obtain ⟨_, hxv'⟩ := hs
        have hv := hxv' _ _ _ hq'
        rw [← hv] at hown hSb
        refine go (u := [(q, none)]) hown hEx (h.kill q) (fun g hg => ⟨fun q' o' hq2 hg2 => ?_, hSb g hg⟩) hk
        have hq3 : (fr.ob.set q none).getD q' none = some o' := hq2
        rw [getD_set] at hq3
        split at hq3
        · cases hq3
        · rename_i hne
          have hqq : q = q' := h.dis q q' _ o' g hq' hq3 (by rw [← hv]; exact hg) hg2
          exact hne ⟨hqq, obj_lt hq3⟩
      · cases hk
    | ownp q n =>
      simp only at hk
      split at hk
      · rename_i e' xs hq
        have he := beq_iff_eq.1 (some_of_bif hk).1
        replace hk := (some_of_bif hk).2
        subst he
        have hq' := hσ _ _ hq
        obtain ⟨us, hown, hsz, hEx, hSb⟩ := row_els (h.objs q _ hq')
        obtain ⟨_, hxv'⟩ := hs
        obtain ⟨hnx, hv⟩ := hxv' _ _ _ hq'
        have hlen : (xs.take n).length = n := by simp [Nat.min_eq_left hnx]
        have hown2 : w.ownsRow W.heap.size e' (C.P.cellsOf e') (a.eval so) (xs.take n).length (us.take ((xs.take n).length * C.P.cellsOf e')) := by
          refine ⟨(hEx.take n).1, ?_⟩
          rw [hv, hlen]
          rcases hown.2 with ⟨hv', hn0⟩ | ⟨g, cap, cur, hv', hb, hh, hnc, hcm, hcs, htk⟩
          · rw [hv']
            have : n = 0 := by omega
            subst this
            exact .inl ⟨rfl, rfl⟩
          · rw [hv']
            refine .inr ⟨g, cap, cur, rfl, hb, hh, by omega, hcm, hcs, ?_⟩
            rw [← htk, List.take_take, Nat.min_eq_left (Nat.mul_le_mul_right _ hnx)]
        have hbb : hblk (a.eval so) = hblk (gv q) := by
          rw [hv]
          rcases ownsRow_form hown with ⟨hv', _⟩ | ⟨g', cap, hv', hb⟩ <;> rw [hv'] <;> rfl
        refine go (u := [(q, none)]) hown2 (hEx.take n) (h.kill q) (fun g hg => ⟨fun q' o' hq2 hg2 => ?_, fun y v hy hyb => ?_⟩) hk
        · have hq3 : (fr.ob.set q none).getD q' none = some o' := hq2
          rw [getD_set] at hq3
          split at hq3
          · cases hq3
          · rename_i hne
            have hqq : q = q' := h.dis q q' _ o' g hq' hq3 (by rw [← hbb]; exact hg) hg2
            exact hne ⟨hqq, obj_lt hq3⟩
        · have := (hSb g (by rw [← hbb]; exact hg) y v hy hyb).1
          cases this
      · cases hk
    | _ => cases hk
  · cases hk
end ops
end Go.Proofs.YtilbahgfjfcikaaDoor.Eng
