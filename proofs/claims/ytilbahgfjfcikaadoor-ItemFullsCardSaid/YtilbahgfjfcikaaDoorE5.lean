/- The engine, part 5: what goes out of the call's own hands. -/
import Derived.Test.YtilbahgfjfcikaaDoorE4
set_option linter.unusedVariables false
set_option linter.unusedSimpArgs false
namespace Go.Proofs.YtilbahgfjfcikaaDoor.Eng
open Go Go.RowKit
variable {P : Program} {S0 S S' : Stab} {W w w' : World} {gv gv' : Nat → Value} {fr : Fr} {a : Act} {ob ob' : Nat → Option Ob} {β : Type}

/-- What is looked at is there: rows may have been frozen since. -/
def Sim (σ ob : Nat → Option Ob) : Prop := ∀ r e xs fz, σ r = some (.row e xs fz) → ∃ fz', ob r = some (.row e xs fz')
theorem Sim.of (h : ∀ r o, ob r = some o → ob' r = some o) : Sim ob ob' := fun r e xs fz hr => ⟨fz, h r _ hr⟩
theorem Stab.le_refl (S : Stab) : S.le S := fun _ _ h => h
theorem Stab.le_trans {A B C : Stab} (h : A.le B) (k : B.le C) : A.le C := fun x v hx => k x v (h x v hx)
theorem Kin.refl (o : Option Ob) : Kin o o := by
  cases o with
  | none => trivial
  | some x => cases x <;> simp [Kin]
theorem Kin.trans {x y z : Option Ob} (h : Kin x y) (k : Kin y z) : Kin x z := by
  cases z with
  | none => cases x with
    | none => trivial
    | some x => cases x <;> trivial
  | some z =>
    cases y with
    | none => cases z <;> exact k.elim
    | some y =>
      cases x with
      | none => cases y <;> exact h.elim
      | some x => cases x <;> cases y <;> cases z <;> simp_all [Kin]

/-- A frame behind freezing. -/
structure Frz (P : Program) (S0 : Stab) (W : World) (S : Stab) (gv : Nat → Value) (fr : Fr) (a : Act) (w : World) (σ : Nat → Option Ob) (S' : Stab) (u : Upd) : Prop where
  le : S.le S'
  rel : Rel P S0 W S' gv { fr with ob := applyU fr.ob u } a w
  sim : Sim σ ({ fr with ob := applyU fr.ob u } : Fr).obj
  kin : ∀ s, Kin (fr.obj s) (({ fr with ob := applyU fr.ob u } : Fr).obj s)
  add : ∀ x v, S' x = some v → S x = some v ∨ ∃ q o, fr.obj q = some o ∧ hblk (gv q) = some x.block
theorem Frz.nil (h : Rel P S0 W S gv fr a w) {σ : Nat → Option Ob} (hs : Sim σ fr.obj) : Frz P S0 W S gv fr a w σ S [] := ⟨Stab.le_refl S, h, hs, fun s => Kin.refl _, fun _ _ hx => .inl hx⟩
theorem applyU_append (l : List (Option Ob)) : ∀ (u v : Upd), applyU l (u ++ v) = applyU (applyU l u) v
  | [], v => rfl
  | (r, x) :: u, v => by
    simp only [List.cons_append, applyU]
    exact applyU_append _ u v
theorem Frz.trans {S'' : Stab} {σ : Nat → Option Ob} {u v : Upd} (h : Frz P S0 W S gv fr a w σ S' u) (k : Frz P S0 W S' gv { fr with ob := applyU fr.ob u } a w σ S'' v) : Frz P S0 W S gv fr a w σ S'' (u ++ v) := by
  have e : ({ fr with ob := applyU fr.ob (u ++ v) } : Fr) = { ({ fr with ob := applyU fr.ob u } : Fr) with ob := applyU (applyU fr.ob u) v } := by rw [applyU_append]
  refine ⟨Stab.le_trans h.le k.le, by rw [e]; exact k.rel, by rw [e]; exact k.sim, fun s => by rw [e]; exact (h.kin s).trans (k.kin s), fun x v hx => ?_⟩
  rcases k.add x v hx with hx | ⟨q, o, hq, hb⟩
  · exact h.add x v hx
  · have := h.kin q
    rw [hq] at this
    cases hq0 : fr.obj q with
    | none => rw [hq0] at this; cases o <;> exact this.elim
    | some o0 => exact .inr ⟨q, o0, hq0, hb⟩
theorem Frz.sv1 {σ : Nat → Option Ob} {u : Upd} (h : Frz P S0 W S gv fr a w σ S' u) {x : AV} {v : Value} (hx : SV1 P S gv fr.obj x v) : SV1 P S' gv ({ fr with ob := applyU fr.ob u } : Fr).obj x v :=
  hx.mono h.le fun r _ => ⟨h.kin r, fun _ => rfl⟩
theorem Frz.sv {σ : Nat → Option Ob} {u : Upd} (h : Frz P S0 W S gv fr a w σ S' u) {x : AV} {v : Value} (hx : SV P S gv fr.obj x v) : SV P S' gv ({ fr with ob := applyU fr.ob u } : Fr).obj x v :=
  hx.mono h.le fun r _ => ⟨h.kin r, fun _ => rfl⟩

theorem frz_row (h : Rel P S0 W S gv fr a w) {σ : Nat → Option Ob} (hs : Sim σ fr.obj) {r : Nat} {e : TypeId} {xs : List AV} {fz : Bool} (hr : σ r = some (.row e xs fz)) :
    ∃ S', Frz P S0 W S gv fr a w σ S' [(r, some (.row e xs true))] ∧ (∀ n, n ≤ xs.length → V S' (.list (P.cellsOf e) (xs.take n)) (cutV n (gv r))) ∧ (∃ fz', fr.obj r = some (.row e xs fz')) ∧ cutV xs.length (gv r) = gv r := by
  obtain ⟨fz', hr'⟩ := hs r e xs fz hr
  obtain ⟨S', hle, hrel, hadd, hV⟩ := h.freeze hr'
  have hrl := obj_lt hr'
  have ho : ∀ s, ({ fr with ob := fr.ob.set r (some (.row e xs true)) } : Fr).obj s = if r = s then some (.row e xs true) else fr.obj s := by
    intro s
    show (fr.ob.set r _).getD s none = _
    rw [getD_set]
    by_cases hs : r = s
    · subst hs; simp [hrl]
    · simp [hs, Fr.obj]
  refine ⟨S', ⟨hle, hrel, fun s e' xs' fz'' hs' => ?_, fun s => ?_, fun x v hx => (hadd x v hx).imp (fun q => q) fun q => ⟨r, _, hr', q⟩⟩, hV, ⟨fz', hr'⟩, ?_⟩
  · show ∃ _, ({ fr with ob := fr.ob.set r (some (.row e xs true)) } : Fr).obj s = _
    rw [ho s]
    by_cases hsr : r = s
    · subst hsr
      rw [hr] at hs'
      cases hs'
      exact ⟨true, by rw [if_pos rfl]⟩
    · rw [if_neg hsr]; exact hs s e' xs' fz'' hs'
  · show Kin _ (({ fr with ob := fr.ob.set r (some (.row e xs true)) } : Fr).obj s)
    rw [ho s]
    by_cases hsr : r = s
    · subst hsr; rw [if_pos rfl, hr']; simp [Kin]
    · rw [if_neg hsr]; exact Kin.refl _
  · obtain ⟨us, hown, _⟩ := h.objs r _ hr'
    rcases ownsRow_form hown with ⟨hv, hn⟩ | ⟨g, cap, hv, _⟩
    · rw [hv, hn]; rfl
    · rw [hv]; rfl

theorem frz1_ok (h : Rel P S0 W S gv fr a w) {σ : Nat → Option Ob} (hs : Sim σ fr.obj) {T : TypeId} {v : AV} {K : AV → Upd → Option β} {r : β} (hk : frz1 P σ T v K = some r) {val : Value} (hv : SV1 P S gv fr.obj v val) :
    ∃ v' u S', K v' u = some r ∧ Frz P S0 W S gv fr a w σ S' u ∧ V S' v' val ∧ v'.leaf = true := by
  cases v <;> simp only [frz1] at hk <;> first | (cases hk; done) | skip
  case own q =>
    split at hk
    · rename_i e xs fz hq
      obtain ⟨S', hF, hV, ⟨fz', ho⟩, hcut⟩ := frz_row h hs hq
      have := hV xs.length (Nat.le_refl _)
      rw [List.take_length, hcut] at this
      obtain ⟨_, hv⟩ := hv
      rw [hv e xs fz' ho]
      exact ⟨_, _, S', hk, hF, this, rfl⟩
    · cases hk
  case ownp q n =>
    split at hk
    · rename_i e xs fz hq
      obtain ⟨S', hF, hV, ⟨fz', ho⟩, hcut⟩ := frz_row h hs hq
      obtain ⟨_, hv⟩ := hv
      obtain ⟨hn, rfl⟩ := hv e xs fz' ho
      exact ⟨_, _, S', hk, hF, hV n hn, rfl⟩
    · cases hk
  case nils =>
    split at hk
    · cases (show V S _ _ from hv)
      exact ⟨_, _, S, hk, Frz.nil h hs, .listn _, rfl⟩
    · cases hk
  all_goals exact ⟨_, _, S, hk, Frz.nil h hs, hv, rfl⟩

theorem frzCs_ok : ∀ {ts : List TypeId} {cs : List AV} {K : List AV → Upd → Option β} {r : β} {S : Stab} {fr : Fr}, Rel P S0 W S gv fr a w → ∀ {σ : Nat → Option Ob}, Sim σ fr.obj → frzCs P σ ts cs K = some r → ∀ {us : List Value}, cs.length = us.length →
    (∀ (j : Nat) (c : AV) (u : Value), cs[j]? = some c → us[j]? = some u → SV1 P S gv fr.obj c u) →
    ∃ l u S', K l u = some r ∧ Frz P S0 W S gv fr a w σ S' u ∧ l.length = us.length ∧ (∀ (j : Nat) (c : AV), l[j]? = some c → c.leaf = true) ∧ (∀ (j : Nat) (c : AV) (x : Value), l[j]? = some c → us[j]? = some x → V S' c x)
  | [], [], K, r, S, fr, h, σ, hs, hk, us, hl, hm => ⟨[], [], S, hk, Frz.nil h hs, hl, by simp, by simp⟩
  | [], _ :: _, K, r, S, fr, h, σ, hs, hk, us, hl, hm => by cases hk
  | t :: ts, [], K, r, S, fr, h, σ, hs, hk, us, hl, hm => by cases hk
  | t :: ts, c :: cs, K, r, S, fr, h, σ, hs, hk, [], hl, hm => by cases hl
  | t :: ts, c :: cs, K, r, S, fr, h, σ, hs, hk, x :: us, hl, hm => by
    simp only [frzCs] at hk
    obtain ⟨c', u, S1, hk, hF, hV, hlf⟩ := frz1_ok h hs hk (hm 0 c x rfl rfl)
    obtain ⟨l, u', S2, hk, hF', hl', hlfs, hVs⟩ := frzCs_ok hF.rel hF.sim hk (us := us) (by simpa using hl) (fun j c u hc hu => hF.sv1 (hm (j + 1) c u (by simpa using hc) (by simpa using hu)))
    refine ⟨c' :: l, u ++ u', S2, hk, hF.trans hF', by simp [hl'], fun j d hd => ?_, fun j d y hd hy => ?_⟩
    · cases j with
      | zero => simp only [List.getElem?_cons_zero, Option.some.injEq] at hd; subst hd; exact hlf
      | succ j => exact hlfs j d (by simpa using hd)
    · cases j with
      | zero =>
        simp only [List.getElem?_cons_zero, Option.some.injEq] at hd hy
        subst hd; subst hy
        exact hV.mono hF'.le
      | succ j => exact hVs j d y (by simpa using hd) (by simpa using hy)

theorem frz_ok (h : Rel P S0 W S gv fr a w) {σ : Nat → Option Ob} (hs : Sim σ fr.obj) {T : TypeId} {v : AV} {K : AV → Upd → Option β} {r : β} (hk : frz P σ T v K = some r) {val : Value} (hv : SV P S gv fr.obj v val) :
    ∃ v' u S', K v' u = some r ∧ Frz P S0 W S gv fr a w σ S' u ∧ V S' v' val := by
  unfold frz at hk
  cases ha : isAggT P T with
  | true =>
    rw [ha] at hk
    simp only [cond_true] at hk
    split at hk
    · obtain ⟨us, rfl, hl, h1, hm⟩ := hv
      obtain ⟨l, u, S', hk, hF, hl', hlf, hVs⟩ := frzCs_ok h hs hk hl hm
      exact ⟨_, u, S', hk, hF, .agg l us hl' hlf hVs⟩
    · cases hk
  | false =>
    rw [ha] at hk
    simp only [cond_false] at hk
    by_cases hc : v.isC = true
    · cases v <;> first | (simp [AV.isC] at hc; done) | (simp [frz1] at hk)
    · have hc : v.isC = false := by simpa using hc
      rw [SV_eq hc] at hv
      obtain ⟨v', u, S', hk, hF, hV, _⟩ := frz1_ok h hs hk hv
      exact ⟨v', u, S', hk, hF, hV⟩

/-- Values in a row, each pure. -/
def VL (S : Stab) (l : List AV) (us : List Value) : Prop := l.length = us.length ∧ ∀ (j : Nat) (c : AV) (x : Value), l[j]? = some c → us[j]? = some x → V S c x
theorem VL.mono {l : List AV} {us : List Value} (h : VL S l us) (hS : S.le S') : VL S' l us := ⟨h.1, fun j c x hc hx => (h.2 j c x hc hx).mono hS⟩
theorem VL.cons {c : AV} {x : Value} {l : List AV} {us : List Value} (h : V S c x) (hl : VL S l us) : VL S (c :: l) (x :: us) := by
  refine ⟨by simp [hl.1], fun j d y hd hy => ?_⟩
  cases j with
  | zero => simp only [List.getElem?_cons_zero, Option.some.injEq] at hd hy; subst hd; subst hy; exact h
  | succ j => exact hl.2 j d y (by simpa using hd) (by simpa using hy)
theorem frzL_ok : ∀ {ts : List TypeId} {cs : List AV} {K : List AV → Upd → Option β} {r : β} {S : Stab} {fr : Fr}, Rel P S0 W S gv fr a w → ∀ {σ : Nat → Option Ob}, Sim σ fr.obj → frzL P σ ts cs K = some r → ∀ {us : List Value}, cs.length = us.length →
    (∀ (j : Nat) (c : AV) (u : Value), cs[j]? = some c → us[j]? = some u → SV P S gv fr.obj c u) →
    ∃ l u S', K l u = some r ∧ Frz P S0 W S gv fr a w σ S' u ∧ VL S' l us
  | [], [], K, r, S, fr, h, σ, hs, hk, us, hl, hm => ⟨[], [], S, hk, Frz.nil h hs, hl, by simp⟩
  | [], _ :: _, K, r, S, fr, h, σ, hs, hk, us, hl, hm => by cases hk
  | t :: ts, [], K, r, S, fr, h, σ, hs, hk, us, hl, hm => by cases hk
  | t :: ts, c :: cs, K, r, S, fr, h, σ, hs, hk, [], hl, hm => by cases hl
  | t :: ts, c :: cs, K, r, S, fr, h, σ, hs, hk, x :: us, hl, hm => by
    simp only [frzL] at hk
    obtain ⟨c', u, S1, hk, hF, hV⟩ := frz_ok h hs hk (hm 0 c x rfl rfl)
    obtain ⟨l, u', S2, hk, hF', hVs⟩ := frzL_ok hF.rel hF.sim hk (us := us) (by simpa using hl) (fun j c u hc hu => hF.sv (hm (j + 1) c u (by simpa using hc) (by simpa using hu)))
    exact ⟨c' :: l, u ++ u', S2, hk, hF.trans hF', VL.cons (hV.mono hF'.le) hVs⟩
end Go.Proofs.YtilbahgfjfcikaaDoor.Eng
