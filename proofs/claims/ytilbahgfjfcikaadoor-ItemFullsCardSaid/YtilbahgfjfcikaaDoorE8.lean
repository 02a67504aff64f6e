/- The engine, part 8: slices, places, rows that grow. -/
import Derived.Test.YtilbahgfjfcikaaDoorE7
set_option linter.unusedVariables false
set_option linter.unusedSimpArgs false
namespace Go.Proofs.YtilbahgfjfcikaaDoor.Eng
open Go Go.RowKit
variable {P : Program} {S0 S S' : Stab} {W w w' : World} {gv gv' : Nat → Value} {fr : Fr} {a : Act} {ob ob' : Nat → Option Ob} {β : Type}

theorem bound1_ok {x : Option AV} {d y : Nat} {K : Nat → Option β} {r : β} (h : bound1 x d y K = some r) {xv : Option Value} (hx : ∀ v, x = some v → ∃ u, xv = some u ∧ SV P S gv ob v u) (hn : x = none → xv = none) :
    ∃ n, K n = some r ∧ ((xv = none ∧ n = d) ∨ ∃ (k : IntKind) (z : Int), xv = some (.int k z) ∧ 0 ≤ z ∧ z ≤ y ∧ n = z.toNat) := by
  unfold bound1 at h
  split at h
  · exact ⟨d, h, .inl ⟨hn rfl, rfl⟩⟩
  · rename_i k i
    obtain ⟨hc, h⟩ := some_of_bif h
    simp only [Bool.and_eq_true, decide_eq_true_eq] at hc
    obtain ⟨u, hu, sv⟩ := hx _ rfl
    rw [sv.int] at hu
    exact ⟨_, h, .inr ⟨_, _, hu, hc.1, hc.2, rfl⟩⟩
  · cases h
/-- The bounds of a cut, run. -/
theorem run_bounds (isSlice : Bool) (len cap h l : Nat) {lo hi : Option Value} (hh : (hi = none ∧ h = len) ∨ ∃ (k : IntKind) (z : Int), hi = some (.int k z) ∧ 0 ≤ z ∧ z ≤ len ∧ h = z.toNat)
    (hl : (lo = none ∧ l = 0) ∨ ∃ (k : IntKind) (z : Int), lo = some (.int k z) ∧ 0 ≤ z ∧ z ≤ h ∧ l = z.toNat) (hc : len ≤ cap) :
    (Instr.sliceBounds isSlice len cap lo hi none).run P w = .ok (l, h, cap) w := by
  rcases hh with ⟨rfl, rfl⟩ | ⟨k, z, rfl, z0, z1, rfl⟩
  · rcases hl with ⟨rfl, rfl⟩ | ⟨k', y, rfl, y0, y1, rfl⟩
    · simp [Instr.sliceBounds]
    · simp [Instr.sliceBounds, run_sliceBound w k' y _ _ y0 y1]
  · have hz : (z.toNat : Int) = z := Int.toNat_of_nonneg z0
    rcases hl with ⟨rfl, rfl⟩ | ⟨k', y, rfl, y0, y1, rfl⟩
    · simp [Instr.sliceBounds, run_sliceBound w k z cap _ z0 (by omega)]
    · simp [Instr.sliceBounds, run_sliceBound w k z cap _ z0 (by omega), run_sliceBound w k' y z.toNat _ y0 y1]
theorem elem_of {T e : TypeId} (h : P.underlying T = some (.slice e)) : P.elem T = e := by simp [Program.elem, h]
theorem run_sliceAt_gen {T e : TypeId} (hu : P.underlying T = some (.slice e)) (hz : (P.cellsOf e == 0) = false) {a : Option Addr} {len cap h l : Nat} {lo hi : Option Value} (hh : (hi = none ∧ h = len) ∨ ∃ (k : IntKind) (z : Int), hi = some (.int k z) ∧ 0 ≤ z ∧ z ≤ len ∧ h = z.toNat)
    (hl : (lo = none ∧ l = 0) ∨ ∃ (k : IntKind) (z : Int), lo = some (.int k z) ∧ 0 ≤ z ∧ z ≤ h ∧ l = z.toNat) (hc : len ≤ cap) :
    (Instr.sliceAt T (.slice a len cap) lo hi none).run P w = .ok (.slice (if cap = l then a else a.map (·.add (l * P.cellsOf e))) (h - l) (cap - l)) w := by
  obtain ⟨i, hi'⟩ := info_of_cells hz
  rw [run_sliceAt_slice w T _ lo hi none (by rw [elem_of hu]; exact hu), run_slice_any w T a len cap (by rw [elem_of hu]; exact hu) lo hi none, run_bounds true len cap h l hh hl hc]
  simp [sizeOf, typeInfo, elem_of hu, hi', sliced, Program.cellsOf]
theorem le_of_bound {h len : Nat} {hi : Option Value} (hh : (hi = none ∧ h = len) ∨ ∃ (k : IntKind) (z : Int), hi = some (.int k z) ∧ 0 ≤ z ∧ z ≤ (len : Int) ∧ h = z.toNat) : h ≤ len := by
  rcases hh with ⟨_, rfl⟩ | ⟨k, z, _, z0, z1, rfl⟩ <;> omega
theorem le_of_bound0 {l h : Nat} {lo : Option Value} (hl : (lo = none ∧ l = 0) ∨ ∃ (k : IntKind) (z : Int), lo = some (.int k z) ∧ 0 ≤ z ∧ z ≤ (h : Int) ∧ l = z.toNat) : l ≤ h := by
  rcases hl with ⟨_, rfl⟩ | ⟨k, z, _, z0, z1, rfl⟩ <;> omega
/-- A part of a list that stays. -/
theorem V.cut {sz : Nat} {xs : List AV} {v : Value} (h : V S (.list sz xs) v) {l hh : Nat} (hl : l ≤ hh) (hx : hh ≤ xs.length) :
    ∃ a cap, v = .slice a xs.length cap ∧ xs.length ≤ cap ∧ V S (.list sz ((xs.take hh).drop l)) (.slice (if cap = l then a else a.map (·.add (l * sz))) (hh - l) (cap - l)) := by
  cases h with
  | list0 _ a cap =>
    refine ⟨some a, cap, rfl, Nat.zero_le _, ?_⟩
    obtain rfl : hh = 0 := by simpa using hx
    obtain rfl : l = 0 := by omega
    simp only [List.take_nil, List.drop_nil, Nat.sub_self, Nat.zero_mul]
    split <;> exact .list0 _ _ _
  | listn _ =>
    refine ⟨none, 0, rfl, Nat.zero_le _, ?_⟩
    obtain rfl : hh = 0 := by simpa using hx
    obtain rfl : l = 0 := by omega
    simp only [List.take_nil, List.drop_nil, Nat.sub_self, if_true]
    exact .listn _
  | list _ _ a cap f h0 h1 h2 h3 h4 =>
    refine ⟨some a, cap, rfl, h0, ?_⟩
    by_cases he : hh = l
    · subst he
      have : (xs.take hh).drop hh = [] := by simp
      rw [this, Nat.sub_self]
      split <;> exact .list0 _ _ _
    · have hcl : cap ≠ l := by omega
      have hlen : hh - l = ((xs.take hh).drop l).length := by simp; omega
      rw [if_neg hcl, hlen]
      have hin : ∀ (i : Nat) (x : AV), ((xs.take hh).drop l)[i]? = some x → xs[l + i]? = some x := by
        intro i x hi
        rw [List.getElem?_drop, List.getElem?_take] at hi
        split at hi
        · exact hi
        · cases hi
      refine .list _ _ _ _ (fun i j => f (l + i) j) (by rw [← hlen]; omega) (fun i x hi => h1 _ x (hin i x hi)) (fun i x j c hi hj => h2 _ x j c (hin i x hi) hj) (fun i x j c hi hj => ?_) (fun i x j c hi hj => h4 _ x j c (hin i x hi) hj)
      have := h3 _ x j c (hin i x hi) hj
      rw [Go.Deep.add_add]
      rw [Nat.add_mul, Nat.add_assoc] at this
      exact this

section ops
variable {C : Cfg} {o : Oper} {K : AV → Upd → New → Option β} {r : β} {next : Act → World → Prop} {Q : Exit → Act → World → Prop}

theorem slice_run {T : TypeId} {x : Operand} {lo hi : Option Operand} (ho : o.op = .slice T x lo hi none) {val : Value} (hrun : (Instr.sliceAt T (a.eval x) (lo.map a.eval) (hi.map a.eval) none).run C.P w = .ok val w)
    (hn : next (a.put o.dst val) w) : o.wp C.P a w next Q := by
  refine wp_value (w' := w) (val := val) ?_ hn
  unfold execOp
  simp only [ho, Sem.run_bind, Option.map_none, hrun, Sem.run_pure, Result.andThen_ok]

theorem slice_ok (h : Rel C.P S0 W S gv fr a w) {σ : Nat → Option Ob} (hσ : ∀ r o, σ r = some o → fr.obj r = some o) {T : TypeId} {xo : Operand} {lo hi : Option Operand} {x : AV} {l hh : Option AV} (ho : o.op = .slice T xo lo hi none) (hx : SV C.P S gv fr.obj x (a.eval xo))
    (hlo : ∀ v, l = some v → ∃ u, lo.map a.eval = some u ∧ SV C.P S gv fr.obj v u) (hlo' : l = none → lo.map a.eval = none)
    (hhi : ∀ v, hh = some v → ∃ u, hi.map a.eval = some u ∧ SV C.P S gv fr.obj v u) (hhi' : hh = none → hi.map a.eval = none)
    (hk : sliceK C.P σ T x l hh (fun v u => K v u []) = some r) (hn : Fin C.P S0 W fr o K r next) : o.wp C.P a w next Q := by
  unfold sliceK at hk
  split at hk
  · rename_i hu
    split at hk
    · rename_i s
      obtain ⟨n, hk, hb⟩ := bound1_ok hk hhi hhi'
      obtain ⟨m, hk, hb'⟩ := bound1_ok hk hlo hlo'
      refine slice_run ho (val := .string (s.extract m n)) ?_ (hn _ _ _ _ _ _ _ hk (h.put0 (V.str _).toSV o.dst))
      rw [hx.str, run_sliceAt_string w T _ _ _ none hu]
      simp [Instr.slice, run_underlying hu, run_bounds false s.size s.size n m hb hb' (Nat.le_refl _)]
    · cases hk
  · rename_i e hu
    have hz := (some_of_bif' hk).1
    replace hk := (some_of_bif' hk).2
    have hlist : ∀ {S' : Stab} {u : Upd} (sz : Nat) (xs : List AV), S.le S' → sz = C.P.cellsOf e → Rel C.P S0 W S' gv { fr with ob := applyU fr.ob u } a w → V S' (.list sz xs) (a.eval xo) → sliceL sz xs l hh u (fun v u => K v u []) = some r → o.wp C.P a w next Q := by
      intro S' u sz xs hle hsz hR hV hk
      obtain ⟨n, hk, hb⟩ := bound1_ok hk hhi hhi'
      obtain ⟨m, hk, hb'⟩ := bound1_ok hk hlo hlo'
      obtain ⟨ad, cap, e1, e2, e3⟩ := hV.cut (le_of_bound0 hb') (le_of_bound hb)
      refine slice_run ho ?_ (hn _ u [] S' gv _ _ hk (by rw [put_split]; exact hR.put0 e3.toSV o.dst))
      rw [e1, run_sliceAt_gen hu hz hb hb' e2, hsz]
    cases x with
    | list sz xs =>
      have hsz := beq_iff_eq.1 (some_of_bif hk).1
      replace hk := (some_of_bif hk).2
      subst hsz
      exact hlist (u := []) _ xs (Stab.le_refl S) rfl h hx hk
    | nils =>
      obtain ⟨n, hk1, hb⟩ := bound1_ok hk hhi hhi'
      obtain ⟨m, hk2, hb'⟩ := bound1_ok hk1 hlo hlo'
      have hxv : a.eval xo = .slice none 0 0 := by
        have hx' : V S .nils (a.eval xo) := hx
        generalize a.eval xo = xv at hx'
        cases hx'; rfl
      have hn0 : n = 0 := by have := le_of_bound hb; omega
      have hm0 : m = 0 := by have := le_of_bound0 hb'; omega
      subst hn0; subst hm0
      refine slice_run ho (val := .slice none 0 0) ?_ (hn _ _ _ _ _ _ _ hk2 (h.put0 V.nils.toSV o.dst))
      rw [hxv, run_sliceAt_gen hu hz hb hb' (Nat.le_refl _)]
      simp
    | own q =>
      simp only at hk
      split at hk
      · rename_i e' xs fz hq
        have he := beq_iff_eq.1 (some_of_bif hk).1
        replace hk := (some_of_bif hk).2
        subst he
        have hq' := hσ _ _ hq
        obtain ⟨_, hxv⟩ := hx
        have hxv := hxv _ _ _ hq'
        obtain ⟨us, hown, _⟩ := h.objs q _ hq'
        split at hk
        · obtain ⟨n, hk, hb⟩ := bound1_ok hk hhi hhi'
          have hn' := le_of_bound hb
          refine slice_run ho (val := cutV n (gv q)) ?_ (hn _ _ _ _ _ _ _ hk (h.put0 (v := .ownp q n) ⟨?_, fun e2 xs2 fz2 h2 => ?_⟩ o.dst))
          · rw [hxv, hlo' rfl]
            rcases hown.2 with ⟨hv, hn0⟩ | ⟨g, cap, cur, hv, _, _, hnc, _⟩
            · rw [hv, run_sliceAt_gen hu hz (len := 0) (cap := 0) (h := n) (l := 0) (by rw [hn0] at hb; exact hb) (.inl ⟨rfl, rfl⟩) (Nat.le_refl _)]
              obtain rfl : n = 0 := by omega
              rfl
            · rw [hv, run_sliceAt_gen hu hz hb (.inl ⟨rfl, rfl⟩) hnc]
              simp [cutV, Addr.add]
          · rcases hown.2 with ⟨hv, hn0⟩ | ⟨g, cap, cur, hv, _⟩ <;> rw [hv] <;> rfl
          · rw [hq'] at h2; cases h2; exact ⟨hn', rfl⟩
        · obtain ⟨S', hF, hV, ⟨fz', ho'⟩, hcut⟩ := frz_row h (Sim.of fun r o h => hσ r o h) hq
          have := hV xs.length (Nat.le_refl _)
          rw [List.take_length, hcut, ← hxv] at this
          exact hlist (u := [(q, some (.row _ xs true))]) _ xs hF.le rfl hF.rel this hk
      · cases hk
    | ownp q m =>
      simp only at hk
      split at hk
      · rename_i e' xs fz hq
        have he := beq_iff_eq.1 (some_of_bif hk).1
        replace hk := (some_of_bif hk).2
        subst he
        have hq' := hσ _ _ hq
        obtain ⟨_, hxv⟩ := hx
        obtain ⟨hm, hxv⟩ := hxv _ _ _ hq'
        obtain ⟨us, hown, _⟩ := h.objs q _ hq'
        split at hk
        · obtain ⟨n, hk, hb⟩ := bound1_ok hk hhi hhi'
          have hn' := le_of_bound hb
          refine slice_run ho (val := cutV n (gv q)) ?_ (hn _ _ _ _ _ _ _ hk (h.put0 (v := .ownp q n) ⟨?_, fun e2 xs2 fz2 h2 => ?_⟩ o.dst))
          · rw [hxv, hlo' rfl]
            rcases hown.2 with ⟨hv, hn0⟩ | ⟨g, cap, cur, hv, _, _, hnc, _⟩
            · obtain rfl : m = 0 := by omega
              rw [hv]
              show (Instr.sliceAt T (.slice none 0 0) none _ none).run C.P w = _
              rw [run_sliceAt_gen hu hz (len := 0) (cap := 0) (h := n) (l := 0) hb (.inl ⟨rfl, rfl⟩) (Nat.le_refl _)]
              obtain rfl : n = 0 := by omega
              rfl
            · rw [hv]
              show (Instr.sliceAt T (.slice (some ⟨g, 0, none⟩) m cap) none _ none).run C.P w = _
              rw [run_sliceAt_gen hu hz hb (.inl ⟨rfl, rfl⟩) (by omega)]
              simp [cutV, Addr.add]
          · rcases hown.2 with ⟨hv, hn0⟩ | ⟨g, cap, cur, hv, _⟩ <;> rw [hv] <;> rfl
          · rw [hq'] at h2; cases h2; exact ⟨by omega, rfl⟩
        · obtain ⟨S', hF, hV, ⟨fz', ho'⟩, hcut⟩ := frz_row h (Sim.of fun r o h => hσ r o h) hq
          have := hV m hm
          rw [← hxv] at this
          exact hlist (u := [(q, some (.row _ xs true))]) _ (xs.take m) hF.le rfl hF.rel this hk
      · cases hk
    | _ => cases hk
  · cases hk
end ops
end Go.Proofs.YtilbahgfjfcikaaDoor.Eng
