/- The engine, part 11: make, literals of slices and structs. -/
import Derived.Test.YtilbahgfjfcikaaDoorE10
set_option linter.unusedVariables false
set_option linter.unusedSimpArgs false
namespace Go.Proofs.YtilbahgfjfcikaaDoor.Eng
open Go Go.RowKit
variable {P : Program} {S0 S S' : Stab} {W w w' : World} {gv gv' : Nat → Value} {fr : Fr} {a : Act} {ob ob' : Nat → Option Ob} {β : Type}

/-- A row of zero values. -/
theorem zero_els {e : TypeId} {z : Value} (hsz : 0 < P.cellsOf e) (hzc : z.cells.size = P.cellsOf e) (hl : (zeroAV P e).cells.length = P.cellsOf e) (h1 : ∀ (j : Nat) (u : Value), z.cells[j]? = some u → u.oneCell' = true)
    (h2 : ∀ (j : Nat) (c : AV), (zeroAV P e).cells[j]? = some c → c.leaf = true) (h3 : ∀ (S : Stab) (j : Nat) (c : AV) (u : Value), (zeroAV P e).cells[j]? = some c → z.cells[j]? = some u → V S c u) (n m : Nat) (hm : n * P.cellsOf e ≤ m) :
    Els P S e (List.replicate n (zeroAV P e)) ((madeCells z.cells m).toList.take (n * P.cellsOf e)) := by
  have hget : ∀ k, k < m → (madeCells z.cells m).toList[k]? = z.cells[k % P.cellsOf e]? := by
    intro k hk
    have hlt : k % z.cells.size < z.cells.size := Nat.mod_lt _ (by omega)
    simp only [madeCells, Array.getElem?_toList, Array.getElem?_map, Array.getElem?_range, hk, if_true, Option.map_some]
    rw [← hzc, getElem!_pos z.cells (k % z.cells.size) hlt, Array.getElem?_eq_getElem hlt]
  refine ⟨by simp [size_madeCells, Nat.min_eq_left hm], fun u hu => ?_, fun i y hy => ?_⟩
  · obtain ⟨k, hk⟩ := List.getElem?_of_mem hu
    rw [List.getElem?_take] at hk
    split at hk
    · rw [hget k (by omega)] at hk
      exact h1 _ u hk
    · cases hk
  · obtain ⟨hi, rfl⟩ := List.getElem?_eq_some_iff.1 hy
    simp only [List.length_replicate] at hi
    simp only [List.getElem_replicate]
    refine ⟨hl, fun j c hc => ⟨h2 j c hc, fun v hv => ?_⟩⟩
    have hj : j < P.cellsOf e := by rw [← hl]; exact (List.getElem?_eq_some_iff.1 hc).1
    have hlt := flat_lt hi hj
    rw [List.getElem?_take, if_pos hlt, hget _ (by omega), Nat.mul_comm, Nat.mul_add_mod, Nat.mod_eq_of_lt hj] at hv
    exact h3 S j c v hc hv

section ops
variable {C : Cfg} {o : Oper} {K : AV → Upd → New → Option β} {r : β} {next : Act → World → Prop} {Q : Exit → Act → World → Prop}

theorem make_ok (h : Rel C.P S0 W S gv fr a w) {T : TypeId} {lo co : Operand} {l c : AV} {t : Nat} (ho : o.op = .makeSlice T lo co) (ht : ∀ v u n, K v u n = some r → ∀ y ∈ n, y.1 < fr.ob.length) (hl : SV C.P S gv fr.obj l (a.eval lo)) (hc : SV C.P S gv fr.obj c (a.eval co))
    (hk : makeK C.P t T l c K = some r) (hn : Fin C.P S0 W fr o K r next) : o.wp C.P a w next Q := by
  unfold makeK at hk
  split at hk
  · rename_i e hu
    cases l <;> cases c <;> first | (cases hk; done) | skip
    rename_i kl l kc c
    have hcnd := (some_of_bif hk).1
    replace hk := (some_of_bif hk).2
    simp only [Bool.and_eq_true, decide_eq_true_eq] at hcnd
    obtain ⟨⟨⟨⟨⟨c1, c2⟩, c3⟩, c4⟩, hzo⟩, hsz⟩ := hcnd
    obtain ⟨i, z, hi, hiz, his, hzl, hzs, z1, z2, z3⟩ := zero_ok hzo
    have hby : C.P.bytesOf e = i.bytes := by simp [Program.bytesOf, hi]
    rw [hby] at c3
    have hrun := run_make (P := C.P) w T e i z hu hi hiz kl kc l c c1 c2 (by rw [Int.mul_comm]; omega) c4
    have hle : l.toNat ≤ c.toNat := by omega
    have hrow : (w.alloc (.cells (madeCells z.cells (c.toNat * i.size)) e)).ownsRow W.heap.size e (C.P.cellsOf e) (.slice (some ⟨w.heap.size, 0, none⟩) l.toNat c.toNat) (List.replicate l.toNat (zeroAV C.P e)).length ((madeCells z.cells (c.toNat * i.size)).toList.take (l.toNat * C.P.cellsOf e)) := by
      rw [List.length_replicate]
      refine ⟨by simp only [List.length_take, Array.length_toList, size_madeCells, his]; exact Nat.min_eq_left (Nat.mul_le_mul_right _ hle), .inr ⟨w.heap.size, c.toNat, _, rfl, h.below.size, heap_alloc_new w _, hle, by simp [maxLen]; omega, by rw [size_madeCells, his], rfl⟩⟩
    refine wp_value (w' := w.alloc (.cells (madeCells z.cells (c.toNat * i.size)) e)) (val := .slice (some ⟨w.heap.size, 0, none⟩) l.toNat c.toNat) ?_ (hn _ _ _ _ _ _ _ hk (h.newRow (ht _ _ _ hk (t, _) (List.mem_singleton.2 rfl)) (h.below.alloc h.below.size _) (agree_alloc h.agree _) (fun q o' g hq hqt hg => ⟨Below.heap_alloc w _ g (hblk_lt h hq hg), fun e => ?_⟩) hrow hsz
      (zero_els hsz hzs hzl z1 z2 z3 _ _ (by rw [his]; exact Nat.mul_le_mul_right _ hle)) (fun g hg y v hy hyb => ?_) rfl))
    · unfold execOp
      simp only [ho, hl.int, hc.int, Sem.run_bind, hrun, Sem.run_pure, Result.andThen_ok]
    · cases e
      exact absurd (hblk_lt h hq hg) (Nat.lt_irrefl _)
    · have hg' : w.heap.size = g := by simpa [hblk] using hg
      have := agree_lt h.agree hy
      omega
  · cases hk

theorem foldl_set : ∀ (vs : List Value) (off k0 : Nat) (cs : Array Value), off + k0 + vs.length ≤ cs.size → ∀ k, ((vs.zipIdx k0).foldl (fun cs (x : Value × Nat) => cs.setIfInBounds (off + x.2) x.1) cs)[k]? = if off + k0 ≤ k ∧ k < off + k0 + vs.length then vs[k - (off + k0)]? else cs[k]?
  | [], off, k0, cs, hl, k => by simp; omega
  | v :: vs, off, k0, cs, hl, k => by
    simp only [List.zipIdx_cons, List.foldl_cons]
    rw [foldl_set vs off (k0 + 1) _ (by simp at hl ⊢; omega) k]
    by_cases h1 : k = off + k0
    · subst h1
      rw [if_neg (by omega), if_pos ⟨Nat.le_refl _, by simp⟩]
      simp at hl
      simp [Array.getElem?_setIfInBounds]
      omega
    · by_cases h2 : off + (k0 + 1) ≤ k ∧ k < off + (k0 + 1) + vs.length
      · rw [if_pos h2, if_pos ⟨by omega, by simp; omega⟩]
        rw [show k - (off + k0) = (k - (off + (k0 + 1))) + 1 from by omega, List.getElem?_cons_succ]
      · rw [if_neg h2, if_neg (by simp; omega)]
        simp [Array.getElem?_setIfInBounds, Ne.symm h1]
theorem foldl_size : ∀ (vs : List (Value × Nat)) (off : Nat) (cs : Array Value), (vs.foldl (fun cs (x : Value × Nat) => cs.setIfInBounds (off + x.2) x.1) cs).size = cs.size
  | [], off, cs => rfl
  | v :: vs, off, cs => by
    rw [List.foldl_cons, foldl_size vs off]
    simp
/-- One part laid into a row. -/
theorem Els.set {e : TypeId} {xs : List AV} {us : Array Value} (h : Els P S e xs us.toList) {i : Nat} {x : AV} {v : Value} (hi : i < xs.length) (hx : V S x v) (hl : x.cells.length = P.cellsOf e) :
    v.cells.size = P.cellsOf e ∧ i * P.cellsOf e + v.cells.size ≤ us.size ∧ Els P S e (xs.set i x) (v.cells.zipIdx.foldl (fun cs (y : Value × Nat) => cs.setIfInBounds (i * P.cellsOf e + y.2) y.1) us).toList := by
  obtain ⟨c1, c2, c3, c4⟩ := hx.cells
  obtain ⟨h1, h2, h3⟩ := h
  have hs : v.cells.size = P.cellsOf e := by rw [c1, hl]
  have hus : us.size = xs.length * P.cellsOf e := by simpa using h1
  have hfit : i * P.cellsOf e + v.cells.size ≤ us.size := by
    rw [hus, hs]
    have : (i + 1) * P.cellsOf e ≤ xs.length * P.cellsOf e := Nat.mul_le_mul_right _ hi
    rw [Nat.add_mul, Nat.one_mul] at this
    exact this
  have hz : v.cells.zipIdx.foldl (fun cs (y : Value × Nat) => cs.setIfInBounds (i * P.cellsOf e + y.2) y.1) us = (v.cells.toList.zipIdx 0).foldl (fun cs (y : Value × Nat) => cs.setIfInBounds (i * P.cellsOf e + y.2) y.1) us := by
    rw [← Array.foldl_toList, Array.toList_zipIdx]
  have hget : ∀ k, (v.cells.zipIdx.foldl (fun cs (y : Value × Nat) => cs.setIfInBounds (i * P.cellsOf e + y.2) y.1) us).toList[k]? = if i * P.cellsOf e ≤ k ∧ k < i * P.cellsOf e + P.cellsOf e then v.cells[k - i * P.cellsOf e]? else us.toList[k]? := by
    intro k
    rw [Array.getElem?_toList, hz, foldl_set _ _ _ _ (by simpa using hfit) k]
    simp only [Nat.add_zero, Array.length_toList, hs, Array.getElem?_toList]
  refine ⟨hs, hfit, by rw [hz]; simp [foldl_size, hus], fun u hu => ?_, fun i' y hy => ?_⟩
  · obtain ⟨k, hk⟩ := List.getElem?_of_mem hu
    rw [hget k] at hk
    split at hk
    · exact c2 u (List.mem_of_getElem? (by simpa using hk))
    · exact h2 u (List.mem_of_getElem? hk)
  · rw [List.getElem?_set] at hy
    by_cases hii : i = i'
    · subst hii
      rw [if_pos rfl, if_pos hi] at hy
      cases hy
      refine ⟨hl, fun j c hc => ⟨c3 j c hc, fun u hu => ?_⟩⟩
      have hj : j < P.cellsOf e := by rw [← hl]; exact (List.getElem?_eq_some_iff.1 hc).1
      rw [hget, if_pos (by omega), show i * P.cellsOf e + j - i * P.cellsOf e = j from by omega] at hu
      exact c4 j c u hc hu
    · rw [if_neg hii] at hy
      obtain ⟨q1, q2⟩ := h3 i' y hy
      refine ⟨q1, fun j c hc => ⟨(q2 j c hc).1, fun u hu => (q2 j c hc).2 u ?_⟩⟩
      have hj : j < P.cellsOf e := by rw [← q1]; exact (List.getElem?_eq_some_iff.1 hc).1
      rw [hget, if_neg] at hu
      · exact hu
      · rintro ⟨r1, r2⟩
        rcases Nat.lt_or_gt_of_ne hii with hlt | hlt
        · have : (i + 1) * P.cellsOf e ≤ i' * P.cellsOf e := Nat.mul_le_mul_right _ hlt
          rw [Nat.add_mul, Nat.one_mul] at this
          omega
        · have : (i' + 1) * P.cellsOf e ≤ i * P.cellsOf e := Nat.mul_le_mul_right _ hlt
          rw [Nat.add_mul, Nat.one_mul] at this
          omega
theorem setParts_ok {e : TypeId} : ∀ {l : List (Nat × AV)} {vs : List (Nat × Value)} {xs out : List AV} {us : Array Value}, setParts xs l = some out → Els P S e xs us.toList → l.map (·.1) = vs.map (·.1) →
    (∀ (j : Nat) (x : Nat × AV) (v : Nat × Value), l[j]? = some x → vs[j]? = some v → V S x.2 v.2 ∧ x.2.cells.length = P.cellsOf e) →
    out.length = xs.length ∧ ∃ us', Instr.fill (fun i => some (i * P.cellsOf e, P.cellsOf e)) us vs = some us' ∧ us'.size = us.size ∧ Els P S e out us'.toList
  | [], [], xs, out, us, h, hE, hm, hv => by
    cases h
    exact ⟨rfl, us, rfl, rfl, hE⟩
  | [], v :: vs, xs, out, us, h, hE, hm, hv => by cases hm
  | x :: l, [], xs, out, us, h, hE, hm, hv => by cases hm
  | (i, x) :: l, (i', v) :: vs, xs, out, us, h, hE, hm, hv => by
    simp only [List.map_cons, List.cons.injEq] at hm
    obtain ⟨rfl, hm⟩ := hm
    simp only [setParts] at h
    obtain ⟨hi, h⟩ := some_of_bif h
    have hi := of_decide_eq_true hi
    obtain ⟨hx, hl⟩ := hv 0 (i, x) (i, v) rfl rfl
    obtain ⟨q1, q2, q3⟩ := hE.set hi hx hl
    obtain ⟨r1, us', r2, r3, r4⟩ := setParts_ok h q3 hm (fun j y z hy hz => hv (j + 1) y z (by simpa using hy) (by simpa using hz))
    refine ⟨by rw [r1]; simp, us', ?_, ?_, r4⟩
    · have q1' : v.cells.size = P.cellsOf e := q1
      have q2' : i * P.cellsOf e + v.cells.size ≤ us.size := q2
      have hc : ¬ ((decide (v.cells.size ≠ P.cellsOf e) || decide (i * P.cellsOf e + v.cells.size > us.size)) = true) := by simp; omega
      simp only [Instr.fill]
      rw [if_neg hc]
      exact r2
    · rw [r3, ← Array.foldl_toList, foldl_size]

theorem frzParts_ok {e : TypeId} : ∀ {l : List (Nat × AV)} {K : List (Nat × AV) → Upd → Option β} {r : β} {S : Stab} {fr : Fr}, Rel P S0 W S gv fr a w → ∀ {σ : Nat → Option Ob}, Sim σ fr.obj → frzParts P σ e l K = some r → ∀ {vs : List (Nat × Value)}, l.map (·.1) = vs.map (·.1) →
    (∀ (j : Nat) (x : Nat × AV) (v : Nat × Value), l[j]? = some x → vs[j]? = some v → SV P S gv fr.obj x.2 v.2) →
    ∃ l' u S', K l' u = some r ∧ Frz P S0 W S gv fr a w σ S' u ∧ l'.map (·.1) = vs.map (·.1) ∧ ∀ (j : Nat) (x : Nat × AV) (v : Nat × Value), l'[j]? = some x → vs[j]? = some v → V S' x.2 v.2 ∧ x.2.cells.length = P.cellsOf e
  | [], K, r, S, fr, h, σ, hs, hk, vs, hm, hv => ⟨[], [], S, hk, Frz.nil h hs, hm, by simp⟩
  | x :: l, K, r, S, fr, h, σ, hs, hk, [], hm, hv => by cases hm
  | (i, x) :: l, K, r, S, fr, h, σ, hs, hk, (i', v) :: vs, hm, hv => by
    simp only [List.map_cons, List.cons.injEq] at hm
    obtain ⟨rfl, hm⟩ := hm
    simp only [frzParts] at hk
    obtain ⟨x', u, S1, hk, hF, hV⟩ := frz_ok h hs hk (hv 0 (i, x) (i, v) rfl rfl)
    have hl := beq_iff_eq.1 (some_of_bif hk).1
    replace hk := (some_of_bif hk).2
    obtain ⟨l', u', S2, hk, hF', hm', hVs⟩ := frzParts_ok hF.rel hF.sim hk hm (fun j y z hy hz => hF.sv (hv (j + 1) y z (by simpa using hy) (by simpa using hz)))
    refine ⟨(i, x') :: l', u ++ u', S2, hk, hF.trans hF', by simp [hm'], fun j y z hy hz => ?_⟩
    cases j with
    | zero =>
      simp only [List.getElem?_cons_zero, Option.some.injEq] at hy hz
      subst hy; subst hz
      exact ⟨hV.mono hF'.le, hl⟩
    | succ j => exact hVs j y z (by simpa using hy) (by simpa using hz)

theorem zipParts_ok : ∀ {ps : List (Nat × Operand)} {vs : List AV} (f : Operand → Value), vs.length = ps.length → (zipParts ps vs).map (·.1) = (ps.map fun p => (p.1, f p.2)).map (·.1) ∧
    ∀ (j : Nat) (x : Nat × AV) (v : Nat × Value), (zipParts ps vs)[j]? = some x → (ps.map fun p => (p.1, f p.2))[j]? = some v → ∃ q, ps[j]? = some q ∧ vs[j]? = some x.2 ∧ v.2 = f q.2
  | [], [], f, h => ⟨rfl, by simp [zipParts]⟩
  | [], _ :: _, f, h => by cases h
  | _ :: _, [], f, h => by cases h
  | (i, q) :: ps, v :: vs, f, h => by
    obtain ⟨h1, h2⟩ := zipParts_ok (ps := ps) (vs := vs) f (by simpa using h)
    refine ⟨by simp [zipParts, h1], fun j x y hx hy => ?_⟩
    cases j with
    | zero =>
      simp only [zipParts, List.getElem?_cons_zero, Option.some.injEq, List.map_cons] at hx hy
      subst hx; subst hy
      exact ⟨_, rfl, rfl, rfl⟩
    | succ j => exact h2 j x y (by simpa [zipParts] using hx) (by simpa using hy)

theorem buildSlice_ok (h : Rel C.P S0 W S gv fr a w) {σ : Nat → Option Ob} (hσ : ∀ r o, σ r = some o → fr.obj r = some o) {T e : TypeId} {n t : Nat} {ps : Array (Nat × Operand)} {vs : List AV} (ho : o.op = .buildSlice T n ps) (hu : C.P.underlying T = some (.slice e))
    (ht : ∀ v u n, K v u n = some r → ∀ y ∈ n, y.1 < fr.ob.length) (hvl : vs.length = ps.toList.length) (hvs : ∀ (j : Nat) (q : Nat × Operand) (v : AV), ps.toList[j]? = some q → vs[j]? = some v → SV C.P S gv fr.obj v (a.eval q.2))
    (h0 : n * C.P.cellsOf e ≤ 16777216) (hzo : zeroOk C.P e = true) (hsz : 0 < C.P.cellsOf e) (hnn : n ≤ 16777216)
    (hk : (frzParts C.P σ e (zipParts ps.toList vs) fun l u => (setParts (List.replicate n (zeroAV C.P e)) l).bind fun xs => K (.own t) u [(t, .row e xs false)]) = some r) (hn : Fin C.P S0 W fr o K r next) : o.wp C.P a w next Q := by
  obtain ⟨i, z, hi, hiz, his, hzl, hzs, z1, z2, z3⟩ := zero_ok hzo
  obtain ⟨m1, m2⟩ := zipParts_ok a.eval hvl
  obtain ⟨l, u, S1, hk, hF, hm, hV⟩ := frzParts_ok h (Sim.of fun r o h => hσ r o h) hk m1 (fun j x v hx hv => by
    obtain ⟨q, hq, hx', hv'⟩ := m2 j x v hx hv
    rw [hv']
    exact hvs j q x.2 hq hx')
  obtain ⟨xs, hset, hk⟩ := Option.bind_eq_some_iff.1 hk
  have hE0 : Els C.P S1 e (List.replicate n (zeroAV C.P e)) (madeCells z.cells (n * C.P.cellsOf e)).toList := by
    have := zero_els (S := S1) hsz hzs hzl z1 z2 z3 n (n * C.P.cellsOf e) (Nat.le_refl _)
    rwa [List.take_of_length_le (by simp [size_madeCells])] at this
  obtain ⟨hlen, us, hfill, hus, hE⟩ := setParts_ok hset hE0 hm hV
  rw [List.length_replicate] at hlen
  rw [size_madeCells] at hus
  have hR := hF.rel
  refine wp_value (w' := w.alloc (.cells us e)) (val := .slice (some ⟨w.heap.size, 0, none⟩) n n) ?_ (hn (.own t) u [(t, .row e xs false)] S1 _ _ _ hk (by
    rw [put_split]
    refine hR.newRow (us := us.toList) ?_ (hR.below.alloc hR.below.size _) (agree_alloc hR.agree _) (fun q o' g hq hqt hg => ⟨Below.heap_alloc w _ g (hblk_lt hR hq hg), fun e => ?_⟩) ?_ hsz hE (fun g hg y v hy hyb => ?_) rfl
    · have hl : ∀ (u : Upd) (l : List (Option Ob)), (applyU l u).length = l.length := by
        intro u
        induction u with
        | nil => intro l; rfl
        | cons x u ih => intro l; rw [show applyU l (x :: u) = applyU (l.set x.1 x.2) u from rfl, ih]; simp
      rw [hl]
      exact ht _ _ _ hk (t, _) (List.mem_singleton.2 rfl)
    · cases e
      exact absurd (hblk_lt hR hq hg) (Nat.lt_irrefl _)
    · rw [hlen]
      exact ⟨by simp [hus], .inr ⟨w.heap.size, n, us, rfl, hR.below.size, heap_alloc_new w _, Nat.le_refl _, by simp [maxLen]; omega, hus, by rw [List.take_of_length_le (by simp [hus])]⟩⟩
    · have hg' : w.heap.size = g := by simpa [hblk] using hg
      have := agree_lt hR.agree hy
      omega))
  unfold execOp
  have hsm : ¬ (n * i.size > 2 ^ 24) := by rw [his]; omega
  have hpl : (ps.map fun p => (p.1, a.eval p.2)).toList = ps.toList.map fun p => (p.1, a.eval p.2) := by simp
  have e0 : ∀ f : Nat → Value, (Array.range 0).map f = #[] := fun f => by apply Array.ext'; simp
  by_cases hz0 : n * i.size = 0
  · have hn0 : n = 0 := by
      rcases Nat.mul_eq_zero.1 hz0 with h | h
      · exact h
      · omega
    subst hn0
    simp only [madeCells, Nat.zero_mul, e0] at hfill
    simp only [ho, Instr.buildSlice, Sem.run_bind, run_underlying hu, sizeOf, typeInfo, run_program, hi, Sem.run_pure, Result.andThen_ok, Nat.zero_mul, his, hpl]
    simp [e0, hfill, newRow]
  · have hz0' : ¬ (n = 0 ∨ i.size = 0) := fun h => hz0 (by rcases h with h | h <;> simp [h])
    have hc : (Array.range (n * C.P.cellsOf e)).map (fun k => z.cells[k % z.cells.size]!) = madeCells z.cells (n * C.P.cellsOf e) := rfl
    simp only [ho, Instr.buildSlice, Sem.run_bind, run_underlying hu, sizeOf, typeInfo, run_program, hi, Sem.run_pure, Result.andThen_ok, hpl, if_neg hsm, if_neg hz0, zeroValue, hiz]
    simp only [his, hc, hfill]
    simp [newRow]
end ops
end Go.Proofs.YtilbahgfjfcikaaDoor.Eng
