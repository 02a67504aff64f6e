/- The engine, part 7: stores, slices, rows. -/
import Derived.Test.YtilbahgfjfcikaaDoorE6
set_option linter.unusedVariables false
set_option linter.unusedSimpArgs false
namespace Go.Proofs.YtilbahgfjfcikaaDoor.Eng
open Go Go.RowKit
variable {P : Program} {S0 S S' : Stab} {W w w' : World} {gv gv' : Nat → Value} {fr : Fr} {a : Act} {ob ob' : Nat → Option Ob} {β : Type}

theorem below_setRow {B : Nat} {g : Nat} (h : Below B W w) (hg : B ≤ g) (cs : Array Value) : Below B W (w.setRow g cs) :=
  h.trans ⟨rfl, rfl, rfl, by simp, fun k hk => setRow_other w g k cs (by omega)⟩
theorem cell_setRow {g : Nat} {x : Addr} (hx : x.block ≠ g) (cs : Array Value) : (w.setRow g cs).cell? x = w.cell? x := World.cell?_of_block (setRow_other w g x.block cs hx)
theorem splice_length {cs new : List AV} {off : Nat} (h : off + new.length ≤ cs.length) : (splice cs off new).length = cs.length := by
  simp [splice]; omega
theorem splice_get {α : Type} {cs new : List α} {off : Nat} (h : off + new.length ≤ cs.length) (j : Nat) : (cs.take off ++ new ++ cs.drop (off + new.length))[j]? = if off ≤ j ∧ j < off + new.length then new[j - off]? else cs[j]? := by
  by_cases h1 : j < off
  · rw [List.append_assoc, List.getElem?_append_left (by simp; omega), List.getElem?_take, if_pos h1, if_neg (by omega)]
  · by_cases h2 : j < off + new.length
    · rw [List.append_assoc, List.getElem?_append_right (by simp; omega), if_pos ⟨by omega, h2⟩, List.getElem?_append_left (by simp; omega)]
      simp [Nat.min_eq_left (show off ≤ cs.length by omega)]
    · rw [if_neg (by omega), List.getElem?_append_right (by simp; omega), List.getElem?_drop]
      congr 1
      simp; omega
theorem run_storeVar {T : TypeId} {g off : Nat} {cur : Array Value} {T' : TypeId} {val : Value} (hg : w.heap[g]? = some (.cells cur T' (0, 0))) (hs : val.cells.size = P.cellsOf T) (h0 : 0 < P.cellsOf T) (hfit : off + val.cells.size ≤ cur.size) (h1 : ∀ u ∈ val.cells.toList, u.oneCell' = true) :
    (storeVar T ⟨g, off, none⟩ val).run P w = .ok () (w.setRow g (cur.toList.take off ++ val.cells.toList ++ cur.toList.drop (off + val.cells.size)).toArray) := by
  have hi : ∃ i, P.info? T = some i := info_of_cells (by simp; omega)
  obtain ⟨i, hi⟩ := hi
  have hsz : val.cells.size = i.size := by rw [hs]; simp [Program.cellsOf, hi]
  have hst := run_storeCells_at P g off T' val.cells.toList 0 cur w hg (by simpa using hfit) h1
  simp only [Nat.add_zero, Array.length_toList] at hst
  simp [storeVar, sizeOf, typeInfo, hi, hsz, hst]

section ops
variable {C : Cfg} {o : Oper} {K : AV → Upd → New → Option β} {r : β} {next : Act → World → Prop} {Q : Exit → Act → World → Prop}

theorem store_loc (h : Rel C.P S0 W S gv fr a w) {T : TypeId} {po xo : Operand} {s off : Nat} {x : AV} {cs : List AV} (ho : o.op = .store T po xo) (hp : SV C.P S gv fr.obj (.loc s off) (a.eval po)) (hx : SV C.P S gv fr.obj x (a.eval xo)) (hsol : x.solid = true)
    (hs : fr.obj s = some (.box cs)) (hl : x.cells.length = C.P.cellsOf T) (h0 : 0 < C.P.cellsOf T) (hfit : off + x.cells.length ≤ cs.length) (hk : K .junk [(s, some (.box (splice cs off x.cells)))] [] = some r)
    (hn : Fin C.P S0 W fr o K r next) : o.wp C.P a w next Q := by
  obtain ⟨g, u, T', h1, h2, h3, h4, h5, h6, h7⟩ := h.objs s _ hs
  obtain ⟨_, hp⟩ := hp
  obtain ⟨g', hg', e⟩ := hp cs hs
  rw [h1] at hg'
  cases hg'
  obtain ⟨c1, c2, c3⟩ := hx.cells hsol
  have hrun := run_storeVar (P := C.P) (T := T) (off := off) h3 (by rw [c1, hl]) h0 (by rw [c1, h4]; exact hfit) c2
  have hbl : hblk (gv s) = some g := by rw [h1]; rfl
  have hgl := (Array.getElem?_eq_some_iff.1 h3).1
  have hrel := h.turn (S' := S) (o' := .box (splice cs off x.cells)) (w' := w.setRow g (u.toList.take off ++ (a.eval xo).cells.toList ++ u.toList.drop (off + (a.eval xo).cells.size)).toArray) hs (Stab.le_refl S) (by simp [Kin]) (below_setRow h.below h2 _)
    (fun y v hy => by rw [cell_setRow (fun e => h7 y v hy e)]; exact h.agree y v hy)
    (fun s' o1 g' hs' hne hg' => ⟨setRow_other w g g' _ (fun e => hne (h.dis s' s o1 _ g' hs' hs hg' (by rw [e]; exact hbl))), fun _ _ hx _ => hx⟩) (fun _ _ hx => .inl hx)
    (fun ob' hkin => by
      refine ⟨g, _, T', h1, h2, setRow_heap w g u _ T' _ h3, ?_, ?_, ?_, h7⟩
      · rw [splice_length hfit, ← h4]
        simp; omega
      · intro j v hv
        rw [List.getElem?_toArray, show off + (a.eval xo).cells.size = off + (a.eval xo).cells.toList.length from by simp, splice_get (by simp; omega)] at hv
        split at hv
        · exact c2 v (List.mem_of_getElem? hv)
        · exact h5 j v (by simpa using hv)
      · intro j c v hc hv
        rw [List.getElem?_toArray, show off + (a.eval xo).cells.size = off + (a.eval xo).cells.toList.length from by simp, splice_get (by simp; omega)] at hv
        rw [splice, splice_get hfit] at hc
        simp only [Array.length_toList, c1] at hv
        split at hc
        · rename_i hj
          rw [if_pos hj] at hv
          exact (c3 _ c v hc (by simpa using hv)).mono (Stab.le_refl S) fun q _ => ⟨hkin q, fun _ => rfl⟩
        · rename_i hj
          rw [if_neg hj] at hv
          exact (h6 j c v hc (by simpa using hv)).mono (Stab.le_refl S) fun q _ => ⟨hkin q, fun _ => rfl⟩)
  refine wp_skip' (w' := w.setRow g (u.toList.take off ++ (a.eval xo).cells.toList ++ u.toList.drop (off + (a.eval xo).cells.size)).toArray) ?_ (hn _ _ _ _ _ _ _ hk (by rw [put_split]; exact hrel.put0 (v := .junk) trivial o.dst))
  unfold execOp
  simp only [ho, Instr.storeAt, Instr.sureAddr, e, Sem.run_bind, Sem.run_pure, Result.andThen_ok, hrun]

theorem mkElem_cells {sz : Nat} {cs : List AV} {y : AV} (hl : cs.length = y.cells.length) (hlf : ∀ (j : Nat) (c : AV), cs[j]? = some c → c.leaf = true) : (mkElem sz cs y).cells = cs := by
  unfold mkElem
  split
  · rfl
  · rename_i hy
    have : y.cells = [y] := by cases y <;> first | rfl | (exact absurd rfl (hy _))
    rw [this] at hl
    match cs, hl with
    | [c], _ =>
      have := hlf 0 c rfl
      cases c <;> first | rfl | (simp [AV.leaf] at this)
theorem applyU_other {r : Nat} : ∀ (u : Upd) (l : List (Option Ob)), (u.map (·.1)).contains r = false → (applyU l u).getD r none = l.getD r none
  | [], l, _ => rfl
  | (q, x) :: u, l, h => by
    simp only [List.map_cons, List.contains_cons, Bool.or_eq_false_iff, beq_eq_false_iff_ne] at h
    rw [applyU, applyU_other u _ h.2, getD_set, if_neg (fun e => h.1 e.1.symm)]

theorem store_rloc (h : Rel C.P S0 W S gv fr a w) {σ : Nat → Option Ob} (hσ : ∀ r o, σ r = some o → fr.obj r = some o) {T : TypeId} {po xo : Operand} {s i off : Nat} {x : AV} {e : TypeId} {xs : List AV} (ho : o.op = .store T po xo) (hp : SV C.P S gv fr.obj (.rloc s i off) (a.eval po)) (hx : SV C.P S gv fr.obj x (a.eval xo))
    (hs : σ s = some (.row e xs false))
    (hk : (frz C.P σ T x fun x u => (xs[i]?).bind fun y => bif (x.cells.length == C.P.cellsOf T) && decide (0 < C.P.cellsOf T) && decide (off + x.cells.length ≤ y.cells.length) && !(u.map (·.1)).contains s then K .junk (u ++ [(s, some (.row e (xs.set i (mkElem (C.P.cellsOf e) (splice y.cells off x.cells) y)) false))]) [] else none) = some r)
    (hn : Fin C.P S0 W fr o K r next) : o.wp C.P a w next Q := by
  obtain ⟨x', u, S1, hk, hF, hV⟩ := frz_ok h (Sim.of fun r o h => hσ r o h) hk hx
  obtain ⟨y, hy, hk⟩ := Option.bind_eq_some_iff.1 hk
  obtain ⟨hc, hk⟩ := some_of_bif hk
  simp only [Bool.and_eq_true, beq_iff_eq, decide_eq_true_eq, Bool.not_eq_true', Bool.not_eq_eq_eq_not, Bool.not_true] at hc
  obtain ⟨⟨⟨hl, h0⟩, hfit⟩, hnc⟩ := hc
  have hs0 := hσ _ _ hs
  have hs1 : ({ fr with ob := applyU fr.ob u } : Fr).obj s = some (.row e xs false) := by
    show (applyU fr.ob u).getD s none = _
    rw [applyU_other u fr.ob hnc]
    exact hs0
  have hR := hF.rel
  obtain ⟨us, hown, hsz, hone, hel, hSb⟩ := hR.objs s _ hs1
  obtain ⟨_, hp⟩ := hp
  obtain ⟨hi, g, m, c, hg, ep⟩ := hp e xs false hs0
  have hnoS : ∀ z v, S1 z = some v → z.block ≠ g := fun z v hz hb => by
    have := (hSb g (by rw [hg]; rfl) z v hz hb).1
    cases this
  obtain ⟨hul, hown'⟩ := hown
  rcases hown' with ⟨hv, _⟩ | ⟨g', cap, cur, hv, hb, hh, hnc', hcm, hcs, htk⟩
  · rw [hg] at hv; cases hv
  rw [hg] at hv
  cases hv
  obtain ⟨c1, c2, c3, c4⟩ := hV.cells
  have hylen := (hel i y hy).1
  have hspan : i * C.P.cellsOf e + (off + x'.cells.length) ≤ xs.length * C.P.cellsOf e := by
    have : (i + 1) * C.P.cellsOf e ≤ xs.length * C.P.cellsOf e := Nat.mul_le_mul_right _ hi
    rw [Nat.add_mul, Nat.one_mul] at this
    omega
  have hcur : xs.length * C.P.cellsOf e ≤ cur.size := by rw [hcs]; exact Nat.mul_le_mul_right _ hnc'
  have hrun := run_storeVar (P := C.P) (T := T) (off := i * C.P.cellsOf e + off) hh (by rw [c1, hl]) h0 (by rw [c1]; omega) c2
  have hbl : hblk (gv s) = some g := by rw [hg]; rfl
  have hsp : (splice y.cells off x'.cells).length = y.cells.length := splice_length hfit
  have hspg : ∀ (j : Nat) (d : AV), (splice y.cells off x'.cells)[j]? = some d → (if off ≤ j ∧ j < off + x'.cells.length then x'.cells[j - off]? else y.cells[j]?) = some d := fun j d hd => by rw [splice, splice_get hfit] at hd; exact hd
  have hsplf : ∀ (j : Nat) (d : AV), (splice y.cells off x'.cells)[j]? = some d → d.leaf = true := by
    intro j d hd
    have := hspg j d hd
    split at this
    · exact c3 _ d this
    · exact ((hel i y hy).2 j d this).1
  have hmk : (mkElem (C.P.cellsOf e) (splice y.cells off x'.cells) y).cells = splice y.cells off x'.cells := mkElem_cells hsp hsplf
  have hrel := hR.turn (S' := S1) (o' := .row e (xs.set i (mkElem (C.P.cellsOf e) (splice y.cells off x'.cells) y)) false) (w' := w.setRow g (cur.toList.take (i * C.P.cellsOf e + off) ++ (a.eval xo).cells.toList ++ cur.toList.drop (i * C.P.cellsOf e + off + (a.eval xo).cells.size)).toArray) hs1 (Stab.le_refl S1) (by simp [Kin]) (below_setRow hR.below hb _)
    (fun z v hz => by rw [cell_setRow (hnoS z v hz)]; exact hR.agree z v hz)
    (fun s' o1 g' hs' hne hg' => ⟨setRow_other w g g' _ (fun e => hne (hR.dis s' s o1 _ g' hs' hs1 hg' (by rw [e]; exact hbl))), fun _ _ hx _ => hx⟩) (fun _ _ hx => .inl hx)
    (fun ob' hkin => by
      have hget : ∀ k, (cur.toList.take (i * C.P.cellsOf e + off) ++ (a.eval xo).cells.toList ++ cur.toList.drop (i * C.P.cellsOf e + off + (a.eval xo).cells.size))[k]? = if i * C.P.cellsOf e + off ≤ k ∧ k < i * C.P.cellsOf e + off + x'.cells.length then (a.eval xo).cells.toList[k - (i * C.P.cellsOf e + off)]? else cur.toList[k]? := by
        intro k
        rw [show i * C.P.cellsOf e + off + (a.eval xo).cells.size = i * C.P.cellsOf e + off + (a.eval xo).cells.toList.length from by simp, splice_get (by simp; omega)]
        simp only [Array.length_toList, c1]
      have hlen : (cur.toList.take (i * C.P.cellsOf e + off) ++ (a.eval xo).cells.toList ++ cur.toList.drop (i * C.P.cellsOf e + off + (a.eval xo).cells.size)).length = cur.size := by simp; omega
      refine ⟨(cur.toList.take (i * C.P.cellsOf e + off) ++ (a.eval xo).cells.toList ++ cur.toList.drop (i * C.P.cellsOf e + off + (a.eval xo).cells.size)).take (xs.length * C.P.cellsOf e), ⟨?_, .inr ⟨g, c, _, ?_, hb, setRow_heap w g cur _ e _ hh, by simpa using hnc', hcm, ?_, ?_⟩⟩, hsz, ?_, ?_, ?_⟩
      · rw [List.length_take, hlen]; simp; omega
      · rw [hg, List.length_set]
      · rw [List.size_toArray, hlen]; exact hcs
      · simp
      · intro z hz
        obtain ⟨k, hk⟩ := List.getElem?_of_mem hz
        rw [List.getElem?_take] at hk
        split at hk
        · rename_i hkl
          rw [hget k] at hk
          split at hk
          · exact c2 z (List.mem_of_getElem? hk)
          · refine hone z ?_
            rw [← htk]
            refine List.mem_of_getElem? (i := k) ?_
            rw [List.getElem?_take, if_pos hkl]
            exact hk
        · cases hk
      · intro i' z hz
        rw [List.getElem?_set] at hz
        have hcurus : ∀ k v, k < xs.length * C.P.cellsOf e → cur.toList[k]? = some v → us[k]? = some v := by
          intro k v hkl hkv
          rw [← htk, List.getElem?_take, if_pos hkl]; exact hkv
        by_cases hii : i = i'
        · subst hii
          rw [if_pos rfl, if_pos hi] at hz
          cases hz
          rw [hmk]
          refine ⟨by rw [hsp, hylen], fun j d hd => ⟨hsplf j d hd, fun v hv => ?_⟩⟩
          have hjl : j < C.P.cellsOf e := by rw [← hylen, ← hsp]; exact (List.getElem?_eq_some_iff.1 hd).1
          rw [List.getElem?_take, if_pos (flat_lt hi hjl), hget] at hv
          have hd' := hspg j d hd
          by_cases hj : off ≤ j ∧ j < off + x'.cells.length
          · rw [if_pos (by omega)] at hv
            rw [if_pos hj] at hd'
            refine c4 (j - off) d v hd' ?_
            rw [show i * C.P.cellsOf e + j - (i * C.P.cellsOf e + off) = j - off from by omega] at hv
            simpa using hv
          · rw [if_neg (by omega)] at hv
            rw [if_neg hj] at hd'
            exact ((hel i y hy).2 j d hd').2 v (hcurus _ v (flat_lt hi hjl) hv)
        · rw [if_neg hii] at hz
          refine ⟨(hel i' z hz).1, fun j d hd => ⟨((hel i' z hz).2 j d hd).1, fun v hv => ?_⟩⟩
          have hi' : i' < xs.length := (List.getElem?_eq_some_iff.1 hz).1
          have hjl : j < C.P.cellsOf e := by rw [← (hel i' z hz).1]; exact (List.getElem?_eq_some_iff.1 hd).1
          rw [List.getElem?_take, if_pos (flat_lt hi' hjl), hget] at hv
          have hne : ¬ (i * C.P.cellsOf e + off ≤ i' * C.P.cellsOf e + j ∧ i' * C.P.cellsOf e + j < i * C.P.cellsOf e + off + x'.cells.length) := by
            rintro ⟨q1, q2⟩
            rcases Nat.lt_or_gt_of_ne hii with hlt | hlt
            · have : (i + 1) * C.P.cellsOf e ≤ i' * C.P.cellsOf e := Nat.mul_le_mul_right _ hlt
              rw [Nat.add_mul, Nat.one_mul] at this
              omega
            · have : (i' + 1) * C.P.cellsOf e ≤ i * C.P.cellsOf e := Nat.mul_le_mul_right _ hlt
              rw [Nat.add_mul, Nat.one_mul] at this
              omega
          rw [if_neg hne] at hv
          exact ((hel i' z hz).2 j d hd).2 v (hcurus _ v (flat_lt hi' hjl) hv)
      · intro g' hg' z v hz hb'
        rw [hg] at hg'; cases hg'
        exact absurd hb' (hnoS z v hz))
  refine wp_skip' (w' := w.setRow g (cur.toList.take (i * C.P.cellsOf e + off) ++ (a.eval xo).cells.toList ++ cur.toList.drop (i * C.P.cellsOf e + off + (a.eval xo).cells.size)).toArray) ?_ (hn .junk _ [] S1 gv _ _ hk (by rw [put_split, applyU_append]; exact hrel.put0 (v := .junk) trivial o.dst))
  unfold execOp
  simp only [ho, Instr.storeAt, Instr.sureAddr, ep, Sem.run_bind, Sem.run_pure, Result.andThen_ok, hrun]
end ops
end Go.Proofs.YtilbahgfjfcikaaDoor.Eng
