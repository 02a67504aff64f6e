/- What the Order functions take as given beside the Path functions' own: slices.Clone; items as a row hands them in. -/
import Derived.Test.YtelniipccmeooaaDoorS40
import Derived.Test.YtelniipccmeooaaDoorB24
import Derived.Test.YtelniipccmeooaaDoorV40
import Derived.Test.YtelniipccmeooaaDoorApiR
set_option linter.unusedVariables false
set_option linter.unusedSimpArgs false
set_option linter.unusedSectionVars false
namespace Go.Proofs.YtelniipccmeooaaDoor.Eng.U
open Go Go.Proofs Go.Proofs.YtelniipccmeooaaDoor.Eng Go.RowKit

/-- A list that is handed in, by its cells. -/
theorem list_cells {S : Stab} {w : World} {sz : Nat} {xs : List AV} {v : Value} (hag : Agree S w) (hz : 0 < sz) (h : V S (.list sz xs) v) : v = .slice none 0 0 ∧ xs = [] ∨ ∃ (a : Addr) (c : Nat) (news : List Value), v = .slice (some a) xs.length c ∧ news.length = xs.length * sz ∧ (∀ j u, news[j]? = some u → w.cell? (a.add j) = some u) ∧ (∀ u ∈ news, u.oneCell' = true) ∧
    (∀ (i : Nat) (x : AV), xs[i]? = some x → x.cells.length = sz ∧ ∀ (j : Nat) (c : AV), x.cells[j]? = some c → c.leaf = true ∧ ∀ u, news[i * sz + j]? = some u → V S c u) := by
  cases h with
  | list0 _ a c => exact .inr ⟨a, c, [], rfl, by simp, by simp, by simp, by simp⟩
  | listn _ => exact .inl ⟨rfl, rfl⟩
  | list _ _ a c f h0 h1 h2 h3 h4 =>
    have key : ∀ k, k < xs.length * sz → ∃ y d, xs[k / sz]? = some y ∧ y.cells[k % sz]? = some d ∧ k / sz * sz + k % sz = k := by
      intro k hk
      have hd : k / sz < xs.length := Nat.div_lt_of_lt_mul (by rw [Nat.mul_comm]; exact hk)
      have hm : k % sz < sz := Nat.mod_lt _ hz
      have hm' : k % sz < (xs[k / sz]).cells.length := by rw [h1 _ _ (List.getElem?_eq_getElem hd)]; exact hm
      exact ⟨_, _, List.getElem?_eq_getElem hd, List.getElem?_eq_getElem hm', by rw [Nat.mul_comm]; exact Nat.div_add_mod _ _⟩
    have hget : ∀ k u, ((List.range (xs.length * sz)).map fun k => f (k / sz) (k % sz))[k]? = some u → k < xs.length * sz ∧ u = f (k / sz) (k % sz) := by
      intro k u hu
      rw [List.getElem?_map] at hu
      obtain ⟨i, hi, rfl⟩ := Option.map_eq_some_iff.1 hu
      obtain ⟨hlt, rfl⟩ := List.getElem?_eq_some_iff.1 hi
      rw [List.length_range] at hlt
      rw [List.getElem_range]
      exact ⟨hlt, rfl⟩
    refine .inr ⟨a, c, (List.range (xs.length * sz)).map fun k => f (k / sz) (k % sz), rfl, by simp, fun k u hu => ?_, fun u hu => ?_, fun i x hx => ⟨h1 i x hx, fun j d hd => ⟨h2 i x j d hx hd, fun u hu => ?_⟩⟩⟩
    · obtain ⟨hlt, rfl⟩ := hget k u hu
      obtain ⟨y, d, hy, hd, hkk⟩ := key k hlt
      have := h3 _ y _ d hy hd
      rw [hkk] at this
      exact hag _ _ this
    · obtain ⟨k, hk⟩ := List.getElem?_of_mem hu
      obtain ⟨hlt, rfl⟩ := hget k u hk
      obtain ⟨y, d, hy, hd, _⟩ := key k hlt
      exact (h4 _ y _ d hy hd).one (h2 _ y _ d hy hd)
    · obtain ⟨_, rfl⟩ := hget _ u hu
      have hj : j < sz := by rw [← h1 i x hx]; exact (List.getElem?_eq_some_iff.1 hd).1
      rw [show (i * sz + j) / sz = i from by rw [Nat.mul_comm, Nat.mul_add_div hz, Nat.div_eq_of_lt hj]; omega, show (i * sz + j) % sz = j from by rw [Nat.mul_comm, Nat.mul_add_mod, Nat.mod_eq_of_lt hj]]
      exact h4 i x j d hx hd
def pClone (f : FuncId) (sz : Nat) : Piece := { f := f, ans := fun args => match args with
  | [.list s xs] => bif (s == sz) && decide (xs.length ≤ 1000000000) then some (.list s xs) else none
  | _ => none }
theorem clone_right {f : FuncId} {sz : Nat} {e : TypeId} (hz : 0 < sz) (hE : Enters Tryd.prog f) (h0 : ∀ w, Calls Tryd.prog f #[.slice none 0 0] w fun en w' => en = .returned (.slice none 0 0) ∧ w' = w)
    (h1 : ∀ (a : Addr) (m c : Nat) (news : List Value) (w : World), news.length = m * sz → (∀ j u, news[j]? = some u → w.cell? (a.add j) = some u) → (∀ u ∈ news, u.oneCell' = true) → m ≤ 1000000000 →
      Calls Tryd.prog f #[.slice (some a) m c] w fun en w' => ∃ v, en = .returned v ∧ w'.ownsRow w.heap.size e sz v m news ∧ Below w.heap.size w w') : (pClone f sz).Right := by
  refine ⟨hE, fun args res h => ?_⟩
  unfold pClone at h
  dsimp only at h
  split at h
  · rename_i s xs
    obtain ⟨hc, h'⟩ := some_of_bif h
    clear h
    simp only [Bool.and_eq_true, beq_iff_eq, decide_eq_true_eq] at hc
    obtain ⟨rfl, hm⟩ := hc
    obtain rfl := Option.some.inj h'
    refine ok_row (e := e) fun S w vals hag hG hV => ?_
    obtain ⟨v, rfl, hv⟩ := VL_1 hV
    rcases list_cells hag hz hv with ⟨rfl, rfl⟩ | ⟨a, c, news, rfl, g1, g2, g3, g4⟩
    · refine (h0 w).mono ?_
      rintro en w' ⟨rfl, rfl⟩
      exact ⟨_, [], rfl, World.ownsRow_nil _ _ _ _, by simp, Below.refl _ _⟩
    · refine (h1 a xs.length c news w g1 g2 g3 hm).mono ?_
      rintro en w' ⟨v, rfl, ho, hb⟩
      exact ⟨v, news, rfl, ho, g4, hb⟩
  · cases h
def pCloneP : Piece := pClone slices_Clone_api_Pair 2
def pCloneB : Piece := pClone slices_Clone_byte 1
theorem cloneP_right : pCloneP.Right := clone_right (by omega) ⟨Tryd.f77, Tryd.func77, by kernel_rfl, by kernel_rfl⟩ S40.pairs_nil S40.pairs_some
theorem cloneB_right : pCloneB.Right := clone_right (by omega) ⟨Tryd.f78, Tryd.func78, by kernel_rfl, by kernel_rfl⟩ S40.bytes_nil S40.bytes_some
theorem clone_ans {f : FuncId} {sz : Nat} {xs : List AV} (h : xs.length ≤ 1000000000) : (pClone f sz).ans [.list sz xs] = some (.list sz xs) := by
  show (bif (sz == sz) && decide (xs.length ≤ 1000000000) then _ else none) = _
  rw [decide_eq_true h, beq_self_eq_true]
  rfl
def ps40 : List Piece := [pParts, pJoin, pCloneP, pCloneB]
def ext40 : Ext := extOf ps40
instance core40 : Core ext40 := core_of (by kernel_rfl)
instance parts40 : HasParts ext40 := ⟨fun k n s hs => by
  have := kp_piece (ps := ps40) (p := pParts) (k := k) (n := n) (args := [.str (str s)]) rfl
  refine this.trans ?_
  show (bif decide ((str s).size < 1000000) then _ else none) = _
  rw [str_size, decide_eq_true hs]
  rfl⟩
instance join40 : HasJoin ext40 := ⟨fun k n l sep h1 h2 => by
  have := kp_piece (ps := ps40) (p := pJoin) (k := k) (n := n) (args := [.list 1 (svs l), .str (str sep)]) rfl
  refine this.trans ?_
  show (toStrs (svs l)).bind _ = _
  rw [toStrs_svs]
  show (bif (1 == 1) && decide (l.length ≤ 1000000) && decide ((sep.intercalate l).length ≤ 1000000000) then _ else none) = _
  rw [decide_eq_true h1, decide_eq_true h2]
  rfl⟩
instance clone40 : HasClone ext40 where
  pairs k n l h := (kp_piece (ps := ps40) (p := pCloneP) (k := k) (n := n) rfl).trans (clone_ans (by rw [prs_len]; exact h))
  bytes k n l h := (kp_piece (ps := ps40) (p := pCloneB) (k := k) (n := n) rfl).trans (clone_ans (by rw [bys_len]; exact h))
theorem good40 (k : Nat) : (bs ext40 k).Good := good_of (fun p hp => by
  rcases List.mem_cons.1 hp with rfl | hp
  · exact parts_right
  rcases List.mem_cons.1 hp with rfl | hp
  · exact join_right
  rcases List.mem_cons.1 hp with rfl | hp
  · exact cloneP_right
  · rw [List.mem_singleton.1 hp]; exact cloneB_right) names_ok k
theorem bd_of {l : List Item} (g : G_LapiItem l) : (∀ x ∈ l, BdI x) ∧ l.length < 1000000000000 ∧ ∀ x ∈ l, x.head.extra.length < 10000000000000 := by
  refine ⟨fun x hx => ?_, by have := g.1; omega, fun x hx => ?_⟩
  · obtain ⟨h, d⟩ := g.2 x hx
    exact ⟨h.name, h.link, h.user, h.group, d, fun p hp => ⟨(h.pairs p hp).key, (h.pairs p hp).val⟩⟩
  · have := (g.2 x hx).head.extra
    omega
theorem sorts40 (l : List Item) (i j : Int) (g : G_LapiItem l) (_ : -9223372036854775808 ≤ i ∧ i ≤ 9223372036854775807) (_ : -9223372036854775808 ≤ j ∧ j ≤ 9223372036854775807) : (bs ext40 10000000000000).kap 10 law40_OrderSorts [.list 15 (its l), .int .i64 i, .int .i64 j] = some (.bool true) := by
  obtain ⟨h1, h2, h3⟩ := bd_of g
  exact orderSorts_true (E := ext40) (k := 10000000000000) (n := 0) l i j h1 h2 (by omega) (fun x hx => ⟨h3 x hx, by have := h3 x hx; omega⟩) (by omega)
theorem stays40 (l : List Item) (g : G_LapiItem l) : (bs ext40 10000000000000).kap 10 law40_OrderStays [.list 15 (its l)] = some (.bool true) := by
  obtain ⟨h1, h2, h3⟩ := bd_of g
  exact orderStays_true (E := ext40) (k := 10000000000000) (n := 0) l h1 h2 (by omega) (fun x hx => ⟨h3 x hx, by have := h3 x hx; omega⟩) (by omega)
end Go.Proofs.YtelniipccmeooaaDoor.Eng.U
