/- What the Path functions take as given: path.Parts (its iterator), strings.Join. -/
import Derived.Test.YtelniipccmeooaaDoorExt
import Derived.Test.YtelniipccmeooaaDoorS24
import Derived.Test.YtelniipccmeooaaDoorV24
set_option linter.unusedVariables false
set_option linter.unusedSectionVars false
set_option linter.unusedSimpArgs false
namespace Go.Proofs.YtelniipccmeooaaDoor.Eng.U
open Go Go.Proofs Go.Proofs.YtelniipccmeooaaDoor.Eng Go.RowKit Go.Proofs.YtelniipccmeooaaDoor.P24

def pParts : Piece := { f := path_Parts, ans := fun args => match args with
  | [.str s] => bif decide (s.size < 1000000) then some (.list 1 (svs (partsL s.data.toList))) else none
  | _ => none }
def pJoin : Piece := { f := strings_Join, ans := fun args => match args with
  | [.list sz xs, .str sep] => (toStrs xs).bind fun l => bif (sz == 1) && decide (l.length ≤ 1000000) && decide ((sep.data.toList.intercalate l).length ≤ 1000000000) then some (.str (str (sep.data.toList.intercalate l))) else none
  | _ => none }
theorem str_self (s : ByteArray) : str s.data.toList = s := by cases s; simp [str]
theorem svs_cells {S : Stab} (l : List (List UInt8)) (i : Nat) (x : AV) (hx : (svs l)[i]? = some x) : x.cells.length = 1 ∧ ∀ (j : Nat) (c : AV), x.cells[j]? = some c → c.leaf = true ∧ ∀ u, (l.map fun p => Value.string (str p))[i * 1 + j]? = some u → V S c u := by
  unfold svs at hx
  rw [List.getElem?_map] at hx
  obtain ⟨p, hp, rfl⟩ := Option.map_eq_some_iff.1 hx
  refine ⟨rfl, fun j c hc => ?_⟩
  cases j with
  | zero =>
    obtain rfl : AV.str (str p) = c := by simpa [sv, AV.cells] using hc
    refine ⟨rfl, fun u hu => ?_⟩
    rw [Nat.mul_one, Nat.add_zero, List.getElem?_map, hp] at hu
    cases hu
    exact .str _
  | succ j => simp [sv, AV.cells] at hc
theorem parts_right : pParts.Right := by
  refine ⟨⟨Tryd.f30, Tryd.func30, by kernel_rfl, by kernel_rfl⟩, fun args res h => ?_⟩
  unfold pParts at h
  dsimp only at h
  split at h
  · rename_i s
    obtain ⟨hs, h⟩ := some_of_bif h
    have hs := of_decide_eq_true hs
    cases h
    refine ok_row (e := 9) fun S w vals hag hG hV => ?_
    obtain ⟨v, rfl, hv⟩ := VL_1 hV
    obtain rfl := V_str hv
    have := S24.Parts_walk s.data.toList w hs
    rw [str_self] at this
    refine this.mono ?_
    rintro e w' ⟨v, rfl, ho, hb⟩
    exact ⟨v, _, rfl, by rw [svs_len]; exact ho, svs_cells _, hb⟩
  · cases h
theorem join_right : pJoin.Right := by
  refine ⟨⟨Tryd.f57, Tryd.func57, by kernel_rfl, by kernel_rfl⟩, fun args res h => ?_⟩
  unfold pJoin at h
  dsimp only at h
  split at h
  · rename_i sz xs sep
    obtain ⟨l, hl, h⟩ := Option.bind_eq_some_iff.1 h
    obtain ⟨hc, h'⟩ := some_of_bif h
    clear h
    simp only [Bool.and_eq_true, beq_iff_eq, decide_eq_true_eq] at hc
    obtain ⟨⟨rfl, h1⟩, h2⟩ := hc
    obtain rfl := Option.some.inj h'
    obtain rfl := toStrs_some hl
    refine ok_pure ⟨rfl, rfl⟩ fun S w vals hag hG hV => ?_
    obtain ⟨v, u, rfl, hv, hu⟩ := VL_2 hV
    obtain rfl := V_str hu
    have key : ∀ (l : List (List UInt8)), (l.map str).map (fun s => s.data.toList) = l := by
      intro l
      rw [List.map_map]
      conv => rhs; rw [← List.map_id l]
      rfl
    have none_case : ∀ (a : Option Addr) (c : Nat), Calls Tryd.prog strings_Join #[.slice a 0 c, .string sep] w fun e w' => ∃ v, e = .returned v ∧ (∀ S', V S' (.str (str (sep.data.toList.intercalate ([] : List (List UInt8))))) v) ∧ Below w.heap.size w w' := by
      intro a c
      refine (Tryd.strings_Join_none a c sep w).mono ?_
      rintro e w' ⟨rfl, rfl⟩
      exact ⟨_, rfl, fun S' => V.str _, Below.refl _ _⟩
    cases l with
    | nil =>
      cases hv with
      | list0 _ a c => exact none_case _ _
      | listn _ => exact none_case _ _
      | list _ _ a c f => exact none_case _ _
    | cons p l =>
      have hv : V S (.list 1 (svs (p :: l))) v := hv
      generalize hxs : svs (p :: l) = xs at hv
      cases hv with
      | list0 _ a c => simp [svs] at hxs
      | listn _ => simp [svs] at hxs
      | list _ _ a c f g0 g1 g2 g3 g4 =>
        subst hxs
        have hcell : ∀ (j : Nat) (x : List UInt8), (p :: l)[j]? = some x → w.cell? (a.add (j * 1 + 0)) = some (.string (str x)) := by
          intro j x hx
          have hsx : (svs (p :: l))[j]? = some (sv x) := by unfold svs; rw [List.getElem?_map, hx]; rfl
          have h3 := g3 j (sv x) 0 (.str (str x)) hsx rfl
          have h4 := g4 j (sv x) 0 (.str (str x)) hsx rfl
          rw [V_str h4] at h3
          exact hag _ _ h3
        have ha : a.spot = none := by
          have := hcell 0 p rfl
          apply Classical.byContradiction
          intro hs
          obtain ⟨b, o, s⟩ := a
          cases s with
          | none => exact hs rfl
          | some s =>
            simp [Addr.add, World.cell?] at this
            split at this <;> cases this
        obtain ⟨b, o, s⟩ := a
        obtain rfl : s = none := ha
        have hlen : ((p :: l).map str).length = (svs (p :: l)).length := by simp [svs]
        have hlt : b < w.heap.size := by
          have := World.block_lt_of_cell? w _ (hcell 0 p rfl)
          simpa [Addr.add] using this
        have := Tryd.strings_Join b o c ((p :: l).map str) sep w (fun j x hx => by
          rw [List.getElem?_map] at hx
          obtain ⟨y, hy, rfl⟩ := Option.map_eq_some_iff.1 hx
          have := hcell j y hy
          rwa [add_lit', show o + (j * 1 + 0) = o + j from by omega] at this) hlt (by rw [hlen, svs_len]; omega) (by rw [hlen]; exact g0) (by rw [key]; unfold Lib.join; omega)
        rw [hlen, key] at this
        refine this.mono ?_
        rintro e w' ⟨rfl, hb⟩
        exact ⟨_, rfl, fun S' => V.str _, hb⟩
  · cases h
/-- The pieces of the Path laws. -/
def ps24 : List Piece := [pParts, pJoin]
def ext24 : Ext := extOf ps24
instance core24 : Core ext24 := core_of (by kernel_rfl)
instance parts24 : HasParts ext24 := ⟨fun k n s hs => by
  have := kp_piece (ps := ps24) (p := pParts) (k := k) (n := n) (args := [.str (str s)]) rfl
  refine this.trans ?_
  show (bif decide ((str s).size < 1000000) then _ else none) = _
  rw [str_size, decide_eq_true hs]
  rfl⟩
instance join24 : HasJoin ext24 := ⟨fun k n l sep h1 h2 => by
  have := kp_piece (ps := ps24) (p := pJoin) (k := k) (n := n) (args := [.list 1 (svs l), .str (str sep)]) rfl
  refine this.trans ?_
  show (toStrs (svs l)).bind _ = _
  rw [toStrs_svs]
  show (bif (1 == 1) && decide (l.length ≤ 1000000) && decide ((sep.intercalate l).length ≤ 1000000000) then _ else none) = _
  rw [decide_eq_true h1, decide_eq_true h2]
  rfl⟩
theorem good24 (k : Nat) : (bs ext24 k).Good := good_of (fun p hp => by
  rcases List.mem_cons.1 hp with rfl | hp
  · exact parts_right
  · rw [List.mem_singleton.1 hp]; exact join_right) names_ok k
theorem forms24 (s : List UInt8) (c : Int) (hs : s.length ≤ 140737488351232) (hc : -9223372036854775808 ≤ c ∧ c ≤ 9223372036854775807) : (bs ext24 20000).kap 7 law24_PathForms [.str (str s), .int .i64 c] = some (.bool true) :=
  pathForms_true (E := ext24) (k := 20000) (n := 0) s c (by omega)
theorem pairs24 (s dir : List UInt8) (hs : s.length ≤ 140737488351232) (hd : dir.length ≤ 140737488351232) : (bs ext24 20000).kap 7 law24_PathPairs [.str (str s), .str (str dir)] = some (.bool true) :=
  pathPairs_true (E := ext24) (k := 20000) (n := 0) s dir (by omega) (by omega) (by omega)
theorem stays24 (s dir : List UInt8) (hs : s.length ≤ 140737488351232) (hd : dir.length ≤ 140737488351232) : (bs ext24 20000).kap 7 law24_PathStays [.str (str s), .str (str dir)] = some (.bool true) :=
  pathStays_true (E := ext24) (k := 20000) (n := 0) s dir (by omega) (by omega) (by omega)
end Go.Proofs.YtelniipccmeooaaDoor.Eng.U
