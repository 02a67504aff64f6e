/- What the Utf functions take as given, shown; the functions' base is good. -/
import Derived.Test.YtelniipccmeooaaDoorR05
import Derived.Test.YtelniipccmeooaaDoorS05
set_option linter.unusedVariables false
set_option linter.unusedSimpArgs false
namespace Go.Proofs.YtelniipccmeooaaDoor.Eng.U
open Go Go.Proofs Go.Proofs.YtelniipccmeooaaDoor.Eng Go.RowKit

theorem agree_below {S : Stab} {w w' : World} (h : Agree S w) (hb : Below w.heap.size w w') : Agree S w' := fun x v hx =>
  (World.cell?_of_block (hb.block _ (World.block_lt_of_cell? w x (h x v hx)))).trans (h x v hx)
theorem glob_cell {S : Stab} {w : World} (h : Agree S w) (hG : GlobOk glob S) {g : Nat} {cs : List AV} (hg : glob g = some cs) {j : Nat} {k : IntKind} {n : Int} (hc : cs[j]? = some (.int k n)) : w.cell? ⟨g, j, none⟩ = some (.int k n) := by
  have hV := hG g cs hg
  generalize hp : Value.pointer (some ⟨g, 0, none⟩) = p at hV
  cases hV with
  | eptr _ _ a f h2 h3 h4 =>
    have e : a = ⟨g, 0, none⟩ := by
      injection hp with hp
      injection hp with hp
      obtain ⟨b, o, s⟩ := a
      cases s with
      | none => simp [Addr.add] at hp; obtain ⟨rfl, rfl⟩ := hp; rfl
      | some s => simp [Addr.add] at hp
    subst e
    have h5 := h _ _ (h3 j _ hc)
    have h6 := h4 j _ hc
    generalize f j = v at h5 h6
    cases h6
    rw [add_lit', Nat.zero_add] at h5
    exact h5
theorem tabs {S : Stab} {w : World} (h : Agree S w) (hG : GlobOk glob S) : Lib.Utf8Tabs 0 1 w := by
  refine ⟨fun c hc => ?_, fun i hi => ⟨?_, ?_⟩⟩
  · exact glob_cell h hG (g := 0) rfl (by rw [List.getElem?_map, List.getElem?_range hc]; rfl)
  · refine glob_cell h hG (g := 1) rfl (by rw [List.getElem?_map, List.getElem?_range (by omega)]; simp only [Option.map_some, Nat.mul_mod_right, if_true, show 2 * i / 2 = i from by omega])
  · refine glob_cell h hG (g := 1) rfl (by rw [List.getElem?_map, List.getElem?_range (by omega)]; simp only [Option.map_some, show (2 * i + 1) % 2 = 1 from by omega, show (2 * i + 1) / 2 = i from by omega]; rfl)
theorem VL_one {S : Stab} {x : AV} {vals : List Value} (h : VL S [x] vals) : ∃ v, vals = [v] ∧ V S x v := by
  obtain ⟨h1, h2⟩ := h
  match vals, h1 with
  | [v], _ => exact ⟨v, rfl, h2 0 _ _ rfl rfl⟩
theorem V_str {S : Stab} {s : ByteArray} {v : Value} (h : V S (.str s) v) : v = .string s := by cases h; rfl
theorem enters17 : Enters Tryd.prog 17 := ⟨Tryd.f17, Tryd.func17, by kernel_rfl, by kernel_rfl⟩
theorem enters69 : Enters Tryd.prog 69 := ⟨Tryd.f69, Tryd.func69, by kernel_rfl, by kernel_rfl⟩
theorem mend_same (s : ByteArray) : ∀ n pos, S05.mendFrom s n pos = mendL s n pos
  | 0, _ => rfl
  | n + 1, pos => by simp only [S05.mendFrom, mendL, mend_same s n]
theorem ok17 {s : ByteArray} (hs : s.size ≤ 35184372088832) : Ok Tryd.prog glob 17 [.str s] (.str (mendS s)) := by
  intro S w vals hag hG hV
  obtain ⟨v, rfl, hv⟩ := VL_one hV
  obtain rfl := V_str hv
  refine (S05.Mend_walk s w hs).mono ?_
  rintro e w' ⟨rfl, hb⟩
  rw [mend_same]
  exact ⟨_, S, rfl, fun _ _ h => h, agree_below hag hb, fun _ _ h => .inl h, hb, V.str _⟩
theorem ok69 (s : ByteArray) : Ok Tryd.prog glob 69 [.str s] (.tup [.int .i32 ((goDec s).1 : Int), .int .i64 ((goDec s).2 : Int)]) := by
  intro S w vals hag hG hV
  obtain ⟨v, rfl, hv⟩ := VL_one hV
  obtain rfl := V_str hv
  refine (Tryd.utf8_DecodeRuneInString s w (tabs hag hG)).mono ?_
  rintro e w' ⟨rfl, hb⟩
  refine ⟨_, S, rfl, fun _ _ h => h, agree_below hag hb, fun _ _ h => .inl h, hb, [.int .i32 ((goDec s).1 : Int), .int .i64 ((goDec s).2 : Int)], rfl, rfl, fun j c u hc hu => ?_, fun i j c d u v g hc hd hf => ?_⟩
  · match j, hc, hu with
    | 0, hc, hu => cases hc; cases hu; exact V.int _ _
    | 1, hc, hu => cases hc; cases hu; exact V.int _ _
  · match i, hc with
    | 0, hc => cases hc; cases hf
    | 1, hc => cases hc; cases hf
theorem good (k : Nat) : (bs k).Good where
  mixed := by kernel_rfl
  names := by kernel_rfl
  base f args res hb h := by
    change base f args = some res at h
    unfold base at h
    split at h
    · rename_i s
      cases h69 : f == 69 with
      | true =>
        rw [h69, cond_true] at h
        obtain rfl : f = 69 := by simpa using h69
        obtain rfl := Option.some.inj h
        exact ⟨enters69, ok69 s⟩
      | false =>
        rw [h69, cond_false] at h
        obtain ⟨hc, h'⟩ := some_of_bif h
        simp only [Bool.and_eq_true, beq_iff_eq, decide_eq_true_eq] at hc
        obtain ⟨rfl, hs⟩ := hc
        obtain rfl := Option.some.inj h'
        exact ⟨enters17, ok17 hs⟩
    · cases h
end Go.Proofs.YtelniipccmeooaaDoor.Eng.U
