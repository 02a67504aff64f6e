/- Several texts of this proof in one file: B09, B20, B21, X20, U20h, Rd20, RH, U20r, V20c, V20b. -/
import Derived.Test.YtogfcfgfkggmlaaGreatDoorMTaleBack1
import Derived.Test.YtogfcfgfkggmlaaGreatDoorMTaleBack0
/- ItemFulls over the library's pieces: strings.IndexAny at "=\\x00", decoding beside the numbers' own. -/
set_option linter.unusedVariables false
set_option linter.unusedSectionVars false
set_option linter.unusedSimpArgs false
namespace Go.Proofs.YtogfcfgfkggmlaaGreatDoor.Eng.U
open Go Go.Proofs Go.Proofs.YtogfcfgfkggmlaaGreatDoor.Eng Go.RowKit

/-- The tables of the decoder, off the variables. -/
theorem utf_tabs {S : Stab} {w : World} (hag : Agree S w) (hG : GlobOk glob S w) : Lib.Utf8Tabs 5 6 w := by
  refine ⟨fun c hc => ?_, fun i hi => ?_⟩
  · obtain ⟨u, hu, hv⟩ := glob_cell (g := 5) hag hG rfl c (.int .u8 (Lib.firstT c : Int)) (by rw [List.getElem?_map, List.getElem?_range hc]; rfl)
    rw [V_int hv] at hu
    exact hu
  · obtain ⟨u, hu, hv⟩ := glob_cell (g := 6) hag hG rfl (2 * i) (.int .u8 (Lib.accLo i : Int)) (by
      rw [List.getElem?_map, List.getElem?_range (by omega)]
      show some (AV.int .u8 (((if 2 * i % 2 = 0 then Lib.accLo (2 * i / 2) else Lib.accHi (2 * i / 2) : Nat) : Int))) = _
      rw [if_pos (by omega), show 2 * i / 2 = i from by omega])
    obtain ⟨u', hu', hv'⟩ := glob_cell (g := 6) hag hG rfl (2 * i + 1) (.int .u8 (Lib.accHi i : Int)) (by
      rw [List.getElem?_map, List.getElem?_range (by omega)]
      show some (AV.int .u8 (((if (2 * i + 1) % 2 = 0 then Lib.accLo ((2 * i + 1) / 2) else Lib.accHi ((2 * i + 1) / 2) : Nat) : Int))) = _
      rw [if_neg (by omega), show (2 * i + 1) / 2 = i from by omega])
    rw [V_int hv] at hu
    rw [V_int hv'] at hu'
    exact ⟨hu, hu'⟩
def pDec : Piece := { f := unicode_utf8_DecodeRuneInString, ans := fun args => match args with
  | [.str s] => some (.tup [.int .i32 (Lib.decodeGo s).1, .int .i64 (Lib.decodeGo s).2])
  | _ => none }
theorem dec_right : pDec.Right := by
  refine ⟨⟨Tryz.f271, Tryz.func271, by kernel_rfl, by kernel_rfl⟩, fun args res h => ?_⟩
  unfold pDec at h
  dsimp only at h
  split at h
  · rename_i s
    obtain rfl := Option.some.inj h
    refine ok_tup rfl fun S w vals hag hG hV => ?_
    obtain ⟨v, rfl, hv⟩ := VL_1 hV
    obtain rfl := V_str hv
    refine (Tryz.utf8_DecodeRuneInString s w (utf_tabs hag hG)).mono ?_
    rintro e w' ⟨rfl, hb⟩
    exact ⟨[_, _], rfl, rfl, fun S' => V2 (V.int _ _) (V.int _ _), hb⟩
  · cases h
def ps09a : List Piece := [pFmt, pItoa, pCutP, pTrimR, pIndex, pIndexByte, pRepeat, pPInt, pPUint, pDec]
def ext09a : Ext := { extOf ps09a with fs := strings_IndexAny :: coreFs }
theorem good09b (k : Nat) : (bs (extOf ps09a) k).Good := good_of (fun p hp => by
  simp only [ps09a, List.mem_cons, List.not_mem_nil, or_false] at hp
  rcases hp with rfl | rfl | rfl | rfl | rfl | rfl | rfl | rfl | rfl | rfl
  · exact fmt_right
  · exact itoa_right
  · exact cutP_right
  · exact trimR_right
  · exact index_right
  · exact indexByte_right
  · exact repeat_right
  · exact pInt_right
  · exact pUint_right
  · exact dec_right) names_ok k
theorem good09a (k : Nat) : (bs ext09a k).Good := { mixed := by kernel_rfl, names := by kernel_rfl, base := (good09b k).base }
instance core09a : Core ext09a where
  isB f hf := (core_of (ps := ps09a) (by kernel_rfl)).isB f hf
  has f hf := by
    show (strings_IndexAny :: coreFs).contains f = true
    rw [List.contains_cons, hf, Bool.or_true]
instance ib09a : HasIB ext09a := ⟨fun k n s c => (kp_base (E := ext09a) (by kernel_rfl)).trans rfl⟩
noncomputable def pAny : Piece := { f := strings_IndexAny, ans := fun args => match args with
  | [.str s, .str c] => bif decide (c = str [61, 0]) && decide (s.size ≤ 1000000) then (bif decide (8 < s.size) then some (.int .i64 (Lib.indexAny s.data.toList [61, 0])) else (bs ext09a 100).kap 3 strings_IndexAny [.str s, .str c]) else none
  | _ => none }
theorem any_right : pAny.Right := by
  refine ⟨⟨Tryz.f210, Tryz.func210, by kernel_rfl, by kernel_rfl⟩, fun args res h => ?_⟩
  unfold pAny at h
  dsimp only at h
  split at h
  · rename_i s c
    obtain ⟨hc, h'⟩ := some_of_bif h
    clear h
    simp only [Bool.and_eq_true, decide_eq_true_eq] at hc
    obtain ⟨rfl, h1⟩ := hc
    by_cases h8 : 8 < s.size
    · rw [decide_eq_true h8, cond_true] at h'
      obtain rfl := Option.some.inj h'
      refine ok_pure ⟨rfl, rfl⟩ fun S w vals hag hG hV => ?_
      obtain ⟨v, u, rfl, hv, hu⟩ := VL_2 hV
      obtain rfl := V_str hv
      obtain rfl := V_str hu
      have h2 : ∀ (j : Nat) b, (str [61, 0]).data.toList[j]? = some b → b.toNat < 128 := by
        intro j b hb
        match j, hb with
        | 0, hb => cases hb; decide
        | 1, hb => cases hb; decide
        | j + 2, hb => simp [str] at hb
      refine (Tryz.strings_IndexAny_long (fun w => by kernel_rfl) s (str [61, 0]) w (by decide) h8 (by omega) (by decide) h2).mono ?_
      rintro e w' ⟨rfl, rfl⟩
      exact ⟨_, rfl, fun S' => V.int _ _, ((Below.refl _ _).alloc (Nat.le_refl _) _).alloc (by simp) _⟩
    · rw [decide_eq_false h8, cond_false] at h'
      exact Base.ok (good09a 100) h'
  · cases h
noncomputable def ps09 : List Piece := [pFmt, pItoa, pCutP, pTrimR, pIndex, pIndexByte, pRepeat, pPInt, pPUint, pDec, pAny]
noncomputable def ext09 : Ext := extOf ps09
instance core09 : Core ext09 := core_of (by kernel_rfl)
instance num09 : HasNum ext09 := num_of rfl rfl rfl rfl rfl rfl rfl rfl rfl
instance text09 : HasText ext09 where
  dec k n s := ⟨_, _, (kp_piece (ps := ps09) (p := pDec) (k := k) (n := n) (args := [.str (str s)]) rfl).trans rfl⟩
  idx k n s hs := by
    have h := kp_piece (ps := ps09) (p := pAny) (k := k) (n := n) (args := [.str (str s), .str (str [61, 0])]) rfl
    have e : pAny.ans [.str (str s), .str (str [61, 0])] = (bif decide (str [61, 0] = str [61, 0]) && decide ((str s).size ≤ 1000000) then (bif decide (8 < (str s).size) then some (.int .i64 (Lib.indexAny (str s).data.toList [61, 0])) else (bs ext09a 100).kap 3 strings_IndexAny [.str (str s), .str (str [61, 0])]) else none) := rfl
    rw [e, str_size, decide_eq_true rfl, decide_eq_true hs, Bool.true_and, cond_true] at h
    by_cases h8 : 8 < s.length
    · rw [decide_eq_true h8, cond_true] at h
      exact ⟨_, h⟩
    · rw [decide_eq_false h8, cond_false] at h
      obtain ⟨r, hr⟩ := any_short (E := ext09a) (k := 100) (n := 0) (by kernel_rfl) (by kernel_rfl) (by omega) s (by omega)
      exact ⟨r, h.trans hr⟩
instance textV09 : HasTextV ext09 where
  dec k n s := (kp_piece (ps := ps09) (p := pDec) (k := k) (n := n) (args := [.str s]) rfl).trans rfl
  idx k n s hs := by
    have h := kp_piece (ps := ps09) (p := pAny) (k := k) (n := n) (args := [.str (str s), .str (str [61, 0])]) rfl
    have e : pAny.ans [.str (str s), .str (str [61, 0])] = (bif decide (str [61, 0] = str [61, 0]) && decide ((str s).size ≤ 1000000) then (bif decide (8 < (str s).size) then some (.int .i64 (Lib.indexAny (str s).data.toList [61, 0])) else (bs ext09a 100).kap 3 strings_IndexAny [.str (str s), .str (str [61, 0])]) else none) := rfl
    rw [e, str_size, decide_eq_true rfl, decide_eq_true hs, Bool.true_and, cond_true] at h
    by_cases h8 : 8 < s.length
    · rw [decide_eq_true h8, cond_true] at h
      exact ⟨_, h, any_long_v s⟩
    · rw [decide_eq_false h8, cond_false] at h
      obtain ⟨r, hr, hv⟩ := any_short_v (E := ext09a) (k := 100) (n := 0) (by kernel_rfl) (by kernel_rfl) (by omega) s (by omega)
      exact ⟨r, h.trans hr, hv⟩
end Go.Proofs.YtogfcfgfkggmlaaGreatDoor.Eng.U


/- strings.Join as a piece (for seats that have no paths). -/
set_option linter.unusedVariables false
set_option linter.unusedSectionVars false
set_option linter.unusedSimpArgs false
namespace Go.Proofs.YtogfcfgfkggmlaaGreatDoor.Eng.U
open Go Go.Proofs Go.Proofs.YtogfcfgfkggmlaaGreatDoor.Eng Go.RowKit

def pJoin : Piece := { f := strings_Join, ans := fun args => match args with
  | [.list sz xs, .str sep] => (toStrs xs).bind fun l => bif (sz == 1) && decide (l.length ≤ 1000000) && decide ((sep.data.toList.intercalate l).length ≤ 1000000000) then some (.str (str (sep.data.toList.intercalate l))) else none
  | _ => none }
theorem join_right : pJoin.Right := by
  refine ⟨⟨Tryz.f109, Tryz.func109, by kernel_rfl, by kernel_rfl⟩, fun args res h => ?_⟩
  unfold pJoin at h
  dsimp only at h
  split at h
  · rename_i sz xs sep
    obtain ⟨l, hl, h⟩ := Option.bind_eq_some_iff.1 h
    obtain ⟨hc, h'⟩ := some_of_bif h
    clear h
    simp only [Bool.and_eq_true, beq_iff_eq, decide_eq_true_eq] at hc
    obtain ⟨⟨rfl, h1⟩, h2⟩ := hc
    obtain rfl := Option.some.inj h'
    obtain rfl := toStrs_some hl
    refine ok_pure ⟨rfl, rfl⟩ fun S w vals hag hG hV => ?_
    obtain ⟨v, u, rfl, hv, hu⟩ := VL_2 hV
    obtain rfl := V_str hu
    have key : ∀ (l : List (List UInt8)), (l.map str).map (fun s => s.data.toList) = l := by
      intro l
      rw [List.map_map]
      conv => rhs; rw [← List.map_id l]
      rfl
    have none_case : ∀ (a : Option Addr) (c : Nat), Calls Tryz.prog strings_Join #[.slice a 0 c, .string sep] w fun e w' => ∃ v, e = .returned v ∧ (∀ S', V S' (.str (str (sep.data.toList.intercalate ([] : List (List UInt8))))) v) ∧ Below w.heap.size w w' := by
      intro a c
      refine (Tryz.strings_Join_none a c sep w).mono ?_
      rintro e w' ⟨rfl, rfl⟩
      exact ⟨_, rfl, fun S' => V.str _, Below.refl _ _⟩
    cases l with
    | nil =>
      cases hv with
      | list0 _ a c => exact none_case _ _
      | listn _ => exact none_case _ _
      | list _ _ a c f => exact none_case _ _
    | cons p l =>
      have hv : V S (.list 1 (svs (p :: l))) v := hv
      generalize hxs : svs (p :: l) = xs at hv
      cases hv with
      | list0 _ a c => simp [svs] at hxs
      | listn _ => simp [svs] at hxs
      | list _ _ a c f g0 g1 g2 g3 g4 =>
        subst hxs
        have hcell : ∀ (j : Nat) (x : List UInt8), (p :: l)[j]? = some x → w.cell? (a.add (j * 1 + 0)) = some (.string (str x)) := by
          intro j x hx
          have hsx : (svs (p :: l))[j]? = some (sv x) := by unfold svs; rw [List.getElem?_map, hx]; rfl
          have h3 := g3 j (sv x) 0 (.str (str x)) hsx rfl
          have h4 := g4 j (sv x) 0 (.str (str x)) hsx rfl
          rw [V_str h4] at h3
          exact hag _ _ h3
        have ha : a.spot = none := by
          have := hcell 0 p rfl
          apply Classical.byContradiction
          intro hs
          obtain ⟨b, o, s⟩ := a
          cases s with
          | none => exact hs rfl
          | some s =>
            simp [Addr.add, World.cell?] at this
            split at this <;> cases this
        obtain ⟨b, o, s⟩ := a
        obtain rfl : s = none := ha
        have hlen : ((p :: l).map str).length = (svs (p :: l)).length := by simp [svs]
        have hlt : b < w.heap.size := by
          have := World.block_lt_of_cell? w _ (hcell 0 p rfl)
          simpa [Addr.add] using this
        have := Tryz.strings_Join b o c ((p :: l).map str) sep w (fun j x hx => by
          rw [List.getElem?_map] at hx
          obtain ⟨y, hy, rfl⟩ := Option.map_eq_some_iff.1 hx
          have := hcell j y hy
          rwa [add_lit', show o + (j * 1 + 0) = o + j from by omega] at this) hlt (by rw [hlen, svs_len]; omega) (by rw [hlen]; exact g0) (by rw [key]; unfold Lib.join; omega)
        rw [hlen, key] at this
        refine this.mono ?_
        rintro e w' ⟨rfl, hb⟩
        exact ⟨_, rfl, fun S' => V.str _, hb⟩
  · cases h
end Go.Proofs.YtogfcfgfkggmlaaGreatDoor.Eng.U


/- strings.Count at a text of one byte, as a piece. -/
set_option linter.unusedVariables false
set_option linter.unusedSectionVars false
set_option linter.unusedSimpArgs false
namespace Go.Proofs.YtogfcfgfkggmlaaGreatDoor.Eng.U
open Go Go.RowKit Go.Proofs Go.Proofs.YtogfcfgfkggmlaaGreatDoor.Eng

def pCount : Piece := { f := strings_Count, ans := fun args => match args with
  | [.str s, .str c] => (one c).bind fun x => some (.int .i64 ((Lib.countByte s.data.toList x : Nat) : Int))
  | _ => none }
theorem count_right : pCount.Right := by
  refine ⟨⟨Tryz.f233, Tryz.func233, by kernel_rfl, by kernel_rfl⟩, fun args res h => ?_⟩
  unfold pCount at h
  dsimp only at h
  split at h
  · rename_i s c
    obtain ⟨x, hx, h⟩ := Option.bind_eq_some_iff.1 h
    obtain rfl := one_some hx
    obtain rfl := Option.some.inj h
    refine ok_pure ⟨rfl, rfl⟩ fun S w vals hag hG hV => ?_
    obtain ⟨v, u, rfl, hv, hu⟩ := VL_2 hV
    obtain rfl := V_str hv
    obtain rfl := V_str hu
    refine (Tryz.strings_Count_one s x w).mono ?_
    rintro e w' ⟨rfl, rfl⟩
    exact ⟨_, rfl, fun S' => V.int _ _, Below.refl _ _⟩
  · cases h
end Go.Proofs.YtogfcfgfkggmlaaGreatDoor.Eng.U


/- The library's functions, text.Quote and strings.Join, given together. -/
set_option linter.unusedVariables false
set_option linter.unusedSectionVars false
set_option linter.unusedSimpArgs false
namespace Go.Proofs.YtogfcfgfkggmlaaGreatDoor.Eng.U
open Go Go.RowKit Go.Proofs Go.Proofs.YtogfcfgfkggmlaaGreatDoor.Eng

noncomputable def ps20 : List Piece := [pFmt, pItoa, pCutP, pTrimR, pIndex, pIndexByte, pRepeat, pPInt, pPUint, pDec, pAny, pQuote, pJoin, pCount]
noncomputable def ext20 : Ext := extOf ps20
instance core20 : Core ext20 := core_of (by kernel_rfl)
instance num20 : HasNum ext20 := num_of rfl rfl rfl rfl rfl rfl rfl rfl rfl
instance text20 : HasText ext20 where
  dec k n s := ⟨_, _, (kp_piece (ps := ps20) (p := pDec) (k := k) (n := n) (args := [.str (str s)]) rfl).trans rfl⟩
  idx k n s hs := by
    have h := kp_piece (ps := ps20) (p := pAny) (k := k) (n := n) (args := [.str (str s), .str (str [61, 0])]) rfl
    have e : pAny.ans [.str (str s), .str (str [61, 0])] = (bif decide (str [61, 0] = str [61, 0]) && decide ((str s).size ≤ 1000000) then (bif decide (8 < (str s).size) then some (.int .i64 (Lib.indexAny (str s).data.toList [61, 0])) else (bs ext09a 100).kap 3 strings_IndexAny [.str (str s), .str (str [61, 0])]) else none) := rfl
    rw [e, str_size, decide_eq_true rfl, decide_eq_true hs, Bool.true_and, cond_true] at h
    by_cases h8 : 8 < s.length
    · rw [decide_eq_true h8, cond_true] at h
      exact ⟨_, h⟩
    · rw [decide_eq_false h8, cond_false] at h
      obtain ⟨r, hr⟩ := any_short (E := ext09a) (k := 100) (n := 0) (by kernel_rfl) (by kernel_rfl) (by omega) s (by omega)
      exact ⟨r, h.trans hr⟩
instance textV20 : HasTextV ext20 where
  dec k n s := (kp_piece (ps := ps20) (p := pDec) (k := k) (n := n) (args := [.str s]) rfl).trans rfl
  idx k n s hs := by
    have h := kp_piece (ps := ps20) (p := pAny) (k := k) (n := n) (args := [.str (str s), .str (str [61, 0])]) rfl
    have e : pAny.ans [.str (str s), .str (str [61, 0])] = (bif decide (str [61, 0] = str [61, 0]) && decide ((str s).size ≤ 1000000) then (bif decide (8 < (str s).size) then some (.int .i64 (Lib.indexAny (str s).data.toList [61, 0])) else (bs ext09a 100).kap 3 strings_IndexAny [.str (str s), .str (str [61, 0])]) else none) := rfl
    rw [e, str_size, decide_eq_true rfl, decide_eq_true hs, Bool.true_and, cond_true] at h
    by_cases h8 : 8 < s.length
    · rw [decide_eq_true h8, cond_true] at h
      exact ⟨_, h, any_long_v s⟩
    · rw [decide_eq_false h8, cond_false] at h
      obtain ⟨r, hr, hv⟩ := any_short_v (E := ext09a) (k := 100) (n := 0) (by kernel_rfl) (by kernel_rfl) (by omega) s (by omega)
      exact ⟨r, h.trans hr, hv⟩
instance quote20 : HasQuote ext20 where
  quote k n s hs := by
    have h := kp_piece (ps := ps20) (p := pQuote) (k := k) (n := n) (args := [.str (str s)]) rfl
    have e : pQuote.ans [.str (str s)] = (bif decide ((str s).size ≤ 1000000000) then some (.str (str (quoteL (str s).data.toList))) else none) := rfl
    rw [e, str_size, decide_eq_true hs, cond_true] at h
    exact h
instance join20 : HasJn ext20 := ⟨fun k n l sep h1 h2 => by
  have h := kp_piece (ps := ps20) (p := pJoin) (k := k) (n := n) (args := [.list 1 (svs l), .str (str sep)]) rfl
  refine h.trans ?_
  show (toStrs (svs l)).bind _ = _
  rw [toStrs_svs]
  show (bif (1 == 1) && decide (l.length ≤ 1000000) && decide ((sep.intercalate l).length ≤ 1000000000) then _ else none) = _
  rw [decide_eq_true h1, decide_eq_true h2]
  rfl⟩
instance count20 : HasCount ext20 := ⟨fun k n s x => (kp_piece (ps := ps20) (p := pCount) (k := k) (n := n) (args := [.str (str s), .str (str [x])]) rfl).trans rfl⟩
theorem good20 (k : Nat) : (bs ext20 k).Good := good_of (fun p hp => by
  simp only [ps20, List.mem_cons, List.not_mem_nil, or_false] at hp
  rcases hp with rfl | rfl | rfl | rfl | rfl | rfl | rfl | rfl | rfl | rfl | rfl | rfl | rfl | rfl
  · exact fmt_right
  · exact itoa_right
  · exact cutP_right
  · exact trimR_right
  · exact index_right
  · exact indexByte_right
  · exact repeat_right
  · exact pInt_right
  · exact pUint_right
  · exact dec_right
  · exact any_right
  · exact quote_right
  · exact join_right
  · exact count_right) names_ok k
end Go.Proofs.YtogfcfgfkggmlaaGreatDoor.Eng.U


/- An outcome's line and fields' names, both sides: TaleOutcomes in plain words. -/
set_option linter.unusedVariables false
set_option linter.unusedSectionVars false
set_option linter.unusedSimpArgs false
namespace Go.Proofs.YtogfcfgfkggmlaaGreatDoor.Eng.U
open Go Go.Proofs Go.Proofs.YtogfcfgfkggmlaaGreatDoor.Eng Go.Proofs.YtogfcfgfkggmlaaGreatDoor.P04
variable {E : Ext} [Core E] [HasNum E] {k n k0 kk : Nat}

structure Outc where
  code : Int
  fcode : Int
  block : Int
  item : Int
  field : Int
  items : Int
  most : Int
def fieldsF : List Tx := [[107, 105, 110, 100], [110, 97, 109, 101], [108, 105, 110, 107], [109, 111, 100, 101], [117, 105, 100], [103, 105, 100], [115, 105, 122, 101], [116, 105, 109, 101], [117, 115, 101, 114], [103, 114, 111, 117, 112], [109, 97, 106, 111, 114], [109, 105, 110, 111, 114], [101, 120, 116, 114, 97], [114, 101, 99, 111, 114, 100, 115]]
def codesF : List Tx := [[102, 105, 110, 101], [110, 105, 108], [97, 114, 103], [115, 104, 111, 114, 116], [115, 117, 109], [110, 117, 109, 101, 114, 97, 108], [114, 101, 99, 111, 114, 100], [100, 97, 110, 103, 108, 105, 110, 103], [116, 114, 97, 105, 108, 101, 114], [102, 108, 97, 103], [110, 97, 109, 101], [115, 105, 122, 101], [108, 97, 114, 103, 101], [102, 105, 101, 108, 100], [115, 105, 110, 107], [102, 111, 114, 109], [110, 111, 110, 101]]
def fieldT (v : Int) : Tx := if 1 ≤ v ∧ v ≤ 14 then fieldsF.getD (v - 1).toNat [] else []
def codeT (c : Int) : Tx := if c < 17 then codesF.getD c.toNat [] else [111, 116, 104, 101, 114]
def outL (o : Outc) : Tx :=
  if o.code = 0 then [102, 105, 110, 101, 32] ++ Lib.itoa o.items
  else if o.code = 13 then [114, 101, 112, 111, 114, 116, 32] ++ Lib.itoa o.item ++ [32] ++ fieldT o.field ++ [32] ++ Lib.itoa o.items
  else if o.code = 14 then [115, 105, 110, 107]
  else [102, 97, 117, 108, 116, 32] ++ codeT o.code ++ [32] ++ Lib.itoa o.block ++ [32] ++ Lib.itoa o.items
structure OutR (o : Outc) : Prop where
  code : 0 ≤ o.code ∧ o.code ≤ 255
  block : -9223372036854775808 ≤ o.block ∧ o.block ≤ 9223372036854775807
  item : -9223372036854775808 ≤ o.item ∧ o.item ≤ 9223372036854775807
  field : -9223372036854775808 ≤ o.field ∧ o.field ≤ 9223372036854775807
  items : -9223372036854775808 ≤ o.items ∧ o.items ≤ 9223372036854775807
def numGo : List Tx → Nat → Tx → Int → Int
  | [], _, _, m => m
  | f :: l, i, s, m => numGo l (i + 1) s (if f = s then (i : Int) + 1 else m)
end Go.Proofs.YtogfcfgfkggmlaaGreatDoor.Eng.U


/- An outcome as a row hands it in. -/
set_option linter.unusedVariables false
set_option linter.unusedSimpArgs false
namespace Go.Proofs.YtogfcfgfkggmlaaGreatDoor.Eng.U
open Go Go.Proofs Go.Proofs.YtogfcfgfkggmlaaGreatDoor.Eng Go.Proofs.YtogfcfgfkggmlaaGreatDoor.Eng.Rdv

end Go.Proofs.YtogfcfgfkggmlaaGreatDoor.Eng.U


/- What functions answer, as the engine evaluates their code. Printed by gen2.py. -/
set_option linter.unusedVariables false
namespace Go.Proofs.YtogfcfgfkggmlaaGreatDoor.Eng.U
open Go Go.Proofs Go.Proofs.YtogfcfgfkggmlaaGreatDoor.Eng
/- oakum/oakumref20.Head -/
end Go.Proofs.YtogfcfgfkggmlaaGreatDoor.Eng.U


/- Words and heads by the definition (ref20), in plain words. Written by gen/u20r.py. -/
set_option linter.unusedVariables false
set_option linter.unusedSectionVars false
set_option linter.unusedSimpArgs false
namespace Go.Proofs.YtogfcfgfkggmlaaGreatDoor.Eng.U
open Go Go.Proofs Go.Proofs.YtogfcfgfkggmlaaGreatDoor.Eng Go.Proofs.YtogfcfgfkggmlaaGreatDoor.P04
variable {E : Ext} [Core E] [HasNum E] {k n k0 kk : Nat}

def textR (w : Tx) : Tx := (textO w).getD []
/-- The texts of the words from a place on, but for two; whether all are such. -/
def textsGo : List Tx → Nat → List Tx
  | [], _ => []
  | w :: l, i => if i = 8 ∨ i = 9 then textsGo l (i + 1) else textR w :: textsGo l (i + 1)
def pairs2 : List Tx → List Pair
  | a :: b :: l => ⟨a, b⟩ :: pairs2 l
  | _ => []
end Go.Proofs.YtogfcfgfkggmlaaGreatDoor.Eng.U


/- TaleHeads in plain words: the definition's head of any text, beside the program's. -/
set_option linter.unusedVariables false
set_option linter.unusedSectionVars false
set_option linter.unusedSimpArgs false
namespace Go.Proofs.YtogfcfgfkggmlaaGreatDoor.Eng.U
open Go Go.Proofs Go.Proofs.YtogfcfgfkggmlaaGreatDoor.Eng Go.Proofs.YtogfcfgfkggmlaaGreatDoor.P04
variable {E : Ext} [Core E] [HasNum E] {k n k0 kk : Nat}

def tR (ws : List Tx) : List Tx := textsGo (ws.drop 6) 6
def hR (ws : List Tx) : Head := ⟨numGo kindsL 0 (W 0 ws) 0, W 2 (tR ws), W 3 (tR ws), numW (W 1 ws), numW (W 2 ws), numW (W 3 ws), numW (W 4 ws), (timeV (W 5 ws)).1, (timeV (W 5 ws)).2, W 0 (tR ws), W 1 (tR ws), numW (W 8 ws), numW (W 9 ws), pairs2 ((tR ws).drop 4)⟩
end Go.Proofs.YtogfcfgfkggmlaaGreatDoor.Eng.U


/- TaleLines, TaleBack over the given functions. -/
set_option linter.unusedVariables false
namespace Go.Proofs.YtogfcfgfkggmlaaGreatDoor.Eng.U
open Go Go.Proofs Go.Proofs.YtogfcfgfkggmlaaGreatDoor.Eng
theorem back20 (x : Item) (s : List UInt8) (gx : G_apiItem x) (gs : s.length ≤ 140737488351232) : (bs ext20 10000000000000).kap 12 law20_TaleBack [.agg (encItem x), .str (str s)] = some (.bool true) :=
  taleBack_true (E := ext20) (n := 0) (kk := 9999999999994) x gx s (by omega)
end Go.Proofs.YtogfcfgfkggmlaaGreatDoor.Eng.U

