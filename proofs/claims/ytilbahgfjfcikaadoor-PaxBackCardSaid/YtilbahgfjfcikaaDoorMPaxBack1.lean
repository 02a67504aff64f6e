/- Several texts of this proof in one file: B04, U09d, Q08, U08, U09g, U09h, U09i, U09j, V09, B09, B07, X07, V07, Q04b, U07c, U07d, U07e, V07b, V07c. -/
import Derived.Test.YtilbahgfjfcikaaDoorMPaxBack0
import Derived.WalkSmall
import Derived.Lib.SmallJoins
import Derived.Lib.ItoaMem
/- The library's functions that the Dec laws call, in pieces: numbers to text and back, texts cut. -/
set_option linter.unusedVariables false
set_option linter.unusedSectionVars false
set_option linter.unusedSimpArgs false
namespace Go.Proofs.YtilbahgfjfcikaaDoor.Eng.U
open Go Go.Proofs Go.Proofs.YtilbahgfjfcikaaDoor.Eng Go.RowKit

theorem str_self (s : ByteArray) : str s.data.toList = s := by cases s; simp [str]
theorem ok_tup {f : FuncId} {args rs : List AV} (hr : rs.all (fun r => !r.isFresh && r.leaf) = true) (h : ∀ (S : Stab) (w : World) (vals : List Value), Agree S w → GlobOk glob S w → VL S args vals → Calls Tryd.prog f vals.toArray w fun e w' => ∃ vs : List Value, e = .returned (.tuple vs.toArray) ∧ rs.length = vs.length ∧ (∀ (S' : Stab) (j : Nat) (c : AV) (u : Value), rs[j]? = some c → vs[j]? = some u → V S' c u) ∧ Below w.heap.size w w') (hr2 : (args.all fun c => !c.isRes) = true := by rfl) : Ok Tryd.prog glob f args (.tup rs) := by
  refine Ok.of_plain (fun c hc => by simpa using List.all_eq_true.1 hr2 c hc) fun S w vals hag hG hV => ?_
  have key : ∀ (j : Nat) (c : AV), rs[j]? = some c → c.isFresh = false ∧ c.leaf = true := by
    intro j c hc
    have := List.all_eq_true.1 hr c (List.mem_of_getElem? hc)
    simpa using this
  refine (h S w vals hag hG hV).mono ?_
  rintro e w' ⟨vs, rfl, hl, hv, hb⟩
  refine ⟨_, S, rfl, fun _ _ h => h, agree_below hag hb, fun _ _ h => .inl h, hb, vs, rfl, hl, fun j c u hc hu => ?_, fun i j c d u v g hc hd hf => ?_⟩
  · have h1 := hv S j c u hc hu
    obtain ⟨h2, h3⟩ := key j c hc
    cases c <;> first | (cases h2; done) | (cases h3; done) | exact h1
  · rw [(key i c hc).1] at hf; cases hf
theorem V2 {S : Stab} {a b : AV} {u v : Value} (ha : V S a u) (hb : V S b v) : ∀ (j : Nat) (c : AV) (x : Value), [a, b][j]? = some c → [u, v][j]? = some x → V S c x := by
  intro j c x hc hx
  match j with
  | 0 => cases hc; cases hx; exact ha
  | 1 => cases hc; cases hx; exact hb
  | j + 2 => simp at hc
theorem eptr_inv {S : Stab} {cs : List AV} {off : Nat} {p : Value} (h : V S (.eptr cs off) p) : ∃ (a : Addr) (f : Nat → Value), p = .pointer (some (a.add off)) ∧ (∀ (j : Nat) (c : AV), cs[j]? = some c → S (a.add j) = some (f j)) ∧ (∀ (j : Nat) (c : AV), cs[j]? = some c → V S c (f j)) := by
  cases h with
  | eptr cs off a f g2 g3 g4 => exact ⟨a, f, rfl, g3, g4⟩
theorem glob_cell {S : Stab} {w : World} {g : Nat} {cs : List AV} (hag : Agree S w) (hG : GlobOk glob S w) (hg : glob g = some cs) (j : Nat) (c : AV) (hj : cs[j]? = some c) : ∃ u, w.cell? ⟨g, j, none⟩ = some u ∧ V S c u := by
  obtain ⟨h1, arr, t, f, h2, h3⟩ := hG g _ hg
  obtain ⟨a, fv, he, g3, g4⟩ := eptr_inv h1
  have ha : a.add j = ⟨g, j, none⟩ := by
    have he' : (⟨g, 0, none⟩ : Addr) = a.add 0 := by injection he with e; injection e
    obtain ⟨b, o, s⟩ := a
    cases s with
    | none => rw [add_lit', Nat.add_zero] at he'; cases he'; rw [add_lit', Nat.zero_add]
    | some s => simp [Addr.add] at he'
  have := hag _ _ (g3 j c hj)
  rw [ha] at this
  exact ⟨_, this, g4 j c hj⟩
theorem tab_of {S : Stab} {w : World} {g : Nat} {name : String} {k : IntKind} {zs : List Int} (hag : Agree S w) (hG : GlobOk glob S w) (hg : glob g = some (zs.map fun z => .int k z)) (hn : Tryd.prog.globalNamed name = some g) : Lib.TabIs Tryd.prog w name k zs := by
  obtain ⟨h1, arr, t, f, h2, h3⟩ := hG g _ hg
  unfold Lib.TabIs World.var?
  rw [hn]
  simp only [Option.bind_some, h2, Option.some.injEq]
  rw [List.length_map] at h3
  refine Array.ext' ?_
  refine List.ext_getElem? fun j => ?_
  by_cases hj : j < zs.length
  · obtain ⟨u, hu, hv⟩ := glob_cell hag hG hg j (.int k zs[j]) (by rw [List.getElem?_map, List.getElem?_eq_getElem hj]; rfl)
    rw [V_int hv] at hu
    have e : w.cell? ⟨g, j, none⟩ = arr[j]? := by simp [World.cell?, h2]
    rw [e] at hu
    rw [List.toList_toArray, List.getElem?_map, List.getElem?_eq_getElem hj]
    simpa using hu
  · rw [List.toList_toArray, List.getElem?_eq_none (by simp; omega), List.getElem?_eq_none (by simp; omega)]
theorem iface_of {S : Stab} {w : World} {g : Nat} (hag : Agree S w) (hG : GlobOk glob S w) (hg : glob g = some [.ifc]) : ∃ t v, w.cell? ⟨g, 0, none⟩ = some (.iface t v) := by
  obtain ⟨u, hu, hv⟩ := glob_cell hag hG hg 0 .ifc rfl
  cases hv
  exact ⟨_, _, hu⟩
theorem below_grow (w : World) (n : Nat) (os : Array Obj) : Below w.heap.size w (Sort.grow (w.drewN n) os) :=
  ⟨rfl, rfl, rfl, by simp [Sort.grow, World.drewN], fun k hk => by
    show (w.heap ++ os)[k]? = _
    rw [Array.getElem?_append_left hk]⟩

def pFmt : Piece := { f := strconv_FormatInt, ans := fun args => match args with
  | [.int .i64 n, .int .i64 b] => bif decide (b = 10) && decide (-9223372036854775808 ≤ n) && decide (n ≤ 9223372036854775807) then some (.str (str (Lib.itoa n))) else none
  | _ => none }
def pItoa : Piece := { f := strconv_Itoa, ans := fun args => match args with
  | [.int .i64 n] => bif decide (-9223372036854775808 ≤ n) && decide (n ≤ 9223372036854775807) then some (.str (str (Lib.itoa n))) else none
  | _ => none }
def pCutP : Piece := { f := strings_CutPrefix, ans := fun args => match args with
  | [.str s, .str p] => some (.tup [.str (str (Lib.trimPrefix s.data.toList p.data.toList)), .bool (Lib.hasPrefix s.data.toList p.data.toList)])
  | _ => none }
def one (c : ByteArray) : Option UInt8 := match c.data.toList with | [x] => some x | _ => none
theorem one_some {c : ByteArray} {x : UInt8} (h : one c = some x) : c = ⟨#[x]⟩ := by
  unfold one at h
  split at h
  · rename_i y e
    cases h
    obtain ⟨⟨l⟩⟩ := c
    simp at e
    rw [e]
  · cases h
def pTrimR : Piece := { f := strings_TrimRight, ans := fun args => match args with
  | [.str s, .str c] => (one c).bind fun x => bif decide (x.toNat < 128) && decide (s.size ≤ 9223372036854775807) then some (.str (str (Lib.trimRightB s.data.toList x))) else none
  | _ => none }
def pIndex : Piece := { f := stringslite_Index, ans := fun args => match args with
  | [.str s, .str c] => (one c).bind fun x => some (.int .i64 (Lib.indexByte s.data.toList x))
  | _ => none }
def pIndexByte : Piece := { f := strings_IndexByte, ans := fun args => match args with
  | [.str s, .int .u8 c] => some (.int .i64 (Lib.indexByte s.data.toList c.toNat.toUInt8))
  | _ => none }
def pRepeat : Piece := { f := strings_Repeat, ans := fun args => match args with
  | [.str s, .int .i64 c] => bif decide (0 ≤ c) && decide (c ≤ 9223372036854775807) && decide (s.size * c.toNat ≤ 140737488355328) then some (.str (str (Lib.repeatL s.data.toList c.toNat))) else none
  | _ => none }
def pPInt : Piece := { f := strconv_ParseInt, ans := fun args => match args with
  | [.str s, .int .i64 b, .int .i64 z] => bif decide (b = 10) && decide (z = 64) && decide (s.size ≤ 281474976710656) then some (endI (Lib.parseIntB 64 s.data.toList) (Lib.intSat 64 s.data.toList)) else none
  | _ => none }
def pPUint : Piece := { f := strconv_ParseUint, ans := fun args => match args with
  | [.str s, .int .i64 b, .int .i64 z] => bif decide (b = 10) && decide (z = 64) && decide (s.size ≤ 281474976710656) then some (endU (Lib.parseUintB 64 s.data.toList)) else none
  | _ => none }
theorem fmt_right : pFmt.Right := by
  refine ⟨⟨Tryd.f44, Tryd.func44, by kernel_rfl, by kernel_rfl⟩, fun args res h => ?_⟩
  unfold pFmt at h
  dsimp only at h
  split at h
  · rename_i n b
    obtain ⟨hc, h'⟩ := some_of_bif h
    clear h
    simp only [Bool.and_eq_true, decide_eq_true_eq] at hc
    obtain ⟨⟨rfl, h1⟩, h2⟩ := hc
    obtain rfl := Option.some.inj h'
    refine ok_pure ⟨rfl, rfl⟩ fun S w vals hag hG hV => ?_
    obtain ⟨v, u, rfl, hv, hu⟩ := VL_2 hV
    obtain rfl := V_int hv
    obtain rfl := V_int hu
    refine (Tryd.strconv_FormatInt_10 n h1 h2 w (tab_of hag hG (g := 1) (zs := Lib.pow10Tab) rfl (by kernel_rfl))).mono ?_
    rintro e w' ⟨rfl, k, os, rfl⟩
    exact ⟨_, rfl, fun S' => V.str _, below_grow _ _ _⟩
  · cases h
theorem itoa_right : pItoa.Right := by
  refine ⟨⟨Tryd.f64, Tryd.func64, by kernel_rfl, by kernel_rfl⟩, fun args res h => ?_⟩
  unfold pItoa at h
  dsimp only at h
  split at h
  · rename_i n
    obtain ⟨hc, h'⟩ := some_of_bif h
    clear h
    simp only [Bool.and_eq_true, decide_eq_true_eq] at hc
    obtain ⟨h1, h2⟩ := hc
    obtain rfl := Option.some.inj h'
    refine ok_pure ⟨rfl, rfl⟩ fun S w vals hag hG hV => ?_
    obtain ⟨v, rfl, hv⟩ := VL_1 hV
    obtain rfl := V_int hv
    refine (Tryd.strconv_Itoa n h1 h2 w (tab_of hag hG (g := 1) (zs := Lib.pow10Tab) rfl (by kernel_rfl))).mono ?_
    rintro e w' ⟨rfl, k, os, rfl⟩
    exact ⟨_, rfl, fun S' => V.str _, below_grow _ _ _⟩
  · cases h
theorem cutP_right : pCutP.Right := by
  refine ⟨⟨Tryd.f48, Tryd.func48, by kernel_rfl, by kernel_rfl⟩, fun args res h => ?_⟩
  unfold pCutP at h
  dsimp only at h
  split at h
  · rename_i s p
    obtain rfl := Option.some.inj h
    refine ok_tup rfl fun S w vals hag hG hV => ?_
    obtain ⟨v, u, rfl, hv, hu⟩ := VL_2 hV
    obtain rfl := V_str hv
    obtain rfl := V_str hu
    refine (Tryd.strings_CutPrefix s p w).mono ?_
    rintro e w' ⟨rfl, rfl⟩
    exact ⟨[_, _], rfl, rfl, fun S' => V2 (V.str _) (V.bool _), Below.refl _ _⟩
  · cases h
theorem trimR_right : pTrimR.Right := by
  refine ⟨⟨Tryd.f45, Tryd.func45, by kernel_rfl, by kernel_rfl⟩, fun args res h => ?_⟩
  unfold pTrimR at h
  dsimp only at h
  split at h
  · rename_i s c
    obtain ⟨x, hx, h⟩ := Option.bind_eq_some_iff.1 h
    obtain rfl := one_some hx
    obtain ⟨hc, h'⟩ := some_of_bif h
    clear h
    simp only [Bool.and_eq_true, decide_eq_true_eq] at hc
    obtain rfl := Option.some.inj h'
    refine ok_pure ⟨rfl, rfl⟩ fun S w vals hag hG hV => ?_
    obtain ⟨v, u, rfl, hv, hu⟩ := VL_2 hV
    obtain rfl := V_str hv
    obtain rfl := V_str hu
    refine (Tryd.strings_TrimRight_one s x hc.1 w hc.2).mono ?_
    rintro e w' ⟨rfl, rfl⟩
    exact ⟨_, rfl, fun S' => V.str _, Below.refl _ _⟩
  · cases h
theorem index_right : pIndex.Right := by
  refine ⟨⟨Tryd.f116, Tryd.func116, by kernel_rfl, by kernel_rfl⟩, fun args res h => ?_⟩
  unfold pIndex at h
  dsimp only at h
  split at h
  · rename_i s c
    obtain ⟨x, hx, h⟩ := Option.bind_eq_some_iff.1 h
    obtain rfl := one_some hx
    obtain rfl := Option.some.inj h
    refine ok_pure ⟨rfl, rfl⟩ fun S w vals hag hG hV => ?_
    obtain ⟨v, u, rfl, hv, hu⟩ := VL_2 hV
    obtain rfl := V_str hv
    obtain rfl := V_str hu
    refine (Tryd.stringslite_Index_one s x w).mono ?_
    rintro e w' ⟨rfl, rfl⟩
    exact ⟨_, rfl, fun S' => V.int _ _, Below.refl _ _⟩
  · cases h
theorem indexByte_right : pIndexByte.Right := by
  refine ⟨⟨Tryd.f125, Tryd.func125, by kernel_rfl, by kernel_rfl⟩, fun args res h => ?_⟩
  unfold pIndexByte at h
  dsimp only at h
  split at h
  · rename_i s c
    obtain rfl := Option.some.inj h
    refine ok_pure ⟨rfl, rfl⟩ fun S w vals hag hG hV => ?_
    obtain ⟨v, u, rfl, hv, hu⟩ := VL_2 hV
    obtain rfl := V_str hv
    obtain rfl := V_int hu
    refine (Tryd.strings_IndexByte s c w).mono ?_
    rintro e w' ⟨rfl, rfl⟩
    exact ⟨_, rfl, fun S' => V.int _ _, Below.refl _ _⟩
  · cases h
theorem repeat_right : pRepeat.Right := by
  refine ⟨⟨Tryd.f52, Tryd.func52, by kernel_rfl, by kernel_rfl⟩, fun args res h => ?_⟩
  unfold pRepeat at h
  dsimp only at h
  split at h
  · rename_i s c
    obtain ⟨hc, h'⟩ := some_of_bif h
    clear h
    simp only [Bool.and_eq_true, decide_eq_true_eq] at hc
    obtain ⟨⟨h1, h2⟩, h3⟩ := hc
    obtain rfl := Option.some.inj h'
    refine ok_pure ⟨rfl, rfl⟩ fun S w vals hag hG hV => ?_
    obtain ⟨v, u, rfl, hv, hu⟩ := VL_2 hV
    obtain rfl := V_str hv
    obtain rfl := V_int hu
    obtain ⟨n, rfl⟩ := Int.eq_ofNat_of_zero_le h1
    rw [Int.toNat_natCast] at h3 ⊢
    refine (Tryd.strings_Repeat s n w (by omega) h3).mono ?_
    rintro e w' ⟨rfl, hb⟩
    exact ⟨_, rfl, fun S' => V.str _, hb⟩
  · cases h
theorem pInt_right : pPInt.Right := by
  refine ⟨⟨Tryd.f51, Tryd.func51, by kernel_rfl, by kernel_rfl⟩, fun args res h => ?_⟩
  unfold pPInt at h
  dsimp only at h
  split at h
  · rename_i s b z
    obtain ⟨hc, h'⟩ := some_of_bif h
    clear h
    simp only [Bool.and_eq_true, decide_eq_true_eq] at hc
    obtain ⟨⟨rfl, rfl⟩, h3⟩ := hc
    obtain rfl := Option.some.inj h'
    cases he : Lib.parseIntB 64 s.data.toList with
    | ok v =>
      refine ok_tup rfl fun S w vals hag hG hV => ?_
      obtain ⟨v1, v2, v3, rfl, g1, g2, g3⟩ := VL_3 hV
      obtain rfl := V_str g1
      obtain rfl := V_int g2
      obtain rfl := V_int g3
      refine (Tryd.strconv_ParseInt_10_at64_ok s (by omega) v he w).mono ?_
      rintro e w' ⟨rfl, hw⟩
      refine ⟨[_, _], rfl, rfl, fun S' => V2 (V.int _ _) V.nili, ?_⟩
      rcases hw with rfl | ⟨t, rfl⟩
      · exact Below.refl _ _
      · exact Lib.bytesWorld_below _ _ _
    | range =>
      refine ok_tup rfl fun S w vals hag hG hV => ?_
      obtain ⟨v1, v2, v3, rfl, g1, g2, g3⟩ := VL_3 hV
      obtain rfl := V_str g1
      obtain rfl := V_int g2
      obtain rfl := V_int g3
      obtain ⟨t, v, hi⟩ := iface_of (g := 4) hag hG rfl
      refine (Tryd.strconv_ParseInt_10_at64_range s h3 he _ w hi (.inr ⟨_, _, rfl⟩)).mono ?_
      rintro e w' ⟨N, rfl, _, _, hb⟩
      exact ⟨[_, _], rfl, rfl, fun S' => V2 (V.int _ _) (V.ifc _ _), hb⟩
    | _ =>
      refine ok_tup rfl fun S w vals hag hG hV => ?_
      obtain ⟨v1, v2, v3, rfl, g1, g2, g3⟩ := VL_3 hV
      obtain rfl := V_str g1
      obtain rfl := V_int g2
      obtain rfl := V_int g3
      obtain ⟨t, v, hi⟩ := iface_of (g := 3) hag hG rfl
      refine (Tryd.strconv_ParseInt_10_at64_syntax s h3 he _ w hi (.inr ⟨_, _, rfl⟩)).mono ?_
      rintro e w' ⟨N, rfl, _, _, hb⟩
      exact ⟨[_, _], rfl, rfl, fun S' => V2 (V.int _ _) (V.ifc _ _), hb⟩
  · cases h
theorem pUint_right : pPUint.Right := by
  refine ⟨⟨Tryd.f71, Tryd.func71, by kernel_rfl, by kernel_rfl⟩, fun args res h => ?_⟩
  unfold pPUint at h
  dsimp only at h
  split at h
  · rename_i s b z
    obtain ⟨hc, h'⟩ := some_of_bif h
    clear h
    simp only [Bool.and_eq_true, decide_eq_true_eq] at hc
    obtain ⟨⟨rfl, rfl⟩, h3⟩ := hc
    obtain rfl := Option.some.inj h'
    cases he : Lib.parseUintB 64 s.data.toList with
    | ok v =>
      refine ok_tup rfl fun S w vals hag hG hV => ?_
      obtain ⟨v1, v2, v3, rfl, g1, g2, g3⟩ := VL_3 hV
      obtain rfl := V_str g1
      obtain rfl := V_int g2
      obtain rfl := V_int g3
      refine (Tryd.strconv_ParseUint_10_at64_ok s (by omega) v he w).mono ?_
      rintro e w' ⟨rfl, hw⟩
      refine ⟨[_, _], rfl, rfl, fun S' => V2 (V.int _ _) V.nili, ?_⟩
      rcases hw with rfl | rfl
      · exact Below.refl _ _
      · exact Lib.bytesWorld_below _ _ _
    | range =>
      refine ok_tup rfl fun S w vals hag hG hV => ?_
      obtain ⟨v1, v2, v3, rfl, g1, g2, g3⟩ := VL_3 hV
      obtain rfl := V_str g1
      obtain rfl := V_int g2
      obtain rfl := V_int g3
      obtain ⟨t, v, hi⟩ := iface_of (g := 4) hag hG rfl
      refine (Tryd.strconv_ParseUint_10_at64_range s h3 he _ w hi (.inr ⟨_, _, rfl⟩)).mono ?_
      rintro e w' ⟨N, rfl, _, _, hb⟩
      exact ⟨[_, _], rfl, rfl, fun S' => V2 (V.int _ _) (V.ifc _ _), hb⟩
    | _ =>
      refine ok_tup rfl fun S w vals hag hG hV => ?_
      obtain ⟨v1, v2, v3, rfl, g1, g2, g3⟩ := VL_3 hV
      obtain rfl := V_str g1
      obtain rfl := V_int g2
      obtain rfl := V_int g3
      obtain ⟨t, v, hi⟩ := iface_of (g := 3) hag hG rfl
      refine (Tryd.strconv_ParseUint_10_at64_syntax s h3 he _ w hi (.inr ⟨_, _, rfl⟩)).mono ?_
      rintro e w' ⟨N, rfl, _, _, hb⟩
      exact ⟨[_, _], rfl, rfl, fun S' => V2 (V.int _ _) (V.ifc _ _), hb⟩
  · cases h
def ps04 : List Piece := [pFmt, pItoa, pCutP, pTrimR, pIndex, pIndexByte, pRepeat, pPInt, pPUint]
def ext04 : Ext := extOf ps04
instance core04 : Core ext04 := core_of (by kernel_rfl)
theorem num_of {ps : List Piece} (h1 : ps.find? (fun q => q.f == pFmt.f) = some pFmt) (h2 : ps.find? (fun q => q.f == pItoa.f) = some pItoa) (h3 : ps.find? (fun q => q.f == pCutP.f) = some pCutP) (h4 : ps.find? (fun q => q.f == pTrimR.f) = some pTrimR) (h5 : ps.find? (fun q => q.f == pIndex.f) = some pIndex) (h6 : ps.find? (fun q => q.f == pIndexByte.f) = some pIndexByte) (h7 : ps.find? (fun q => q.f == pRepeat.f) = some pRepeat) (h8 : ps.find? (fun q => q.f == pPInt.f) = some pPInt) (h9 : ps.find? (fun q => q.f == pPUint.f) = some pPUint) : HasNum (extOf ps) where
  fmt k n v g0 g1 := (kp_piece (k := k) (n := n) h1).trans (by
    show (bif decide ((10 : Int) = 10) && decide (-9223372036854775808 ≤ v) && decide (v ≤ 9223372036854775807) then _ else none) = _
    rw [decide_eq_true g0, decide_eq_true g1]
    rfl)
  itoa k n v g0 g1 := (kp_piece (k := k) (n := n) h2).trans (by
    show (bif decide (-9223372036854775808 ≤ v) && decide (v ≤ 9223372036854775807) then _ else none) = _
    rw [decide_eq_true g0, decide_eq_true g1]
    rfl)
  cutP k n s p := (kp_piece (k := k) (n := n) h3).trans rfl
  trimR k n s x g0 g1 := (kp_piece (k := k) (n := n) h4).trans (by
    show (bif decide (x.toNat < 128) && decide ((str s).size ≤ 9223372036854775807) then _ else none) = _
    rw [str_size, decide_eq_true g0, decide_eq_true g1]
    rfl)
  index k n s x := (kp_piece (k := k) (n := n) h5).trans rfl
  indexB k n s c := (kp_piece (k := k) (n := n) h6).trans rfl
  rep k n s c g0 g1 := (kp_piece (k := k) (n := n) h7).trans (by
    show (bif decide ((0 : Int) ≤ (c : Int)) && decide ((c : Int) ≤ 9223372036854775807) && decide ((str s).size * (Int.toNat (c : Int)) ≤ 140737488355328) then some (AV.str (str (Lib.repeatL s (Int.toNat (c : Int))))) else none) = _
    rw [str_size, Int.toNat_natCast, decide_eq_true (show (0 : Int) ≤ (c : Int) by omega), decide_eq_true (show (c : Int) ≤ 9223372036854775807 by omega), decide_eq_true g1]
    rfl)
  pint k n s g0 := (kp_piece (k := k) (n := n) h8).trans (by
    show (bif decide ((10 : Int) = 10) && decide ((64 : Int) = 64) && decide ((str s).size ≤ 281474976710656) then _ else none) = _
    rw [str_size, decide_eq_true g0]
    rfl)
  puint k n s g0 := (kp_piece (k := k) (n := n) h9).trans (by
    show (bif decide ((10 : Int) = 10) && decide ((64 : Int) = 64) && decide ((str s).size ≤ 281474976710656) then _ else none) = _
    rw [str_size, decide_eq_true g0]
    rfl)
instance num04 : HasNum ext04 := num_of rfl rfl rfl rfl rfl rfl rfl rfl rfl
end Go.Proofs.YtilbahgfjfcikaaDoor.Eng.U


/- ItemFulls answers true. -/
set_option linter.unusedVariables false
set_option linter.unusedSectionVars false
set_option linter.unusedSimpArgs false
namespace Go.Proofs.YtilbahgfjfcikaaDoor.Eng.U
open Go Go.Proofs Go.Proofs.YtilbahgfjfcikaaDoor.Eng Go.Proofs.YtilbahgfjfcikaaDoor.P04
variable {E : Ext} [Core E] [HasNum E] [HasText E] {k n : Nat}

end Go.Proofs.YtilbahgfjfcikaaDoor.Eng.U


/- Overlays in plain words: the order of keys, what is laid. No program. -/
set_option linter.unusedVariables false
set_option linter.unusedSimpArgs false
namespace Go.Proofs.YtilbahgfjfcikaaDoor.Eng.U
open Go Go.Proofs Go.Proofs.YtilbahgfjfcikaaDoor.Eng

theorem u8_lt_irrefl (a : UInt8) : ¬ a < a := fun h => by rw [UInt8.lt_iff_toNat_lt] at h; omega
theorem lt_irr : ∀ a : Tx, Op.bytesLess a a = false
  | [] => rfl
  | a :: x => by
    unfold Op.bytesLess
    rw [lt_irr x, decide_eq_false (u8_lt_irrefl a), Bool.and_false, Bool.or_false]
theorem lt_cons (a b : UInt8) (x y : Tx) : Op.bytesLess (a :: x) (b :: y) = true ↔ a.toNat < b.toNat ∨ a = b ∧ Op.bytesLess x y = true := by
  rw [Op.bytesLess, Bool.or_eq_true, Bool.and_eq_true, decide_eq_true_eq, beq_iff_eq, UInt8.lt_iff_toNat_lt]
theorem lt_tr : ∀ {a b c : Tx}, Op.bytesLess a b = true → Op.bytesLess b c = true → Op.bytesLess a c = true
  | _, _, [], _, h => by cases ‹Tx› <;> simp [Op.bytesLess] at h
  | [], _, _ :: _, _, _ => rfl
  | a :: x, [], c :: z, h, _ => by simp [Op.bytesLess] at h
  | a :: x, b :: y, c :: z, h1, h2 => by
    rw [lt_cons] at *
    rcases h1 with h1 | ⟨rfl, h1⟩
    · rcases h2 with h2 | ⟨rfl, h2⟩
      · left; omega
      · left; exact h1
    · rcases h2 with h2 | ⟨rfl, h2⟩
      · left; exact h2
      · right; exact ⟨rfl, lt_tr h1 h2⟩
theorem lt_tot : ∀ {a b : Tx}, Op.bytesLess a b = false → a ≠ b → Op.bytesLess b a = true
  | [], [], _, h => absurd rfl h
  | [], _ :: _, h, _ => by simp [Op.bytesLess] at h
  | _ :: _, [], _, _ => rfl
  | a :: x, b :: y, h, hn => by
    rw [lt_cons]
    have h' : ¬ (a.toNat < b.toNat ∨ a = b ∧ Op.bytesLess x y = true) := by rw [← lt_cons, h]; simp
    by_cases e : a = b
    · subst e
      right
      refine ⟨rfl, lt_tot ?_ fun e => hn (by rw [e])⟩
      cases hq : Op.bytesLess x y with
      | false => rfl
      | true => exact absurd (.inr ⟨rfl, hq⟩) h'
    · left
      have : a.toNat ≠ b.toNat := fun h => e (UInt8.toNat_inj.1 h)
      omega
theorem lt_asym {a b : Tx} (h : Op.bytesLess a b = true) : Op.bytesLess b a = false := by
  cases hq : Op.bytesLess b a with
  | false => rfl
  | true => have := lt_tr h hq; rw [lt_irr] at this; cases this
theorem not_le (a b : Tx) : (!(Op.bytesLess a b || decide (a = b))) = Op.bytesLess b a := by
  by_cases e : a = b
  · subst e; rw [decide_eq_true rfl, Bool.or_true, lt_irr]; rfl
  · rw [decide_eq_false e, Bool.or_false]
    cases h : Op.bytesLess a b with
    | true => rw [lt_asym h]; rfl
    | false => rw [lt_tot h e]; rfl

end Go.Proofs.YtilbahgfjfcikaaDoor.Eng.U


/- Overlays: what both sides answer, in plain words. -/
set_option linter.unusedVariables false
set_option linter.unusedSectionVars false
set_option linter.unusedSimpArgs false
namespace Go.Proofs.YtilbahgfjfcikaaDoor.Eng.U
open Go Go.Proofs Go.Proofs.YtilbahgfjfcikaaDoor.Eng Go.Proofs.YtilbahgfjfcikaaDoor.P04
variable {E : Ext} [Core E] [HasNum E] {k n : Nat}

theorem snoc_len (pre : List Pair) (p : Pair) : ((pre.length : Nat) : Int) + 1 = (((pre ++ [p]).length : Nat) : Int) := by simp
theorem same_loop (kap : FuncId → List AV → Option AV) (suf : List Pair) : ∀ (pre suf' pre' : List Pair) (k0 : Nat), suf.length < k0 → pre.length = pre'.length → suf.length = suf'.length → (pre ++ suf).length ≤ 1000000 →
    ref07_Same_L0 kap k k0 (prs (pre ++ suf)) (prs (pre' ++ suf')) ((pre.length : Nat) : Int) = some (.bool (decide (suf = suf'))) := by
  induction suf with
  | nil =>
    intro pre suf' pre' k0 h hp hs hb
    obtain ⟨m, rfl⟩ : ∃ m, k0 = m + 1 := ⟨k0 - 1, by simp only [List.length_nil] at h; omega⟩
    obtain rfl : suf' = [] := List.length_eq_zero_iff.1 hs.symm
    rw [ref07_Same_L0_s, prs_len, bif_f (by simp)]
    rfl
  | cons p suf ih =>
    intro pre suf' pre' k0 h hp hs hb
    obtain ⟨m, rfl⟩ : ∃ m, k0 = m + 1 := ⟨k0 - 1, by simp only [List.length_cons] at h; omega⟩
    cases suf' with
    | nil => cases hs
    | cons q suf' =>
      have h' : suf.length < m := by simp only [List.length_cons] at h; omega
      have hb' : pre.length + (suf.length + 1) ≤ 1000000 := by simp only [List.length_append, List.length_cons] at hb; exact hb
      have hs' : suf.length = suf'.length := by simp only [List.length_cons] at hs; omega
      have hi := ih (pre ++ [p]) suf' (pre' ++ [q]) m h' (by simp [hp]) hs' (by simp only [List.length_append, List.length_cons, List.length_nil]; omega)
      rw [← snoc_len, List.append_assoc, List.append_assoc, List.singleton_append, List.singleton_append] at hi
      have key : ∀ {β : Type} (F : AV → Option β), ((prs (pre' ++ q :: suf'))[pre.length]?).bind F = F (elPair q) := by
        intro β F; rw [hp, prs_mid]
      rw [ref07_Same_L0_s, prs_len, prs_len, mid_len, mid_len, bif_t (by omega), bif_a, bif_t (by omega), bif_t (by omega), Int.toNat_natCast, prs_mid, cells_pair, p_0, p_1, bif_a, bif_t (by omega), bif_t (by omega), key, cells_pair, p_0, p_1, str_dec, str_dec, i64w (by omega), hi]
      have e : decide (p :: suf = q :: suf') = ((decide (p.key = q.key) && (decide (p.val = q.val) && true)) && decide (suf = suf')) := by
        have e0 : (p :: suf = q :: suf') ↔ (p.key = q.key ∧ p.val = q.val) ∧ suf = suf' := by
          rw [List.cons.injEq]; cases p; cases q; simp
        have e1 : decide (p :: suf = q :: suf') = decide ((p.key = q.key ∧ p.val = q.val) ∧ suf = suf') := decide_eq_decide.2 e0
        rw [e1]
        by_cases a1 : p.key = q.key <;> by_cases a2 : p.val = q.val <;> by_cases a3 : suf = suf' <;> simp [a1, a2, a3]
      rw [e]
      cases decide (p.key = q.key) && (decide (p.val = q.val) && true) <;> rfl
theorem pSame_k (a b : List Pair) (ha : a.length ≤ 1000000) (hk : a.length < k) : kp E k (n + 1) ref07_Same [.list 2 (prs a), .list 2 (prs b)] = some (.bool (decide (a = b))) := by
  rw [ref07_Same_eq, prs_len, prs_len]
  by_cases h : a.length = b.length
  · rw [decide_eq_true (by omega), Bool.not_true, cond_false]
    have := same_loop (k := k) (kp E k n) a [] b [] k hk rfl h (by simpa using ha)
    exact this
  · rw [decide_eq_false (by omega), Bool.not_false, cond_true, decide_eq_false (fun e => h (by rw [e]))]
end Go.Proofs.YtilbahgfjfcikaaDoor.Eng.U


/- Which field of a head is the first that isn't right: both sides. -/
set_option linter.unusedVariables false
set_option linter.unusedSectionVars false
set_option linter.unusedSimpArgs false
namespace Go.Proofs.YtilbahgfjfcikaaDoor.Eng.U
open Go Go.Proofs Go.Proofs.YtilbahgfjfcikaaDoor.Eng Go.Proofs.YtilbahgfjfcikaaDoor.P04
variable {E : Ext} [Core E] [HasNum E] {k n k0 : Nat}

def nameOk (s : List UInt8) : Bool := decide (s ≠ []) && (decide (s.length ≤ 65536) && clean s)
def links (h : Head) : Bool := decide (h.kind = 2) || decide (h.kind = 3)
def f1 (h : Head) : Bool := decide (h.kind ≥ 1) && decide (h.kind ≤ 7)
def f2 (h : Head) : Bool := nameOk h.name && !(decide (h.kind = 1) && sl h.name)
def f3 (h : Head) : Bool := bif links h then nameOk h.link else decide (h.link = [])
def f4 (h : Head) : Bool := decide (h.mode ≥ 0)
def f5 (h : Head) : Bool := decide (h.uid ≥ 0)
def f6 (h : Head) : Bool := decide (h.gid ≥ 0)
def f7 (h : Head) : Bool := decide (h.size = 0) || (decide (h.size > 0) && decide (h.kind = 1))
def f8 (h : Head) : Bool := rightT h.nano
end Go.Proofs.YtilbahgfjfcikaaDoor.Eng.U


/- Which field of a head is the first that isn't right: the reference's side. -/
set_option linter.unusedVariables false
set_option linter.unusedSectionVars false
set_option linter.unusedSimpArgs false
namespace Go.Proofs.YtilbahgfjfcikaaDoor.Eng.U
open Go Go.Proofs Go.Proofs.YtilbahgfjfcikaaDoor.Eng Go.Proofs.YtilbahgfjfcikaaDoor.P04
variable {E : Ext} [Core E] [HasNum E] {k n k0 : Nat}

end Go.Proofs.YtilbahgfjfcikaaDoor.Eng.U


/- Which field of a head is the first that isn't right: the reference's side. -/
set_option linter.unusedVariables false
set_option linter.unusedSectionVars false
set_option linter.unusedSimpArgs false
namespace Go.Proofs.YtilbahgfjfcikaaDoor.Eng.U
open Go Go.Proofs Go.Proofs.YtilbahgfjfcikaaDoor.Eng Go.Proofs.YtilbahgfjfcikaaDoor.P04
variable {E : Ext} [Core E] [HasNum E] {k n k0 : Nat}

end Go.Proofs.YtilbahgfjfcikaaDoor.Eng.U


/- Which field of a head is the first that isn't right: the reference's side. -/
set_option linter.unusedVariables false
set_option linter.unusedSectionVars false
set_option linter.unusedSimpArgs false
namespace Go.Proofs.YtilbahgfjfcikaaDoor.Eng.U
open Go Go.Proofs Go.Proofs.YtilbahgfjfcikaaDoor.Eng Go.Proofs.YtilbahgfjfcikaaDoor.P04
variable {E : Ext} [Core E] [HasNum E] {k n k0 : Nat}

end Go.Proofs.YtilbahgfjfcikaaDoor.Eng.U


/- ItemWrong in plain words: it answers true. -/
set_option linter.unusedVariables false
set_option linter.unusedSectionVars false
set_option linter.unusedSimpArgs false
namespace Go.Proofs.YtilbahgfjfcikaaDoor.Eng.U
open Go Go.Proofs Go.Proofs.YtilbahgfjfcikaaDoor.Eng Go.Proofs.YtilbahgfjfcikaaDoor.P04
variable {E : Ext} [Core E] [HasNum E] {k n : Nat}

end Go.Proofs.YtilbahgfjfcikaaDoor.Eng.U


/- ItemFulls over the library's pieces: strings.IndexAny at "=\\x00", decoding beside the numbers' own. -/
set_option linter.unusedVariables false
set_option linter.unusedSectionVars false
set_option linter.unusedSimpArgs false
namespace Go.Proofs.YtilbahgfjfcikaaDoor.Eng.U
open Go Go.Proofs Go.Proofs.YtilbahgfjfcikaaDoor.Eng Go.RowKit

/-- The tables of the decoder, off the variables. -/
theorem utf_tabs {S : Stab} {w : World} (hag : Agree S w) (hG : GlobOk glob S w) : Lib.Utf8Tabs 7 8 w := by
  refine ⟨fun c hc => ?_, fun i hi => ?_⟩
  · obtain ⟨u, hu, hv⟩ := glob_cell (g := 7) hag hG rfl c (.int .u8 (Lib.firstT c : Int)) (by rw [List.getElem?_map, List.getElem?_range hc]; rfl)
    rw [V_int hv] at hu
    exact hu
  · obtain ⟨u, hu, hv⟩ := glob_cell (g := 8) hag hG rfl (2 * i) (.int .u8 (Lib.accLo i : Int)) (by
      rw [List.getElem?_map, List.getElem?_range (by omega)]
      show some (AV.int .u8 (((if 2 * i % 2 = 0 then Lib.accLo (2 * i / 2) else Lib.accHi (2 * i / 2) : Nat) : Int))) = _
      rw [if_pos (by omega), show 2 * i / 2 = i from by omega])
    obtain ⟨u', hu', hv'⟩ := glob_cell (g := 8) hag hG rfl (2 * i + 1) (.int .u8 (Lib.accHi i : Int)) (by
      rw [List.getElem?_map, List.getElem?_range (by omega)]
      show some (AV.int .u8 (((if (2 * i + 1) % 2 = 0 then Lib.accLo ((2 * i + 1) / 2) else Lib.accHi ((2 * i + 1) / 2) : Nat) : Int))) = _
      rw [if_neg (by omega), show (2 * i + 1) / 2 = i from by omega])
    rw [V_int hv] at hu
    rw [V_int hv'] at hu'
    exact ⟨hu, hu'⟩
def pDec : Piece := { f := unicode_utf8_DecodeRuneInString, ans := fun args => match args with
  | [.str s] => some (.tup [.int .i32 (Lib.decodeGo s).1, .int .i64 (Lib.decodeGo s).2])
  | _ => none }
theorem dec_right : pDec.Right := by
  refine ⟨⟨Tryd.f145, Tryd.func145, by kernel_rfl, by kernel_rfl⟩, fun args res h => ?_⟩
  unfold pDec at h
  dsimp only at h
  split at h
  · rename_i s
    obtain rfl := Option.some.inj h
    refine ok_tup rfl fun S w vals hag hG hV => ?_
    obtain ⟨v, rfl, hv⟩ := VL_1 hV
    obtain rfl := V_str hv
    refine (Tryd.utf8_DecodeRuneInString s w (utf_tabs hag hG)).mono ?_
    rintro e w' ⟨rfl, hb⟩
    exact ⟨[_, _], rfl, rfl, fun S' => V2 (V.int _ _) (V.int _ _), hb⟩
  · cases h
def ps09a : List Piece := [pFmt, pItoa, pCutP, pTrimR, pIndex, pIndexByte, pRepeat, pPInt, pPUint, pDec]
def ext09a : Ext := { extOf ps09a with fs := strings_IndexAny :: coreFs }
theorem good09b (k : Nat) : (bs (extOf ps09a) k).Good := good_of (fun p hp => by
  simp only [ps09a, List.mem_cons, List.not_mem_nil, or_false] at hp
  rcases hp with rfl | rfl | rfl | rfl | rfl | rfl | rfl | rfl | rfl | rfl
  · exact fmt_right
  · exact itoa_right
  · exact cutP_right
  · exact trimR_right
  · exact index_right
  · exact indexByte_right
  · exact repeat_right
  · exact pInt_right
  · exact pUint_right
  · exact dec_right) names_ok k
theorem good09a (k : Nat) : (bs ext09a k).Good := { mixed := by kernel_rfl, names := by kernel_rfl, base := (good09b k).base }
instance core09a : Core ext09a where
  isB f hf := (core_of (ps := ps09a) (by kernel_rfl)).isB f hf
  has f hf := by
    show (strings_IndexAny :: coreFs).contains f = true
    rw [List.contains_cons, hf, Bool.or_true]
instance ib09a : HasIB ext09a := ⟨fun k n s c => (kp_base (E := ext09a) (by kernel_rfl)).trans rfl⟩
noncomputable def pAny : Piece := { f := strings_IndexAny, ans := fun args => match args with
  | [.str s, .str c] => bif decide (c = str [61, 0]) && decide (s.size ≤ 1000000) then (bif decide (8 < s.size) then some (.int .i64 (Lib.indexAny s.data.toList [61, 0])) else (bs ext09a 100).kap 3 strings_IndexAny [.str s, .str c]) else none
  | _ => none }
theorem any_right : pAny.Right := by
  refine ⟨⟨Tryd.f104, Tryd.func104, by kernel_rfl, by kernel_rfl⟩, fun args res h => ?_⟩
  unfold pAny at h
  dsimp only at h
  split at h
  · rename_i s c
    obtain ⟨hc, h'⟩ := some_of_bif h
    clear h
    simp only [Bool.and_eq_true, decide_eq_true_eq] at hc
    obtain ⟨rfl, h1⟩ := hc
    by_cases h8 : 8 < s.size
    · rw [decide_eq_true h8, cond_true] at h'
      obtain rfl := Option.some.inj h'
      refine ok_pure ⟨rfl, rfl⟩ fun S w vals hag hG hV => ?_
      obtain ⟨v, u, rfl, hv, hu⟩ := VL_2 hV
      obtain rfl := V_str hv
      obtain rfl := V_str hu
      have h2 : ∀ (j : Nat) b, (str [61, 0]).data.toList[j]? = some b → b.toNat < 128 := by
        intro j b hb
        match j, hb with
        | 0, hb => cases hb; decide
        | 1, hb => cases hb; decide
        | j + 2, hb => simp [str] at hb
      refine (Tryd.strings_IndexAny_long (fun w => by kernel_rfl) s (str [61, 0]) w (by decide) h8 (by omega) (by decide) h2).mono ?_
      rintro e w' ⟨rfl, rfl⟩
      exact ⟨_, rfl, fun S' => V.int _ _, ((Below.refl _ _).alloc (Nat.le_refl _) _).alloc (by simp) _⟩
    · rw [decide_eq_false h8, cond_false] at h'
      exact Base.ok (good09a 100) h'
  · cases h
noncomputable def ps09 : List Piece := [pFmt, pItoa, pCutP, pTrimR, pIndex, pIndexByte, pRepeat, pPInt, pPUint, pDec, pAny]
noncomputable def ext09 : Ext := extOf ps09
instance core09 : Core ext09 := core_of (by kernel_rfl)
instance num09 : HasNum ext09 := num_of rfl rfl rfl rfl rfl rfl rfl rfl rfl
instance text09 : HasText ext09 where
  dec k n s := ⟨_, _, (kp_piece (ps := ps09) (p := pDec) (k := k) (n := n) (args := [.str (str s)]) rfl).trans rfl⟩
  idx k n s hs := by
    have h := kp_piece (ps := ps09) (p := pAny) (k := k) (n := n) (args := [.str (str s), .str (str [61, 0])]) rfl
    have e : pAny.ans [.str (str s), .str (str [61, 0])] = (bif decide (str [61, 0] = str [61, 0]) && decide ((str s).size ≤ 1000000) then (bif decide (8 < (str s).size) then some (.int .i64 (Lib.indexAny (str s).data.toList [61, 0])) else (bs ext09a 100).kap 3 strings_IndexAny [.str (str s), .str (str [61, 0])]) else none) := rfl
    rw [e, str_size, decide_eq_true rfl, decide_eq_true hs, Bool.true_and, cond_true] at h
    by_cases h8 : 8 < s.length
    · rw [decide_eq_true h8, cond_true] at h
      exact ⟨_, h⟩
    · rw [decide_eq_false h8, cond_false] at h
      obtain ⟨r, hr⟩ := any_short (E := ext09a) (k := 100) (n := 0) (by kernel_rfl) (by kernel_rfl) (by omega) s (by omega)
      exact ⟨r, h.trans hr⟩
theorem good09 (k : Nat) : (bs ext09 k).Good := good_of (fun p hp => by
  simp only [ps09, List.mem_cons, List.not_mem_nil, or_false] at hp
  rcases hp with rfl | rfl | rfl | rfl | rfl | rfl | rfl | rfl | rfl | rfl | rfl
  · exact fmt_right
  · exact itoa_right
  · exact cutP_right
  · exact trimR_right
  · exact index_right
  · exact indexByte_right
  · exact repeat_right
  · exact pInt_right
  · exact pUint_right
  · exact dec_right
  · exact any_right) names_ok k
instance textV09 : HasTextV ext09 where
  dec k n s := (kp_piece (ps := ps09) (p := pDec) (k := k) (n := n) (args := [.str s]) rfl).trans rfl
  idx k n s hs := by
    have h := kp_piece (ps := ps09) (p := pAny) (k := k) (n := n) (args := [.str (str s), .str (str [61, 0])]) rfl
    have e : pAny.ans [.str (str s), .str (str [61, 0])] = (bif decide (str [61, 0] = str [61, 0]) && decide ((str s).size ≤ 1000000) then (bif decide (8 < (str s).size) then some (.int .i64 (Lib.indexAny (str s).data.toList [61, 0])) else (bs ext09a 100).kap 3 strings_IndexAny [.str (str s), .str (str [61, 0])]) else none) := rfl
    rw [e, str_size, decide_eq_true rfl, decide_eq_true hs, Bool.true_and, cond_true] at h
    by_cases h8 : 8 < s.length
    · rw [decide_eq_true h8, cond_true] at h
      exact ⟨_, h, any_long_v s⟩
    · rw [decide_eq_false h8, cond_false] at h
      obtain ⟨r, hr, hv⟩ := any_short_v (E := ext09a) (k := 100) (n := 0) (by kernel_rfl) (by kernel_rfl) (by omega) s (by omega)
      exact ⟨r, h.trans hr, hv⟩
end Go.Proofs.YtilbahgfjfcikaaDoor.Eng.U


/- pax.Print as a given function: the lines of the pairs, a new row. -/
set_option linter.unusedVariables false
set_option linter.unusedSectionVars false
set_option linter.unusedSimpArgs false
namespace Go.Proofs.YtilbahgfjfcikaaDoor.Eng.U
open Go Go.RowKit Go.Proofs Go.Proofs.YtilbahgfjfcikaaDoor.Eng Go.Proofs.YtilbahgfjfcikaaDoor.Eng.Rdv

def toPrs : List AV → Option (List Pair)
  | [] => some []
  | .agg [.str x, .str y] :: l => (toPrs l).map fun r => ⟨x.data.toList, y.data.toList⟩ :: r
  | _ => none
theorem toPrs_prs : ∀ l : List Pair, toPrs (prs l) = some l
  | [] => rfl
  | p :: l => by
    show (toPrs (prs l)).map (fun r => (⟨(str p.key).data.toList, (str p.val).data.toList⟩ : Pair) :: r) = _
    rw [toPrs_prs l]; rfl
theorem toPrs_some : ∀ {xs : List AV} {l : List Pair}, toPrs xs = some l → xs = prs l
  | [], l, h => by cases h; rfl
  | x :: xs, l, h => by
    unfold toPrs at h
    split at h
    · rename_i e; cases e
    · rename_i a b l' e
      cases e
      obtain ⟨r, hr, he⟩ := Option.map_eq_some_iff.1 h
      cases he
      rw [toPrs_some hr]
      have : ∀ s : ByteArray, str s.data.toList = s := str_self
      show AV.agg [.str a, .str b] :: prs r = AV.agg [.str (str a.data.toList), .str (str b.data.toList)] :: prs r
      rw [this, this]
    · cases h
def okP (l : List Pair) : Bool := decide (l.length ≤ 1000) && l.all fun p => decide (p.key.length ≤ 1000000) && decide (p.val.length ≤ 1000000)
def txtP (p : Pair) : ByteArray := str (Lib.decDigits (lenP p))
def linesL (l : List Pair) : List UInt8 := linesOf txtP l
noncomputable def pPrint : Piece := { f := pax_Print, ans := fun args => match args with
  | [.list 2 xs] => (toPrs xs).bind fun l => bif okP l then some (bif l.all pairOk then .tup [.list 1 (bys (linesL l)), .int .u8 0] else .tup [.list 1 [], .int .u8 15]) else none
  | _ => none }
theorem ok_rowint {f : FuncId} {args : List AV} {e : TypeId} {sz : Nat} {xs : List AV} {kk : IntKind} {z : Int} (h : ∀ (S : Stab) (w : World) (vals : List Value), Agree S w → GlobOk glob S w → VL S args vals → Calls Tryd.prog f vals.toArray w fun en w' => ∃ v us, en = .returned (.tuple #[v, .int kk z]) ∧ w'.ownsRow w.heap.size e sz v xs.length us ∧
      (∀ (i : Nat) (x : AV), xs[i]? = some x → x.cells.length = sz ∧ ∀ (j : Nat) (c : AV), x.cells[j]? = some c → c.leaf = true ∧ ∀ u, us[i * sz + j]? = some u → V S c u) ∧ Below w.heap.size w w') (hr : (args.all fun c => !c.isRes) = true := by rfl) : Ok Tryd.prog glob f args (.tup [.list sz xs, .int kk z]) := by
  refine Ok.of_plain (fun c hc => by simpa using List.all_eq_true.1 hr c hc) fun S w vals hag hG hV => ?_
  refine (h S w vals hag hG hV).mono ?_
  rintro en w' ⟨v, us, rfl, hown, hels, hb⟩
  obtain ⟨S', h1, h2, h3, h4⟩ := row_V (agree_below hag hb) hown hels
  refine ⟨_, S', rfl, h1, h2, h3, hb, [v, .int kk z], rfl, rfl, fun j c u hc hu => ?_, fun i j c d u v g hc hd hf => ?_⟩
  · match j, hc, hu with
    | 0, hc, hu => cases hc; cases hu; exact h4
    | 1, hc, hu => cases hc; cases hu; exact V.int _ _
  · match i, hc with
    | 0, hc => cases hc; cases hf
    | 1, hc => cases hc; cases hf
theorem list_inv {S : Stab} {sz : Nat} {xs : List AV} {v : Value} (h : V S (.list sz xs) v) : ∃ (ao : Option Addr) (cap : Nat), v = .slice ao xs.length cap ∧ ∀ (i : Nat) (x : AV), xs[i]? = some x → ∃ (a : Addr) (f : Nat → Value), ao = some a ∧ ∀ (j : Nat) (c : AV), x.cells[j]? = some c → S (a.add (i * sz + j)) = some (f j) ∧ V S c (f j) := by
  cases h with
  | list0 a b c => exact ⟨some _, _, rfl, fun i x h => by simp at h⟩
  | listn a => exact ⟨none, 0, rfl, fun i x h => by simp at h⟩
  | list a b ad cap f h0 h1 h2 h3 h4 => exact ⟨some ad, cap, rfl, fun i x hx => ⟨ad, f i, rfl, fun j c hc => ⟨h3 i x j c hx hc, h4 i x j c hx hc⟩⟩⟩
theorem lines_le : ∀ l : List Pair, (∀ p ∈ l, p.key.length ≤ 1000000 ∧ p.val.length ≤ 1000000) → (linesOf txtP l).length ≤ l.length * 3000000
  | [], _ => by simp [linesOf]
  | p :: l, h => by
    have hp := h p (.head _)
    have ih := lines_le l fun q hq => h q (.tail _ hq)
    have := lenP_facts p hp.1 hp.2
    have hr : restP p = p.key.length + p.val.length + 3 := rfl
    have hd := dl_le (lenP p) (by omega)
    have e : (Lib.decDigits (lenP p)).length = dl (lenP p) := rfl
    have e2 : linesOf txtP (p :: l) = (lineOf (txtP p) p.key p.val).data.toList ++ linesOf txtP l := rfl
    rw [e2, List.length_append, size_toList, List.length_cons]
    have e3 : (lineOf (txtP p) p.key p.val).size = dl (lenP p) + 1 + p.key.length + 1 + p.val.length + 1 := by
      unfold lineOf txtP
      rw [ByteArray.size_append, ByteArray.size_append, ByteArray.size_append, ByteArray.size_append, ByteArray.size_append, str_size, str_size, str_size, str_size, str_size, str_size]
      rfl
    omega
theorem print_right : pPrint.Right := by
  refine ⟨⟨Tryd.f33, Tryd.func33, by kernel_rfl, by kernel_rfl⟩, fun args res h => ?_⟩
  unfold pPrint at h
  dsimp only at h
  split at h
  · rename_i xs
    obtain ⟨l, hl, h2⟩ := Option.bind_eq_some_iff.1 h
    clear h
    obtain rfl := toPrs_some hl
    obtain ⟨hok, h3⟩ := some_of_bif h2
    clear h2
    obtain rfl := Option.some.inj h3
    clear h3
    unfold okP at hok
    rw [Bool.and_eq_true, decide_eq_true_eq, List.all_eq_true] at hok
    obtain ⟨hl1, hb⟩ := hok
    have hb : ∀ p ∈ l, p.key.length ≤ 1000000 ∧ p.val.length ≤ 1000000 := fun p hp => by have := hb p hp; simpa using this
    have hB : (bs ext09 2000000).Good := good09 2000000
    have key : ∀ (S : Stab) (w : World) (vals : List Value), Agree S w → GlobOk glob S w → VL S [.list 2 (prs l)] vals → Calls Tryd.prog 33 vals.toArray w fun e w' => Below w.heap.size w w' ∧
      ((l.all pairOk = true ∧ ∃ r, e = .returned (.tuple #[r, .int .u8 0]) ∧ w'.ownsRow w.heap.size 5 1 r (linesL l).length (Lib.byteCells (linesL l))) ∨ (l.all pairOk = false ∧ e = .returned (.tuple #[.slice none 0 0, .int .u8 15]))) := by
      intro S w vals hag hG hV
      obtain ⟨v, rfl, hv⟩ := VL_1 hV
      obtain ⟨ao, cap, rfl, hel⟩ := list_inv hv
      rw [prs_len]
      refine print_walk (E := ext09) (k := 2000000) (n := 5) hB txtP (fun p => (lenP p : Nat)) l ao cap w (by omega) (fun g cs hg => by
        obtain ⟨h1, h2⟩ := hG g cs hg
        exact ⟨h1.mono fun x v hx => hag x v hx, h2⟩) (fun p hp => ⟨(hb p hp).1, (hb p hp).2, by
          have := lenP_facts p (hb p hp).1 (hb p hp).2
          have hd := dl_le (lenP p) (by have : restP p = p.key.length + p.val.length + 3 := rfl; have := hb p hp; omega)
          show (str (Lib.decDigits (lenP p))).size ≤ 1000
          rw [str_size]
          have e : (Lib.decDigits (lenP p)).length = dl (lenP p) := rfl
          omega⟩) (fun i => ?_) (fun p hp => paxLen_k p (hb p hp).1 (hb p hp).2 (by omega)) (fun p hp => by
          have := lenP_facts p (hb p hp).1 (hb p hp).2
          have : restP p = p.key.length + p.val.length + 3 := rfl
          have := hb p hp
          rw [HasNum.itoa 2000000 5 _ (by omega) (by omega), itoa_nat]; rfl) (fun p hp => paxRight_k (n := 0) p (hb p hp).1 (hb p hp).2 (by omega)) (fun i p hp => ?_)
      · have := lines_le (l.take i) fun p hp => hb p (List.mem_of_mem_take hp)
        have h3 : (l.take i).length ≤ 1000 := by rw [List.length_take]; omega
        omega
      · obtain ⟨a, f, ha, hc⟩ := hel i (elPair p) (by unfold prs; rw [List.getElem?_map, hp]; rfl)
        obtain ⟨c0, d0⟩ := hc 0 (.str (str p.key)) rfl
        obtain ⟨c1, d1⟩ := hc 1 (.str (str p.val)) rfl
        rw [V_str d0] at c0
        rw [V_str d1] at c1
        exact ⟨a, ha, hag _ _ c0, hag _ _ c1⟩
    cases hall : l.all pairOk with
    | true =>
      rw [cond_true]
      refine ok_rowint (e := 5) fun S w vals hag hG hV => (key S w vals hag hG hV).mono ?_
      rintro e w' ⟨hb', ⟨_, r, rfl, hown⟩ | ⟨hf, _⟩⟩
      · refine ⟨r, _, rfl, by rw [bys_len]; exact hown, fun i x hx => ?_, hb'⟩
        unfold bys at hx
        rw [List.getElem?_map] at hx
        obtain ⟨b, hb2, rfl⟩ := Option.map_eq_some_iff.1 hx
        refine ⟨rfl, fun j c hc => ?_⟩
        match j, hc with
        | 0, hc =>
          cases hc
          refine ⟨rfl, fun u hu => ?_⟩
          rw [show i * 1 + 0 = i by omega] at hu
          unfold Lib.byteCells at hu
          rw [List.getElem?_map, hb2] at hu
          cases hu
          exact V.int _ _
      · rw [hall] at hf; cases hf
    | false =>
      rw [cond_false]
      refine ok_rowint (e := 5) (sz := 1) (xs := []) fun S w vals hag hG hV => (key S w vals hag hG hV).mono ?_
      rintro e w' ⟨hb', ⟨ht, _⟩ | ⟨_, rfl⟩⟩
      · rw [hall] at ht; cases ht
      · exact ⟨_, [], rfl, World.ownsRow_nil _ _ _ _, fun i x hx => by simp at hx, hb'⟩
  · cases h
end Go.Proofs.YtilbahgfjfcikaaDoor.Eng.U


/- The library's functions and pax.Print, given together. -/
set_option linter.unusedVariables false
set_option linter.unusedSectionVars false
set_option linter.unusedSimpArgs false
namespace Go.Proofs.YtilbahgfjfcikaaDoor.Eng.U
open Go Go.RowKit Go.Proofs Go.Proofs.YtilbahgfjfcikaaDoor.Eng

class HasPrint (E : Ext) : Prop where
  print : ∀ (k n : Nat) (l : List Pair), okP l = true → kp E k n pax_Print [.list 2 (prs l)] = some (bif l.all pairOk then .tup [.list 1 (bys (linesL l)), .int .u8 0] else .tup [.list 1 [], .int .u8 15])
noncomputable def ps07 : List Piece := [pFmt, pItoa, pCutP, pTrimR, pIndex, pIndexByte, pRepeat, pPInt, pPUint, pDec, pAny, pPrint]
noncomputable def ext07 : Ext := extOf ps07
instance core07 : Core ext07 := core_of (by kernel_rfl)
instance num07 : HasNum ext07 := num_of rfl rfl rfl rfl rfl rfl rfl rfl rfl
instance text07 : HasText ext07 where
  dec k n s := ⟨_, _, (kp_piece (ps := ps07) (p := pDec) (k := k) (n := n) (args := [.str (str s)]) rfl).trans rfl⟩
  idx k n s hs := by
    have h := kp_piece (ps := ps07) (p := pAny) (k := k) (n := n) (args := [.str (str s), .str (str [61, 0])]) rfl
    have e : pAny.ans [.str (str s), .str (str [61, 0])] = (bif decide (str [61, 0] = str [61, 0]) && decide ((str s).size ≤ 1000000) then (bif decide (8 < (str s).size) then some (.int .i64 (Lib.indexAny (str s).data.toList [61, 0])) else (bs ext09a 100).kap 3 strings_IndexAny [.str (str s), .str (str [61, 0])]) else none) := rfl
    rw [e, str_size, decide_eq_true rfl, decide_eq_true hs, Bool.true_and, cond_true] at h
    by_cases h8 : 8 < s.length
    · rw [decide_eq_true h8, cond_true] at h
      exact ⟨_, h⟩
    · rw [decide_eq_false h8, cond_false] at h
      obtain ⟨r, hr⟩ := any_short (E := ext09a) (k := 100) (n := 0) (by kernel_rfl) (by kernel_rfl) (by omega) s (by omega)
      exact ⟨r, h.trans hr⟩
instance textV07 : HasTextV ext07 where
  dec k n s := (kp_piece (ps := ps07) (p := pDec) (k := k) (n := n) (args := [.str s]) rfl).trans rfl
  idx k n s hs := by
    have h := kp_piece (ps := ps07) (p := pAny) (k := k) (n := n) (args := [.str (str s), .str (str [61, 0])]) rfl
    have e : pAny.ans [.str (str s), .str (str [61, 0])] = (bif decide (str [61, 0] = str [61, 0]) && decide ((str s).size ≤ 1000000) then (bif decide (8 < (str s).size) then some (.int .i64 (Lib.indexAny (str s).data.toList [61, 0])) else (bs ext09a 100).kap 3 strings_IndexAny [.str (str s), .str (str [61, 0])]) else none) := rfl
    rw [e, str_size, decide_eq_true rfl, decide_eq_true hs, Bool.true_and, cond_true] at h
    by_cases h8 : 8 < s.length
    · rw [decide_eq_true h8, cond_true] at h
      exact ⟨_, h, any_long_v s⟩
    · rw [decide_eq_false h8, cond_false] at h
      obtain ⟨r, hr, hv⟩ := any_short_v (E := ext09a) (k := 100) (n := 0) (by kernel_rfl) (by kernel_rfl) (by omega) s (by omega)
      exact ⟨r, h.trans hr, hv⟩
instance print07 : HasPrint ext07 where
  print k n l hl := by
    have h := kp_piece (ps := ps07) (p := pPrint) (k := k) (n := n) (args := [.list 2 (prs l)]) rfl
    have e : pPrint.ans [.list 2 (prs l)] = (toPrs (prs l)).bind fun l => bif okP l then some (bif l.all pairOk then .tup [.list 1 (bys (linesL l)), .int .u8 0] else .tup [.list 1 [], .int .u8 15]) else none := rfl
    rw [e, toPrs_prs, Option.bind_some, hl, cond_true] at h
    exact h
theorem good07 (k : Nat) : (bs ext07 k).Good := good_of (fun p hp => by
  simp only [ps07, List.mem_cons, List.not_mem_nil, or_false] at hp
  rcases hp with rfl | rfl | rfl | rfl | rfl | rfl | rfl | rfl | rfl | rfl | rfl | rfl
  · exact fmt_right
  · exact itoa_right
  · exact cutP_right
  · exact trimR_right
  · exact index_right
  · exact indexByte_right
  · exact repeat_right
  · exact pInt_right
  · exact pUint_right
  · exact dec_right
  · exact any_right
  · exact print_right) names_ok k
end Go.Proofs.YtilbahgfjfcikaaDoor.Eng.U


/- The chapter's example of layer 7. -/
set_option linter.unusedVariables false
set_option linter.unusedSectionVars false
set_option linter.unusedSimpArgs false
namespace Go.Proofs.YtilbahgfjfcikaaDoor.Eng.U
open Go Go.RowKit Go.Proofs Go.Proofs.YtilbahgfjfcikaaDoor.Eng

theorem ok_pa : pairOk ⟨[112, 97, 116, 104], [97]⟩ = true := by kernel_rfl
theorem len_pa : lenP ⟨[112, 97, 116, 104], [97]⟩ = 9 := by
  show lenF 30 8 8 = 9
  have h8 : dl 8 = 1 := dl_small (by omega)
  have h9 : dl 9 = 1 := dl_small (by omega)
  unfold lenF
  rw [h8, if_neg (by omega)]
  unfold lenF
  rw [h9, if_pos (by omega)]
theorem lines_pa : linesL [⟨[112, 97, 116, 104], [97]⟩] = [57, 32, 112, 97, 116, 104, 61, 97, 10] := by
  have h : Lib.decDigits 9 = [57] := by rw [Lib.decDigits, dif_pos (by omega)]; rfl
  unfold linesL linesOf txtP
  rw [List.flatMap_cons, List.flatMap_nil, len_pa, h]
  rfl
def sumP : List Pair → Nat
  | [] => 0
  | p :: l => p.key.length + p.val.length + sumP l
theorem few_loop {k : Nat} (kap : FuncId → List AV → Option AV) (suf : List Pair) : ∀ (pre : List Pair) (s k0 : Nat), suf.length < k0 → s + sumP suf ≤ 9223372036854775807 → (pre ++ suf).length ≤ 1000000000000000 →
    law07_few_L0 kap k k0 (prs (pre ++ suf)) ((s : Nat) : Int) ((pre.length : Nat) : Int) = some (.bool (decide ((pre ++ suf).length ≤ 50) && decide (s + sumP suf ≤ 3000))) := by
  induction suf with
  | nil =>
    intro pre s k0 h hs hb
    obtain ⟨m, rfl⟩ : ∃ m, k0 = m + 1 := ⟨k0 - 1, by simp only [List.length_nil] at h; omega⟩
    have e : decide (((s : Nat) : Int) ≤ 3000) = decide (s + sumP [] ≤ 3000) := by rw [decide_eq_decide]; simp only [sumP]; omega
    rw [law07_few_L0_s, prs_len, bif_f (by simp), e, List.append_nil]
    by_cases hl : pre.length ≤ 50
    · rw [bif_t (by omega), decide_eq_true hl, Bool.true_and]
    · rw [bif_f (by omega), decide_eq_false hl, Bool.false_and]
  | cons p suf ih =>
    intro pre s k0 h hs hb
    obtain ⟨m, rfl⟩ : ∃ m, k0 = m + 1 := ⟨k0 - 1, by simp only [List.length_cons] at h; omega⟩
    have h' : suf.length < m := by simp only [List.length_cons] at h; omega
    have hb' : pre.length + (suf.length + 1) ≤ 1000000000000000 := by simp only [List.length_append, List.length_cons] at hb; exact hb
    have hs' : s + (p.key.length + p.val.length + sumP suf) ≤ 9223372036854775807 := hs
    have hi := ih (pre ++ [p]) (s + p.key.length + p.val.length) m h' (by omega) (by simp only [List.length_append, List.length_cons, List.length_nil]; omega)
    rw [List.append_assoc, List.singleton_append, ← snoc_len, mid_len] at hi
    have e : decide (s + p.key.length + p.val.length + sumP suf ≤ 3000) = decide (s + sumP (p :: suf) ≤ 3000) := by rw [decide_eq_decide]; simp only [sumP]; omega
    rw [law07_few_L0_s, prs_len, mid_len, bif_t (by omega), bif_a, bif_t (by omega), bif_t (by omega), Int.toNat_natCast, prs_mid, cells_pair, p_0, bif_a, bif_t (by omega), bif_t (by omega), prs_mid, cells_pair, p_1, str_size, str_size, i64w (x := ((s : Nat) : Int) + ((p.key.length : Nat) : Int)) (by omega), i64w (x := ((s : Nat) : Int) + ((p.key.length : Nat) : Int) + ((p.val.length : Nat) : Int)) (by omega), i64w (by omega)]
    rw [← e, ← hi]
    congr 1
end Go.Proofs.YtilbahgfjfcikaaDoor.Eng.U


/- What is printed is read, in plain Lean. -/
set_option linter.unusedVariables false
set_option linter.unusedSimpArgs false
namespace Go.Proofs.YtilbahgfjfcikaaDoor.P04
open Go

theorem ofNat_dig {d : Nat} (h : d < 10) : (UInt8.ofNat (48 + d)).toNat = 48 + d := by rw [UInt8.toNat_ofNat']; omega
theorem isDig_of {d : Nat} (h : d < 10) : isDig (UInt8.ofNat (48 + d)) = true := by rw [dig_iff, ofNat_dig h]; omega
theorem dec_facts (u : Nat) : (Lib.decDigits u).all isDig = true ∧ valA 0 (Lib.decDigits u) = u ∧ Lib.decDigits u ≠ [] ∧ ((Lib.decDigits u).headD 0 = 48 → u = 0) := by
  induction u using Nat.strongRecOn with
  | ind u ih =>
    by_cases h : u < 10
    · rw [Lib.decDigits_one h]
      refine ⟨by rw [List.all_cons, isDig_of h]; rfl, ?_, by simp, fun e => ?_⟩
      · show 0 * 10 + ((UInt8.ofNat (48 + u)).toNat - 48) = u
        rw [ofNat_dig h]; omega
      · have : (UInt8.ofNat (48 + u)).toNat = 48 := congrArg UInt8.toNat e
        rw [ofNat_dig h] at this; omega
    · obtain ⟨h1, h2, h3, h4⟩ := ih (u / 10) (by omega)
      rw [decDigits_rec h]
      refine ⟨by rw [List.all_append, h1, List.all_cons, isDig_of (by omega)]; rfl, ?_, by simp, fun e => ?_⟩
      · rw [valA_app, h2]
        show u / 10 * 10 + ((UInt8.ofNat (48 + u % 10)).toNat - 48) = u
        rw [ofNat_dig (by omega)]; omega
      · cases hl : Lib.decDigits (u / 10) with
        | nil => exact absurd hl h3
        | cons c l =>
          rw [hl] at e h4
          have := h4 e
          omega
theorem dec_digs (u : Nat) : digs (Lib.decDigits u) = true := by
  obtain ⟨h1, _, h3, _⟩ := dec_facts u
  unfold digs
  rw [h1, Bool.true_and, Bool.not_eq_true', List.isEmpty_eq_false_iff]
  exact h3
theorem dec_natOk (u : Nat) (h : u ≤ 9223372036854775808) : natOk (Lib.decDigits u) = true := by
  obtain ⟨h1, h2, h3, h4⟩ := dec_facts u
  unfold natOk
  rw [dec_digs, h2, decide_eq_true h, Bool.and_true, Bool.true_and, Bool.not_eq_true']
  unfold lead
  by_cases e : (Lib.decDigits u).headD 0 = 48
  · have := h4 e
    subst this
    rw [Lib.decDigits_one (by omega)]
    rfl
  · rw [decide_eq_false e]; rfl
theorem valA_acc : ∀ (l : List UInt8) (a : Nat), valA a l = a * 10 ^ l.length + valA 0 l
  | [], a => by show a = a * 1 + 0; omega
  | c :: l, a => by
    rw [valA_cons, valA_cons, valA_acc l (a * 10 + (c.toNat - 48)), valA_acc l (0 * 10 + (c.toNat - 48)), List.length_cons, Nat.pow_succ]
    rw [Nat.zero_mul, Nat.zero_add, Nat.add_mul, Nat.mul_assoc, Nat.mul_comm 10, Nat.add_assoc]
/-! No fewer bytes. -/
theorem nDigits_le : ∀ (k u : Nat), u < 10 ^ (k + 1) → Lib.nDigits u ≤ k + 1
  | 0, u, h => by rw [Lib.nDigits_small (by omega)]; omega
  | k + 1, u, h => by
    by_cases h1 : u < 10
    · rw [Lib.nDigits_small h1]; omega
    · rw [Lib.nDigits_big h1]
      have := nDigits_le k (u / 10) (by rw [Nat.pow_succ] at h; omega)
      omega
theorem dec_short {a : List UInt8} (h : digs a = true) : (Lib.decDigits (valA 0 a)).length ≤ a.length := by
  unfold digs at h
  rw [Bool.and_eq_true, Bool.not_eq_true', List.isEmpty_eq_false_iff] at h
  have hl := List.length_pos_iff.2 h.2
  have := valA_lt a 0 0 h.1 (by omega)
  rw [Lib.decDigits_length]
  obtain ⟨k, hk⟩ : ∃ k, a.length = k + 1 := ⟨a.length - 1, by omega⟩
  rw [Nat.zero_add] at this
  rw [hk] at this ⊢
  exact nDigits_le k _ this
end Go.Proofs.YtilbahgfjfcikaaDoor.P04


/- Which bytes are records: in plain words. -/
set_option linter.unusedVariables false
set_option linter.unusedSectionVars false
set_option linter.unusedSimpArgs false
namespace Go.Proofs.YtilbahgfjfcikaaDoor.Eng.U
open Go Go.Proofs Go.Proofs.YtilbahgfjfcikaaDoor.Eng Go.Proofs.YtilbahgfjfcikaaDoor.P04

def upto (c : UInt8) (l : Tx) : Tx := l.takeWhile fun x => decide (x ≠ c)
theorem upto_nil (c : UInt8) : upto c [] = [] := rfl
theorem upto_hit (c : UInt8) (l : Tx) : upto c (c :: l) = [] := by simp [upto]
theorem upto_cons {c x : UInt8} (h : x ≠ c) (l : Tx) : upto c (x :: l) = x :: upto c l := by simp [upto, h]
theorem upto_le (c : UInt8) : ∀ l : Tx, (upto c l).length ≤ l.length
  | [] => Nat.le_refl _
  | x :: l => by
    have := upto_le c l
    by_cases h : x = c
    · subst h; rw [upto_hit]; simp
    · rw [upto_cons h]; simp only [List.length_cons]; omega
theorem upto_app {c : UInt8} : ∀ {a : Tx} (r : Tx), (∀ x ∈ a, x ≠ c) → upto c (a ++ c :: r) = a
  | [], r, _ => upto_hit c r
  | x :: a, r, h => by
    rw [List.cons_append, upto_cons (h x (.head _)), upto_app r fun y hy => h y (.tail _ hy)]
theorem upto_take (c : UInt8) : ∀ l : Tx, l.take (upto c l).length = upto c l
  | [] => rfl
  | x :: l => by
    by_cases h : x = c
    · subst h; rw [upto_hit]; rfl
    · rw [upto_cons h, List.length_cons, List.take_succ_cons, upto_take c l]
/-- A record of n bytes, whose number has d digits. -/
def recT (b : Tx) (n d : Nat) : Option (Pair × Nat) :=
  let m := (b.take (n - 1)).drop (d + 1)
  if (upto 61 m).length < m.length ∧ pairOk ⟨upto 61 m, m.drop ((upto 61 m).length + 1)⟩ = true then some (⟨upto 61 m, m.drop ((upto 61 m).length + 1)⟩, n) else none
def recL (b : Tx) : Option (Pair × Nat) :=
  if natOk (upto 32 b) = true ∧ valA 0 (upto 32 b) ≤ b.length ∧ (upto 32 b).length + 2 ≤ valA 0 (upto 32 b) ∧ b.getD (valA 0 (upto 32 b) - 1) 0 = 10 then recT b (valA 0 (upto 32 b)) (upto 32 b).length else none
def parseL : Nat → Tx → Option (List Pair)
  | 0, b => if b = [] then some [] else none
  | f + 1, b => if b = [] then some [] else match recL b with
    | none => none
    | some (p, n) => (parseL f (b.drop n)).map (p :: ·)
theorem recL_facts {b : Tx} {p : Pair} {n : Nat} (h : recL b = some (p, n)) : 2 ≤ n ∧ n ≤ b.length ∧ pairOk p = true ∧ natOk (upto 32 b) = true ∧ n = valA 0 (upto 32 b) ∧ n = (upto 32 b).length + restP p ∧ (upto 32 b).length + 2 ≤ n := by
  unfold recL at h
  split at h
  · rename_i hc
    obtain ⟨h1, h2, h3, h4⟩ := hc
    unfold recT at h
    dsimp only at h
    split at h
    · rename_i hd
      obtain ⟨h5, h6⟩ := hd
      rw [Option.some.injEq, Prod.mk.injEq] at h
      obtain ⟨rfl, rfl⟩ := h
      refine ⟨by omega, h2, h6, h1, rfl, ?_, h3⟩
      unfold restP
      dsimp only
      rw [List.length_drop] at *
      rw [List.length_drop, List.length_take] at *
      omega
    · cases h
  · cases h
/-- The bytes of a pair's record. -/
def recB (p : Pair) : Tx := Lib.decDigits (lenP p) ++ 32 :: (p.key ++ 61 :: (p.val ++ [10]))
theorem recB_len (p : Pair) (h1 : p.key.length ≤ 1000000) (h2 : p.val.length ≤ 1000000) : (recB p).length = lenP p := by
  have := lenP_facts p h1 h2
  unfold recB restP at *
  simp only [List.length_append, List.length_cons, List.length_nil]
  have e : (Lib.decDigits (lenP p)).length = dl (lenP p) := rfl
  omega
theorem dig_no {c x : UInt8} (h : isDig x = true) (hc : c.toNat < 48) : x ≠ c := by
  rintro rfl
  have := dig_iff.1 h
  omega
theorem rec_print (p : Pair) (r : Tx) (h1 : p.key.length ≤ 1000000) (h2 : p.val.length ≤ 1000000) (hp : pairOk p = true) : recL (recB p ++ r) = some (p, lenP p) := by
  have hf := lenP_facts p h1 h2
  have hl := recB_len p h1 h2
  obtain ⟨d1, d2, d3, d4⟩ := dec_facts (lenP p)
  have e : (Lib.decDigits (lenP p)).length = dl (lenP p) := rfl
  have hD : upto 32 (recB p ++ r) = Lib.decDigits (lenP p) := by
    unfold recB
    rw [List.append_assoc, List.cons_append]
    exact upto_app _ fun x hx => dig_no (List.all_eq_true.1 d1 x hx) (by decide)
  have hr : restP p = p.key.length + p.val.length + 3 := rfl
  unfold recL
  rw [hD, d2]
  have hb : (recB p ++ r).take (lenP p - 1) = Lib.decDigits (lenP p) ++ 32 :: (p.key ++ 61 :: p.val) := by
    rw [List.take_append_of_le_length (by omega)]
    have e2 : recB p = (Lib.decDigits (lenP p) ++ 32 :: (p.key ++ 61 :: p.val)) ++ [10] := by unfold recB; simp
    rw [e2]
    have : lenP p - 1 = (Lib.decDigits (lenP p) ++ 32 :: (p.key ++ 61 :: p.val)).length := by
      simp only [List.length_append, List.length_cons]; omega
    rw [this, List.take_left']
    rfl
  have hlast : (recB p ++ r).getD (lenP p - 1) 0 = 10 := by
    have e2 : recB p ++ r = (Lib.decDigits (lenP p) ++ 32 :: (p.key ++ 61 :: p.val)) ++ 10 :: r := by unfold recB; simp
    have : lenP p - 1 = (Lib.decDigits (lenP p) ++ 32 :: (p.key ++ 61 :: p.val)).length := by
      simp only [List.length_append, List.length_cons]; omega
    rw [e2, this, List.getD_eq_getElem?_getD, List.getElem?_append_right (Nat.le_refl _)]
    simp
  rw [if_pos ⟨dec_natOk _ (by omega), by rw [List.length_append]; omega, by omega, hlast⟩]
  unfold recT
  rw [hb]
  have hm : (Lib.decDigits (lenP p) ++ 32 :: (p.key ++ 61 :: p.val)).drop ((Lib.decDigits (lenP p)).length + 1) = p.key ++ 61 :: p.val := by
    rw [List.drop_append, List.drop_eq_nil_of_le (by omega), List.nil_append, show (Lib.decDigits (lenP p)).length + 1 - (Lib.decDigits (lenP p)).length = 1 by omega]
    rfl
  dsimp only
  rw [hm]
  have hk : upto 61 (p.key ++ 61 :: p.val) = p.key := upto_app _ fun x hx => by
    unfold pairOk at hp
    simp only [Bool.and_eq_true] at hp
    have := hp.2.2.1
    unfold noEq at this
    have := List.all_eq_true.1 this x hx
    simp only [Bool.and_eq_true, decide_eq_true_eq] at this
    first | exact this.1 | exact this.2
  rw [hk]
  have hv : (p.key ++ 61 :: p.val).drop (p.key.length + 1) = p.val := by
    rw [List.drop_append, List.drop_eq_nil_of_le (by omega), List.nil_append, show p.key.length + 1 - p.key.length = 1 by omega]
    rfl
  rw [hv, if_pos ⟨by simp, hp⟩]
theorem parse_print : ∀ (l : List Pair) (f : Nat), (∀ p ∈ l, p.key.length ≤ 1000000 ∧ p.val.length ≤ 1000000) → l.all pairOk = true → l.length ≤ f → parseL f (l.flatMap recB) = some l
  | [], f, _, _, _ => by cases f <;> rfl
  | p :: l, f, hb, ho, hf => by
    obtain ⟨f, rfl⟩ : ∃ j, f = j + 1 := ⟨f - 1, by rw [List.length_cons] at hf; omega⟩
    rw [List.all_cons, Bool.and_eq_true] at ho
    have hp := hb p (.head _)
    have hlen := recB_len p hp.1 hp.2
    have h3 : 3 ≤ lenP p := by have := lenP_facts p hp.1 hp.2; unfold restP at this; omega
    rw [List.flatMap_cons]
    unfold parseL
    rw [if_neg (by intro h; have := congrArg List.length h; rw [List.length_append, hlen, List.length_nil] at this; omega), rec_print p _ hp.1 hp.2 ho.1]
    dsimp only
    rw [← hlen, List.drop_left', parse_print l f (fun q hq => hb q (.tail _ hq)) ho.2 (by rw [List.length_cons] at hf; omega)]
    rfl
    rfl
theorem dl_ge : ∀ (j u : Nat), 10 ^ j ≤ u → j + 1 ≤ dl u
  | 0, u, _ => dl_pos u
  | j + 1, u, h => by
    have h10 : 10 ^ (j + 1) = 10 * 10 ^ j := by rw [Nat.pow_succ, Nat.mul_comm]
    have hp : 1 ≤ 10 ^ j := Nat.one_le_pow _ _ (by omega)
    rw [dl_big (by omega)]
    have := dl_ge j (u / 10) (by omega)
    omega
theorem dl_nat {D : Tx} (h : natOk D = true) (h0 : 0 < valA 0 D) : dl (valA 0 D) = D.length := by
  unfold natOk at h
  simp only [Bool.and_eq_true, Bool.not_eq_true'] at h
  obtain ⟨⟨hd, hl⟩, hv⟩ := h
  have h1 := dec_short hd
  have e : (Lib.decDigits (valA 0 D)).length = dl (valA 0 D) := rfl
  have hd2 := hd
  unfold digs at hd2
  simp only [Bool.and_eq_true] at hd2
  cases D with
  | nil => simp at hd2
  | cons c r =>
    have hc : isDig c = true := List.all_eq_true.1 hd2.1 c (.head _)
    have hc2 := dig_iff.1 hc
    have hne : 49 ≤ c.toNat := by
      by_cases e48 : c = 48
      · subst e48
        by_cases hr : 1 < (48 :: r).length
        · have hl2 : lead (48 :: r) = true := by unfold lead; rw [List.headD_cons, decide_eq_true rfl, decide_eq_true hr]; rfl
          rw [hl2] at hl; cases hl
        · have : r = [] := List.eq_nil_of_length_eq_zero (by rw [List.length_cons] at hr; omega)
          subst this
          revert h0; decide
      · have : c.toNat ≠ 48 := fun h => e48 (UInt8.toNat_inj.1 h)
        omega
    have hv : 10 ^ r.length ≤ valA 0 (c :: r) := by
      rw [valA_cons, valA_acc]
      have : 1 * 10 ^ r.length ≤ (0 * 10 + (c.toNat - 48)) * 10 ^ r.length := Nat.mul_le_mul_right _ (by omega)
      omega
    have := dl_ge r.length _ hv
    rw [List.length_cons] at *
    omega
theorem rec_short {b : Tx} {p : Pair} {n : Nat} (h : recL b = some (p, n)) (hb : b.length ≤ 1000000) : lenP p ≤ n ∧ p.key.length ≤ 1000000 ∧ p.val.length ≤ 1000000 := by
  obtain ⟨h1, h2, h3, h4, h5, h6, h7⟩ := recL_facts h
  have hr : restP p = p.key.length + p.val.length + 3 := rfl
  have hd := dl_nat h4 (by omega)
  have hk : p.key.length ≤ 1000000 := by omega
  have hv : p.val.length ≤ 1000000 := by omega
  refine ⟨(lenP_facts p hk hv).2.2 n ?_ (by omega), hk, hv⟩
  rw [← h5] at hd
  omega
theorem parse_short : ∀ (f : Nat) (b : Tx) (l : List Pair), b.length ≤ 1000000 → parseL f b = some l → l.all pairOk = true ∧ (∀ p ∈ l, p.key.length ≤ 1000000 ∧ p.val.length ≤ 1000000) ∧ (l.flatMap recB).length ≤ b.length ∧ l.length ≤ b.length
  | 0, b, l, hb, h => by
    unfold parseL at h
    split at h
    · cases h; exact ⟨rfl, fun p hp => (by cases hp), by simp, by simp⟩
    · cases h
  | f + 1, b, l, hb, h => by
    unfold parseL at h
    split at h
    · cases h; exact ⟨rfl, fun p hp => (by cases hp), by simp, by simp⟩
    · cases hr : recL b with
      | none => rw [hr] at h; cases h
      | some x =>
        obtain ⟨p, n⟩ := x
        rw [hr] at h
        dsimp only at h
        obtain ⟨m, hm, rfl⟩ := Option.map_eq_some_iff.1 h
        obtain ⟨i1, i2, i3, i4⟩ := parse_short f (b.drop n) m (by rw [List.length_drop]; omega) hm
        obtain ⟨q1, q2, q3⟩ := rec_short hr hb
        have hf := recL_facts hr
        refine ⟨by rw [List.all_cons, hf.2.2.1, i1]; rfl, fun q hq => ?_, ?_, ?_⟩
        · rcases List.mem_cons.1 hq with rfl | hq
          · exact ⟨q2, q3⟩
          · exact i2 q hq
        · rw [List.flatMap_cons, List.length_append, recB_len p q2 q3]
          rw [List.length_drop] at i3
          omega
        · rw [List.length_cons]
          rw [List.length_drop] at i4
          omega
/-- The number ahead of a record, as the program reads it. -/
def lenG (T : Nat) : Tx → Nat → Nat → Option (Nat × Nat)
  | [], _, _ => none
  | c :: r, i, n => if c = 32 ∧ 0 < i then some (n, i) else if isDig c = false ∨ (i = 0 ∧ c = 48) then none else if T < n * 10 + (c.toNat - 48) then none else lenG T r (i + 1) (n * 10 + (c.toNat - 48))
theorem lenG_in (T : Nat) : ∀ (s : Tx) (i n : Nat), 0 < i → n ≤ T → lenG T s i n = if (upto 32 s).all isDig = true ∧ (upto 32 s).length < s.length ∧ valA n (upto 32 s) ≤ T then some (valA n (upto 32 s), i + (upto 32 s).length) else none
  | [], i, n, hi, hn => by simp [lenG, upto_nil]
  | c :: r, i, n, hi, hn => by
    unfold lenG
    by_cases hc : c = 32
    · subst hc
      rw [if_pos ⟨rfl, hi⟩, upto_hit, if_pos ⟨rfl, by simp, hn⟩]
      rfl
    · rw [if_neg (fun h => hc h.1), upto_cons hc, List.all_cons]
      cases hd : isDig c with
      | false => rw [if_pos (.inl rfl), if_neg (by simp)]
      | true =>
        rw [if_neg (by simp; omega)]
        rw [valA_cons]
        by_cases ht : T < n * 10 + (c.toNat - 48)
        · rw [if_pos ht, if_neg]
          rintro ⟨_, _, h⟩
          have := valA_ge (upto 32 r) (n * 10 + (c.toNat - 48))
          omega
        · rw [if_neg ht, lenG_in T r (i + 1) _ (by omega) (by omega)]
          simp only [List.length_cons, Bool.true_and, Nat.add_lt_add_iff_right]
          split
          · rw [show i + 1 + (upto 32 r).length = i + ((upto 32 r).length + 1) by omega]
          · rfl
theorem lenG_rec (b : Tx) (hb : b.length ≤ 9223372036854775807) : recL b = match lenG b.length b 0 0 with
    | none => none
    | some (n, d) => if n < d + 2 ∨ b.getD (n - 1) 0 ≠ 10 then none else recT b n d := by
  cases b with
  | nil => rfl
  | cons c r =>
    unfold lenG
    rw [if_neg (by omega)]
    by_cases hz : isDig c = false ∨ c = 48
    · rw [if_pos (by rcases hz with h | h; exact .inl h; exact .inr ⟨rfl, h⟩)]
      unfold recL
      rw [if_neg]
      rintro ⟨h1, h2, h3, h4⟩
      rcases hz with hz | rfl
      · by_cases h32 : c = 32
        · subst h32; rw [upto_hit] at h1; revert h1; decide
        · rw [upto_cons h32] at h1
          simp [natOk, digs, hz] at h1
      · rw [upto_cons (by decide)] at h1 h3
        by_cases hr : upto 32 r = []
        · rw [hr] at h3; revert h3; decide
        · have : 0 < (upto 32 r).length := List.length_pos_iff.2 hr
          have hl : lead (48 :: upto 32 r) = true := by unfold lead; rw [List.headD_cons, List.length_cons, decide_eq_true rfl, decide_eq_true (by omega)]; rfl
          unfold natOk at h1
          rw [hl] at h1
          simp at h1
    · have hd : isDig c = true := by cases h : isDig c; exact absurd (.inl h) hz; rfl
      have h48 : c ≠ 48 := fun h => hz (.inr h)
      have hc2 := dig_iff.1 hd
      rw [if_neg (by rintro (h | h); exact hz (.inl h); exact h48 h.2)]
      have h32 : c ≠ 32 := by rintro rfl; revert hc2; decide
      have hlead : lead (upto 32 (c :: r)) = false := by
        rw [upto_cons h32]; unfold lead; rw [List.headD_cons, decide_eq_false h48]; rfl
      have hdig : digs (upto 32 (c :: r)) = (upto 32 r).all isDig := by
        rw [upto_cons h32]; unfold digs; rw [List.all_cons, hd]; simp
      have hval : valA 0 (upto 32 (c :: r)) = valA (0 * 10 + (c.toNat - 48)) (upto 32 r) := by rw [upto_cons h32, valA_cons]
      have hlen : (upto 32 (c :: r)).length = (upto 32 r).length + 1 := by rw [upto_cons h32]; rfl
      have hge := valA_ge (upto 32 r) (0 * 10 + (c.toNat - 48))
      unfold recL natOk
      rw [hlead, hdig, hval, hlen]
      by_cases ht : (c :: r).length < 0 * 10 + (c.toNat - 48)
      · rw [if_pos ht]
        rw [if_neg]
        rintro ⟨_, h, _⟩
        omega
      · rw [if_neg ht, lenG_in _ _ _ _ (by omega) (by omega)]
        have hul := upto_le 32 r
        by_cases hq : (upto 32 r).all isDig = true ∧ (upto 32 r).length < r.length ∧ valA (0 * 10 + (c.toNat - 48)) (upto 32 r) ≤ (c :: r).length
        · rw [if_pos hq]
          dsimp only
          rw [show 0 + 1 + (upto 32 r).length = (upto 32 r).length + 1 by omega, hq.1]
          by_cases hw : valA (0 * 10 + (c.toNat - 48)) (upto 32 r) < (upto 32 r).length + 1 + 2 ∨ (c :: r).getD (valA (0 * 10 + (c.toNat - 48)) (upto 32 r) - 1) 0 ≠ 10
          · rw [if_pos hw, if_neg]
            rintro ⟨_, h2, h3, h4⟩
            rcases hw with hw | hw
            · omega
            · exact hw h4
          · rw [if_neg hw, if_pos]
            refine ⟨by rw [Bool.not_false, Bool.and_true, Bool.true_and, decide_eq_true_eq]; omega, hq.2.2, by omega, ?_⟩
            by_cases h10 : (c :: r).getD (valA (0 * 10 + (c.toNat - 48)) (upto 32 r) - 1) 0 = 10
            · exact h10
            · exact absurd (.inr h10) hw
        · rw [if_neg hq, if_neg]
          rintro ⟨h1, h2, h3, h4⟩
          simp only [Bool.and_eq_true] at h1
          refine hq ⟨h1.1.1, ?_, h2⟩
          rw [List.length_cons] at h2
          omega
end Go.Proofs.YtilbahgfjfcikaaDoor.Eng.U


/- Records, both sides: printed and parsed. -/
set_option linter.unusedVariables false
set_option linter.unusedSectionVars false
set_option linter.unusedSimpArgs false
namespace Go.Proofs.YtilbahgfjfcikaaDoor.Eng.U
open Go Go.Proofs Go.Proofs.YtilbahgfjfcikaaDoor.Eng Go.Proofs.YtilbahgfjfcikaaDoor.P04
variable {E : Ext} [Core E] [HasNum E] {k n : Nat}

theorem digw {acc : Nat} {c : UInt8} (ha : acc ≤ 1000000000) (hc : isDig c = true) : IntKind.wrap .i64 (IntKind.wrap .i64 ((acc : Int) * 10) + IntKind.wrap .i64 (IntKind.wrap .u8 (((c.toNat : Nat) : Int) - 48))) = ((acc * 10 + (c.toNat - 48) : Nat) : Int) := by
  have := dig_iff.1 hc
  rw [IntWalk.u8_in _ (by omega), i64w (x := (acc : Int) * 10) (by omega), i64w (x := ((c.toNat : Nat) : Int) - 48) (by omega), i64w (by omega)]
  omega
def lenAV : Option (Nat × Nat) → AV
  | none => .tup [.int .i64 0, .int .i64 0, .bool false]
  | some x => .tup [.int .i64 (x.1 : Int), .int .i64 (x.2 : Int), .bool true]
theorem length_loop (kap : FuncId → List AV → Option AV) (b : Tx) (hb : b.length ≤ 100000000) : ∀ (suf pre : Tx) (acc k0 : Nat), suf.length < k0 → pre ++ suf = b → acc ≤ b.length →
    pax_length_L0 kap k k0 (bys b) ((acc : Nat) : Int) (bys b) ((b.length : Nat) : Int) ((pre.length : Nat) : Int) = some (lenAV (lenG b.length suf pre.length acc))
  | [], pre, acc, k0 + 1, h, he, ha => by
    rw [pax_length_L0_s, bif_f (by rw [← he]; simp)]; rfl
  | c :: suf, pre, acc, k0 + 1, h, he, ha => by
    have hp : pre.length < b.length := by rw [← he]; simp
    have hm : ∀ F : AV → Option AV, ((bys b)[pre.length]?).bind F = F (byteAV c) := fun F => by rw [← he]; exact bys_mid pre suf c F
    have ih := fun a ha => length_loop kap b hb suf (pre ++ [c]) a k0 (by simpa using h) (by rw [← he]; simp) ha
    have hn : (((pre ++ [c]).length : Nat) : Int) = IntKind.wrap .i64 (((pre.length : Nat) : Int) + 1) := by rw [i64w (by omega)]; simp
    have hn2 : (pre ++ [c]).length = pre.length + 1 := by simp
    rw [pax_length_L0_s, bys_len, bif_t (by omega), bif_a, bif_t (by omega), bif_t (by omega), Int.toNat_natCast, hm, byte_c]
    unfold lenG
    by_cases h32 : c = 32
    · subst h32
      rw [bif_t (by rfl)]
      by_cases h0 : 0 < pre.length
      · rw [bif_t (by omega), if_pos ⟨rfl, h0⟩]; rfl
      · rw [bif_f (by omega), bif_t (by decide), if_neg (fun h => h0 h.2), if_pos (.inl rfl)]; rfl
    · have h32' : ¬ ((c.toNat : Nat) : Int) = 32 := fun h => h32 (UInt8.toNat_inj.1 (by show c.toNat = 32; omega))
      rw [bif_f h32', if_neg (fun h => h32 h.1)]
      cases hd : isDig c with
      | false =>
        rw [if_pos (.inl rfl)]
        by_cases h1 : c.toNat < 48
        · rw [bif_t (by omega)]; rfl
        · rw [bif_f (by omega), bif_t (by simp [isDig] at hd; omega)]; rfl
      | true =>
        have hd2 := dig_iff.1 hd
        rw [bif_f (by omega), bif_f (by omega), digw (by omega) hd]
        by_cases h0 : pre.length = 0
        · rw [bif_t (by omega)]
          by_cases h48 : c = 48
          · rw [if_pos (.inr ⟨h0, h48⟩), h48, bif_t (by rfl)]; rfl
          · have h48' : ¬ ((c.toNat : Nat) : Int) = 48 := fun h => h48 (UInt8.toNat_inj.1 (by show c.toNat = 48; omega))
            rw [bif_f h48', if_neg (by rintro (h | h); cases h; exact h48 h.2)]
            by_cases hT : b.length < acc * 10 + (c.toNat - 48)
            · rw [bif_t (by omega), if_pos hT]; rfl
            · rw [bif_f (by omega), if_neg hT, ← hn, ih _ (by omega), hn2]
        · rw [bif_f (by omega), if_neg (by rintro (h | h); cases h; exact h0 h.1)]
          by_cases hT : b.length < acc * 10 + (c.toNat - 48)
          · rw [bif_t (by omega), if_pos hT]; rfl
          · rw [bif_f (by omega), if_neg hT, ← hn, ih _ (by omega), hn2]
theorem length_k (b : Tx) (hb : b.length ≤ 100000000) (hk : b.length < k) : kp E k (n + 1) pax_length [.list 1 (bys b)] = some (lenAV (lenG b.length b 0 0)) := by
  have := length_loop (k := k) (kp E k n) b hb b [] 0 k hk rfl (by omega)
  rw [pax_length_eq, bys_len]
  exact this
theorem lenG_facts (T : Nat) : ∀ (s : Tx) (i a m d : Nat), lenG T s i a = some (m, d) → a ≤ T → m ≤ T ∧ d ≤ i + s.length ∧ i ≤ d
  | [], i, a, m, d, h, ha => by cases h
  | c :: r, i, a, m, d, h, ha => by
    unfold lenG at h
    split at h
    · cases h; exact ⟨ha, by omega, by omega⟩
    · split at h
      · cases h
      · split at h
        · cases h
        · have := lenG_facts T r _ _ m d h (by omega)
          rw [List.length_cons]
          omega
theorem index_upto (x : UInt8) : ∀ l : Tx, Lib.indexByte l x = if (upto x l).length < l.length then ((upto x l).length : Int) else -1
  | [] => rfl
  | c :: l => by
    have ih := index_upto x l
    unfold Lib.indexByte
    by_cases hc : c = x
    · subst hc
      rw [upto_hit, if_pos (by simp)]
      simp
    · have h1 : (c == x) = false := by simpa using hc
      have hl := upto_le x l
      rw [upto_cons hc, List.length_cons, List.length_cons, h1]
      simp only [Bool.false_eq_true, if_false]
      rw [ih]
      by_cases h : (upto x l).length < l.length
      · rw [if_pos h, if_pos (show (upto x l).length + 1 < l.length + 1 by omega)]
        rw [if_neg (by simp)]
        omega
      · rw [if_neg h, if_neg (show ¬ (upto x l).length + 1 < l.length + 1 by omega)]
        rfl
theorem cutB_k (x : UInt8) (t : Tx) (ht : t.length < 1000000000000) : kp E k (n + 2) strings_Cut [.str (str t), .str (str [x])] = some (.tup [.str (str (upto x t)), .str (str (t.drop ((upto x t).length + 1))), .bool (decide ((upto x t).length < t.length))]) := by
  have hd := upto_le x t
  rw [strings_Cut_eq, stringslite_Cut_eq, HasNum.index k n t x, callI_ok, index_upto]
  by_cases h : (upto x t).length < t.length
  · rw [if_pos h, decide_eq_true h, bif_t (by omega), str_size, str_size, List.length_singleton, wrapP (by omega) (by omega), bif_a, bif_t (by omega), bif_t (by omega), bif_a, bif_t (by omega), bif_t (by omega), Int.toNat_natCast, Int.toNat_natCast, str_ext, str_ext, List.take_length, List.drop_zero, upto_take]
    rfl
  · have e : upto x t = t := by have := upto_take x t; rw [List.take_of_length_le (by omega)] at this; exact this.symm
    rw [if_neg h, decide_eq_false h, bif_f (by omega), e, List.drop_of_length_le (by omega)]
    rfl
def recAV : Option (Pair × Nat) → AV
  | none => .tup [.agg [.str (str []), .str (str [])], .int .i64 0]
  | some x => .tup [elPair x.1, .int .i64 (x.2 : Int)]
theorem toBytes_bys (l : Tx) (a b : Nat) : toBytes (((bys l).take a).drop b) = some ((l.take a).drop b) := by
  unfold bys
  rw [← List.map_take, ← List.map_drop, toBytes_map]
theorem getD_of (b : Tx) (i : Nat) (h : i < b.length) : b.getD i 0 = b[i] := by rw [List.getD_eq_getElem?_getD, List.getElem?_eq_getElem h]; rfl
theorem record_k [HasTextV E] (b : Tx) (hb : b.length ≤ 1000000) (hk : 1000000 < k) : kp E k (n + 6) pax_record [.list 1 (bys b)] = some (recAV (recL b)) := by
  rw [pax_record_eq, length_k b (by omega) (by omega), lenG_rec b (by omega)]
  cases hg : lenG b.length b 0 0 with
  | none => rfl
  | some x =>
    obtain ⟨m, d⟩ := x
    have hf := lenG_facts _ _ _ _ _ _ hg (by omega)
    have e : ∀ K : List AV → Option AV, callT (some (lenAV (some (m, d)))) K = K [.int .i64 (m : Int), .int .i64 (d : Int), .bool true] := fun K => rfl
    rw [e, tupI_ok, tupI_ok, tupB_ok, atNil_ok, Bool.not_true, cond_false, i64w (x := (d : Int) + 2) (by omega)]
    dsimp only
    by_cases h1 : m < d + 2
    · rw [bif_t (by omega), if_pos (.inl h1)]; rfl
    · rw [bif_f (by omega), i64w (x := (m : Int) - 1) (by omega), i64w (x := (d : Int) + 1) (by omega), bys_len, bif_a, bif_t (by omega), bif_t (by omega)]
      have e1 : ((m : Int) - 1).toNat = m - 1 := by omega
      have e2 : ((d : Int) + 1).toNat = d + 1 := by omega
      rw [e1, e2, bys_at b (m - 1) (by omega), byte_c, show decide (((b[m - 1].toNat : Nat) : Int) = 10) = decide (b[m - 1] = 10) from byte_is _ 10 (by omega), ← getD_of b (m - 1) (by omega)]
      by_cases h2 : b.getD (m - 1) 0 = 10
      · rw [decide_eq_true h2, Bool.not_true, cond_false, bif_a, bif_t (by omega), bif_t (by omega), bif_a, bif_t (by omega), bif_t (by omega), toBytes_bys, Option.bind_some, if_neg (by rintro (h | h); exact h1 h; exact h h2)]
        have hml : ((b.take (m - 1)).drop (d + 1)).length ≤ 1000000 := by rw [List.length_drop, List.length_take]; omega
        rw [cutB_k (n := n + 3) 61 _ (by omega), callT_ok, tupS_ok, tupS_ok, tupB_ok, atNil_ok]
        unfold recT
        dsimp only
        generalize hM : (b.take (m - 1)).drop (d + 1) = M at hml
        have hu := upto_le 61 M
        by_cases h3 : (upto 61 M).length < M.length
        · rw [decide_eq_true h3, Bool.not_true, cond_false, paxRight_k ⟨upto 61 M, M.drop ((upto 61 M).length + 1)⟩ (by dsimp only; omega) (by dsimp only; rw [List.length_drop]; omega) hk, callB_ok]
          cases hp : pairOk ⟨upto 61 M, M.drop ((upto 61 M).length + 1)⟩ with
          | false => rw [Bool.not_false, cond_true, if_neg (by simp)]; rfl
          | true => rw [Bool.not_true, cond_false, if_pos ⟨h3, rfl⟩]; rfl
        · rw [decide_eq_false h3, Bool.not_false, cond_true, if_neg (fun h => h3 h.1)]; rfl
      · rw [decide_eq_false h2, Bool.not_false, cond_true, if_pos (.inr h2)]; rfl
def parAV (a b : AV) : Option (List Pair) → AV
  | none => .tup [.list 2 [], b]
  | some l => .tup [.list 2 (prs l), a]
theorem prs_snoc (a : List Pair) (p : Pair) : prs a ++ [.agg [.str (str p.key), .str (str p.val)]] = prs (a ++ [p]) := by simp [prs, elPair, encPair]
theorem parse_loop (kap : FuncId → List AV → Option AV) (hR : ∀ b : Tx, b.length ≤ 1000000 → kap pax_record [.list 1 (bys b)] = some (recAV (recL b))) : ∀ (f : Nat) (b : Tx) (acc : List Pair) (k0 : Nat), b.length ≤ f → f < k0 → b.length ≤ 1000000 → acc.length + b.length ≤ 1000000 →
    pax_Parse_L0 kap k k0 (bys b) (prs acc) = some (parAV (.int .u8 0) (.int .u8 6) ((parseL f b).map (acc ++ ·)))
  | 0, b, acc, k0 + 1, hf, hk, hb, ha => by
    have : b = [] := List.eq_nil_of_length_eq_zero (by omega)
    subst this
    rw [pax_Parse_L0_s, bys_len, bif_f (by simp)]
    simp [parseL, parAV]
  | f + 1, b, acc, k0 + 1, hf, hk, hb, ha => by
    rw [pax_Parse_L0_s, bys_len]
    unfold parseL
    by_cases hn : b = []
    · subst hn
      rw [bif_f (by simp), if_pos rfl]
      simp [parAV]
    · have hpos : 0 < b.length := List.length_pos_iff.2 hn
      rw [bif_t (by omega), if_neg hn, hR b hb]
      cases hr : recL b with
      | none => rfl
      | some x =>
        obtain ⟨p, m⟩ := x
        have hx := recL_facts hr
        have e : ∀ K : List AV → Option AV, callT (some (recAV (some (p, m)))) K = K [elPair p, .int .i64 (m : Int)] := fun K => rfl
        rw [e, tupG_pair, p_0, p_1, tupI_ok, atNil_ok, bif_f (by omega), prs_len]
        rw [show (decide ((acc.length + 1) * 32 ≤ 140737488355328) && decide (acc.length + 1 ≤ 9223372036854775807)) = true by simp; omega, cond_true, bif_a, bif_t (by omega), bif_t (by omega), Int.toNat_natCast]
        have e2 : ((bys b).take b.length).drop m = bys (b.drop m) := by
          rw [← bys_len b, List.take_length]; unfold bys; rw [List.map_drop]
        have ih := parse_loop kap hR f (b.drop m) (acc ++ [p]) k0 (by rw [List.length_drop]; omega) (by omega) (by rw [List.length_drop]; omega) (by simp only [List.length_append, List.length_drop, List.length_singleton]; omega)
        rw [e2, prs_snoc, ih]
        dsimp only
        cases parseL f (b.drop m) with
        | none => rfl
        | some l => simp
theorem parse_k [HasTextV E] (b : Tx) (hb : b.length ≤ 1000000) (hk : 1000001 < k) : kp E k (n + 7) pax_Parse [.list 1 (bys b)] = some (parAV (.int .u8 0) (.int .u8 6) (parseL b.length b)) := by
  have := parse_loop (k := k) (kp E k (n + 6)) (fun b hb => record_k b hb (by omega)) b.length b [] k (Nat.le_refl _) (by omega) hb (by simpa using hb)
  rw [pax_Parse_eq]
  refine this.trans ?_
  cases parseL b.length b <;> rfl
end Go.Proofs.YtilbahgfjfcikaaDoor.Eng.U


/- Records, the reference's side: printed and parsed. -/
set_option linter.unusedVariables false
set_option linter.unusedSectionVars false
set_option linter.unusedSimpArgs false
namespace Go.Proofs.YtilbahgfjfcikaaDoor.Eng.U
open Go Go.Proofs Go.Proofs.YtilbahgfjfcikaaDoor.Eng Go.Proofs.YtilbahgfjfcikaaDoor.P04
variable {E : Ext} [Core E] [HasNum E] {k n : Nat}

theorem recs_le : ∀ l : List Pair, (∀ p ∈ l, p.key.length ≤ 1000000 ∧ p.val.length ≤ 1000000) → (l.flatMap recB).length ≤ l.length * 3000000
  | [], _ => by simp
  | p :: l, h => by
    have hp := h p (.head _)
    have ih := recs_le l fun q hq => h q (.tail _ hq)
    have := lenP_facts p hp.1 hp.2
    have hr : restP p = p.key.length + p.val.length + 3 := rfl
    rw [List.flatMap_cons, List.length_append, recB_len p hp.1 hp.2, List.length_cons]
    omega
end Go.Proofs.YtilbahgfjfcikaaDoor.Eng.U


/- Records printed, parsed, and back: the laws in plain words. -/
set_option linter.unusedVariables false
set_option linter.unusedSectionVars false
set_option linter.unusedSimpArgs false
namespace Go.Proofs.YtilbahgfjfcikaaDoor.Eng.U
open Go Go.RowKit Go.Proofs Go.Proofs.YtilbahgfjfcikaaDoor.Eng Go.Proofs.YtilbahgfjfcikaaDoor.P04

theorem lines_recs (l : List Pair) : linesL l = l.flatMap recB := by
  unfold linesL linesOf
  congr 1
  funext p
  unfold lineOf txtP recB
  rw [str_app, str_app, str_app, str_app, str_app]
  show _ = _
  simp [str]
theorem few_big (kap : FuncId → List AV → Option AV) {k : Nat} (l : List Pair) (hl : l.length ≤ 1000000000000000) (h50 : 50 < l.length) : ∀ (suf pre : List Pair) (s : Int) (k0 : Nat), suf.length < k0 → pre ++ suf = l →
    law07_few_L0 kap k k0 (prs l) s ((pre.length : Nat) : Int) = some (.bool false)
  | [], pre, s, k0 + 1, h, he => by
    rw [List.append_nil] at he
    subst he
    rw [law07_few_L0_s, prs_len, bif_f (by omega), bif_f (by omega)]
  | p :: suf, pre, s, k0 + 1, h, he => by
    have hp : pre.length < l.length := by rw [← he]; simp
    have hm : ∀ F : AV → Option AV, ((prs l)[pre.length]?).bind F = F (elPair p) := fun F => by rw [← he]; exact prs_mid pre suf p F
    rw [law07_few_L0_s, prs_len, bif_t (by omega), bif_a, bif_t (by omega), bif_t (by omega), Int.toNat_natCast, hm, cells_pair, p_0, bif_a, bif_t (by omega), bif_t (by omega), hm, cells_pair, p_1, wrap1 (by omega)]
    have ih := fun s => few_big kap (k := k) l hl h50 suf (pre ++ [p]) s k0 (by simpa using h) (by rw [← he]; simp)
    rw [List.length_append, List.length_singleton] at ih
    exact ih _
theorem sum_le : ∀ (l : List Pair), (∀ p ∈ l, G_apiPair p) → sumP l ≤ l.length * 300000000000000
  | [], _ => by simp [sumP]
  | p :: l, h => by
    have ih := sum_le l fun q hq => h q (.tail _ hq)
    have hp := h p (.head _)
    have h1 := hp.key
    have h2 := hp.val
    simp only [sumP, List.length_cons]
    omega
theorem sum_mem : ∀ (l : List Pair) (p : Pair), p ∈ l → p.key.length + p.val.length ≤ sumP l
  | q :: l, p, h => by
    simp only [sumP]
    rcases List.mem_cons.1 h with rfl | h
    · omega
    · have := sum_mem l p h; omega
def fewL (l : List Pair) : Bool := decide (l.length ≤ 50) && decide (sumP l ≤ 3000)
section
variable {E : Ext} [Core E] {k n : Nat}
theorem few_k (l : List Pair) (g : G_LapiPair l) (hk : l.length < k) : kp E k (n + 1) law07_few [.list 2 (prs l)] = some (.bool (fewL l)) := by
  rw [law07_few_eq]
  have hl := g.1
  unfold fewL
  by_cases h50 : l.length ≤ 50
  · have hs := sum_le l g.2
    have := few_loop (k := k) (kp E k n) l [] 0 k hk (by omega) (by simp; omega)
    rw [List.nil_append, Nat.zero_add] at this
    exact this
  · rw [decide_eq_false h50, Bool.false_and]
    exact few_big (k := k) (kp E k n) l (by omega) (by omega) l [] 0 k hk rfl
theorem few_facts {l : List Pair} (h : fewL l = true) : l.length ≤ 50 ∧ (∀ p ∈ l, p.key.length ≤ 3000 ∧ p.val.length ≤ 3000) ∧ okP l = true := by
  unfold fewL at h
  rw [Bool.and_eq_true, decide_eq_true_eq, decide_eq_true_eq] at h
  have hm : ∀ p ∈ l, p.key.length ≤ 3000 ∧ p.val.length ≤ 3000 := fun p hp => by have := sum_mem l p hp; omega
  refine ⟨h.1, hm, ?_⟩
  unfold okP
  rw [Bool.and_eq_true, decide_eq_true_eq, List.all_eq_true]
  exact ⟨by omega, fun p hp => by have := hm p hp; simp; omega⟩
end
theorem parse07K : kp ext07 10000000000000 24 pax_Parse [.list 1 (bys [49, 48, 32, 112, 97, 116, 104, 61, 97, 10])] = some (.tup [.list 2 (prs [⟨[112, 97, 116, 104], [97]⟩]), .int .u8 0]) := by kernel_rfl
theorem alive07K : kp ext07 10000000000000 25 law07_alive [] = some (.bool true) := by
  have h1 := HasPrint.print (E := ext07) 10000000000000 24 [⟨[112, 97, 116, 104], [97]⟩] (by decide)
  have e1 : List.all [(⟨[112, 97, 116, 104], [97]⟩ : Pair)] pairOk = true := by rw [List.all_cons, ok_pa]; rfl
  rw [e1, cond_true, lines_pa] at h1
  have h2 : kp ext07 10000000000000 24 pax_Print [.list 2 [.agg [.str (str [112, 97, 116, 104]), .str (str [97])]]] = _ := h1
  have h3 : kp ext07 10000000000000 24 pax_Parse [.list 1 [.int .u8 49, .int .u8 48, .int .u8 32, .int .u8 112, .int .u8 97, .int .u8 116, .int .u8 104, .int .u8 61, .int .u8 97, .int .u8 10]] = _ := parse07K
  rw [law07_alive_eq, h2, h3]
  rfl
end Go.Proofs.YtilbahgfjfcikaaDoor.Eng.U


/- Records printed and parsed, back again: the law in plain words. -/
set_option linter.unusedVariables false
set_option linter.unusedSectionVars false
set_option linter.unusedSimpArgs false
namespace Go.Proofs.YtilbahgfjfcikaaDoor.Eng.U
open Go Go.RowKit Go.Proofs Go.Proofs.YtilbahgfjfcikaaDoor.Eng Go.Proofs.YtilbahgfjfcikaaDoor.P04

theorem recs_ge : ∀ l : List Pair, (∀ p ∈ l, p.key.length ≤ 1000000 ∧ p.val.length ≤ 1000000) → l.all pairOk = true → 5 * l.length ≤ (l.flatMap recB).length
  | [], _, _ => by simp
  | p :: l, h, ho => by
    rw [List.all_cons, Bool.and_eq_true] at ho
    have hp := h p (.head _)
    have ih := recs_ge l (fun q hq => h q (.tail _ hq)) ho.2
    have hf := lenP_facts p hp.1 hp.2
    have hr : restP p = p.key.length + p.val.length + 3 := rfl
    have hd := dl_pos (lenP p)
    have hk : 0 < p.key.length := by
      have := ho.1
      unfold pairOk at this
      simp only [Bool.and_eq_true, decide_eq_true_eq] at this
      exact List.length_pos_iff.2 this.1
    rw [List.flatMap_cons, List.length_append, recB_len p hp.1 hp.2, List.length_cons]
    omega
theorem recs_le2 : ∀ l : List Pair, (∀ p ∈ l, p.key.length ≤ 3000 ∧ p.val.length ≤ 3000) → (l.flatMap recB).length ≤ l.length * 6100
  | [], _ => by simp
  | p :: l, h => by
    have hp := h p (.head _)
    have ih := recs_le2 l fun q hq => h q (.tail _ hq)
    have := lenP_facts p (by omega) (by omega)
    have hr : restP p = p.key.length + p.val.length + 3 := rfl
    rw [List.flatMap_cons, List.length_append, recB_len p (by omega) (by omega), List.length_cons]
    omega
theorem parse_back (l : List Pair) (hb : ∀ p ∈ l, p.key.length ≤ 1000000 ∧ p.val.length ≤ 1000000) (ho : l.all pairOk = true) : parseL (l.flatMap recB).length (l.flatMap recB) = some l :=
  parse_print l _ hb ho (by have := recs_ge l hb ho; omega)
theorem back_tail (b : Tx) (h3 : b.length ≤ 3000) : (callT (kp ext07 10000000000000 25 pax_Parse [(.list 1 (bys b))]) fun vt45 => (tupL 2 vt45 fun vl46 vt47 => (tupI .u8 vt47 fun vn48 vt49 => (atNil vt49 (bif (!(decide ((IntKind.wrap .i64 vn48) = (0 : Int)))) then (some (.bool true)) else (callT (kp ext07 10000000000000 25 pax_Print [(.list 2 vl46)]) fun vt51 => (tupL 1 vt51 fun vl52 vt53 => (tupI .u8 vt53 fun vn54 vt55 => (atNil vt55 (callT (kp ext07 10000000000000 25 pax_Parse [(.list 1 vl52)]) fun vt57 => (tupL 2 vt57 fun vl58 vt59 => (tupI .u8 vt59 fun vn60 vt61 => (atNil vt61 (bif (decide ((IntKind.wrap .i64 ((IntKind.wrap .i64 vn54) + (IntKind.wrap .i64 vn60))) = (0 : Int))) then (bif (decide ((((List.length vl52) : Nat) : Int) ≤ (((List.length (bys b)) : Nat) : Int))) then (callB (kp ext07 10000000000000 25 ref07_Same [(.list 2 vl46), (.list 2 vl58)]) fun vq63 => (some (.bool vq63))) else (some (.bool false))) else (some (.bool false)) : Option AV)))))))))))))) = some (.bool true) := by
  rw [parse_k (n := 18) b (by omega) (by omega)]
  cases hp : parseL b.length b with
  | none => rfl
  | some m =>
    obtain ⟨s1, s2, s3, s4⟩ := parse_short b.length b m (by omega) hp
    have s5 := recs_ge m s2 s1
    have hok : okP m = true := by
      unfold okP
      rw [Bool.and_eq_true, decide_eq_true_eq, List.all_eq_true]
      exact ⟨by omega, fun p hp => by have := s2 p hp; simp; omega⟩
    have e1 : ∀ K : List AV → Option AV, callT (some (parAV (.int .u8 0) (.int .u8 6) (some m))) K = K [.list 2 (prs m), .int .u8 0] := fun K => rfl
    have h0 : IntKind.wrap .i64 0 = 0 := i64w (by omega)
    rw [e1, tupL_ok, tupI_ok, atNil_ok, h0, decide_eq_true rfl, Bool.not_true, cond_false, HasPrint.print _ _ m hok, s1, cond_true, callT_ok, tupL_ok, tupI_ok, atNil_ok, lines_recs, parse_k (n := 18) _ (by omega) (by omega), parse_back m s2 s1, e1, tupL_ok, tupI_ok, atNil_ok, h0, show (0 : Int) + 0 = 0 from rfl, h0, bif_t rfl, bys_len, bys_len, bif_t (by omega), pSame_k (n := 24) m m (by omega) (by omega), callB_ok, decide_eq_true rfl]
theorem pback_loop (b : Tx) (h3 : b.length ≤ 3000) (l : List Pair) (hl : l.length ≤ 50) (hb : ∀ p ∈ l, p.key.length ≤ 1000000 ∧ p.val.length ≤ 1000000) (ho : l.all pairOk = true) (hbig : (l.flatMap recB).length ≤ 1000000) : ∀ (suf pre : List Pair) (k0 : Nat), suf.length < k0 → pre ++ suf = l →
    law07_PaxBack_L0 (kp ext07 10000000000000 25) 10000000000000 k0 (prs l) (bys b) (bys (l.flatMap recB)) (((pre.flatMap recB).length : Nat) : Int) ((pre.length : Nat) : Int) = some (.bool true)
  | [], pre, k0 + 1, h, he => by
    rw [List.append_nil] at he
    subst he
    have hc := recs_le pre hb
    have e1 : ∀ K : List AV → Option AV, callT (some (parAV (.int .u8 0) (.int .u8 6) (some pre))) K = K [.list 2 (prs pre), .int .u8 0] := fun K => rfl
    have h0 : IntKind.wrap .i64 0 = 0 := i64w (by omega)
    rw [law07_PaxBack_L0_s, prs_len, bif_f (by omega)]
    rw [parse_k (n := 18) _ hbig (by omega), parse_back pre hb ho, e1, tupL_ok, tupI_ok, atNil_ok, h0, decide_eq_true rfl, Bool.not_true, cond_false, bys_len, decide_eq_true rfl, Bool.not_true, cond_false, pSame_k (n := 24) pre pre (by omega) (by omega), callB_ok, decide_eq_true rfl, Bool.not_true, cond_false]
    exact back_tail b h3
  | p :: suf, pre, k0 + 1, h, he => by
    have hi : pre.length < l.length := by rw [← he]; simp
    have hm : ∀ F : AV → Option AV, ((prs l)[pre.length]?).bind F = F (elPair p) := fun F => by rw [← he]; exact prs_mid pre suf p F
    have hpm := hb p (by rw [← he]; simp)
    have hc := recs_le pre (fun q hq => hb q (by rw [← he]; simp [hq]))
    have hf := lenP_facts p hpm.1 hpm.2
    have hr : restP p = p.key.length + p.val.length + 3 := rfl
    have hlp := recB_len p hpm.1 hpm.2
    have ih := pback_loop b h3 l hl hb ho hbig suf (pre ++ [p]) k0 (by simpa using h) (by rw [← he]; simp)
    rw [List.flatMap_append, List.flatMap_singleton, List.length_append, List.length_append, List.length_singleton, hlp] at ih
    rw [law07_PaxBack_L0_s, prs_len, bif_t (by omega), bif_a, bif_t (by omega), bif_t (by omega), Int.toNat_natCast, hm, cells_pair, p_0, p_1, paxLen_k (n := 24) p hpm.1 hpm.2 (by omega), callI_ok, wrapP (by omega) (by omega), wrap1 (by omega)]
    exact ih
theorem back07 (l : List Pair) (b : Tx) (gl : G_LapiPair l) (gb : b.length ≤ 140737488351232) : (bs ext07 10000000000000).kap 26 law07_PaxBack [.list 2 (prs l), .list 1 (bys b)] = some (.bool true) := by
  have g1 := gl.1
  change kp ext07 10000000000000 26 law07_PaxBack [.list 2 (prs l), .list 1 (bys b)] = _
  rw [law07_PaxBack_eq, alive07K, callB_ok, Bool.not_true, cond_false, few_k (n := 24) l gl (by omega), callB_ok]
  cases hf : fewL l with
  | false => rfl
  | true =>
    obtain ⟨f1, f2, f3⟩ := few_facts hf
    have hb : ∀ p ∈ l, p.key.length ≤ 1000000 ∧ p.val.length ≤ 1000000 := fun p hp => by have := f2 p hp; omega
    rw [Bool.not_true, cond_false, bys_len]
    by_cases h3 : 3000 < b.length
    · rw [bif_t (by omega)]
    · have h0 : IntKind.wrap .i64 0 = 0 := i64w (by omega)
      have h15 : IntKind.wrap .i64 15 = 15 := i64w (by omega)
      rw [bif_f (by omega), HasPrint.print _ _ l f3]
      cases ho : l.all pairOk with
      | true =>
        rw [cond_true, callT_ok, tupL_ok, tupI_ok, atNil_ok, h0, bif_t rfl, lines_recs]
        exact pback_loop b (by omega) l f1 hb ho (by have := recs_le2 l f2; omega) l [] 10000000000000 (by omega) rfl
      | false =>
        rw [cond_false, callT_ok, tupL_ok, tupI_ok, atNil_ok, h15, bif_f (by omega), ← bys_len b]
        exact back_tail b (by omega)
end Go.Proofs.YtilbahgfjfcikaaDoor.Eng.U

