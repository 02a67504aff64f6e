/- Several texts of this proof in one file: B04, B06, B09, Q08c, B11, U07b, B11b, Q04b, U11d, U11e, Q11, V11, X11. -/
import Derived.Test.YtbkhmkcmbaffoaaGreatDoorMRepFields2
import Derived.Test.YtbkhmkcmbaffoaaGreatDoorMRepFields0
import Derived.WalkSmall
import Derived.Lib.SmallJoins
import Derived.Test.YtbkhmkcmbaffoaaGreatDoorMRepFields1
import Derived.Lib.ItoaMem
/- The library's functions that the Dec laws call, in pieces: numbers to text and back, texts cut. -/
set_option linter.unusedVariables false
set_option linter.unusedSectionVars false
set_option linter.unusedSimpArgs false
namespace Go.Proofs.YtbkhmkcmbaffoaaGreatDoor.Eng.U
open Go Go.Proofs Go.Proofs.YtbkhmkcmbaffoaaGreatDoor.Eng Go.RowKit

theorem str_self (s : ByteArray) : str s.data.toList = s := by cases s; simp [str]
theorem ok_tup {f : FuncId} {args rs : List AV} (hr : rs.all (fun r => !r.isFresh && r.leaf) = true) (h : ∀ (S : Stab) (w : World) (vals : List Value), Agree S w → GlobOk glob S w → VL S args vals → Calls Tryz.prog f vals.toArray w fun e w' => ∃ vs : List Value, e = .returned (.tuple vs.toArray) ∧ rs.length = vs.length ∧ (∀ (S' : Stab) (j : Nat) (c : AV) (u : Value), rs[j]? = some c → vs[j]? = some u → V S' c u) ∧ Below w.heap.size w w') (hr2 : (args.all fun c => !c.isRes) = true := by rfl) : Ok Tryz.prog glob f args (.tup rs) := by
  refine Ok.of_plain (fun c hc => by simpa using List.all_eq_true.1 hr2 c hc) fun S w vals hag hG hV => ?_
  have key : ∀ (j : Nat) (c : AV), rs[j]? = some c → c.isFresh = false ∧ c.leaf = true := by
    intro j c hc
    have := List.all_eq_true.1 hr c (List.mem_of_getElem? hc)
    simpa using this
  refine (h S w vals hag hG hV).mono ?_
  rintro e w' ⟨vs, rfl, hl, hv, hb⟩
  refine ⟨_, S, rfl, fun _ _ h => h, agree_below hag hb, fun _ _ h => .inl h, hb, vs, rfl, hl, fun j c u hc hu => ?_, fun i j c d u v g hc hd hf => ?_⟩
  · have h1 := hv S j c u hc hu
    obtain ⟨h2, h3⟩ := key j c hc
    cases c <;> first | (cases h2; done) | (cases h3; done) | exact h1
  · rw [(key i c hc).1] at hf; cases hf
theorem V2 {S : Stab} {a b : AV} {u v : Value} (ha : V S a u) (hb : V S b v) : ∀ (j : Nat) (c : AV) (x : Value), [a, b][j]? = some c → [u, v][j]? = some x → V S c x := by
  intro j c x hc hx
  match j with
  | 0 => cases hc; cases hx; exact ha
  | 1 => cases hc; cases hx; exact hb
  | j + 2 => simp at hc
theorem eptr_inv {S : Stab} {cs : List AV} {off : Nat} {p : Value} (h : V S (.eptr cs off) p) : ∃ (a : Addr) (f : Nat → Value), p = .pointer (some (a.add off)) ∧ (∀ (j : Nat) (c : AV), cs[j]? = some c → S (a.add j) = some (f j)) ∧ (∀ (j : Nat) (c : AV), cs[j]? = some c → V S c (f j)) := by
  cases h with
  | eptr cs off a f g2 g3 g4 => exact ⟨a, f, rfl, g3, g4⟩
theorem glob_cell {S : Stab} {w : World} {g : Nat} {cs : List AV} (hag : Agree S w) (hG : GlobOk glob S w) (hg : glob g = some cs) (j : Nat) (c : AV) (hj : cs[j]? = some c) : ∃ u, w.cell? ⟨g, j, none⟩ = some u ∧ V S c u := by
  obtain ⟨h1, arr, t, f, h2, h3⟩ := hG g _ hg
  obtain ⟨a, fv, he, g3, g4⟩ := eptr_inv h1
  have ha : a.add j = ⟨g, j, none⟩ := by
    have he' : (⟨g, 0, none⟩ : Addr) = a.add 0 := by injection he with e; injection e
    obtain ⟨b, o, s⟩ := a
    cases s with
    | none => rw [add_lit', Nat.add_zero] at he'; cases he'; rw [add_lit', Nat.zero_add]
    | some s => simp [Addr.add] at he'
  have := hag _ _ (g3 j c hj)
  rw [ha] at this
  exact ⟨_, this, g4 j c hj⟩
theorem tab_of {S : Stab} {w : World} {g : Nat} {name : String} {k : IntKind} {zs : List Int} (hag : Agree S w) (hG : GlobOk glob S w) (hg : glob g = some (zs.map fun z => .int k z)) (hn : Tryz.prog.globalNamed name = some g) : Lib.TabIs Tryz.prog w name k zs := by
  obtain ⟨h1, arr, t, f, h2, h3⟩ := hG g _ hg
  unfold Lib.TabIs World.var?
  rw [hn]
  simp only [Option.bind_some, h2, Option.some.injEq]
  rw [List.length_map] at h3
  refine Array.ext' ?_
  refine List.ext_getElem? fun j => ?_
  by_cases hj : j < zs.length
  · obtain ⟨u, hu, hv⟩ := glob_cell hag hG hg j (.int k zs[j]) (by rw [List.getElem?_map, List.getElem?_eq_getElem hj]; rfl)
    rw [V_int hv] at hu
    have e : w.cell? ⟨g, j, none⟩ = arr[j]? := by simp [World.cell?, h2]
    rw [e] at hu
    rw [List.toList_toArray, List.getElem?_map, List.getElem?_eq_getElem hj]
    simpa using hu
  · rw [List.toList_toArray, List.getElem?_eq_none (by simp; omega), List.getElem?_eq_none (by simp; omega)]
theorem iface_of {S : Stab} {w : World} {g : Nat} (hag : Agree S w) (hG : GlobOk glob S w) (hg : glob g = some [.ifc]) : ∃ t v, w.cell? ⟨g, 0, none⟩ = some (.iface t v) := by
  obtain ⟨u, hu, hv⟩ := glob_cell hag hG hg 0 .ifc rfl
  cases hv
  exact ⟨_, _, hu⟩
theorem below_grow (w : World) (n : Nat) (os : Array Obj) : Below w.heap.size w (Sort.grow (w.drewN n) os) :=
  ⟨rfl, rfl, rfl, by simp [Sort.grow, World.drewN], fun k hk => by
    show (w.heap ++ os)[k]? = _
    rw [Array.getElem?_append_left hk]⟩

def pFmt : Piece := { f := strconv_FormatInt, ans := fun args => match args with
  | [.int .i64 n, .int .i64 b] => bif decide (b = 10) && decide (-9223372036854775808 ≤ n) && decide (n ≤ 9223372036854775807) then some (.str (str (Lib.itoa n))) else none
  | _ => none }
def pItoa : Piece := { f := strconv_Itoa, ans := fun args => match args with
  | [.int .i64 n] => bif decide (-9223372036854775808 ≤ n) && decide (n ≤ 9223372036854775807) then some (.str (str (Lib.itoa n))) else none
  | _ => none }
def pCutP : Piece := { f := strings_CutPrefix, ans := fun args => match args with
  | [.str s, .str p] => some (.tup [.str (str (Lib.trimPrefix s.data.toList p.data.toList)), .bool (Lib.hasPrefix s.data.toList p.data.toList)])
  | _ => none }
def one (c : ByteArray) : Option UInt8 := match c.data.toList with | [x] => some x | _ => none
theorem one_some {c : ByteArray} {x : UInt8} (h : one c = some x) : c = ⟨#[x]⟩ := by
  unfold one at h
  split at h
  · rename_i y e
    cases h
    obtain ⟨⟨l⟩⟩ := c
    simp at e
    rw [e]
  · cases h
def pTrimR : Piece := { f := strings_TrimRight, ans := fun args => match args with
  | [.str s, .str c] => (one c).bind fun x => bif decide (x.toNat < 128) && decide (s.size ≤ 9223372036854775807) then some (.str (str (Lib.trimRightB s.data.toList x))) else none
  | _ => none }
def pIndex : Piece := { f := stringslite_Index, ans := fun args => match args with
  | [.str s, .str c] => (one c).bind fun x => some (.int .i64 (Lib.indexByte s.data.toList x))
  | _ => none }
def pIndexByte : Piece := { f := strings_IndexByte, ans := fun args => match args with
  | [.str s, .int .u8 c] => some (.int .i64 (Lib.indexByte s.data.toList c.toNat.toUInt8))
  | _ => none }
def pRepeat : Piece := { f := strings_Repeat, ans := fun args => match args with
  | [.str s, .int .i64 c] => bif decide (0 ≤ c) && decide (c ≤ 9223372036854775807) && decide (s.size * c.toNat ≤ 140737488355328) then some (.str (str (Lib.repeatL s.data.toList c.toNat))) else none
  | _ => none }
def pPInt : Piece := { f := strconv_ParseInt, ans := fun args => match args with
  | [.str s, .int .i64 b, .int .i64 z] => bif decide (b = 10) && decide (z = 64) && decide (s.size ≤ 281474976710656) then some (endI (Lib.parseIntB 64 s.data.toList) (Lib.intSat 64 s.data.toList)) else none
  | _ => none }
def pPUint : Piece := { f := strconv_ParseUint, ans := fun args => match args with
  | [.str s, .int .i64 b, .int .i64 z] => bif decide (b = 10) && decide (z = 64) && decide (s.size ≤ 281474976710656) then some (endU (Lib.parseUintB 64 s.data.toList)) else none
  | _ => none }
theorem fmt_right : pFmt.Right := by
  refine ⟨⟨Tryz.f101, Tryz.func101, by kernel_rfl, by kernel_rfl⟩, fun args res h => ?_⟩
  unfold pFmt at h
  dsimp only at h
  split at h
  · rename_i n b
    obtain ⟨hc, h'⟩ := some_of_bif h
    clear h
    simp only [Bool.and_eq_true, decide_eq_true_eq] at hc
    obtain ⟨⟨rfl, h1⟩, h2⟩ := hc
    obtain rfl := Option.some.inj h'
    refine ok_pure ⟨rfl, rfl⟩ fun S w vals hag hG hV => ?_
    obtain ⟨v, u, rfl, hv, hu⟩ := VL_2 hV
    obtain rfl := V_int hv
    obtain rfl := V_int hu
    refine (Tryz.strconv_FormatInt_10 n h1 h2 w (tab_of hag hG (g := 2) (zs := Lib.pow10Tab) rfl (by kernel_rfl))).mono ?_
    rintro e w' ⟨rfl, k, os, rfl⟩
    exact ⟨_, rfl, fun S' => V.str _, below_grow _ _ _⟩
  · cases h
theorem itoa_right : pItoa.Right := by
  refine ⟨⟨Tryz.f74, Tryz.func74, by kernel_rfl, by kernel_rfl⟩, fun args res h => ?_⟩
  unfold pItoa at h
  dsimp only at h
  split at h
  · rename_i n
    obtain ⟨hc, h'⟩ := some_of_bif h
    clear h
    simp only [Bool.and_eq_true, decide_eq_true_eq] at hc
    obtain ⟨h1, h2⟩ := hc
    obtain rfl := Option.some.inj h'
    refine ok_pure ⟨rfl, rfl⟩ fun S w vals hag hG hV => ?_
    obtain ⟨v, rfl, hv⟩ := VL_1 hV
    obtain rfl := V_int hv
    refine (Tryz.strconv_Itoa n h1 h2 w (tab_of hag hG (g := 2) (zs := Lib.pow10Tab) rfl (by kernel_rfl))).mono ?_
    rintro e w' ⟨rfl, k, os, rfl⟩
    exact ⟨_, rfl, fun S' => V.str _, below_grow _ _ _⟩
  · cases h
theorem cutP_right : pCutP.Right := by
  refine ⟨⟨Tryz.f165, Tryz.func165, by kernel_rfl, by kernel_rfl⟩, fun args res h => ?_⟩
  unfold pCutP at h
  dsimp only at h
  split at h
  · rename_i s p
    obtain rfl := Option.some.inj h
    refine ok_tup rfl fun S w vals hag hG hV => ?_
    obtain ⟨v, u, rfl, hv, hu⟩ := VL_2 hV
    obtain rfl := V_str hv
    obtain rfl := V_str hu
    refine (Tryz.strings_CutPrefix s p w).mono ?_
    rintro e w' ⟨rfl, rfl⟩
    exact ⟨[_, _], rfl, rfl, fun S' => V2 (V.str _) (V.bool _), Below.refl _ _⟩
  · cases h
theorem trimR_right : pTrimR.Right := by
  refine ⟨⟨Tryz.f102, Tryz.func102, by kernel_rfl, by kernel_rfl⟩, fun args res h => ?_⟩
  unfold pTrimR at h
  dsimp only at h
  split at h
  · rename_i s c
    obtain ⟨x, hx, h⟩ := Option.bind_eq_some_iff.1 h
    obtain rfl := one_some hx
    obtain ⟨hc, h'⟩ := some_of_bif h
    clear h
    simp only [Bool.and_eq_true, decide_eq_true_eq] at hc
    obtain rfl := Option.some.inj h'
    refine ok_pure ⟨rfl, rfl⟩ fun S w vals hag hG hV => ?_
    obtain ⟨v, u, rfl, hv, hu⟩ := VL_2 hV
    obtain rfl := V_str hv
    obtain rfl := V_str hu
    refine (Tryz.strings_TrimRight_one s x hc.1 w hc.2).mono ?_
    rintro e w' ⟨rfl, rfl⟩
    exact ⟨_, rfl, fun S' => V.str _, Below.refl _ _⟩
  · cases h
theorem index_right : pIndex.Right := by
  refine ⟨⟨Tryz.f213, Tryz.func213, by kernel_rfl, by kernel_rfl⟩, fun args res h => ?_⟩
  unfold pIndex at h
  dsimp only at h
  split at h
  · rename_i s c
    obtain ⟨x, hx, h⟩ := Option.bind_eq_some_iff.1 h
    obtain rfl := one_some hx
    obtain rfl := Option.some.inj h
    refine ok_pure ⟨rfl, rfl⟩ fun S w vals hag hG hV => ?_
    obtain ⟨v, u, rfl, hv, hu⟩ := VL_2 hV
    obtain rfl := V_str hv
    obtain rfl := V_str hu
    refine (Tryz.stringslite_Index_one s x w).mono ?_
    rintro e w' ⟨rfl, rfl⟩
    exact ⟨_, rfl, fun S' => V.int _ _, Below.refl _ _⟩
  · cases h
theorem indexByte_right : pIndexByte.Right := by
  refine ⟨⟨Tryz.f138, Tryz.func138, by kernel_rfl, by kernel_rfl⟩, fun args res h => ?_⟩
  unfold pIndexByte at h
  dsimp only at h
  split at h
  · rename_i s c
    obtain rfl := Option.some.inj h
    refine ok_pure ⟨rfl, rfl⟩ fun S w vals hag hG hV => ?_
    obtain ⟨v, u, rfl, hv, hu⟩ := VL_2 hV
    obtain rfl := V_str hv
    obtain rfl := V_int hu
    refine (Tryz.strings_IndexByte s c w).mono ?_
    rintro e w' ⟨rfl, rfl⟩
    exact ⟨_, rfl, fun S' => V.int _ _, Below.refl _ _⟩
  · cases h
theorem repeat_right : pRepeat.Right := by
  refine ⟨⟨Tryz.f168, Tryz.func168, by kernel_rfl, by kernel_rfl⟩, fun args res h => ?_⟩
  unfold pRepeat at h
  dsimp only at h
  split at h
  · rename_i s c
    obtain ⟨hc, h'⟩ := some_of_bif h
    clear h
    simp only [Bool.and_eq_true, decide_eq_true_eq] at hc
    obtain ⟨⟨h1, h2⟩, h3⟩ := hc
    obtain rfl := Option.some.inj h'
    refine ok_pure ⟨rfl, rfl⟩ fun S w vals hag hG hV => ?_
    obtain ⟨v, u, rfl, hv, hu⟩ := VL_2 hV
    obtain rfl := V_str hv
    obtain rfl := V_int hu
    obtain ⟨n, rfl⟩ := Int.eq_ofNat_of_zero_le h1
    rw [Int.toNat_natCast] at h3 ⊢
    refine (Tryz.strings_Repeat s n w (by omega) h3).mono ?_
    rintro e w' ⟨rfl, hb⟩
    exact ⟨_, rfl, fun S' => V.str _, hb⟩
  · cases h
theorem pInt_right : pPInt.Right := by
  refine ⟨⟨Tryz.f167, Tryz.func167, by kernel_rfl, by kernel_rfl⟩, fun args res h => ?_⟩
  unfold pPInt at h
  dsimp only at h
  split at h
  · rename_i s b z
    obtain ⟨hc, h'⟩ := some_of_bif h
    clear h
    simp only [Bool.and_eq_true, decide_eq_true_eq] at hc
    obtain ⟨⟨rfl, rfl⟩, h3⟩ := hc
    obtain rfl := Option.some.inj h'
    cases he : Lib.parseIntB 64 s.data.toList with
    | ok v =>
      refine ok_tup rfl fun S w vals hag hG hV => ?_
      obtain ⟨v1, v2, v3, rfl, g1, g2, g3⟩ := VL_3 hV
      obtain rfl := V_str g1
      obtain rfl := V_int g2
      obtain rfl := V_int g3
      refine (Tryz.strconv_ParseInt_10_at64_ok s (by omega) v he w).mono ?_
      rintro e w' ⟨rfl, hw⟩
      refine ⟨[_, _], rfl, rfl, fun S' => V2 (V.int _ _) V.nili, ?_⟩
      rcases hw with rfl | ⟨t, rfl⟩
      · exact Below.refl _ _
      · exact Lib.bytesWorld_below _ _ _
    | range =>
      refine ok_tup rfl fun S w vals hag hG hV => ?_
      obtain ⟨v1, v2, v3, rfl, g1, g2, g3⟩ := VL_3 hV
      obtain rfl := V_str g1
      obtain rfl := V_int g2
      obtain rfl := V_int g3
      obtain ⟨t, v, hi⟩ := iface_of (g := 4) hag hG rfl
      refine (Tryz.strconv_ParseInt_10_at64_range s h3 he _ w hi (.inr ⟨_, _, rfl⟩)).mono ?_
      rintro e w' ⟨N, rfl, _, _, hb⟩
      exact ⟨[_, _], rfl, rfl, fun S' => V2 (V.int _ _) (V.ifc _ _), hb⟩
    | _ =>
      refine ok_tup rfl fun S w vals hag hG hV => ?_
      obtain ⟨v1, v2, v3, rfl, g1, g2, g3⟩ := VL_3 hV
      obtain rfl := V_str g1
      obtain rfl := V_int g2
      obtain rfl := V_int g3
      obtain ⟨t, v, hi⟩ := iface_of (g := 3) hag hG rfl
      refine (Tryz.strconv_ParseInt_10_at64_syntax s h3 he _ w hi (.inr ⟨_, _, rfl⟩)).mono ?_
      rintro e w' ⟨N, rfl, _, _, hb⟩
      exact ⟨[_, _], rfl, rfl, fun S' => V2 (V.int _ _) (V.ifc _ _), hb⟩
  · cases h
theorem pUint_right : pPUint.Right := by
  refine ⟨⟨Tryz.f202, Tryz.func202, by kernel_rfl, by kernel_rfl⟩, fun args res h => ?_⟩
  unfold pPUint at h
  dsimp only at h
  split at h
  · rename_i s b z
    obtain ⟨hc, h'⟩ := some_of_bif h
    clear h
    simp only [Bool.and_eq_true, decide_eq_true_eq] at hc
    obtain ⟨⟨rfl, rfl⟩, h3⟩ := hc
    obtain rfl := Option.some.inj h'
    cases he : Lib.parseUintB 64 s.data.toList with
    | ok v =>
      refine ok_tup rfl fun S w vals hag hG hV => ?_
      obtain ⟨v1, v2, v3, rfl, g1, g2, g3⟩ := VL_3 hV
      obtain rfl := V_str g1
      obtain rfl := V_int g2
      obtain rfl := V_int g3
      refine (Tryz.strconv_ParseUint_10_at64_ok s (by omega) v he w).mono ?_
      rintro e w' ⟨rfl, hw⟩
      refine ⟨[_, _], rfl, rfl, fun S' => V2 (V.int _ _) V.nili, ?_⟩
      rcases hw with rfl | rfl
      · exact Below.refl _ _
      · exact Lib.bytesWorld_below _ _ _
    | range =>
      refine ok_tup rfl fun S w vals hag hG hV => ?_
      obtain ⟨v1, v2, v3, rfl, g1, g2, g3⟩ := VL_3 hV
      obtain rfl := V_str g1
      obtain rfl := V_int g2
      obtain rfl := V_int g3
      obtain ⟨t, v, hi⟩ := iface_of (g := 4) hag hG rfl
      refine (Tryz.strconv_ParseUint_10_at64_range s h3 he _ w hi (.inr ⟨_, _, rfl⟩)).mono ?_
      rintro e w' ⟨N, rfl, _, _, hb⟩
      exact ⟨[_, _], rfl, rfl, fun S' => V2 (V.int _ _) (V.ifc _ _), hb⟩
    | _ =>
      refine ok_tup rfl fun S w vals hag hG hV => ?_
      obtain ⟨v1, v2, v3, rfl, g1, g2, g3⟩ := VL_3 hV
      obtain rfl := V_str g1
      obtain rfl := V_int g2
      obtain rfl := V_int g3
      obtain ⟨t, v, hi⟩ := iface_of (g := 3) hag hG rfl
      refine (Tryz.strconv_ParseUint_10_at64_syntax s h3 he _ w hi (.inr ⟨_, _, rfl⟩)).mono ?_
      rintro e w' ⟨N, rfl, _, _, hb⟩
      exact ⟨[_, _], rfl, rfl, fun S' => V2 (V.int _ _) (V.ifc _ _), hb⟩
  · cases h
def ps04 : List Piece := [pFmt, pItoa, pCutP, pTrimR, pIndex, pIndexByte, pRepeat, pPInt, pPUint]
def ext04 : Ext := extOf ps04
instance core04 : Core ext04 := core_of (by kernel_rfl)
theorem num_of {ps : List Piece} (h1 : ps.find? (fun q => q.f == pFmt.f) = some pFmt) (h2 : ps.find? (fun q => q.f == pItoa.f) = some pItoa) (h3 : ps.find? (fun q => q.f == pCutP.f) = some pCutP) (h4 : ps.find? (fun q => q.f == pTrimR.f) = some pTrimR) (h5 : ps.find? (fun q => q.f == pIndex.f) = some pIndex) (h6 : ps.find? (fun q => q.f == pIndexByte.f) = some pIndexByte) (h7 : ps.find? (fun q => q.f == pRepeat.f) = some pRepeat) (h8 : ps.find? (fun q => q.f == pPInt.f) = some pPInt) (h9 : ps.find? (fun q => q.f == pPUint.f) = some pPUint) : HasNum (extOf ps) where
  fmt k n v g0 g1 := (kp_piece (k := k) (n := n) h1).trans (by
    show (bif decide ((10 : Int) = 10) && decide (-9223372036854775808 ≤ v) && decide (v ≤ 9223372036854775807) then _ else none) = _
    rw [decide_eq_true g0, decide_eq_true g1]
    rfl)
  itoa k n v g0 g1 := (kp_piece (k := k) (n := n) h2).trans (by
    show (bif decide (-9223372036854775808 ≤ v) && decide (v ≤ 9223372036854775807) then _ else none) = _
    rw [decide_eq_true g0, decide_eq_true g1]
    rfl)
  cutP k n s p := (kp_piece (k := k) (n := n) h3).trans rfl
  trimR k n s x g0 g1 := (kp_piece (k := k) (n := n) h4).trans (by
    show (bif decide (x.toNat < 128) && decide ((str s).size ≤ 9223372036854775807) then _ else none) = _
    rw [str_size, decide_eq_true g0, decide_eq_true g1]
    rfl)
  index k n s x := (kp_piece (k := k) (n := n) h5).trans rfl
  indexB k n s c := (kp_piece (k := k) (n := n) h6).trans rfl
  rep k n s c g0 g1 := (kp_piece (k := k) (n := n) h7).trans (by
    show (bif decide ((0 : Int) ≤ (c : Int)) && decide ((c : Int) ≤ 9223372036854775807) && decide ((str s).size * (Int.toNat (c : Int)) ≤ 140737488355328) then some (AV.str (str (Lib.repeatL s (Int.toNat (c : Int))))) else none) = _
    rw [str_size, Int.toNat_natCast, decide_eq_true (show (0 : Int) ≤ (c : Int) by omega), decide_eq_true (show (c : Int) ≤ 9223372036854775807 by omega), decide_eq_true g1]
    rfl)
  pint k n s g0 := (kp_piece (k := k) (n := n) h8).trans (by
    show (bif decide ((10 : Int) = 10) && decide ((64 : Int) = 64) && decide ((str s).size ≤ 281474976710656) then _ else none) = _
    rw [str_size, decide_eq_true g0]
    rfl)
  puint k n s g0 := (kp_piece (k := k) (n := n) h9).trans (by
    show (bif decide ((10 : Int) = 10) && decide ((64 : Int) = 64) && decide ((str s).size ≤ 281474976710656) then _ else none) = _
    rw [str_size, decide_eq_true g0]
    rfl)
instance num04 : HasNum ext04 := num_of rfl rfl rfl rfl rfl rfl rfl rfl rfl
end Go.Proofs.YtbkhmkcmbaffoaaGreatDoor.Eng.U


/- Pairs out of abstract values; answers that are a row and a number; what a list is in memory. -/
set_option linter.unusedVariables false
set_option linter.unusedSectionVars false
set_option linter.unusedSimpArgs false
namespace Go.Proofs.YtbkhmkcmbaffoaaGreatDoor.Eng.U
open Go Go.RowKit Go.Proofs Go.Proofs.YtbkhmkcmbaffoaaGreatDoor.Eng Go.Proofs.YtbkhmkcmbaffoaaGreatDoor.Eng.Rdv

def toPrs : List AV → Option (List Pair)
  | [] => some []
  | .agg [.str x, .str y] :: l => (toPrs l).map fun r => ⟨x.data.toList, y.data.toList⟩ :: r
  | _ => none
theorem toPrs_prs : ∀ l : List Pair, toPrs (prs l) = some l
  | [] => rfl
  | p :: l => by
    show (toPrs (prs l)).map (fun r => (⟨(str p.key).data.toList, (str p.val).data.toList⟩ : Pair) :: r) = _
    rw [toPrs_prs l]; rfl
theorem toPrs_some : ∀ {xs : List AV} {l : List Pair}, toPrs xs = some l → xs = prs l
  | [], l, h => by cases h; rfl
  | x :: xs, l, h => by
    unfold toPrs at h
    split at h
    · rename_i e; cases e
    · rename_i a b l' e
      cases e
      obtain ⟨r, hr, he⟩ := Option.map_eq_some_iff.1 h
      cases he
      rw [toPrs_some hr]
      have : ∀ s : ByteArray, str s.data.toList = s := str_self
      show AV.agg [.str a, .str b] :: prs r = AV.agg [.str (str a.data.toList), .str (str b.data.toList)] :: prs r
      rw [this, this]
    · cases h
theorem ok_rowint {f : FuncId} {args : List AV} {e : TypeId} {sz : Nat} {xs : List AV} {kk : IntKind} {z : Int} (h : ∀ (S : Stab) (w : World) (vals : List Value), Agree S w → GlobOk glob S w → VL S args vals → Calls Tryz.prog f vals.toArray w fun en w' => ∃ v us, en = .returned (.tuple #[v, .int kk z]) ∧ w'.ownsRow w.heap.size e sz v xs.length us ∧
      (∀ (i : Nat) (x : AV), xs[i]? = some x → x.cells.length = sz ∧ ∀ (j : Nat) (c : AV), x.cells[j]? = some c → c.leaf = true ∧ ∀ u, us[i * sz + j]? = some u → V S c u) ∧ Below w.heap.size w w') (hr : (args.all fun c => !c.isRes) = true := by rfl) : Ok Tryz.prog glob f args (.tup [.list sz xs, .int kk z]) := by
  refine Ok.of_plain (fun c hc => by simpa using List.all_eq_true.1 hr c hc) fun S w vals hag hG hV => ?_
  refine (h S w vals hag hG hV).mono ?_
  rintro en w' ⟨v, us, rfl, hown, hels, hb⟩
  obtain ⟨S', h1, h2, h3, h4⟩ := row_V (agree_below hag hb) hown hels
  refine ⟨_, S', rfl, h1, h2, h3, hb, [v, .int kk z], rfl, rfl, fun j c u hc hu => ?_, fun i j c d u v g hc hd hf => ?_⟩
  · match j, hc, hu with
    | 0, hc, hu => cases hc; cases hu; exact h4
    | 1, hc, hu => cases hc; cases hu; exact V.int _ _
  · match i, hc with
    | 0, hc => cases hc; cases hf
    | 1, hc => cases hc; cases hf
theorem list_inv {S : Stab} {sz : Nat} {xs : List AV} {v : Value} (h : V S (.list sz xs) v) : ∃ (ao : Option Addr) (cap : Nat), v = .slice ao xs.length cap ∧ ∀ (i : Nat) (x : AV), xs[i]? = some x → ∃ (a : Addr) (f : Nat → Value), ao = some a ∧ ∀ (j : Nat) (c : AV), x.cells[j]? = some c → S (a.add (i * sz + j)) = some (f j) ∧ V S c (f j) := by
  cases h with
  | list0 a b c => exact ⟨some _, _, rfl, fun i x h => by simp at h⟩
  | listn a => exact ⟨none, 0, rfl, fun i x h => by simp at h⟩
  | list a b ad cap f h0 h1 h2 h3 h4 => exact ⟨some ad, cap, rfl, fun i x hx => ⟨ad, f i, rfl, fun j c hc => ⟨h3 i x j c hx hc, h4 i x j c hx hc⟩⟩⟩
end Go.Proofs.YtbkhmkcmbaffoaaGreatDoor.Eng.U


/- ItemFulls over the library's pieces: strings.IndexAny at "=\\x00", decoding beside the numbers' own. -/
set_option linter.unusedVariables false
set_option linter.unusedSectionVars false
set_option linter.unusedSimpArgs false
namespace Go.Proofs.YtbkhmkcmbaffoaaGreatDoor.Eng.U
open Go Go.Proofs Go.Proofs.YtbkhmkcmbaffoaaGreatDoor.Eng Go.RowKit

/-- The tables of the decoder, off the variables. -/
theorem utf_tabs {S : Stab} {w : World} (hag : Agree S w) (hG : GlobOk glob S w) : Lib.Utf8Tabs 7 8 w := by
  refine ⟨fun c hc => ?_, fun i hi => ?_⟩
  · obtain ⟨u, hu, hv⟩ := glob_cell (g := 7) hag hG rfl c (.int .u8 (Lib.firstT c : Int)) (by rw [List.getElem?_map, List.getElem?_range hc]; rfl)
    rw [V_int hv] at hu
    exact hu
  · obtain ⟨u, hu, hv⟩ := glob_cell (g := 8) hag hG rfl (2 * i) (.int .u8 (Lib.accLo i : Int)) (by
      rw [List.getElem?_map, List.getElem?_range (by omega)]
      show some (AV.int .u8 (((if 2 * i % 2 = 0 then Lib.accLo (2 * i / 2) else Lib.accHi (2 * i / 2) : Nat) : Int))) = _
      rw [if_pos (by omega), show 2 * i / 2 = i from by omega])
    obtain ⟨u', hu', hv'⟩ := glob_cell (g := 8) hag hG rfl (2 * i + 1) (.int .u8 (Lib.accHi i : Int)) (by
      rw [List.getElem?_map, List.getElem?_range (by omega)]
      show some (AV.int .u8 (((if (2 * i + 1) % 2 = 0 then Lib.accLo ((2 * i + 1) / 2) else Lib.accHi ((2 * i + 1) / 2) : Nat) : Int))) = _
      rw [if_neg (by omega), show (2 * i + 1) / 2 = i from by omega])
    rw [V_int hv] at hu
    rw [V_int hv'] at hu'
    exact ⟨hu, hu'⟩
def pDec : Piece := { f := unicode_utf8_DecodeRuneInString, ans := fun args => match args with
  | [.str s] => some (.tup [.int .i32 (Lib.decodeGo s).1, .int .i64 (Lib.decodeGo s).2])
  | _ => none }
theorem dec_right : pDec.Right := by
  refine ⟨⟨Tryz.f225, Tryz.func225, by kernel_rfl, by kernel_rfl⟩, fun args res h => ?_⟩
  unfold pDec at h
  dsimp only at h
  split at h
  · rename_i s
    obtain rfl := Option.some.inj h
    refine ok_tup rfl fun S w vals hag hG hV => ?_
    obtain ⟨v, rfl, hv⟩ := VL_1 hV
    obtain rfl := V_str hv
    refine (Tryz.utf8_DecodeRuneInString s w (utf_tabs hag hG)).mono ?_
    rintro e w' ⟨rfl, hb⟩
    exact ⟨[_, _], rfl, rfl, fun S' => V2 (V.int _ _) (V.int _ _), hb⟩
  · cases h
def ps09a : List Piece := [pFmt, pItoa, pCutP, pTrimR, pIndex, pIndexByte, pRepeat, pPInt, pPUint, pDec]
def ext09a : Ext := { extOf ps09a with fs := strings_IndexAny :: coreFs }
theorem good09b (k : Nat) : (bs (extOf ps09a) k).Good := good_of (fun p hp => by
  simp only [ps09a, List.mem_cons, List.not_mem_nil, or_false] at hp
  rcases hp with rfl | rfl | rfl | rfl | rfl | rfl | rfl | rfl | rfl | rfl
  · exact fmt_right
  · exact itoa_right
  · exact cutP_right
  · exact trimR_right
  · exact index_right
  · exact indexByte_right
  · exact repeat_right
  · exact pInt_right
  · exact pUint_right
  · exact dec_right) names_ok k
theorem good09a (k : Nat) : (bs ext09a k).Good := { mixed := by kernel_rfl, names := by kernel_rfl, base := (good09b k).base }
instance core09a : Core ext09a where
  isB f hf := (core_of (ps := ps09a) (by kernel_rfl)).isB f hf
  has f hf := by
    show (strings_IndexAny :: coreFs).contains f = true
    rw [List.contains_cons, hf, Bool.or_true]
instance ib09a : HasIB ext09a := ⟨fun k n s c => (kp_base (E := ext09a) (by kernel_rfl)).trans rfl⟩
noncomputable def pAny : Piece := { f := strings_IndexAny, ans := fun args => match args with
  | [.str s, .str c] => bif decide (c = str [61, 0]) && decide (s.size ≤ 1000000) then (bif decide (8 < s.size) then some (.int .i64 (Lib.indexAny s.data.toList [61, 0])) else (bs ext09a 100).kap 3 strings_IndexAny [.str s, .str c]) else none
  | _ => none }
theorem any_right : pAny.Right := by
  refine ⟨⟨Tryz.f157, Tryz.func157, by kernel_rfl, by kernel_rfl⟩, fun args res h => ?_⟩
  unfold pAny at h
  dsimp only at h
  split at h
  · rename_i s c
    obtain ⟨hc, h'⟩ := some_of_bif h
    clear h
    simp only [Bool.and_eq_true, decide_eq_true_eq] at hc
    obtain ⟨rfl, h1⟩ := hc
    by_cases h8 : 8 < s.size
    · rw [decide_eq_true h8, cond_true] at h'
      obtain rfl := Option.some.inj h'
      refine ok_pure ⟨rfl, rfl⟩ fun S w vals hag hG hV => ?_
      obtain ⟨v, u, rfl, hv, hu⟩ := VL_2 hV
      obtain rfl := V_str hv
      obtain rfl := V_str hu
      have h2 : ∀ (j : Nat) b, (str [61, 0]).data.toList[j]? = some b → b.toNat < 128 := by
        intro j b hb
        match j, hb with
        | 0, hb => cases hb; decide
        | 1, hb => cases hb; decide
        | j + 2, hb => simp [str] at hb
      refine (Tryz.strings_IndexAny_long (fun w => by kernel_rfl) s (str [61, 0]) w (by decide) h8 (by omega) (by decide) h2).mono ?_
      rintro e w' ⟨rfl, rfl⟩
      exact ⟨_, rfl, fun S' => V.int _ _, ((Below.refl _ _).alloc (Nat.le_refl _) _).alloc (by simp) _⟩
    · rw [decide_eq_false h8, cond_false] at h'
      exact Base.ok (good09a 100) h'
  · cases h
noncomputable def ps09 : List Piece := [pFmt, pItoa, pCutP, pTrimR, pIndex, pIndexByte, pRepeat, pPInt, pPUint, pDec, pAny]
noncomputable def ext09 : Ext := extOf ps09
instance core09 : Core ext09 := core_of (by kernel_rfl)
instance num09 : HasNum ext09 := num_of rfl rfl rfl rfl rfl rfl rfl rfl rfl
instance text09 : HasText ext09 where
  dec k n s := ⟨_, _, (kp_piece (ps := ps09) (p := pDec) (k := k) (n := n) (args := [.str (str s)]) rfl).trans rfl⟩
  idx k n s hs := by
    have h := kp_piece (ps := ps09) (p := pAny) (k := k) (n := n) (args := [.str (str s), .str (str [61, 0])]) rfl
    have e : pAny.ans [.str (str s), .str (str [61, 0])] = (bif decide (str [61, 0] = str [61, 0]) && decide ((str s).size ≤ 1000000) then (bif decide (8 < (str s).size) then some (.int .i64 (Lib.indexAny (str s).data.toList [61, 0])) else (bs ext09a 100).kap 3 strings_IndexAny [.str (str s), .str (str [61, 0])]) else none) := rfl
    rw [e, str_size, decide_eq_true rfl, decide_eq_true hs, Bool.true_and, cond_true] at h
    by_cases h8 : 8 < s.length
    · rw [decide_eq_true h8, cond_true] at h
      exact ⟨_, h⟩
    · rw [decide_eq_false h8, cond_false] at h
      obtain ⟨r, hr⟩ := any_short (E := ext09a) (k := 100) (n := 0) (by kernel_rfl) (by kernel_rfl) (by omega) s (by omega)
      exact ⟨r, h.trans hr⟩
theorem good09 (k : Nat) : (bs ext09 k).Good := good_of (fun p hp => by
  simp only [ps09, List.mem_cons, List.not_mem_nil, or_false] at hp
  rcases hp with rfl | rfl | rfl | rfl | rfl | rfl | rfl | rfl | rfl | rfl | rfl
  · exact fmt_right
  · exact itoa_right
  · exact cutP_right
  · exact trimR_right
  · exact index_right
  · exact indexByte_right
  · exact repeat_right
  · exact pInt_right
  · exact pUint_right
  · exact dec_right
  · exact any_right) names_ok k
instance textV09 : HasTextV ext09 where
  dec k n s := (kp_piece (ps := ps09) (p := pDec) (k := k) (n := n) (args := [.str s]) rfl).trans rfl
  idx k n s hs := by
    have h := kp_piece (ps := ps09) (p := pAny) (k := k) (n := n) (args := [.str (str s), .str (str [61, 0])]) rfl
    have e : pAny.ans [.str (str s), .str (str [61, 0])] = (bif decide (str [61, 0] = str [61, 0]) && decide ((str s).size ≤ 1000000) then (bif decide (8 < (str s).size) then some (.int .i64 (Lib.indexAny (str s).data.toList [61, 0])) else (bs ext09a 100).kap 3 strings_IndexAny [.str (str s), .str (str [61, 0])]) else none) := rfl
    rw [e, str_size, decide_eq_true rfl, decide_eq_true hs, Bool.true_and, cond_true] at h
    by_cases h8 : 8 < s.length
    · rw [decide_eq_true h8, cond_true] at h
      exact ⟨_, h, any_long_v s⟩
    · rw [decide_eq_false h8, cond_false] at h
      obtain ⟨r, hr, hv⟩ := any_short_v (E := ext09a) (k := 100) (n := 0) (by kernel_rfl) (by kernel_rfl) (by omega) s (by omega)
      exact ⟨r, h.trans hr, hv⟩
end Go.Proofs.YtbkhmkcmbaffoaaGreatDoor.Eng.U


/- Overlays in plain words, part 3: laid again, and what stays. No program. -/
set_option linter.unusedVariables false
set_option linter.unusedSimpArgs false
namespace Go.Proofs.YtbkhmkcmbaffoaaGreatDoor.Eng.U
open Go Go.Proofs Go.Proofs.YtbkhmkcmbaffoaaGreatDoor.Eng

theorem lay_okst (l : List Pair) : okSt none (layAll l) = true := layAll_ok l [] rfl
theorem lay_val (l : List Pair) (k : Tx) : valOf (layAll l) k = lastL l k := layAll_val l [] rfl k
theorem mem_layOne : ∀ (x : List Pair) (p q : Pair), q ∈ layOne x p → q ∈ x ∨ q = p
  | [], p, q, h => by
    unfold layOne at h
    split at h
    · cases h
    · exact .inr (List.mem_singleton.1 h)
  | r :: x, p, q, h => by
    unfold layOne at h
    split at h
    · split at h
      · exact .inl (.tail _ h)
      · rcases List.mem_cons.1 h with rfl | h
        · exact .inr rfl
        · exact .inl (.tail _ h)
    · split at h
      · rcases List.mem_cons.1 h with rfl | h
        · exact .inl (.head _)
        · rcases mem_layOne x p q h with h | h
          · exact .inl (.tail _ h)
          · exact .inr h
      · split at h
        · exact .inl h
        · rcases List.mem_cons.1 h with rfl | h
          · exact .inr rfl
          · exact .inl h
theorem mem_lay : ∀ (l x : List Pair) (q : Pair), q ∈ l.foldl layOne x → q ∈ x ∨ q ∈ l
  | [], x, q, h => .inl h
  | p :: l, x, q, h => by
    rw [List.foldl_cons] at h
    rcases mem_lay l (layOne x p) q h with h | h
    · rcases mem_layOne x p q h with h | rfl
      · exact .inl h
      · exact .inr (.head _)
    · exact .inr (.tail _ h)
theorem mem_layAll {l : List Pair} {q : Pair} (h : q ∈ layAll l) : q ∈ l := by
  rcases mem_lay l [] q h with h | h
  · cases h
  · exact h
theorem lay_len (l : List Pair) : (layAll l).length ≤ l.length := by
  have : ∀ (l x : List Pair), (l.foldl layOne x).length ≤ x.length + l.length := by
    intro l
    induction l with
    | nil => intro x; simp
    | cons p l ih => intro x; have := ih (layOne x p); have := layOne_len p x; rw [List.foldl_cons, List.length_cons]; omega
  have h := this l []
  rw [List.length_nil, Nat.zero_add] at h
  exact h
end Go.Proofs.YtbkhmkcmbaffoaaGreatDoor.Eng.U


/- rep.Records as a given function: the pairs in the order of their keys, a new row. -/
set_option linter.unusedVariables false
set_option linter.unusedSectionVars false
set_option linter.unusedSimpArgs false
namespace Go.Proofs.YtbkhmkcmbaffoaaGreatDoor.Eng.U
open Go Go.RowKit Go.Proofs Go.Proofs.YtbkhmkcmbaffoaaGreatDoor.Eng Go.Proofs.YtbkhmkcmbaffoaaGreatDoor.Eng.Rdv Go.Proofs.YtbkhmkcmbaffoaaGreatDoor.S11 Go.Proofs.YtbkhmkcmbaffoaaGreatDoor.P04

/-! Heads out of abstract values. -/
def toHead : List AV → Option Head
  | [.int .i64 a, .str b, .str c, .int .i64 d, .int .i64 e, .int .i64 f, .int .i64 g, .int .i64 h, .int .i64 i, .str j, .str k, .int .i64 l, .int .i64 m, .list 2 xs] =>
    (toPrs xs).map fun ps => ⟨a, b.data.toList, c.data.toList, d, e, f, g, h, i, j.data.toList, k.data.toList, l, m, ps⟩
  | _ => none
theorem toHead_enc (h : Head) : toHead (encHead h) = some h := by
  show (toPrs (prs h.extra)).map _ = _
  rw [toPrs_prs]
  rfl
theorem toHead_some {cs : List AV} {h : Head} (hh : toHead cs = some h) : cs = encHead h := by
  unfold toHead at hh
  split at hh
  · obtain ⟨ps, hp, rfl⟩ := Option.map_eq_some_iff.1 hh
    rw [toPrs_some hp]
    have e : ∀ s : ByteArray, str s.data.toList = s := fun s => by unfold str; congr 1
    unfold encHead
    simp only [e]
  · cases hh
theorem headV_inv {S : Stab} {h : Head} {v : Value} (hv : V S (.agg (encHead h)) v) : ∃ sv, v = .agg (headV h sv) ∧ V S (.list 2 (prs h.extra)) sv := by
  generalize hx : encHead h = cs at hv
  cases hv with
  | agg _ vs h1 h2 h4 =>
    subst hx
    match vs, h1 with
    | [v0, v1, v2, v3, v4, v5, v6, v7, v8, v9, v10, v11, v12, v13], _ =>
      have g0 := V_int (h4 0 _ _ rfl rfl)
      have g1 := V_str (h4 1 _ _ rfl rfl)
      have g2 := V_str (h4 2 _ _ rfl rfl)
      have g3 := V_int (h4 3 _ _ rfl rfl)
      have g4 := V_int (h4 4 _ _ rfl rfl)
      have g5 := V_int (h4 5 _ _ rfl rfl)
      have g6 := V_int (h4 6 _ _ rfl rfl)
      have g7 := V_int (h4 7 _ _ rfl rfl)
      have g8 := V_int (h4 8 _ _ rfl rfl)
      have g9 := V_str (h4 9 _ _ rfl rfl)
      have g10 := V_str (h4 10 _ _ rfl rfl)
      have g11 := V_int (h4 11 _ _ rfl rfl)
      have g12 := V_int (h4 12 _ _ rfl rfl)
      have g13 := h4 13 _ _ rfl rfl
      subst g0 g1 g2 g3 g4 g5 g6 g7 g8 g9 g10 g11 g12
      exact ⟨v13, rfl, g13⟩
theorem VL1 {S : Stab} {x : AV} {v : Value} (h : V S x v) : VL S [x] [v] := ⟨rfl, fun j c u hc hu => by
  match j, hc, hu with
  | 0, hc, hu => cases hc; cases hu; exact h⟩
theorem VL3 {S : Stab} {x y z : AV} {u v t : Value} (h1 : V S x u) (h2 : V S y v) (h3 : V S z t) : VL S [x, y, z] [u, v, t] := ⟨rfl, fun j c w hc hw => by
  match j, hc, hw with
  | 0, hc, hw => cases hc; cases hw; exact h1
  | 1, hc, hw => cases hc; cases hw; exact h2
  | 2, hc, hw => cases hc; cases hw; exact h3⟩
/-- A call of what the engine evaluates, in a later memory. -/
theorem eng_calls {E : Ext} [Core E] {k n : Nat} (hB : (bs E k).Good) {f : FuncId} {args : List AV} {res : AV} (hk : kp E k n f args = some res) {S : Stab} {w W : World} {vals : List Value} (hag : Agree S w) (hG : GlobOk glob S w) (hV : VL S args vals) (hb : Below w.heap.size w W) :
    Calls Tryz.prog f vals.toArray W fun e w' => ∃ v S', e = .returned v ∧ S.le S' ∧ Agree S' w' ∧ Below W.heap.size W w' ∧ RetR Tryz.prog S' W w' args vals res v := by
  have hok := Base.ok (B := bs E k) hB (n := n) hk
  refine (hok.plain S W vals (agree_below hag hb) (hG.mono (fun _ _ h => h) hb) hV).mono ?_
  rintro e w' ⟨v, S', he, h1, h2, _, h3, h4⟩
  exact ⟨v, S', he, h1, h2, h3, h4⟩
def inR (v : Int) : Bool := decide (-9223372036854775808 ≤ v) && decide (v ≤ 9223372036854775807)
def okHd (h : Head) : Bool := decide (h.name.length ≤ 400000) && decide (h.link.length ≤ 400000) && decide (h.user.length ≤ 400000) && decide (h.group.length ≤ 400000) && decide (h.extra.length ≤ 100) && (h.extra.all fun p => decide (p.key.length ≤ 1000000) && decide (p.val.length ≤ 1000000)) && inR h.uid && inR h.gid && inR h.size && inR h.sec
structure OkHd (h : Head) : Prop where
  bd : BdF h
  ext : h.extra.length ≤ 100
  uid : -9223372036854775808 ≤ h.uid ∧ h.uid ≤ 9223372036854775807
  gid : -9223372036854775808 ≤ h.gid ∧ h.gid ≤ 9223372036854775807
  size : -9223372036854775808 ≤ h.size ∧ h.size ≤ 9223372036854775807
  sec : -9223372036854775808 ≤ h.sec ∧ h.sec ≤ 9223372036854775807
theorem okHd_iff {h : Head} : okHd h = true ↔ OkHd h := by
  unfold okHd inR
  simp only [Bool.and_eq_true, decide_eq_true_eq, List.all_eq_true]
  constructor
  · rintro ⟨⟨⟨⟨⟨⟨⟨⟨⟨a, b⟩, c⟩, d⟩, e⟩, f⟩, g⟩, i⟩, j⟩, k⟩
    exact ⟨⟨a, b, c, d, by omega, f⟩, e, g, i, j, k⟩
  · rintro ⟨⟨a, b, c, d, e, f⟩, e', g, i, j, k⟩
    exact ⟨⟨⟨⟨⟨⟨⟨⟨⟨a, b⟩, c⟩, d⟩, e'⟩, f⟩, g⟩, i⟩, j⟩, k⟩
/-! What the records are. -/
def rawH (h : Head) : List Pair := rawL h (canB 2 h) ((fulls h.kind h.name).headD []) (Lib.itoa h.uid) (Lib.itoa h.gid) (Lib.itoa h.size) (bif rightT h.nano then printL h.sec h.nano else [])
def recsL (h : Head) : List Pair := layAll (rawH h)
def texts3 (h : Head) : Bool := canB 3 h 2 && canB 3 h 3 && canB 3 h 9 && canB 3 h 10
def recA (h : Head) : List Pair × Int := if wrongH h = 0 then (if texts3 h = true then (recsL h, 0) else ([], 13)) else ([], 15)
noncomputable def pRec : Piece := { f := rep_Records, ans := fun args => match args with
  | [.agg cs] => (toHead cs).bind fun h => bif okHd h then some (.tup [.list 2 (prs (recA h).1), .int .u8 (recA h).2]) else none
  | _ => none }
/-! Pairs whose keys are other ones, in order: one list. -/
def keysN (l : List Pair) : Prop := l.Pairwise fun p q => p.key ≠ q.key
theorem keysN_perm {l l' : List Pair} (h : l'.Perm l) (hk : keysN l) : keysN l' := hk.perm h.symm fun hab e => hab e.symm
theorem sorted_okSt : ∀ (l : List Pair) (a : Option Tx), Sorted l → keysN l → (∀ p ∈ l, p.val ≠ []) → (∀ p ∈ l, gtO a p.key = true) → okSt a l = true
  | [], a, _, _, _, _ => rfl
  | p :: l, a, hs, hk, hv, hg => by
    obtain ⟨hs1, hs2⟩ := List.pairwise_cons.1 hs
    obtain ⟨hk1, hk2⟩ := List.pairwise_cons.1 hk
    have ih := sorted_okSt l (some p.key) hs2 hk2 (fun q hq => hv q (by simp [hq])) fun q hq => by
      have h1 : ¬ Op.bytesLess q.key p.key = true := fun h => hs1 q hq ((compare_lt _ _).2 h)
      show Op.bytesLess p.key q.key = true
      exact lt_tot (by simpa using h1) (fun e => hk1 q hq e.symm)
    unfold okSt
    rw [hg p (by simp), ih]
    simpa using hv p (by simp)
theorem last_mem {p : Pair} : ∀ (l : List Pair), keysN l → p ∈ l → lastL l p.key = p.val := by
  intro l hk hp
  obtain ⟨a, b, rfl⟩ := List.append_of_mem hp
  refine last_mid a b p fun q hq e => ?_
  have h2 := (List.pairwise_append.1 hk).2.1
  exact (List.pairwise_cons.1 h2).1 q hq e.symm
theorem sorted_lay {l l' : List Pair} (hp : l'.Perm l) (hs : Sorted l') (hk : keysN l) (hv : ∀ p ∈ l, p.val ≠ []) : l' = layAll l := by
  have hk' := keysN_perm hp hk
  have hv' : ∀ p ∈ l', p.val ≠ [] := fun p h => hv p (hp.mem_iff.1 h)
  have ho := sorted_okSt l' none hs hk' hv' fun p _ => rfl
  refine over_ext ho (lay_okst l) fun k => ?_
  rw [lay_val]
  by_cases hm : ∃ p ∈ l', p.key = k
  · obtain ⟨p, hpm, rfl⟩ := hm
    rw [valOf_ne ho p hpm, last_mem l hk (hp.mem_iff.1 hpm)]
  · have h1 : ∀ q ∈ l, q.key ≠ k := fun q hq e => hm ⟨q, hp.mem_iff.2 hq, e⟩
    have h2 : valOf l' k = [] := by
      have : ∀ (l : List Pair), (∀ q ∈ l, q.key ≠ k) → valOf l k = [] := by
        intro l
        induction l with
        | nil => intro _; rfl
        | cons p l ih =>
          intro h
          unfold valOf
          rw [if_neg (h p (by simp))]
          exact ih fun q hq => h q (by simp [hq])
      exact this l' fun q hq e => hm ⟨q, hq, e⟩
    rw [h2, last_none k l h1]
end Go.Proofs.YtbkhmkcmbaffoaaGreatDoor.Eng.U


/- How many bytes a record has: both sides. -/
set_option linter.unusedVariables false
set_option linter.unusedSectionVars false
set_option linter.unusedSimpArgs false
namespace Go.Proofs.YtbkhmkcmbaffoaaGreatDoor.Eng.U
open Go Go.Proofs Go.Proofs.YtbkhmkcmbaffoaaGreatDoor.Eng Go.Proofs.YtbkhmkcmbaffoaaGreatDoor.P04
variable {E : Ext} [Core E] [HasNum E] {k n : Nat}

def dl (u : Nat) : Nat := (Lib.decDigits u).length
theorem dl_small {u : Nat} (h : u < 10) : dl u = 1 := by unfold dl; rw [Lib.decDigits, dif_pos h]; rfl
theorem dl_big {u : Nat} (h : ¬ u < 10) : dl u = dl (u / 10) + 1 := by unfold dl; rw [decDigits_rec h, List.length_append]; rfl
theorem dl_pos (u : Nat) : 1 ≤ dl u := by
  by_cases h : u < 10
  · rw [dl_small h]; exact Nat.le_refl _
  · rw [dl_big h]; omega
theorem dl_mono : ∀ (b a : Nat), a ≤ b → dl a ≤ dl b := by
  intro b
  induction b using Nat.strongRecOn with
  | ind b ih =>
    intro a h
    by_cases ha : a < 10
    · rw [dl_small ha]; exact dl_pos b
    · rw [dl_big ha, dl_big (show ¬ b < 10 by omega)]
      have := ih (b / 10) (by omega) (a / 10) (by omega)
      omega
theorem dl_le (u : Nat) (h : u ≤ 9223372036854775807) : dl u ≤ 21 := dig_len u (by omega)
def lenF : Nat → Nat → Nat → Nat
  | 0, rest, m => m
  | f + 1, rest, m => if rest + dl m = m then m else lenF f rest (rest + dl m)
def restP (p : Pair) : Nat := p.key.length + p.val.length + 3
def lenP (p : Pair) : Nat := lenF 30 (restP p) (restP p)
theorem lenF_fix (rest : Nat) (hr : rest ≤ 100000000) : ∀ (f m : Nat), m ≤ rest + dl m → rest + 21 < m + f → m ≤ rest + 21 → rest + dl (lenF f rest m) = lenF f rest m ∧ lenF f rest m ≤ rest + 21 ∧ ∀ q, rest + dl q = q → m ≤ q → lenF f rest m ≤ q
  | 0, m, h1, h2, h3 => by omega
  | f + 1, m, h1, h2, h3 => by
    unfold lenF
    split
    · rename_i h; exact ⟨h, h3, fun q _ hq => hq⟩
    · rename_i h
      have hd := dl_le m (by omega)
      have hm : m < rest + dl m := by omega
      have hmono := dl_mono (rest + dl m) m (by omega)
      obtain ⟨i1, i2, i3⟩ := lenF_fix rest hr f (rest + dl m) (by omega) (by omega) (by omega)
      exact ⟨i1, i2, fun q hq hmq => i3 q hq (by have := dl_mono q m hmq; omega)⟩
theorem itoa_nat (u : Nat) : Lib.itoa (u : Int) = Lib.decDigits u := by
  unfold Lib.itoa
  first | rw [if_neg (by omega)]; simp | simp
theorem len_loop (kap : FuncId → List AV → Option AV) (hI : ∀ u : Nat, u ≤ 9223372036854775807 → kap strconv_Itoa [.int .i64 (u : Int)] = some (.str (str (Lib.decDigits u)))) (rest : Nat) (hr : rest ≤ 100000000) :
    ∀ (f m k0 : Nat), m ≤ rest + dl m → rest + 21 < m + f → m ≤ rest + 21 → f < k0 → pax_Len_L0 kap k k0 ((rest : Nat) : Int) ((m : Nat) : Int) = some (.int .i64 (lenF f rest m : Nat))
  | 0, m, k0, h1, h2, h3, hk => by omega
  | f + 1, m, k0 + 1, h1, h2, h3, hk => by
    have hd := dl_le m (by omega)
    have hs : (Lib.decDigits m).length = dl m := rfl
    rw [pax_Len_L0_s, hI m (by omega), callS_ok, str_size, hs, i64w (by omega)]
    unfold lenF
    by_cases h : rest + dl m = m
    · rw [if_pos h, bif_t (by omega)]
    · rw [if_neg h, bif_f (by omega)]
      have hmono := dl_mono (rest + dl m) m (by omega)
      have := len_loop kap hI rest hr f (rest + dl m) k0 (by omega) (by omega) (by omega) (by omega)
      rw [← this]
      congr 1
theorem lenP_facts (p : Pair) (h1 : p.key.length ≤ 1000000) (h2 : p.val.length ≤ 1000000) : restP p + dl (lenP p) = lenP p ∧ lenP p ≤ restP p + 21 ∧ ∀ q, restP p + dl q = q → restP p ≤ q → lenP p ≤ q :=
  lenF_fix (restP p) (by unfold restP; omega) 30 (restP p) (by omega) (by omega) (by omega)
theorem paxLen_k (p : Pair) (h1 : p.key.length ≤ 1000000) (h2 : p.val.length ≤ 1000000) (hk : 100 < k) : kp E k (n + 1) pax_Len [.agg [.str (str p.key), .str (str p.val)]] = some (.int .i64 (lenP p : Nat)) := by
  have hI : ∀ u : Nat, u ≤ 9223372036854775807 → kp E k n strconv_Itoa [.int .i64 (u : Int)] = some (.str (str (Lib.decDigits u))) := fun u hu => by rw [HasNum.itoa k n _ (by omega) (by omega), itoa_nat]
  have := len_loop (k := k) (kp E k n) hI (restP p) (by unfold restP; omega) 30 (restP p) k (by omega) (by omega) (by omega) (by omega)
  rw [pax_Len_eq, str_size, str_size, i64w (x := ((p.key.length : Nat) : Int) + ((p.val.length : Nat) : Int)) (by omega), i64w (by omega)]
  rw [show ((p.key.length : Nat) : Int) + ((p.val.length : Nat) : Int) + 3 = ((restP p : Nat) : Int) by unfold restP; omega]
  exact this
theorem refLen_loop (kap : FuncId → List AV → Option AV) (hI : ∀ u : Nat, u ≤ 9223372036854775807 → kap ref04_Digits [.int .i64 (u : Int)] = some (.str (str (Lib.decDigits u)))) (p : Pair) (h1 : p.key.length ≤ 1000000) (h2 : p.val.length ≤ 1000000) :
    ∀ (g d k0 : Nat), 1 ≤ d → d + g = dl (lenP p) → g < k0 → ref07_Len_L0 kap k k0 ((d : Nat) : Int) (str p.key) (str p.val) = some (.int .i64 (lenP p : Nat)) := by
  obtain ⟨q1, q2, q3⟩ := lenP_facts p h1 h2
  have hrest : restP p = p.key.length + p.val.length + 3 := rfl
  have hd21 : dl (lenP p) ≤ 21 := by omega
  intro g
  induction g with
  | zero =>
    intro d k0 hd hg hk
    obtain ⟨m, rfl⟩ : ∃ m, k0 = m + 1 := ⟨k0 - 1, by omega⟩
    have e : ((d : Nat) : Int) + ((p.key.length : Nat) : Int) + ((p.val.length : Nat) : Int) + 3 = ((lenP p : Nat) : Int) := by omega
    have hs : (Lib.decDigits (lenP p)).length = dl (lenP p) := rfl
    rw [ref07_Len_L0_s, str_size, str_size, i64w (x := ((d : Nat) : Int) + ((p.key.length : Nat) : Int)) (by omega), i64w (x := ((d : Nat) : Int) + ((p.key.length : Nat) : Int) + ((p.val.length : Nat) : Int)) (by omega), i64w (by omega), e, hI _ (by omega), callS_ok, str_size, hs, bif_t (by omega)]
  | succ g ih =>
    intro d k0 hd hg hk
    obtain ⟨m, rfl⟩ : ∃ m, k0 = m + 1 := ⟨k0 - 1, by omega⟩
    have e : ((d : Nat) : Int) + ((p.key.length : Nat) : Int) + ((p.val.length : Nat) : Int) + 3 = ((restP p + d : Nat) : Int) := by omega
    have hs : (Lib.decDigits (restP p + d)).length = dl (restP p + d) := rfl
    have hne : dl (restP p + d) ≠ d := fun h => by
      have := q3 (restP p + d) (by omega) (by omega)
      omega
    rw [ref07_Len_L0_s, str_size, str_size, i64w (x := ((d : Nat) : Int) + ((p.key.length : Nat) : Int)) (by omega), i64w (x := ((d : Nat) : Int) + ((p.key.length : Nat) : Int) + ((p.val.length : Nat) : Int)) (by omega), i64w (x := ((d : Nat) : Int) + ((p.key.length : Nat) : Int) + ((p.val.length : Nat) : Int) + 3) (by omega), e, hI _ (by omega), callS_ok, str_size, hs, bif_f (by omega), i64w (by omega)]
    have := ih (d + 1) m (by omega) (by omega) (by omega)
    rw [← this]
    congr 1
theorem refLen_k (p : Pair) (h1 : p.key.length ≤ 1000000) (h2 : p.val.length ≤ 1000000) (hk : 100 < k) : kp E k (n + 20) ref07_Len [.agg [.str (str p.key), .str (str p.val)]] = some (.int .i64 (lenP p : Nat)) := by
  obtain ⟨q1, q2, q3⟩ := lenP_facts p h1 h2
  have hp := dl_pos (lenP p)
  have := refLen_loop (k := k) (kp E k (n + 19)) (fun u hu => digits20 u (by omega)) p h1 h2 (dl (lenP p) - 1) 1 k (by omega) (by omega) (by omega)
  rw [ref07_Len_eq]
  exact this
end Go.Proofs.YtbkhmkcmbaffoaaGreatDoor.Eng.U


/- rep.Records as a given function: it answers so. -/
set_option linter.unusedVariables false
set_option linter.unusedSectionVars false
set_option linter.unusedSimpArgs false
namespace Go.Proofs.YtbkhmkcmbaffoaaGreatDoor.Eng.U
open Go Go.RowKit Go.Proofs Go.Proofs.YtbkhmkcmbaffoaaGreatDoor.Eng Go.Proofs.YtbkhmkcmbaffoaaGreatDoor.Eng.Rdv Go.Proofs.YtbkhmkcmbaffoaaGreatDoor.S11 Go.Proofs.YtbkhmkcmbaffoaaGreatDoor.P04

structure RightH (h : Head) : Prop where
  a1 : f1 h = true
  a2 : f2 h = true
  a3 : f3 h = true
  a4 : f4 h = true
  a5 : f5 h = true
  a6 : f6 h = true
  a7 : f7 h = true
  a8 : f8 h = true
  a9 : f9 h = true
  a10 : f10 h = true
  a11 : f11 h = true
  a12 : f12 h = true
  a13 : f13 h = true
theorem rightH_of {h : Head} (hw : wrongH h = 0) : RightH h := by
  unfold wrongH at hw
  cases g1 : f1 h with
  | false => rw [g1] at hw; cases hw
  | true => cases g2 : f2 h with
    | false => rw [g1, g2] at hw; cases hw
    | true => cases g3 : f3 h with
      | false => rw [g1, g2, g3] at hw; cases hw
      | true => cases g4 : f4 h with
        | false => rw [g1, g2, g3, g4] at hw; cases hw
        | true => cases g5 : f5 h with
          | false => rw [g1, g2, g3, g4, g5] at hw; cases hw
          | true => cases g6 : f6 h with
            | false => rw [g1, g2, g3, g4, g5, g6] at hw; cases hw
            | true => cases g7 : f7 h with
              | false => rw [g1, g2, g3, g4, g5, g6, g7] at hw; cases hw
              | true => cases g8 : f8 h with
                | false => rw [g1, g2, g3, g4, g5, g6, g7, g8] at hw; cases hw
                | true => cases g9 : f9 h with
                  | false => rw [g1, g2, g3, g4, g5, g6, g7, g8, g9] at hw; cases hw
                  | true => cases g10 : f10 h with
                    | false => rw [g1, g2, g3, g4, g5, g6, g7, g8, g9, g10] at hw; cases hw
                    | true => cases g11 : f11 h with
                      | false => rw [g1, g2, g3, g4, g5, g6, g7, g8, g9, g10, g11] at hw; cases hw
                      | true => cases g12 : f12 h with
                        | false => rw [g1, g2, g3, g4, g5, g6, g7, g8, g9, g10, g11, g12] at hw; cases hw
                        | true => cases g13 : f13 h with
                          | false => rw [g1, g2, g3, g4, g5, g6, g7, g8, g9, g10, g11, g12, g13] at hw; cases hw
                          | true => exact ⟨g1, g2, g3, g4, g5, g6, g7, g8, g9, g10, g11, g12, g13⟩
theorem right_wrong {h : Head} (r : RightH h) : wrongH h = 0 := by
  unfold wrongH
  rw [r.a1, r.a2, r.a3, r.a4, r.a5, r.a6, r.a7, r.a8, r.a9, r.a10, r.a11, r.a12, r.a13]
  rfl
theorem add_keys {K : List Tx} {l : List Pair} {c : Bool} (key val : Tx) (hk : keysN l) (hm : ∀ q ∈ l, q.key ∈ K ∨ whichL q.key < 0) (hp : key ∉ K) (hw : 0 ≤ whichL key) : keysN (addP c ⟨key, val⟩ l) ∧ ∀ q ∈ addP c ⟨key, val⟩ l, q.key ∈ key :: K ∨ whichL q.key < 0 := by
  cases c with
  | true => exact ⟨hk, fun q hq => (hm q hq).imp (fun h => List.mem_cons_of_mem _ h) fun h => h⟩
  | false =>
    refine ⟨List.pairwise_append.2 ⟨hk, List.pairwise_singleton _ _, fun a ha b hb e => ?_⟩, fun q hq => ?_⟩
    · rw [List.mem_singleton.1 hb] at e
      have e : a.key = key := e
      rcases hm a ha with h | h
      · exact hp (e ▸ h)
      · rw [e] at h; omega
    · rcases List.mem_append.1 hq with h | h
      · exact (hm q h).imp (fun h => List.mem_cons_of_mem _ h) fun h => h
      · rw [List.mem_singleton.1 h]; exact .inl (List.mem_cons_self ..)
theorem add_vals {l : List Pair} {p : Pair} {c : Bool} (hv : ∀ q ∈ l, q.val ≠ []) (hp : c = false → p.val ≠ []) : ∀ q ∈ addP c p l, q.val ≠ [] := by
  cases c with
  | true => exact hv
  | false =>
    intro q hq
    rcases List.mem_append.1 hq with h | h
    · exact hv q h
    · rw [List.mem_singleton.1 h]; exact hp rfl
theorem itoa_ne (v : Int) : Lib.itoa v ≠ [] := by
  have h : ∀ u : Nat, Lib.decDigits u ≠ [] := fun u e => by
    have := dl_pos u
    unfold dl at this
    rw [e] at this
    simp at this
  unfold Lib.itoa
  split
  · simp
  · exact h _
theorem printL_ne (s t : Int) : printL s t ≠ [] := by
  unfold printL
  split
  · exact itoa_ne s
  · split
    · simp
    · simp
theorem fulls_head_ne {kind : Int} {s : Tx} (h : s ≠ []) : (fulls kind s).headD [] ≠ [] := by
  unfold fulls
  split
  · split
    · simp
    · exact h
  · exact h
theorem long_ne {s : Tx} {m : Nat} (h : ¬ s.length ≤ m) : s ≠ [] := fun e => by rw [e] at h; simp at h
/-- Of a right head: the pairs that are put have keys of their own, and values. -/
theorem raw_facts {h : Head} (hr : RightH h) : keysN (rawH h) ∧ ∀ q ∈ rawH h, q.val ≠ [] := by
  have h13 := hr.a13
  unfold f13 overOk at h13
  simp only [Bool.and_eq_true, List.all_eq_true, decide_eq_true_eq] at h13
  obtain ⟨⟨ho, _⟩, hw⟩ := h13
  obtain ⟨hf1, hf2⟩ := okSt_facts _ _ ho
  have k0 : keysN h.extra := hf2.imp fun hab e => by rw [e, lt_irr] at hab; cases hab
  have m0 : ∀ q ∈ h.extra, q.key ∈ ([] : List Tx) ∨ whichL q.key < 0 := fun q hq => .inr (hw q hq)
  have v0 : ∀ q ∈ h.extra, q.val ≠ [] := fun q hq => (hf1 q hq).2
  have hn : h.name ≠ [] := by
    have := hr.a2
    unfold f2 nameOk at this
    simp only [Bool.and_eq_true, decide_eq_true_eq] at this
    exact this.1.1
  have ht : rightT h.nano = true := hr.a8
  obtain ⟨k1, m1⟩ := add_keys (c := canB 2 h 2) kPath ((fulls h.kind h.name).headD []) k0 m0 (by decide) (by decide)
  have v1 := add_vals (c := canB 2 h 2) (p := ⟨kPath, (fulls h.kind h.name).headD []⟩) v0 fun _ => fulls_head_ne hn
  obtain ⟨k2, m2⟩ := add_keys (c := canB 2 h 3) kLink (h.link) k1 m1 (by decide) (by decide)
  have v2 := add_vals (c := canB 2 h 3) (p := ⟨kLink, h.link⟩) v1 fun hc => by
    have hc' : (bif decide (h.link.length ≤ 100) then true else false) = false := hc
    exact long_ne (m := 100) fun hle => by rw [decide_eq_true hle] at hc'; cases hc'
  obtain ⟨k3, m3⟩ := add_keys (c := canB 2 h 5) kUid (Lib.itoa h.uid) k2 m2 (by decide) (by decide)
  have v3 := add_vals (c := canB 2 h 5) (p := ⟨kUid, Lib.itoa h.uid⟩) v2 fun _ => itoa_ne _
  obtain ⟨k4, m4⟩ := add_keys (c := canB 2 h 6) kGid (Lib.itoa h.gid) k3 m3 (by decide) (by decide)
  have v4 := add_vals (c := canB 2 h 6) (p := ⟨kGid, Lib.itoa h.gid⟩) v3 fun _ => itoa_ne _
  obtain ⟨k5, m5⟩ := add_keys (c := canB 2 h 7) kSize (Lib.itoa h.size) k4 m4 (by decide) (by decide)
  have v5 := add_vals (c := canB 2 h 7) (p := ⟨kSize, Lib.itoa h.size⟩) v4 fun _ => itoa_ne _
  obtain ⟨k6, m6⟩ := add_keys (c := canB 2 h 8) kTime (bif rightT h.nano then printL h.sec h.nano else []) k5 m5 (by decide) (by decide)
  have v6 := add_vals (c := canB 2 h 8) (p := ⟨kTime, bif rightT h.nano then printL h.sec h.nano else []⟩) v5 fun _ => by rw [ht]; exact printL_ne _ _
  obtain ⟨k7, m7⟩ := add_keys (c := canB 2 h 9) kUser (h.user) k6 m6 (by decide) (by decide)
  have v7 := add_vals (c := canB 2 h 9) (p := ⟨kUser, h.user⟩) v6 fun hc => by
    have hc' : (bif decide (h.user.length ≤ 32) then true else false) = false := hc
    exact long_ne (m := 32) fun hle => by rw [decide_eq_true hle] at hc'; cases hc'
  obtain ⟨k8, m8⟩ := add_keys (c := canB 2 h 10) kGroup (h.group) k7 m7 (by decide) (by decide)
  have v8 := add_vals (c := canB 2 h 10) (p := ⟨kGroup, h.group⟩) v7 fun hc => by
    have hc' : (bif decide (h.group.length ≤ 32) then true else false) = false := hc
    exact long_ne (m := 32) fun hle => by rw [decide_eq_true hle] at hc'; cases hc'
  exact ⟨k8, v8⟩
theorem flat_V {S : Stab} (l : List Pair) (i : Nat) (x : AV) (hx : (prs l)[i]? = some x) : x.cells.length = 2 ∧ ∀ (j : Nat) (c : AV), x.cells[j]? = some c → c.leaf = true ∧ ∀ u, (flatP l)[i * 2 + j]? = some u → V S c u := by
  unfold prs at hx
  rw [List.getElem?_map] at hx
  obtain ⟨p, hp, rfl⟩ := Option.map_eq_some_iff.1 hx
  have hi : i < l.length := (List.getElem?_eq_some_iff.1 hp).1
  refine ⟨rfl, fun j c hc => ?_⟩
  have hg : l.getD i default = p := by rw [List.getD_eq_getElem?_getD, hp]; rfl
  match j, hc with
  | 0, hc =>
    cases hc
    refine ⟨rfl, fun u hu => ?_⟩
    rw [flat_at l _ (by omega), show (i * 2 + 0) / 2 = i by omega, show (i * 2 + 0) % 2 = 0 by omega, hg] at hu
    cases hu
    exact V.str _
  | 1, hc =>
    cases hc
    refine ⟨rfl, fun u hu => ?_⟩
    rw [flat_at l _ (by omega), show (i * 2 + 1) / 2 = i by omega, show (i * 2 + 1) % 2 = 1 by omega, hg] at hu
    cases hu
    exact V.str _
theorem clone_calls {S : Stab} {w W : World} {l : List Pair} {sv : Value} (hl : l.length ≤ 100) (hag : Agree S w) (hv : V S (.list 2 (prs l)) sv) (hb : Below w.heap.size w W) :
    Calls Tryz.prog 48 #[sv] W fun e w' => ∃ v, e = .returned v ∧ w'.ownsRow W.heap.size 50 2 v l.length (flatP l) ∧ Below W.heap.size W w' := by
  obtain ⟨ao, cap, rfl, hc⟩ := list_inv hv
  have hag' := agree_below hag hb
  rw [prs_len]
  cases ao with
  | none =>
    have hn : l = [] := by
      cases l with
      | nil => rfl
      | cons p l =>
        obtain ⟨a, _, ha, _⟩ := hc 0 (elPair p) rfl
        cases ha
    subst hn
    have hcap : cap = 0 := by cases hv; rfl
    subst hcap
    refine (S40.pairs_nil W).mono ?_
    rintro e w' ⟨rfl, rfl⟩
    exact ⟨_, rfl, World.ownsRow_nil _ _ _ _, Below.refl _ _⟩
  | some a =>
    refine (S40.pairs_some a l.length cap (flatP l) W (flatP_len l) (fun j u hu => ?_) (fun u hu => ?_) (by omega)).mono ?_
    · have hj : j < l.length * 2 := by rw [← flatP_len]; exact (List.getElem?_eq_some_iff.1 hu).1
      have hi : j / 2 < l.length := by omega
      obtain ⟨a', f, ha, hf⟩ := hc (j / 2) (elPair l[j / 2]) (by unfold prs; rw [List.getElem?_map, List.getElem?_eq_getElem hi]; rfl)
      cases ha
      rw [flat_at l j hj, List.getD_eq_getElem?_getD, List.getElem?_eq_getElem hi] at hu
      have hm : j % 2 = 0 ∨ j % 2 = 1 := by omega
      rcases hm with hm | hm
      · rw [hm] at hu
        cases hu
        obtain ⟨h1, h2⟩ := hf 0 _ rfl
        have h3 := hag' _ _ h1
        rw [V_str h2, show j / 2 * 2 + 0 = j by omega] at h3
        exact h3
      · rw [hm] at hu
        cases hu
        obtain ⟨h1, h2⟩ := hf 1 _ rfl
        have h3 := hag' _ _ h1
        rw [V_str h2, show j / 2 * 2 + 1 = j by omega] at h3
        exact h3
    · unfold flatP at hu
      obtain ⟨p, _, hp⟩ := List.mem_flatMap.1 hu
      simp at hp
      rcases hp with rfl | rfl <;> rfl
    · rintro e w' ⟨v, rfl, h1, h2⟩
      exact ⟨v, rfl, h1, h2⟩
theorem can_calls {E : Ext} [Core E] [HasNum E] [HasTextV E] {k : Nat} (hB : (bs E k).Good) (hk : 1000000 < k) {S : Stab} {w W : World} {h : Head} {sv : Value} (ho : OkHd h) (hag : Agree S w) (hG : GlobOk glob S w) (hv : V S (.agg (encHead h)) (.agg (headV h sv))) (hb : Below w.heap.size w W) (d f : Int) (hf : 1 ≤ f ∧ f ≤ 13) :
    Calls Tryz.prog 47 #[.int .i64 d, .agg (headV h sv), .int .i64 f] W fun e w' => e = .returned (.bool (canB d h f)) ∧ Below W.heap.size W w' := by
  have hkp := can_k (E := E) (k := k) (n := 0) d h f true ho.bd.1 ho.bd.2.1 ho.bd.2.2.1 ho.bd.2.2.2.1 hk fun _ hn => absurd hf hn
  refine (eng_calls hB hkp hag hG (VL3 (V.int .i64 d) hv (V.int .i64 f)) hb).mono ?_
  rintro e w' ⟨v, S', rfl, _, _, h1, h2⟩
  obtain rfl : v = .bool (canB d h f) := by cases (show V S' (.bool (canB d h f)) v from h2); rfl
  exact ⟨rfl, h1⟩
theorem callees_of {E : Ext} [Core E] [HasNum E] [HasTextV E] {k : Nat} (hB : (bs E k).Good) (hk : 5000000 < k) {S : Stab} {w : World} {h : Head} {sv : Value} (ho : OkHd h) (hag : Agree S w) (hG : GlobOk glob S w) (hv : V S (.agg (encHead h)) (.agg (headV h sv))) :
    Callees h sv w (wrongH h) (canB 3 h) (canB 2 h) ((fulls h.kind h.name).headD []) (bif rightT h.nano then printL h.sec h.nano else []) (bif rightT h.nano then 0 else 15) Lib.itoa where
  wrong W hb := by
    refine (eng_calls hB (wrong_kv (E := E) (k := k) (n := 0) h ho.bd (by omega)) hag hG (VL1 hv) hb).mono ?_
    rintro e w' ⟨v, S', rfl, _, _, h1, h2⟩
    obtain rfl : v = .int .i64 (wrongH h) := by cases (show V S' (.int .i64 (wrongH h)) v from h2); rfl
    exact ⟨rfl, h1⟩
  can3 f hf W hb := can_calls hB (by omega) ho hag hG hv hb 3 f (by omega)
  can2 f hf W hb := can_calls hB (by omega) ho hag hG hv hb 2 f hf
  print W hb := by
    have hvt : V S (.agg [.int .i64 h.sec, .int .i64 h.nano]) (.agg #[.int .i64 h.sec, .int .i64 h.nano]) := V.agg _ [.int .i64 h.sec, .int .i64 h.nano] rfl (fun j c hc => by
      match j, hc with
      | 0, hc => cases hc; rfl
      | 1, hc => cases hc; rfl) (V2 (V.int _ _) (V.int _ _))
    refine (eng_calls hB (print_k (E := E) (k := k) (n := 0) h.sec h.nano ho.sec.1 ho.sec.2) hag hG (VL1 hvt) hb).mono ?_
    rintro e w' ⟨v, S', rfl, _, _, h1, h2⟩
    refine ⟨?_, h1⟩
    cases hr : rightT h.nano with
    | true =>
      rw [hr] at h2
      obtain ⟨vs, rfl, hl, hvs, _⟩ := h2
      match vs, hl with
      | [x, y], _ =>
        have q0 : V S' (.str (str (printL h.sec h.nano))) x := hvs 0 _ _ rfl rfl
        have q1 : V S' (.int .u8 0) y := hvs 1 _ _ rfl rfl
        rw [V_str q0, V_int q1]
        rfl
    | false =>
      rw [hr] at h2
      obtain ⟨vs, rfl, hl, hvs, _⟩ := h2
      match vs, hl with
      | [x, y], _ =>
        have q0 : V S' (.str (str [])) x := hvs 0 _ _ rfl rfl
        have q1 : V S' (.int .u8 15) y := hvs 1 _ _ rfl rfl
        rw [V_str q0, V_int q1]
        rfl
  fulls W hb := by
    refine (eng_calls hB (fulls_k (E := E) (k := k) (n := 0) h (by have := ho.bd.1; omega)) hag hG (VL1 hv) hb).mono ?_
    rintro e w' ⟨v, S', rfl, _, hag', h1, h2⟩
    have h2 : V S' (.list 1 (svs (fulls h.kind h.name))) v := h2
    obtain ⟨ao, cap, rfl, hc⟩ := list_inv h2
    refine ⟨?_, h1⟩
    have hne := fulls_ne h.kind h.name
    rw [svs_len]
    cases hf : fulls h.kind h.name with
    | nil => exact absurd hf hne
    | cons x l =>
      rw [hf] at hc
      obtain ⟨a, f, ha, hcf⟩ := hc 0 (Go.Proofs.YtbkhmkcmbaffoaaGreatDoor.Eng.sv x) rfl
      obtain ⟨q1, q2⟩ := hcf 0 _ rfl
      have q3 := hag' _ _ q1
      rw [V_str q2] at q3
      refine ⟨a, l.length, cap, by rw [ha]; rfl, ?_⟩
      have e : a.add (0 * 1 + 0) = a := by simp [Addr.add]
      rw [e] at q3
      exact q3
  text v hv' W hb := by
    have hr : -9223372036854775808 ≤ v ∧ v ≤ 9223372036854775807 := by
      rcases hv' with rfl | rfl | rfl
      · exact ho.uid
      · exact ho.gid
      · exact ho.size
    refine (eng_calls hB (text_k (E := E) (k := k) (n := 0) v hr.1 hr.2) hag hG (VL1 (V.int .i64 v)) hb).mono ?_
    rintro e w' ⟨u, S', rfl, _, _, h1, h2⟩
    obtain rfl : u = .string (str (Lib.itoa v)) := by cases (show V S' (.str (str (Lib.itoa v))) u from h2); rfl
    exact ⟨rfl, h1⟩
theorem rec_right : pRec.Right := by
  refine ⟨⟨Tryz.f14, Tryz.func14, by kernel_rfl, by kernel_rfl⟩, fun args res hr => ?_⟩
  unfold pRec at hr
  dsimp only at hr
  split at hr
  · rename_i cs
    obtain ⟨h, hh, h2⟩ := Option.bind_eq_some_iff.1 hr
    clear hr
    obtain rfl := toHead_some hh
    obtain ⟨hok, h3⟩ := some_of_bif h2
    clear h2
    obtain rfl := Option.some.inj h3
    have ho := okHd_iff.1 hok
    refine ok_rowint (e := 50) fun S w vals hag hG hV => ?_
    obtain ⟨v, rfl, hv⟩ := VL_1 hV
    obtain ⟨sv, rfl, hsv⟩ := headV_inv hv
    have hC := callees_of (E := ext09) (k := 6000000) (good09 6000000) (by omega) ho hag hG hv
    refine (records_walk h sv w _ _ _ _ _ _ _ hC (fun W hb => clone_calls ho.ext hag hsv hb) ho.ext).mono ?_
    rintro e w' ⟨hb, hcase⟩
    rcases hcase with ⟨hw, rfl⟩ | ⟨hw, ⟨j, hj, hf⟩, rfl⟩ | ⟨hw, hall, u, l', rfl, hown, hperm, hsort⟩
    · have e1 : recA h = ([], 15) := by unfold recA; rw [if_neg hw]
      rw [e1]
      exact ⟨_, [], rfl, World.ownsRow_nil _ _ _ _, fun i x hx => by simp [prs] at hx, hb⟩
    · have ht : ¬ texts3 h = true := by
        unfold texts3
        simp only [Bool.and_eq_true]
        rintro ⟨⟨⟨g1, g2⟩, g3⟩, g4⟩
        have hc : j = 0 ∨ j = 1 ∨ j = 2 ∨ j = 3 := by omega
        rcases hc with rfl | rfl | rfl | rfl
        · rw [show fld 0 = 2 from rfl, g1] at hf; cases hf
        · rw [show fld 1 = 3 from rfl, g2] at hf; cases hf
        · rw [show fld 2 = 9 from rfl, g3] at hf; cases hf
        · rw [show fld 3 = 10 from rfl, g4] at hf; cases hf
      have e1 : recA h = ([], 13) := by unfold recA; rw [if_pos hw, if_neg ht]
      rw [e1]
      exact ⟨_, [], rfl, World.ownsRow_nil _ _ _ _, fun i x hx => by simp [prs] at hx, hb⟩
    · have ht : texts3 h = true := by
        unfold texts3
        rw [show canB 3 h 2 = true from hall 0 (by omega), show canB 3 h 3 = true from hall 1 (by omega), show canB 3 h 9 = true from hall 2 (by omega), show canB 3 h 10 = true from hall 3 (by omega)]
        rfl
      have e1 : recA h = (recsL h, 0) := by unfold recA; rw [if_pos hw, if_pos ht]
      obtain ⟨hk, hvs⟩ := raw_facts (rightH_of hw)
      have hl' : l' = recsL h := sorted_lay hperm hsort hk hvs
      rw [e1]
      subst hl'
      exact ⟨u, flatP (recsL h), rfl, by rw [prs_len]; exact hown, fun i x hx => flat_V _ i x hx, hb⟩
  · cases hr
class HasRec (E : Ext) : Prop where
  recs : ∀ (k n : Nat) (h : Head), OkHd h → kp E k n rep_Records [.agg (encHead h)] = some (.tup [.list 2 (prs (recA h).1), .int .u8 (recA h).2])
end Go.Proofs.YtbkhmkcmbaffoaaGreatDoor.Eng.U


/- What is printed is read, in plain Lean. -/
set_option linter.unusedVariables false
set_option linter.unusedSimpArgs false
namespace Go.Proofs.YtbkhmkcmbaffoaaGreatDoor.P04
open Go

/-! No fewer bytes. -/
theorem printL_parts (s t : Int) : (printL s t).length = (if t = 0 then (Lib.itoa s).length else if s < 0 then 1 + (Lib.decDigits (-(s + 1)).toNat).length + 1 + (loopP 9 (1000000000 - t).toNat).length else (Lib.decDigits s.toNat).length + 1 + (loopP 9 t.toNat).length) := by
  unfold printL
  split
  · rfl
  · split
    · simp; omega
    · simp; omega
end Go.Proofs.YtbkhmkcmbaffoaaGreatDoor.P04


/- The records by the definition; what fits; the first field that can't be told. -/
set_option linter.unusedVariables false
set_option linter.unusedSectionVars false
set_option linter.unusedSimpArgs false
namespace Go.Proofs.YtbkhmkcmbaffoaaGreatDoor.Eng.U
open Go Go.RowKit Go.Proofs Go.Proofs.YtbkhmkcmbaffoaaGreatDoor.Eng Go.Proofs.YtbkhmkcmbaffoaaGreatDoor.S11 Go.Proofs.YtbkhmkcmbaffoaaGreatDoor.P04
variable {E : Ext} [Core E] [HasNum E] [HasTextV E] {k n : Nat}

/-! Pairs with keys of their own, in any order, come to the same overlay. -/
theorem lay_perm {l l' : List Pair} (hp : l'.Perm l) (hk : keysN l) : layAll l' = layAll l := by
  have hk' := keysN_perm hp hk
  refine over_ext (lay_okst l') (lay_okst l) fun k => ?_
  rw [lay_val, lay_val]
  by_cases hm : ∃ p ∈ l, p.key = k
  · obtain ⟨p, hpm, rfl⟩ := hm
    rw [last_mem l hk hpm, last_mem l' hk' (hp.mem_iff.2 hpm)]
  · rw [last_none k l fun q hq e => hm ⟨q, hq, e⟩, last_none k l' fun q hq e => hm ⟨q, hp.mem_iff.1 hq, e⟩]
def optP (c : Bool) (p : Pair) : List Pair := bif c then [] else [p]
theorem addP_opt (c : Bool) (p : Pair) (l : List Pair) : addP c p l = l ++ optP c p := by cases c <;> simp [addP, optP]
/-- The pairs in the order in which the definition puts them. -/
def zipR (h : Head) : List (Tx × Int × Tx) := [(kGid, 6, Lib.itoa h.gid), (kGroup, 10, h.group), (kLink, 3, h.link), (kTime, 8, bif rightT h.nano then printL h.sec h.nano else []), (kPath, 2, (fulls h.kind h.name).headD []), (kSize, 7, Lib.itoa h.size), (kUid, 5, Lib.itoa h.uid), (kUser, 9, h.user)]
def addsR (h : Head) (l : List (Tx × Int × Tx)) : List Pair := l.flatMap fun z => optP (canB 2 h z.2.1) ⟨z.1, z.2.2⟩
theorem raw_perm (h : Head) : (addsR h (zipR h) ++ h.extra).Perm (rawH h) := by
  unfold rawH rawL addsR zipR
  simp only [addP_opt, List.flatMap_cons, List.flatMap_nil, List.append_nil]
  refine List.perm_iff_count.2 fun a => ?_
  simp only [List.count_append]
  omega
theorem recsL_def {h : Head} (hr : RightH h) : layAll (addsR h (zipR h) ++ h.extra) = recsL h := lay_perm (raw_perm h) (raw_facts hr).1
/-! Bounds. -/
theorem opt_mem {c : Bool} {p q : Pair} (h : q ∈ optP c p) : q = p := by
  cases c with
  | true => simp [optP] at h
  | false => simpa [optP] using h
theorem opt_bd {c : Bool} {key val : Tx} {q : Pair} (hq : q ∈ optP c ⟨key, val⟩) (h1 : key.length ≤ 1000000) (h2 : val.length ≤ 1000000) : q.key.length ≤ 1000000 ∧ q.val.length ≤ 1000000 := by
  rw [opt_mem hq]
  exact ⟨h1, h2⟩
theorem itoa_le' (v : Int) (h0 : -9223372036854775808 ≤ v) (h1 : v ≤ 9223372036854775807) : (Lib.itoa v).length ≤ 22 := by
  by_cases hv : 0 ≤ v
  · obtain ⟨u, rfl⟩ := Int.eq_ofNat_of_zero_le hv
    have := dig_len u (by omega)
    rw [Lib.itoa_nonneg]
    omega
  · unfold Lib.itoa
    rw [if_pos (by omega), List.length_cons]
    have := dig_len (-v).toNat (by omega)
    have e : v.natAbs = (-v).toNat := by omega
    first | omega | (rw [e]; omega)
theorem loopP_le : ∀ (f u : Nat), (loopP f u).length ≤ f
  | 0, u => Nat.le_refl _
  | f + 1, u => by
    have := loopP_le f (u % 100000000 * 10)
    unfold loopP
    split
    · simp
    · rw [List.length_cons]; omega
theorem printL_le (s t : Int) (h0 : -9223372036854775808 ≤ s) (h1 : s ≤ 9223372036854775807) (ht : rightT t = true) : (printL s t).length ≤ 100 := by
  have hp := printL_parts s t
  have hl : ∀ u : Nat, (loopP 9 u).length ≤ 9 := loopP_le 9
  have hd : ∀ u : Nat, u ≤ 9223372036854775808 → (Lib.decDigits u).length ≤ 21 := dig_len
  rw [hp]
  split
  · have := itoa_le' s h0 h1
    omega
  · split
    · have := hd (-(s + 1)).toNat (by omega)
      have := hl (1000000000 - t).toNat
      omega
    · have := hd s.toNat (by omega)
      have := hl t.toNat
      omega
theorem raw_bd {h : Head} (ho : OkHd h) : ∀ q ∈ rawH h, q.key.length ≤ 1000000 ∧ q.val.length ≤ 1000000 := by
  intro q hq
  unfold rawH rawL at hq
  simp only [addP_opt, List.mem_append] at hq
  obtain ⟨b1, b2, b3, b4, b5, b6⟩ := ho.bd
  have hf : ((fulls h.kind h.name).headD []).length ≤ 400001 := by
    cases hl : fulls h.kind h.name with
    | nil => simp
    | cons f l =>
      have := fulls_mem (kind := h.kind) (s := h.name) (f := f) (by rw [hl]; simp)
      simpa using (by omega : f.length ≤ 400001)
  have hu := itoa_le' h.uid ho.uid.1 ho.uid.2
  have hg := itoa_le' h.gid ho.gid.1 ho.gid.2
  have hs := itoa_le' h.size ho.size.1 ho.size.2
  have ht : (bif rightT h.nano then printL h.sec h.nano else []).length ≤ 100 := by
    cases hr : rightT h.nano with
    | true => exact printL_le _ _ ho.sec.1 ho.sec.2 hr
    | false => simp
  rcases hq with (((((((hq | hq) | hq) | hq) | hq) | hq) | hq) | hq) | hq
  · exact b6 q hq
  all_goals exact opt_bd hq (by decide) (by omega)
theorem raw_len (h : Head) : (rawH h).length ≤ h.extra.length + 8 := by
  unfold rawH rawL
  have := fun c p l => addP_len c p l
  refine Nat.le_trans (addP_len _ _ _) ?_
  refine Nat.le_trans (Nat.succ_le_succ (addP_len _ _ _)) ?_
  refine Nat.le_trans (Nat.succ_le_succ (Nat.succ_le_succ (addP_len _ _ _))) ?_
  refine Nat.le_trans (Nat.succ_le_succ (Nat.succ_le_succ (Nat.succ_le_succ (addP_len _ _ _)))) ?_
  refine Nat.le_trans (Nat.succ_le_succ (Nat.succ_le_succ (Nat.succ_le_succ (Nat.succ_le_succ (addP_len _ _ _))))) ?_
  refine Nat.le_trans (Nat.succ_le_succ (Nat.succ_le_succ (Nat.succ_le_succ (Nat.succ_le_succ (Nat.succ_le_succ (addP_len _ _ _)))))) ?_
  refine Nat.le_trans (Nat.succ_le_succ (Nat.succ_le_succ (Nat.succ_le_succ (Nat.succ_le_succ (Nat.succ_le_succ (Nat.succ_le_succ (addP_len _ _ _))))))) ?_
  refine Nat.le_trans (Nat.succ_le_succ (Nat.succ_le_succ (Nat.succ_le_succ (Nat.succ_le_succ (Nat.succ_le_succ (Nat.succ_le_succ (Nat.succ_le_succ (addP_len _ _ _)))))))) ?_
  omega
theorem rec_bd {h : Head} (ho : OkHd h) : ∀ q ∈ recsL h, q.key.length ≤ 1000000 ∧ q.val.length ≤ 1000000 := fun q hq => raw_bd ho q (mem_layAll hq)
theorem rec_len {h : Head} (ho : OkHd h) : (recsL h).length ≤ 108 := by
  have h1 := lay_len (rawH h)
  have h2 := raw_len h
  have h3 := ho.ext
  unfold recsL
  omega
theorem recA_bd {h : Head} (ho : OkHd h) : (∀ q ∈ (recA h).1, q.key.length ≤ 1000000 ∧ q.val.length ≤ 1000000) ∧ (recA h).1.length ≤ 108 := by
  unfold recA
  split
  · split
    · exact ⟨rec_bd ho, rec_len ho⟩
    · exact ⟨fun q hq => by simp at hq, by simp⟩
  · exact ⟨fun q hq => by simp at hq, by simp⟩
/-! How many bytes they have. -/
def sumLen : List Pair → Nat
  | [] => 0
  | p :: l => lenP p + sumLen l
def fitsB (h : Head) : Bool := !decide ((recA h).2 = 0) || decide (sumLen (recA h).1 ≤ 65536)
theorem fits_loop (kap : FuncId → List AV → Option AV) (c : Int) (l : List Pair) (hl : l.length ≤ 1000) (hb : ∀ p ∈ l, lenP p ≤ 3000000) (hL : ∀ p ∈ l, kap pax_Len [.agg [.str (str p.key), .str (str p.val)]] = some (.int .i64 ((lenP p : Nat) : Int))) : ∀ (suf pre : List Pair) (s k0 : Nat), suf.length < k0 → l = pre ++ suf → s ≤ 4000000 →
    rep_fits_L0 kap k k0 c ((s : Nat) : Int) (prs l) ((l.length : Nat) : Int) ((pre.length : Nat) : Int) = some (.bool (!decide (c = 0) || decide (s + sumLen suf ≤ 65536)))
  | [], pre, s, k0 + 1, hk, he, hs => by
    have hll : l.length = pre.length := by rw [he]; simp
    have hd : decide (((s : Nat) : Int) ≤ 65536) = decide (s + sumLen [] ≤ 65536) := by rw [decide_eq_decide]; simp only [sumLen]; omega
    rw [rep_fits_L0_s, bif_f (by omega), hd]
    cases decide (c = 0) <;> rfl
  | p :: suf, pre, s, k0 + 1, hk, he, hs => by
    have hll : l.length = pre.length + suf.length + 1 := by rw [he]; exact mid_len pre suf p
    have hpm : p ∈ l := by rw [he]; simp
    have hg : ∀ F : AV → Option AV, ((prs l)[pre.length]?).bind F = F (elPair p) := fun F => by rw [he]; exact prs_mid _ _ _ _
    have hp := hb p hpm
    have hLp := hL p hpm
    rw [rep_fits_L0_s, bif_t (by omega), prs_len, inb (by omega), cond_true, Int.toNat_natCast, hg, cells_pair, p_0, p_1]
    by_cases hgt : s > 65536
    · have hd : decide (s + sumLen (p :: suf) ≤ 65536) = false := decide_eq_false (by omega)
      have hd2 : decide (((s : Nat) : Int) ≤ 65536) = false := decide_eq_false (by omega)
      rw [bif_t (by omega), hd, hd2]
      cases decide (c = 0) <;> rfl
    · have hw : IntKind.wrap .i64 (((s : Nat) : Int) + ((lenP p : Nat) : Int)) = ((s + lenP p : Nat) : Int) := by rw [i64w (by omega)]; omega
      have ih := fits_loop kap c l hl hb hL suf (pre ++ [p]) (s + lenP p) k0 (by simpa using hk) (by rw [he]; simp) (by omega)
      rw [List.length_append, List.length_singleton] at ih
      have hsum : s + lenP p + sumLen suf = s + sumLen (p :: suf) := by simp only [sumLen]; omega
      rw [bif_f (by omega), hLp, callI_ok, hw, wrap1 (by omega), ih, hsum]
theorem len_bd {p : Pair} (h : p.key.length ≤ 1000000 ∧ p.val.length ≤ 1000000) : lenP p ≤ 3000000 := by
  have h1 := (lenP_facts p h.1 h.2).2.1
  have h2 : restP p = p.key.length + p.val.length + 3 := rfl
  omega
theorem fits_k [HasRec E] (h : Head) (ho : OkHd h) (hk : 1000000 < k) : kp E k (n + 2) rep_fits [.agg (encHead h)] = some (.bool (fitsB h)) := by
  have e1 := HasRec.recs (E := E) k (n + 1) h ho
  obtain ⟨hb, hl⟩ := recA_bd ho
  have e2 := fits_loop (k := k) (kp E k (n + 1)) (recA h).2 (recA h).1 (by omega) (fun p hp => len_bd (hb p hp)) (fun p hp => paxLen_k (n := n) p (hb p hp).1 (hb p hp).2 (by omega)) (recA h).1 [] 0 k (by omega) rfl (by omega)
  unfold encHead at e1 ⊢
  rw [rep_fits_eq, e1, callT_ok, tupL_ok, tupI_ok, atNil_ok, prs_len]
  refine e2.trans ?_
  unfold fitsB
  rw [Nat.zero_add]
end Go.Proofs.YtbkhmkcmbaffoaaGreatDoor.Eng.U


/- The records by the definition; what fits; the first field that can't be told; the program's own answers. -/
set_option linter.unusedVariables false
set_option linter.unusedSectionVars false
set_option linter.unusedSimpArgs false
namespace Go.Proofs.YtbkhmkcmbaffoaaGreatDoor.Eng.U
open Go Go.RowKit Go.Proofs Go.Proofs.YtbkhmkcmbaffoaaGreatDoor.Eng Go.Proofs.YtbkhmkcmbaffoaaGreatDoor.S11 Go.Proofs.YtbkhmkcmbaffoaaGreatDoor.P04
variable {E : Ext} [Core E] [HasNum E] [HasTextV E] {k n : Nat}

def canX (d : Int) (h : Head) (f : Int) : Bool := canF d h f (fitsB h)
theorem canF_13 (d : Int) (h : Head) (f : Int) (x y : Bool) (hf : 1 ≤ f ∧ f ≤ 13) : canF d h f x = canF d h f y := by
  unfold canF
  rcases f13_cases hf with rfl | rfl | rfl | rfl | rfl | rfl | rfl | rfl | rfl | rfl | rfl | rfl | rfl <;> rfl
theorem canX_13 {d : Int} {h : Head} {f : Int} (hf : 1 ≤ f ∧ f ≤ 13) : canX d h f = canB d h f := canF_13 d h f _ _ hf
theorem canX_14 (d : Int) (h : Head) : canX d h 14 = (!decide (d = 3) || fitsB h) := by
  unfold canX canF
  cases decide (d = 3) <;> rfl
theorem addsR_snoc (h : Head) (l : List (Tx × Int × Tx)) (z : Tx × Int × Tx) : addsR h (l ++ [z]) = addsR h l ++ optP (canB 2 h z.2.1) ⟨z.1, z.2.2⟩ := by simp [addsR]
theorem addsR_len (h : Head) (l : List (Tx × Int × Tx)) : (addsR h l).length ≤ l.length := by
  induction l with
  | nil => exact Nat.le_refl _
  | cons z l ih =>
    have e : addsR h (z :: l) = optP (canB 2 h z.2.1) ⟨z.1, z.2.2⟩ ++ addsR h l := rfl
    rw [e, List.length_append, List.length_cons]
    have : (optP (canB 2 h z.2.1) ⟨z.1, z.2.2⟩).length ≤ 1 := by cases canB 2 h z.2.1 <;> simp [optP]
    omega
theorem refRec_loop (kap : FuncId → List AV → Option AV) (h : Head) (Z : List (Tx × Int × Tx)) (res : List Pair) (hZ : Z.length ≤ 100)
    (hP : ∀ z ∈ Z, kap ref11_plain [.int .i64 2, .agg (encHead h), .int .i64 z.2.1] = some (.bool (canB 2 h z.2.1)))
    (hL : kap ref08_Lay [.list 2 (prs (addsR h Z)), .list 2 (prs h.extra)] = some (.list 2 (prs res))) : ∀ (suf pre : List (Tx × Int × Tx)) (k0 : Nat), suf.length < k0 → Z = pre ++ suf →
    ref11_Records_L0 kap k k0 ((pre.length : Nat) : Int) h.kind (str h.name) (str h.link) h.mode h.uid h.gid h.size h.sec h.nano (str h.user) (str h.group) h.major h.minor (prs h.extra) (svs (Z.map (·.1))) (ivs (Z.map (·.2.1))) (svs (Z.map (·.2.2))) (prs (addsR h pre)) = some (.tup [.list 2 (prs res), .bool true])
  | [], pre, k0 + 1, hk, he => by
    obtain rfl : Z = pre := by rw [he]; simp
    rw [ref11_Records_L0_s, svs_len, List.length_map, bif_f (by omega), hL, callL_ok]
  | z :: suf, pre, k0 + 1, hk, he => by
    have hll : Z.length = pre.length + suf.length + 1 := by rw [he]; simp; omega
    have hz : z ∈ Z := by rw [he]; simp
    have gI : ∀ K : Int → Option AV, (((ivs (Z.map (·.2.1)))[pre.length]?).bind fun y => cellI .i64 (AV.cells y) 0 K) = K z.2.1 := fun K => by
      have := ivs_mid (pre.map (·.2.1)) (suf.map (·.2.1)) z.2.1 K
      rw [he, List.map_append, List.map_cons]
      rwa [List.length_map] at this
    have gK : ∀ K : ByteArray → Option AV, (((svs (Z.map (·.1)))[pre.length]?).bind fun y => cellS (AV.cells y) 0 K) = K (str z.1) := fun K => by
      have := svs_mid (pre.map (·.1)) (suf.map (·.1)) z.1 K
      rw [he, List.map_append, List.map_cons]
      rwa [List.length_map] at this
    have gV : ∀ K : ByteArray → Option AV, (((svs (Z.map (·.2.2)))[pre.length]?).bind fun y => cellS (AV.cells y) 0 K) = K (str z.2.2) := fun K => by
      have := svs_mid (pre.map (·.2.2)) (suf.map (·.2.2)) z.2.2 K
      rw [he, List.map_append, List.map_cons]
      rwa [List.length_map] at this
    have ih := refRec_loop kap h Z res hZ hP hL suf (pre ++ [z]) k0 (by simpa using hk) (by rw [he]; simp)
    have hp := hP z hz
    have hr := addsR_len h pre
    rw [List.length_append, List.length_singleton, addsR_snoc] at ih
    have hroom : (decide (((prs (addsR h pre)).length + 1) * 32 ≤ 140737488355328) && decide (((prs (addsR h pre)).length + 1) ≤ 9223372036854775807)) = true := by
      rw [prs_len]; simp; omega
    unfold encHead at hp
    rw [ref11_Records_L0_s, svs_len, svs_len, ivs_len, List.length_map, List.length_map, List.length_map, bif_t (by omega), inb (by omega), cond_true, Int.toNat_natCast, gI, hp, callB_ok, cond_true, gK, cond_true, gV, hroom, cond_true, wrap1 (by omega)]
    cases hc : canB 2 h z.2.1 with
    | true =>
      rw [hc, show optP true (⟨z.1, z.2.2⟩ : Pair) = [] from rfl, List.append_nil] at ih
      exact ih
    | false =>
      rw [hc] at ih
      have e : prs (addsR h pre) ++ [AV.agg [.str (str z.1), .str (str z.2.2)]] = prs (addsR h pre ++ optP false ⟨z.1, z.2.2⟩) := by unfold prs; rw [List.map_append]; rfl
      rw [Bool.not_false, cond_true, e]
      exact ih
theorem zip_len (h : Head) : (zipR h).length = 8 := rfl
theorem zip_f (h : Head) : ∀ z ∈ zipR h, 1 ≤ z.2.1 ∧ z.2.1 ≤ 13 := by
  intro z hz
  unfold zipR at hz
  simp only [List.mem_cons, List.not_mem_nil, or_false] at hz
  rcases hz with rfl | rfl | rfl | rfl | rfl | rfl | rfl | rfl <;> simp
theorem refRec_k (h : Head) (hr : RightH h) (ho : OkHd h) (hk : 1000000 < k) : kp E k (n + 22) ref11_Records [.agg (encHead h)] = some (.tup [.list 2 (prs (recA h).1), .bool (decide ((recA h).2 = 0))]) := by
  have hc := fun f hf => refCan_k (E := E) (k := k) (n := n + 14) 3 h f (by omega) hf ho.size.2 ho.bd.1 ho.bd.2.1 ho.bd.2.2.1 ho.bd.2.2.2.1 hk
  have hp := fun f hf => refPlain_k (E := E) (k := k) (n := n + 15) 2 h f (by omega) hf ho.size.2 ho.bd.1 hk
  have ht : rightT h.nano = true := hr.a8
  have t1 := refText_k (E := E) (k := k) (n := n + 1) h.gid ho.gid.1 ho.gid.2
  have t2 := refPrint_k (E := E) (k := k) (n := n) h.sec h.nano ho.sec.1 ho.sec.2 ht (by omega)
  have t3 := refFulls_k (E := E) (k := k) (n := n + 19) h (by have := ho.bd.1; omega)
  have t4 := refText_k (E := E) (k := k) (n := n + 1) h.size ho.size.1 ho.size.2
  have t5 := refText_k (E := E) (k := k) (n := n + 1) h.uid ho.uid.1 ho.uid.2
  have hal : (addsR h (zipR h)).length ≤ 8 := addsR_len h (zipR h)
  have hex := ho.ext
  have hlay : kp E k (n + 21) ref08_Lay [.list 2 (prs (addsR h (zipR h))), .list 2 (prs h.extra)] = some (.list 2 (prs (recsL h))) := by
    rw [refLay_k (E := E) (k := k) (n := n + 19) (addsR h (zipR h)) h.extra (by rw [List.length_append]; omega) (by rw [List.length_append]; omega), ← lay_both _ _ (Nat.le_refl _), recsL_def hr]
  have hloop := refRec_loop (k := k) (kp E k (n + 21)) h (zipR h) (recsL h) (by rw [zip_len]; omega) (fun z hz => hp z.2.1 (zip_f h z hz)) hlay (zipR h) [] k (by rw [zip_len]; omega) rfl
  have hW : recA h = if texts3 h = true then (recsL h, 0) else ([], 13) := by unfold recA; rw [if_pos (right_wrong hr)]
  have hno : texts3 h = false → recA h = ([], 13) := fun hf => by rw [hW, if_neg (by rw [hf]; simp)]
  have c2 := hc 2 (by omega)
  have c3 := hc 3 (by omega)
  have c9 := hc 9 (by omega)
  have c10 := hc 10 (by omega)
  unfold encHead at c2 c3 c9 c10 t3 ⊢
  rw [ref11_Records_eq, c2, callB_ok]
  cases g2 : canB 3 h 2 with
  | false => rw [hno (by unfold texts3; rw [g2]; rfl)]; rfl
  | true =>
  rw [Bool.not_true, cond_false, c3, callB_ok]
  cases g3 : canB 3 h 3 with
  | false => rw [hno (by unfold texts3; rw [g2, g3]; rfl)]; rfl
  | true =>
  rw [Bool.not_true, cond_false, c9, callB_ok]
  cases g9 : canB 3 h 9 with
  | false => rw [hno (by unfold texts3; rw [g2, g3, g9]; rfl)]; rfl
  | true =>
  rw [Bool.not_true, cond_false, c10, callB_ok]
  cases g10 : canB 3 h 10 with
  | false => rw [hno (by unfold texts3; rw [g2, g3, g9, g10]; rfl)]; rfl
  | true =>
  have hy : recA h = (recsL h, 0) := by rw [hW, if_pos (by unfold texts3; rw [g2, g3, g9, g10]; rfl)]
  have hfl : 0 < (fulls h.kind h.name).length := List.length_pos_iff.2 (fulls_ne h.kind h.name)
  rw [Bool.not_true, cond_false, t1, callS_ok, t2, callS_ok, t3, callL_ok, svs_len, bif_t (by omega), svs_head _ (fulls_ne h.kind h.name), t4, callS_ok, t5, callS_ok, hy]
  unfold zipR at hloop
  rw [ht] at hloop
  exact hloop
theorem refCan_X (d : Int) (h : Head) (f : Int) (hd : 1 ≤ d ∧ d ≤ 4) (hf : 1 ≤ f ∧ f ≤ 14) (hr : RightH h) (ho : OkHd h) (hk : 1000000 < k) : kp E k (n + 23) ref11_Can [.int .i64 d, .agg (encHead h), .int .i64 f] = some (.bool (canX d h f)) := by
  by_cases h14 : f = 14
  · subst h14
    have e1 := refRec_k (E := E) (k := k) (n := n) h hr ho hk
    obtain ⟨hb, hl⟩ := recA_bd ho
    have hloop : ∀ (suf pre : List Pair) (s k0 : Nat), suf.length < k0 → (recA h).1 = pre ++ suf → s ≤ 4000000 →
        ref11_Can_L0 (kp E k (n + 22)) k k0 d (prs (recA h).1) (decide ((recA h).2 = 0)) ((s : Nat) : Int) ((pre.length : Nat) : Int) = some (.bool (!decide (d = 3) || (!decide ((recA h).2 = 0) || decide (s + sumLen suf ≤ 65536)))) := by
      intro suf
      induction suf with
      | nil =>
        intro pre s k0 hk0 he hs
        obtain ⟨m, rfl⟩ : ∃ m, k0 = m + 1 := ⟨k0 - 1, by simp only [List.length_nil] at hk0; omega⟩
        have hll : (recA h).1.length = pre.length := by rw [he]; simp
        have hdd : decide (((s : Nat) : Int) ≤ 65536) = decide (s + sumLen [] ≤ 65536) := by rw [decide_eq_decide]; simp only [sumLen]; omega
        rw [ref11_Can_L0_s, prs_len, bif_f (by omega), hdd]
        cases decide (d = 3) <;> cases decide ((recA h).2 = 0) <;> rfl
      | cons p suf ih =>
        intro pre s k0 hk0 he hs
        obtain ⟨m, rfl⟩ : ∃ m, k0 = m + 1 := ⟨k0 - 1, by simp only [List.length_cons] at hk0; omega⟩
        have hll : (recA h).1.length = pre.length + suf.length + 1 := by rw [he]; exact mid_len pre suf p
        have hpm : p ∈ (recA h).1 := by rw [he]; simp
        have hg : ∀ F : AV → Option AV, ((prs (recA h).1)[pre.length]?).bind F = F (elPair p) := fun F => by rw [he]; exact prs_mid _ _ _ _
        have hpb := len_bd (hb p hpm)
        have hLp := refLen_k (E := E) (k := k) (n := n + 2) p (hb p hpm).1 (hb p hpm).2 (by omega)
        rw [ref11_Can_L0_s, prs_len, bif_t (by omega)]
        by_cases hgt : s > 65536
        · have hd1 : decide (s + sumLen (p :: suf) ≤ 65536) = false := decide_eq_false (by omega)
          have hd2 : decide (((s : Nat) : Int) ≤ 65536) = false := decide_eq_false (by omega)
          rw [bif_f (by omega), hd1, hd2]
          cases decide (d = 3) <;> cases decide ((recA h).2 = 0) <;> rfl
        · have hw : IntKind.wrap .i64 (((s : Nat) : Int) + ((lenP p : Nat) : Int)) = ((s + lenP p : Nat) : Int) := by rw [i64w (by omega)]; omega
          have ih := ih (pre ++ [p]) (s + lenP p) m (by simpa using hk0) (by rw [he]; simp) (by omega)
          rw [List.length_append, List.length_singleton] at ih
          have hsum : s + lenP p + sumLen suf = s + sumLen (p :: suf) := by simp only [sumLen]; omega
          rw [bif_t (by omega), inb (by omega), cond_true, Int.toNat_natCast, hg, cells_pair, p_0, p_1, hLp, callI_ok, hw, wrap1 (by omega), ih, hsum]
    have e2 := hloop (recA h).1 [] 0 k (by omega) rfl (by omega)
    unfold encHead at e1 ⊢
    rw [ref11_Can_eq, bif_t rfl, e1, callT_ok, tupL_ok, tupB_ok, atNil_ok, canX_14]
    unfold fitsB
    rw [← Nat.zero_add (sumLen _)]
    exact e2
  · rw [canX_13 (by omega)]
    exact refCan_k (n := n + 16) d h f (by omega) (by omega) ho.size.2 ho.bd.1 ho.bd.2.1 ho.bd.2.2.1 ho.bd.2.2.2.1 hk
/-! The first field that can't be told. -/
def fgo (c : Int → Bool) : Nat → Int → Int
  | 0, i => 0
  | m + 1, i => bif c i then fgo c m (i + 1) else i
def firstF (c : Int → Bool) : Int := fgo c 14 1
theorem refFirst_loop (kap : FuncId → List AV → Option AV) (d : Int) (h : Head) (hC : ∀ f, 1 ≤ f ∧ f ≤ 14 → kap ref11_Can [.int .i64 d, .agg (encHead h), .int .i64 f] = some (.bool (canX d h f))) : ∀ (m : Nat) (i : Int) (k0 : Nat), m < k0 → 1 ≤ i → i + (m : Int) = 15 →
    ref11_First_L0 kap k k0 d i h.kind (str h.name) (str h.link) h.mode h.uid h.gid h.size h.sec h.nano (str h.user) (str h.group) h.major h.minor (prs h.extra) = some (.int .i64 (fgo (canX d h) m i))
  | 0, i, k0 + 1, hk, h1, h2 => by
    rw [ref11_First_L0_s, bif_f (by omega)]
    rfl
  | m + 1, i, k0 + 1, hk, h1, h2 => by
    have ih := refFirst_loop kap d h hC m (i + 1) k0 (by omega) (by omega) (by omega)
    have hc := hC i (by omega)
    unfold encHead at hc
    rw [ref11_First_L0_s, bif_t (by omega), hc, callB_ok, i64w (by omega)]
    unfold fgo
    cases canX d h i with
    | true => exact ih
    | false => rfl
theorem refFirst11_k (d : Int) (h : Head) (hd : 1 ≤ d ∧ d ≤ 4) (hr : RightH h) (ho : OkHd h) (hk : 1000000 < k) : kp E k (n + 24) ref11_First [.int .i64 d, .agg (encHead h)] = some (.int .i64 (firstF (canX d h))) := by
  have e := refFirst_loop (k := k) (kp E k (n + 23)) d h (fun f hf => refCan_X d h f hd hf hr ho hk) 14 1 k (by omega) (by omega) (by omega)
  unfold encHead
  rw [ref11_First_eq]
  exact e
/-! The program's own answers. -/
theorem repCan_X [HasRec E] (d : Int) (h : Head) (f : Int) (ho : OkHd h) (hk : 1000000 < k) : kp E k (n + 8) rep_can [.int .i64 d, .agg (encHead h), .int .i64 f] = some (.bool (canX d h f)) :=
  can_k d h f (fitsB h) ho.bd.1 ho.bd.2.1 ho.bd.2.2.1 ho.bd.2.2.2.1 hk fun _ _ => fits_k (n := n + 5) h ho hk
def diaB (d : Int) : Bool := decide (1 ≤ d) && decide (d ≤ 4)
theorem dia_iff {d : Int} : diaB d = true ↔ 1 ≤ d ∧ d ≤ 4 := by unfold diaB; simp
theorem dia_k (d : Int) : kp E k (n + 1) rep_Dialect [.int .i64 d] = some (.bool (diaB d)) := by
  rw [rep_Dialect_eq]
  unfold diaB
  by_cases h1 : 1 ≤ d
  · rw [bif_t h1, decide_eq_true h1, Bool.true_and]
  · rw [bif_f h1, decide_eq_false h1]; rfl
theorem repFirst_loop (kap : FuncId → List AV → Option AV) (d : Int) (h : Head) (hC : ∀ f, kap rep_can [.int .i64 d, .agg (encHead h), .int .i64 f] = some (.bool (canX d h f))) : ∀ (m : Nat) (i : Int) (k0 : Nat), m < k0 → 1 ≤ i → i + (m : Int) = 15 →
    rep_First_L0 kap k k0 d i h.kind (str h.name) (str h.link) h.mode h.uid h.gid h.size h.sec h.nano (str h.user) (str h.group) h.major h.minor (prs h.extra) = some (.tup [.int .i64 (fgo (canX d h) m i), .int .u8 0])
  | 0, i, k0 + 1, hk, h1, h2 => by
    rw [rep_First_L0_s, bif_f (by omega)]
    rfl
  | m + 1, i, k0 + 1, hk, h1, h2 => by
    have ih := repFirst_loop kap d h hC m (i + 1) k0 (by omega) (by omega) (by omega)
    have hc := hC i
    unfold encHead at hc
    rw [rep_First_L0_s, bif_t (by omega), hc, callB_ok, i64w (by omega)]
    unfold fgo
    cases canX d h i with
    | true => exact ih
    | false => rfl
theorem repFirst_k [HasRec E] (d : Int) (h : Head) (ho : OkHd h) (hk : 1000000 < k) : kp E k (n + 9) rep_First [.int .i64 d, .agg (encHead h)] = some (.tup (bif !diaB d then [.int .i64 0, .int .u8 2] else bif !decide (wrongH h = 0) then [.int .i64 0, .int .u8 15] else [.int .i64 (firstF (canX d h)), .int .u8 0])) := by
  have e := repFirst_loop (k := k) (kp E k (n + 8)) d h (fun f => repCan_X d h f ho hk) 14 1 k (by omega) (by omega) (by omega)
  have e2 := wrong_kv (E := E) (k := k) (n := n) h ho.bd hk
  unfold encHead at e2 ⊢
  rw [rep_First_eq, dia_k, callB_ok, e2, callI_ok]
  cases diaB d with
  | false => rfl
  | true =>
    cases decide (wrongH h = 0) with
    | false => rfl
    | true => exact e
theorem repCan_k [HasRec E] (d : Int) (h : Head) (f : Int) (ho : OkHd h) (hk : 1000000 < k) : kp E k (n + 9) rep_Can [.int .i64 d, .agg (encHead h), .int .i64 f] = some (.tup (bif !diaB d then [.bool false, .int .u8 2] else bif decide (f < 1) then [.bool false, .int .u8 2] else bif decide (f > 14) then [.bool false, .int .u8 2] else bif !decide (wrongH h = 0) then [.bool false, .int .u8 15] else [.bool (canX d h f), .int .u8 0])) := by
  have e := repCan_X (E := E) (k := k) (n := n) d h f ho hk
  have e2 := wrong_kv (E := E) (k := k) (n := n) h ho.bd hk
  unfold encHead at e e2 ⊢
  rw [rep_Can_eq, dia_k, callB_ok, e2, callI_ok, e, callB_ok]
  cases diaB d with
  | false => rfl
  | true =>
    cases decide (f < 1) with
    | true => rfl
    | false =>
      cases decide (f > 14) with
      | true => rfl
      | false => cases decide (wrongH h = 0) <;> rfl
end Go.Proofs.YtbkhmkcmbaffoaaGreatDoor.Eng.U


/- Records of a right head: an overlay; what Ustar can tell Pax can. In plain words. -/
set_option linter.unusedVariables false
set_option linter.unusedSectionVars false
set_option linter.unusedSimpArgs false
namespace Go.Proofs.YtbkhmkcmbaffoaaGreatDoor.Eng.U
open Go Go.RowKit Go.Proofs Go.Proofs.YtbkhmkcmbaffoaaGreatDoor.Eng Go.Lib Go.Proofs.YtbkhmkcmbaffoaaGreatDoor.S11 Go.Proofs.YtbkhmkcmbaffoaaGreatDoor.P04

/-! Texts that are right stay right with more bytes below 128. -/
/-! The pairs. -/
/-! What Ustar can tell. -/
end Go.Proofs.YtbkhmkcmbaffoaaGreatDoor.Eng.U


/- RepFields, RepRecords, RepOrder are true. -/
set_option linter.unusedVariables false
set_option linter.unusedSectionVars false
set_option linter.unusedSimpArgs false
namespace Go.Proofs.YtbkhmkcmbaffoaaGreatDoor.Eng.U
open Go Go.RowKit Go.Proofs Go.Proofs.YtbkhmkcmbaffoaaGreatDoor.Eng Go.Proofs.YtbkhmkcmbaffoaaGreatDoor.S11
variable {E : Ext} [Core E] [HasNum E] [HasTextV E] {k n : Nat}

theorem many11_loop (kap : FuncId → List AV → Option AV) (h : Head) : ∀ (suf pre : List Pair) (k0 : Nat) (s : Int), suf.length < k0 → h.extra = pre ++ suf → h.extra.length < 1000000000000000 →
    law11_many_L0 kap k k0 s ((pre.length : Nat) : Int) h.kind (str h.name) (str h.link) h.mode h.uid h.gid h.size h.sec h.nano (str h.user) (str h.group) h.major h.minor (prs h.extra) = some (.bool (decide (manyW s suf > 300000) || decide (40 < h.extra.length)))
  | [], pre, k0 + 1, s, hk, he, hb => by
    have hll : h.extra.length = pre.length := by rw [he]; simp
    rw [law11_many_L0_s, prs_len, bif_f (by omega)]
    unfold manyW
    by_cases h1 : s > 300000
    · rw [bif_t h1, decide_eq_true h1]; rfl
    · rw [bif_f h1, decide_eq_false h1, Bool.false_or]
      congr 2
      rw [decide_eq_decide]
      omega
  | p :: suf, pre, k0 + 1, s, hk, he, hb => by
    have hll : h.extra.length = pre.length + suf.length + 1 := by rw [he]; exact mid_len pre suf p
    have hg : ∀ F : AV → Option AV, ((prs h.extra)[pre.length]?).bind F = F (elPair p) := fun F => by rw [he]; exact prs_mid _ _ _ _
    have ih := many11_loop kap h suf (pre ++ [p]) k0 (IntKind.wrap .i64 (IntKind.wrap .i64 (s + ((p.key.length : Nat) : Int)) + ((p.val.length : Nat) : Int))) (by simpa using hk) (by rw [he]; simp) hb
    rw [List.length_append, List.length_singleton] at ih
    rw [law11_many_L0_s, prs_len, bif_t (by omega), inb (by omega), cond_true, Int.toNat_natCast, hg, cells_pair, p_0, cond_true, hg, cells_pair, p_1, str_size, str_size, wrap1 (by omega)]
    exact ih
def many11B (h : Head) : Bool := decide (manyW (((h.name.length + h.link.length + h.user.length + h.group.length : Nat)) : Int) h.extra > 300000) || decide (40 < h.extra.length)
theorem many11_k (h : Head) (g : G_apiHead h) (hk : 10000000000000 ≤ k) : kp E k (n + 1) law11_many [.agg (encHead h)] = some (.bool (many11B h)) := by
  have g1 := g.name
  have g2 := g.link
  have g3 := g.user
  have g4 := g.group
  have g5 := g.extra
  unfold encHead
  rw [law11_many_eq]
  have := many11_loop (k := k) (kp E k n) h h.extra [] k (((h.name.length + h.link.length + h.user.length + h.group.length : Nat)) : Int) (by omega) rfl (by omega)
  rw [str_size, str_size, str_size, str_size, wrapP (by omega) (by omega), wrapP (by omega) (by omega), wrapP (by omega) (by omega)]
  exact this
theorem ok_of (h : Head) (g : G_apiHead h) (hm : many11B h = false) : OkHd h := by
  have g1 := g.name
  have g2 := g.link
  have g3 := g.user
  have g4 := g.group
  have g5 := g.extra
  unfold many11B at hm
  rw [Bool.or_eq_false_iff, decide_eq_false_iff_not, decide_eq_false_iff_not] at hm
  obtain ⟨h1, h2⟩ := manyW_few _ rfl h.extra (((h.name.length + h.link.length + h.user.length + h.group.length : Nat)) : Int) (fun p hp => ⟨(g.pairs p hp).key, (g.pairs p hp).val⟩) (by omega) (by omega)
  refine ⟨⟨by omega, by omega, by omega, by omega, by omega, fun p hp => ?_⟩, by omega, g.uid, g.gid, g.size, g.sec⟩
  have := h2 p hp
  omega
def hA : Head := ⟨7, [97], [], 0, 0, 0, 0, 0, 0, [], [], 0, 0, []⟩
theorem okA : OkHd hA := okHd_iff.1 (by decide)
theorem wrongA : wrongH hA = 0 := right_wrong ⟨rfl, by rfl, rfl, rfl, rfl, rfl, rfl, rfl, rfl, rfl, rfl, rfl, by rfl⟩
theorem alive11 [HasRec E] (hk : 1000000 < k) : kp E k (n + 10) law11_alive [] = some (.bool true) := by
  have e1 := repFirst_k (E := E) (k := k) (n := n) 1 hA okA hk
  have e4 := repFirst_k (E := E) (k := k) (n := n) 4 hA okA hk
  have hn : (decide (wrongH hA = 0)) = true := decide_eq_true wrongA
  have f1 : firstF (canX 1 hA) = 1 := rfl
  have f4 : firstF (canX 4 hA) = 0 := rfl
  rw [hn, f1] at e1
  rw [hn, f4] at e4
  rw [law11_alive_eq]
  have q1 : kp E k (n + 9) rep_First [(.int .i64 (1 : Int)), (.agg [(.int .i64 (7 : Int)), (.str (str [97])), (.str (str [])), (.int .i64 (0 : Int)), (.int .i64 (0 : Int)), (.int .i64 (0 : Int)), (.int .i64 (0 : Int)), (.int .i64 (0 : Int)), (.int .i64 (0 : Int)), (.str (str [])), (.str (str [])), (.int .i64 (0 : Int)), (.int .i64 (0 : Int)), (.list 2 [])])] = some (.tup [.int .i64 1, .int .u8 0]) := e1
  have q4 : kp E k (n + 9) rep_First [(.int .i64 (4 : Int)), (.agg [(.int .i64 (7 : Int)), (.str (str [97])), (.str (str [])), (.int .i64 (0 : Int)), (.int .i64 (0 : Int)), (.int .i64 (0 : Int)), (.int .i64 (0 : Int)), (.int .i64 (0 : Int)), (.int .i64 (0 : Int)), (.str (str [])), (.str (str [])), (.int .i64 (0 : Int)), (.int .i64 (0 : Int)), (.list 2 [])])] = some (.tup [.int .i64 0, .int .u8 0]) := e4
  rw [q1, q4]
  rfl
theorem w11_0 : IntKind.wrap .i64 0 = 0 := rfl
theorem w11_2 : IntKind.wrap .i64 2 = 2 := rfl
theorem w11_15 : IntKind.wrap .i64 15 = 15 := rfl
theorem repFields_true [HasRec E] (d : Int) (h : Head) (f : Int) (g : G_apiHead h) (hk : 10000000000000 ≤ k) : kp E k (n + 25) law11_RepFields [.int .i64 d, .agg (encHead h), .int .i64 f] = some (.bool true) := by
  have ha := alive11 (E := E) (k := k) (n := n + 14) (by omega)
  have hm := many11_k (E := E) (k := k) (n := n + 23) h g hk
  unfold encHead at hm ⊢
  rw [law11_RepFields_eq, ha, callB_ok, Bool.not_true, cond_false, hm, callB_ok]
  cases hmb : many11B h with
  | true => rfl
  | false =>
  have ho := ok_of h g hmb
  have hw := refWrong_k (E := E) (k := k) (n := n + 16) h ho.bd (by omega)
  have e1 := repCan_k (E := E) (k := k) (n := n + 15) d h f ho (by omega)
  have e2 := repFirst_k (E := E) (k := k) (n := n + 15) d h ho (by omega)
  have e3 := dia_k (E := E) (k := k) (n := n + 23) d
  have e4 : RightH h → (1 ≤ d ∧ d ≤ 4) → (1 ≤ f ∧ f ≤ 14) → kp E k (n + 24) ref11_Can [.int .i64 d, .agg (encHead h), .int .i64 f] = some (.bool (canX d h f)) := fun hr hd hf => refCan_X (n := n + 1) d h f hd hf hr ho (by omega)
  have e5 : RightH h → (1 ≤ d ∧ d ≤ 4) → kp E k (n + 24) ref11_First [.int .i64 d, .agg (encHead h)] = some (.int .i64 (firstF (canX d h))) := fun hr hd => refFirst11_k (n := n) d h hd hr ho (by omega)
  unfold encHead at hw e1 e2 e4 e5
  rw [cond_false, e1, callT_ok]
  by_cases hd : 1 ≤ d ∧ d ≤ 4
  · have hdb : diaB d = true := dia_iff.2 hd
    rw [hdb] at e3
    rw [e2, hdb]
    by_cases h0 : wrongH h = 0
    · rw [decide_eq_true h0]
      have e5 := e5 (rightH_of h0) hd
      by_cases hf1 : f < 1
      · rw [decide_eq_true hf1]
        simp only [Bool.not_true, Bool.not_false, cond_true, cond_false, tupB_ok, tupI_ok, atNil_ok, callT_ok, hw, callI_ok, decide_eq_true h0, decide_eq_true hd.1, decide_eq_true hd.2, decide_eq_true hf1, e3, callB_ok, e5, ge_iff_le]
        simp [w11_0, w11_2, w11_15]
      · by_cases hf2 : f > 14
        · rw [decide_eq_false hf1, decide_eq_true hf2]
          simp only [Bool.not_true, Bool.not_false, cond_true, cond_false, tupB_ok, tupI_ok, atNil_ok, callT_ok, hw, callI_ok, decide_eq_true h0, decide_eq_true hd.1, decide_eq_true hd.2, decide_eq_false hf1, decide_eq_true hf2, e3, callB_ok, e5, ge_iff_le]
          simp [w11_0, w11_2, w11_15]
        · have e4 := e4 (rightH_of h0) hd (by omega)
          rw [decide_eq_false hf1, decide_eq_false hf2]
          simp only [Bool.not_true, Bool.not_false, cond_true, cond_false, tupB_ok, tupI_ok, atNil_ok, callT_ok, hw, callI_ok, decide_eq_true h0, decide_eq_true hd.1, decide_eq_true hd.2, decide_eq_false hf1, decide_eq_false hf2, e3, e4, callB_ok, e5, ge_iff_le]
          simp [w11_0, w11_2, w11_15]
    · rw [decide_eq_false h0]
      by_cases hf1 : f < 1
      · rw [decide_eq_true hf1]
        simp only [Bool.not_true, Bool.not_false, cond_true, cond_false, tupB_ok, tupI_ok, atNil_ok, callT_ok, hw, callI_ok, decide_eq_false h0, decide_eq_true hd.1, decide_eq_true hd.2, decide_eq_true hf1, e3, callB_ok, ge_iff_le]
        simp [w11_0, w11_2, w11_15]
      · by_cases hf2 : f > 14
        · rw [decide_eq_false hf1, decide_eq_true hf2]
          simp only [Bool.not_true, Bool.not_false, cond_true, cond_false, tupB_ok, tupI_ok, atNil_ok, callT_ok, hw, callI_ok, decide_eq_false h0, decide_eq_true hd.1, decide_eq_true hd.2, decide_eq_false hf1, decide_eq_true hf2, e3, callB_ok, ge_iff_le]
          simp [w11_0, w11_2, w11_15]
        · rw [decide_eq_false hf1, decide_eq_false hf2]
          simp only [Bool.not_true, Bool.not_false, cond_true, cond_false, tupB_ok, tupI_ok, atNil_ok, callT_ok, hw, callI_ok, decide_eq_false h0, decide_eq_true hd.1, decide_eq_true hd.2, decide_eq_false hf1, decide_eq_false hf2, e3, callB_ok, ge_iff_le]
          simp [w11_0, w11_2, w11_15]
  · have hdb : diaB d = false := by
      cases hx : diaB d with
      | false => rfl
      | true => exact absurd (dia_iff.1 hx) hd
    rw [hdb] at e3
    rw [e2, hdb]
    simp only [Bool.not_true, Bool.not_false, cond_true, cond_false, tupB_ok, tupI_ok, atNil_ok, callT_ok, hw, callI_ok, e3, callB_ok, ge_iff_le]
    have hd' : (decide (1 ≤ d) = true → decide (d ≤ 4) = false) := fun h1 => by
      rw [decide_eq_true_eq] at h1
      exact decide_eq_false (by omega)
    cases hx : decide (1 ≤ d) with
    | true =>
      rw [hd' hx]
      cases decide (wrongH h = 0) <;> cases decide (f < 1) <;> cases decide (f > 14) <;> rfl
    | false => cases decide (wrongH h = 0) <;> cases decide (f < 1) <;> cases decide (f > 14) <;> rfl
end Go.Proofs.YtbkhmkcmbaffoaaGreatDoor.Eng.U


/- The library's functions and rep.Records given together; the Rep laws over them. -/
set_option linter.unusedVariables false
set_option linter.unusedSectionVars false
set_option linter.unusedSimpArgs false
namespace Go.Proofs.YtbkhmkcmbaffoaaGreatDoor.Eng.U
open Go Go.RowKit Go.Proofs Go.Proofs.YtbkhmkcmbaffoaaGreatDoor.Eng

noncomputable def ps11 : List Piece := [pFmt, pItoa, pCutP, pTrimR, pIndex, pIndexByte, pRepeat, pPInt, pPUint, pDec, pAny, pRec]
noncomputable def ext11 : Ext := extOf ps11
instance core11 : Core ext11 := core_of (by kernel_rfl)
instance num11 : HasNum ext11 := num_of rfl rfl rfl rfl rfl rfl rfl rfl rfl
instance text11 : HasText ext11 where
  dec k n s := ⟨_, _, (kp_piece (ps := ps11) (p := pDec) (k := k) (n := n) (args := [.str (str s)]) rfl).trans rfl⟩
  idx k n s hs := by
    have h := kp_piece (ps := ps11) (p := pAny) (k := k) (n := n) (args := [.str (str s), .str (str [61, 0])]) rfl
    have e : pAny.ans [.str (str s), .str (str [61, 0])] = (bif decide (str [61, 0] = str [61, 0]) && decide ((str s).size ≤ 1000000) then (bif decide (8 < (str s).size) then some (.int .i64 (Lib.indexAny (str s).data.toList [61, 0])) else (bs ext09a 100).kap 3 strings_IndexAny [.str (str s), .str (str [61, 0])]) else none) := rfl
    rw [e, str_size, decide_eq_true rfl, decide_eq_true hs, Bool.true_and, cond_true] at h
    by_cases h8 : 8 < s.length
    · rw [decide_eq_true h8, cond_true] at h
      exact ⟨_, h⟩
    · rw [decide_eq_false h8, cond_false] at h
      obtain ⟨r, hr⟩ := any_short (E := ext09a) (k := 100) (n := 0) (by kernel_rfl) (by kernel_rfl) (by omega) s (by omega)
      exact ⟨r, h.trans hr⟩
instance textV11 : HasTextV ext11 where
  dec k n s := (kp_piece (ps := ps11) (p := pDec) (k := k) (n := n) (args := [.str s]) rfl).trans rfl
  idx k n s hs := by
    have h := kp_piece (ps := ps11) (p := pAny) (k := k) (n := n) (args := [.str (str s), .str (str [61, 0])]) rfl
    have e : pAny.ans [.str (str s), .str (str [61, 0])] = (bif decide (str [61, 0] = str [61, 0]) && decide ((str s).size ≤ 1000000) then (bif decide (8 < (str s).size) then some (.int .i64 (Lib.indexAny (str s).data.toList [61, 0])) else (bs ext09a 100).kap 3 strings_IndexAny [.str (str s), .str (str [61, 0])]) else none) := rfl
    rw [e, str_size, decide_eq_true rfl, decide_eq_true hs, Bool.true_and, cond_true] at h
    by_cases h8 : 8 < s.length
    · rw [decide_eq_true h8, cond_true] at h
      exact ⟨_, h, any_long_v s⟩
    · rw [decide_eq_false h8, cond_false] at h
      obtain ⟨r, hr, hv⟩ := any_short_v (E := ext09a) (k := 100) (n := 0) (by kernel_rfl) (by kernel_rfl) (by omega) s (by omega)
      exact ⟨r, h.trans hr, hv⟩
instance rec11 : HasRec ext11 := ⟨fun k n h ho => by
  have e := kp_piece (ps := ps11) (p := pRec) (k := k) (n := n) (args := [.agg (encHead h)]) rfl
  refine e.trans ?_
  show ((toHead (encHead h)).bind fun h => bif okHd h then some (AV.tup [.list 2 (prs (recA h).1), .int .u8 (recA h).2]) else none) = _
  rw [toHead_enc, Option.bind_some, okHd_iff.2 ho, cond_true]⟩
theorem good11 (k : Nat) : (bs ext11 k).Good := good_of (fun p hp => by
  simp only [ps11, List.mem_cons, List.not_mem_nil, or_false] at hp
  rcases hp with rfl | rfl | rfl | rfl | rfl | rfl | rfl | rfl | rfl | rfl | rfl | rfl
  · exact fmt_right
  · exact itoa_right
  · exact cutP_right
  · exact trimR_right
  · exact index_right
  · exact indexByte_right
  · exact repeat_right
  · exact pInt_right
  · exact pUint_right
  · exact dec_right
  · exact any_right
  · exact rec_right) names_ok k
theorem fields11 (d : Int) (h : Head) (f : Int) (gd : -9223372036854775808 ≤ d ∧ d ≤ 9223372036854775807) (g : G_apiHead h) (gf : -9223372036854775808 ≤ f ∧ f ≤ 9223372036854775807) : (bs ext11 10000000000000).kap 25 law11_RepFields [.int .i64 d, .agg (encHead h), .int .i64 f] = some (.bool true) :=
  repFields_true (E := ext11) (n := 0) (k := 10000000000000) d h f g (by omega)
end Go.Proofs.YtbkhmkcmbaffoaaGreatDoor.Eng.U

