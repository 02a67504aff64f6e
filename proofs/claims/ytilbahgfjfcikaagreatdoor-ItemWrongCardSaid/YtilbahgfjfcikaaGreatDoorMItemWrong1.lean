/- Several texts of this proof in one file: U09b, RS, U09c, U09d, U09e, R7, Z05a, Z05b, Z05c, U09f, U04d. -/
import Derived.Test.YtilbahgfjfcikaaGreatDoorMItemWrong0
import Derived.Lib.DecodeN
import Derived.IntWalk
import Derived.Lib.RuneCountTail
import Derived.Lib.IndexAny
/- ItemFulls, but for whether any field is wrong. -/
set_option linter.unusedVariables false
set_option linter.unusedSectionVars false
set_option linter.unusedSimpArgs false
namespace Go.Proofs.YtilbahgfjfcikaaGreatDoor.Eng.U
open Go Go.Proofs Go.Proofs.YtilbahgfjfcikaaGreatDoor.Eng
variable {E : Ext} [Core E] {k n : Nat}

def manyW : Int → List Pair → Int
  | s, [] => s
  | s, p :: l => manyW (IntKind.wrap .i64 (IntKind.wrap .i64 (s + ((p.key.length : Nat) : Int)) + ((p.val.length : Nat) : Int))) l
theorem many_loop (kap : FuncId → List AV → Option AV) (h : Head) : ∀ (suf pre : List Pair) (k0 : Nat) (s : Int), suf.length < k0 → (pre ++ suf).length < 1000000000000000 →
    law09_many_L0 kap k k0 s ((pre.length : Nat) : Int) h.kind (str h.name) (str h.link) h.mode h.uid h.gid h.size h.sec h.nano (str h.user) (str h.group) h.major h.minor (prs (pre ++ suf)) = some (.bool (decide (manyW s suf > 200000) || decide (40 < (pre ++ suf).length)))
  | [], pre, k0 + 1, s, hk, hb => by
    rw [law09_many_L0_s, prs_len, nlt, decide_eq_false (by simp), cond_false]
    unfold manyW
    by_cases h1 : s > 200000
    · rw [bif_t h1, decide_eq_true h1]; rfl
    · rw [bif_f h1, decide_eq_false h1, Bool.false_or]
      congr 2
      rw [decide_eq_decide]
      omega
  | p :: suf, pre, k0 + 1, s, hk, hb => by
    have hb' := hb
    rw [mid_len] at hb'
    have ih := many_loop kap h suf (pre ++ [p]) k0 (IntKind.wrap .i64 (IntKind.wrap .i64 (s + ((p.key.length : Nat) : Int)) + ((p.val.length : Nat) : Int))) (by simpa using hk) (by simpa using hb)
    rw [List.append_assoc, List.singleton_append, List.length_append, List.length_singleton] at ih
    rw [law09_many_L0_s, prs_len, mid_len, dec0, nlt, decide_eq_true (by omega), Bool.true_and, cond_true, cond_true, Int.toNat_natCast]
    unfold manyW
    rw [← mid_len pre suf p, ← ih]
    simp (disch := first | omega | (simp only [List.length_append, List.length_cons, List.length_nil, List.length_take, List.length_drop]; done) | (simp only [List.length_append, List.length_cons, List.length_nil, List.length_take, List.length_drop]; omega) | fail) only [bif_t, bif_f, bif_n, bif_a, callB_ok, callI_ok, callS_ok, callL_ok, callF_ok, callT_ok, tupB_ok, tupI_ok, tupS_ok, tupL_ok, tupF_ok, atNil_ok, wrap1, wrapM, wrapP, Int.toNat_natCast, svs_len, ivs_len, bvs_len, str_size, svs_mid, ivs_mid, str_dec, str_ext, str_byte, mid_byte, mid_cut, List.length_nil, List.length_singleton, svs_snoc, ivs_snoc, svs_take, svs_drop, str_app, List.take_length, List.drop_zero, List.nil_append, cond_true, cond_false, Option.bind_some, Bool.not_true, Bool.not_false, Bool.true_and, Bool.and_true, bys_len, prs_len, its_len, cells_pair, cells_time, cells_head, cells_item, fold_pair, fold_time, fold_head, fold_ihead, fold_item, prs_mid, its_mid, bys_mid, byte_c, callG_pair, callG_time, callG_head, callG_item, tupG_pair, tupG_time, tupG_head, tupG_item, h_0, i_0, h_1, i_1, h_2, i_2, h_3, i_3, h_4, i_4, h_5, i_5, h_6, i_6, h_7, i_7, h_8, i_8, h_9, i_9, h_10, i_10, h_11, i_11, h_12, i_12, h_13, i_13, i_14, p_0, p_1, t_0, t_1]
theorem manyW_few (M : Nat) (hM : M = 140737488351232) : ∀ (l : List Pair) (s : Int), (∀ p ∈ l, p.key.length ≤ M ∧ p.val.length ≤ M) → 0 ≤ s → s + ((l.length : Nat) : Int) * 281474976702464 ≤ 9000000000000000000 → s ≤ manyW s l ∧ ∀ p ∈ l, ((p.key.length : Nat) : Int) ≤ manyW s l ∧ ((p.val.length : Nat) : Int) ≤ manyW s l
  | [], s, _, h0, hs => ⟨Int.le_refl _, fun p hp => by cases hp⟩
  | p :: l, s, hp, h0, hs => by
    obtain ⟨h1, h2⟩ := hp p (by simp)
    rw [List.length_cons] at hs
    unfold manyW
    have hl : 0 ≤ ((l.length : Nat) : Int) * 281474976702464 := by omega
    rw [i64w (x := s + ((p.key.length : Nat) : Int)) (by omega), i64w (x := s + ((p.key.length : Nat) : Int) + ((p.val.length : Nat) : Int)) (by omega)]
    obtain ⟨g1, g2⟩ := manyW_few M hM l (s + ((p.key.length : Nat) : Int) + ((p.val.length : Nat) : Int)) (fun q hq => hp q (by simp [hq])) (by omega) (by omega)
    refine ⟨by omega, fun q hq => ?_⟩
    rcases List.mem_cons.1 hq with rfl | hq
    · exact ⟨by omega, by omega⟩
    · exact g2 q hq
def manyB (h : Head) : Bool := decide (manyW (((h.name.length + h.link.length + h.user.length + h.group.length : Nat)) : Int) h.extra > 200000) || decide (40 < h.extra.length)
def BdH (h : Head) : Prop := h.name.length ≤ 140737488351232 ∧ h.link.length ≤ 140737488351232 ∧ h.user.length ≤ 140737488351232 ∧ h.group.length ≤ 140737488351232 ∧ (∀ p ∈ h.extra, p.key.length ≤ 140737488351232 ∧ p.val.length ≤ 140737488351232) ∧ h.extra.length < 10000000000000
def FewH (h : Head) : Prop := h.name.length ≤ 200000 ∧ h.link.length ≤ 200000 ∧ h.user.length ≤ 200000 ∧ h.group.length ≤ 200000 ∧ (∀ p ∈ h.extra, p.key.length ≤ 200000 ∧ p.val.length ≤ 200000) ∧ h.extra.length ≤ 40
theorem many9_k (h : Head) (hb : BdH h) (hk : h.extra.length < k) : kp E k (n + 1) law09_many [.agg (encHead h)] = some (.bool (manyB h)) := by
  obtain ⟨b1, b2, b3, b4, b5, b6⟩ := hb
  unfold encHead
  rw [law09_many_eq]
  have := many_loop (k := k) (kp E k n) h h.extra [] k (((h.name.length + h.link.length + h.user.length + h.group.length : Nat)) : Int) hk (by simpa using (show h.extra.length < 1000000000000000 by omega))
  rw [str_size, str_size, str_size, str_size, wrapP (by omega) (by omega), wrapP (by omega) (by omega), wrapP (by omega) (by omega)]
  exact this
theorem few_of (h : Head) (hb : BdH h) (hm : manyB h = false) : FewH h := by
  obtain ⟨b1, b2, b3, b4, b5, b6⟩ := hb
  unfold manyB at hm
  rw [Bool.or_eq_false_iff, decide_eq_false_iff_not, decide_eq_false_iff_not] at hm
  obtain ⟨h1, h2⟩ := manyW_few _ rfl h.extra (((h.name.length + h.link.length + h.user.length + h.group.length : Nat)) : Int) b5 (by omega) (by omega)
  refine ⟨by omega, by omega, by omega, by omega, fun p hp => ?_, by omega⟩
  obtain ⟨g1, g2⟩ := h2 p hp
  exact ⟨by omega, by omega⟩
end Go.Proofs.YtilbahgfjfcikaaGreatDoor.Eng.U

/- What functions answer, as the engine evaluates their code. Printed by gen2.py. -/
set_option linter.unusedVariables false
namespace Go.Proofs.YtilbahgfjfcikaaGreatDoor.Eng.U
open Go Go.Proofs Go.Proofs.YtilbahgfjfcikaaGreatDoor.Eng
/- strings.ContainsAny -/
theorem strings_ContainsAny_eq {E : Ext} [Core E] (k n : Nat) (a0 : ByteArray) (a1 : ByteArray) : kp E k (n + 1) strings_ContainsAny [(.str a0), (.str a1)] =
  (callI .i64 (kp E k n strings_IndexAny [(.str a0), (.str a1)]) fun vn2 => (some (.bool (decide (vn2 ≥ (0 : Int)))))) := (kp_at (by kernel_rfl)).trans (by kernel_rfl)
/- strings.IndexAny -/
noncomputable def strings_IndexAny_bd : Code := Tryz.f93.body.getD .skip
noncomputable def strings_IndexAny_L0 (kap : FuncId → List AV → Option AV) (k : Nat) (k0 : Nat) (s1 : ByteArray) (i45s : ByteArray) (i45p : Nat) : Option AV :=
  loop (fun fr K => code ((bs E0 k).cfg kap strings_IndexAny) (sel strings_IndexAny_bd [1, 1, 1, 1, 0, 1, 0, 0]) fr K) (canon ((bs E0 k).cfg kap strings_IndexAny) (firstReg (sel strings_IndexAny_bd [1, 1, 1, 1, 0, 1, 0, 0]))) k0 (mkFr 55 [(1, (.str s1)), (45, (.itr 45))] [(45, (.it i45s i45p))]) (plug ((bs E0 k).cfg kap strings_IndexAny) (retK ((bs E0 k).cfg kap strings_IndexAny) [] Tryz.f93 [] some) [.blk 2, .seqR (sel strings_IndexAny_bd [1, 1, 1, 1, 1])])
theorem strings_IndexAny_L0_s (kap : FuncId → List AV → Option AV) (k : Nat) (k0 : Nat) (s1 : ByteArray) (i45s : ByteArray) (i45p : Nat) : strings_IndexAny_L0 kap k (k0 + 1) s1 i45s i45p =
  (bif (decide (i45p < (ByteArray.size i45s))) then (callI .i64 (kap strings_IndexRune [(.str s1), (.int .i32 (((Utf8.decode i45s i45p).1 : Nat) : Int))]) fun vn8 => (bif (decide (vn8 ≥ (0 : Int))) then (some (.int .i64 ((i45p : Nat) : Int))) else (strings_IndexAny_L0 kap k k0 s1 i45s (i45p + (Utf8.decode i45s i45p).2)))) else (some (.int .i64 (-1 : Int)))) := by kernel_rfl
theorem strings_IndexAny_eq {E : Ext} [Core E] (hB : E.isBase strings_IndexAny = false) (hF : E.fs.contains strings_IndexAny = true) (k n : Nat) (a0 : ByteArray) (a1 : ByteArray) : kp E k (n + 1) strings_IndexAny [(.str a0), (.str a1)] =
  (bif (decide (a1 = (str []))) then (some (.int .i64 (-1 : Int))) else (bif (decide ((((ByteArray.size a1) : Nat) : Int) = (1 : Int))) then (bif (decide ((0 : Int) < (((ByteArray.size a1) : Nat) : Int))) then (bif (decide ((IntKind.wrap .i32 (byteAt a1 0)) ≥ (128 : Int))) then (callI .i64 (kp E k n strings_IndexRune [(.str a0), (.int .i32 (65533 : Int))]) fun vn2 => (some (.int .i64 vn2))) else (callI .i64 (kp E k n strings_IndexRune [(.str a0), (.int .i32 (IntKind.wrap .i32 (byteAt a1 0)))]) fun vn4 => (some (.int .i64 vn4)))) else none) else (callB (kp E k n strings_shouldUseASCIISet [(.int .i64 (((ByteArray.size a0) : Nat) : Int))]) fun vq6 => (bif vq6 then (code ((bs E0 k).cfg (kp E k n) strings_IndexAny) (sel strings_IndexAny_bd [1, 1, 1, 0, 1, 0]) (mkFr 55 [(0, (.str a0)), (1, (.str a1)), (4, (.int .i64 (0 : Int))), (11, (.str a1)), (12, (.bool (decide (a1 = (str []))))), (13, (.str a1)), (14, (.int .i64 (((ByteArray.size a1) : Nat) : Int))), (15, (.bool (decide ((((ByteArray.size a1) : Nat) : Int) = (1 : Int))))), (24, (.str a0)), (25, (.int .i64 (((ByteArray.size a0) : Nat) : Int))), (26, (.bool vq6))] []) (plug ((bs E0 k).cfg (kp E k n) strings_IndexAny) (retK ((bs E0 k).cfg (kp E k n) strings_IndexAny) [] Tryz.f93 [] some) [.seqR (sel strings_IndexAny_bd [1, 1, 1, 1])])) else (strings_IndexAny_L0 (kp E k n) k k a1 a0 0))))) := (Base.kap_at (B := bs E k) hB hF _).trans (by kernel_rfl)
/- strings.IndexRune -/
noncomputable def strings_IndexRune_bd : Code := Tryz.f113.body.getD .skip
noncomputable def strings_IndexRune_L0 (kap : FuncId → List AV → Option AV) (k : Nat) (k0 : Nat) (i175s : ByteArray) (i175p : Nat) : Option AV :=
  loop (fun fr K => code ((bs E0 k).cfg kap strings_IndexRune) (sel strings_IndexRune_bd [1, 0, 1, 1, 1, 0, 0, 1, 0, 0]) fr K) (canon ((bs E0 k).cfg kap strings_IndexRune) (firstReg (sel strings_IndexRune_bd [1, 0, 1, 1, 1, 0, 0, 1, 0, 0]))) k0 (mkFr 187 [(175, (.itr 175))] [(175, (.it i175s i175p))]) (plug ((bs E0 k).cfg kap strings_IndexRune) (retK ((bs E0 k).cfg kap strings_IndexRune) [] Tryz.f113 [] some) [.blk 9, .seqR (sel strings_IndexRune_bd [1, 0, 1, 1, 1, 0, 1]), .blk 0])
noncomputable def strings_IndexRune_L1 (kap : FuncId → List AV → Option AV) (k : Nat) (k1 : Nat) (s0 : ByteArray) (s7 : ByteArray) (s8 : Int) (s9 : Int) : Option AV :=
  loop (fun fr K => code ((bs E0 k).cfg kap strings_IndexRune) (sel strings_IndexRune_bd [1, 0, 1, 1, 1, 1, 1, 1, 0, 1, 1, 1, 1, 0, 0, 0]) fr K) (canon ((bs E0 k).cfg kap strings_IndexRune) (firstReg (sel strings_IndexRune_bd [1, 0, 1, 1, 1, 1, 1, 1, 0, 1, 1, 1, 1, 0, 0, 0]))) k1 (mkFr 187 [(0, (.str s0)), (7, (.str s7)), (8, (.int .i64 s8)), (9, (.int .i64 s9))] []) (plug ((bs E0 k).cfg kap strings_IndexRune) (retK ((bs E0 k).cfg kap strings_IndexRune) [] Tryz.f113 [] some) [.blk 1, .seqR (sel strings_IndexRune_bd [1, 0, 1, 1, 1, 1, 1, 1, 0, 1, 1, 1, 1, 1]), .blk 0])
noncomputable def strings_IndexRune_L2 (kap : FuncId → List AV → Option AV) (k : Nat) (k1 : Nat) (k2 : Nat) (s0 : ByteArray) (s7 : ByteArray) (s8 : Int) (s9 : Int) (s12 : Int) : Option AV :=
  loop (fun fr K => code ((bs E0 k).cfg kap strings_IndexRune) (sel strings_IndexRune_bd [1, 0, 1, 1, 1, 1, 1, 1, 0, 1, 1, 1, 1, 0, 0, 0, 1, 0, 0, 1, 0, 1, 0, 0]) fr K) (canon ((bs E0 k).cfg kap strings_IndexRune) (firstReg (sel strings_IndexRune_bd [1, 0, 1, 1, 1, 1, 1, 1, 0, 1, 1, 1, 1, 0, 0, 0, 1, 0, 0, 1, 0, 1, 0, 0]))) k2 (mkFr 187 [(0, (.str s0)), (7, (.str s7)), (8, (.int .i64 s8)), (9, (.int .i64 s9)), (12, (.int .i64 s12))] []) (plug ((bs E0 k).cfg kap strings_IndexRune) (retK ((bs E0 k).cfg kap strings_IndexRune) [] Tryz.f113 [] some) [.blk 3, .seqR (sel strings_IndexRune_bd [1, 0, 1, 1, 1, 1, 1, 1, 0, 1, 1, 1, 1, 0, 0, 0, 1, 0, 0, 1, 1]), .blk 2, .lp (sel strings_IndexRune_bd [1, 0, 1, 1, 1, 1, 1, 1, 0, 1, 1, 1, 1, 0, 0, 0]) k1, .blk 1, .seqR (sel strings_IndexRune_bd [1, 0, 1, 1, 1, 1, 1, 1, 0, 1, 1, 1, 1, 1]), .blk 0])
theorem strings_IndexRune_L0_s (kap : FuncId → List AV → Option AV) (k : Nat) (k0 : Nat) (i175s : ByteArray) (i175p : Nat) : strings_IndexRune_L0 kap k (k0 + 1) i175s i175p =
  (bif (decide (i175p < (ByteArray.size i175s))) then (bif (decide ((((Utf8.decode i175s i175p).1 : Nat) : Int) = (65533 : Int))) then (some (.int .i64 ((i175p : Nat) : Int))) else (strings_IndexRune_L0 kap k k0 i175s (i175p + (Utf8.decode i175s i175p).2))) else (some (.int .i64 (-1 : Int)))) := by kernel_rfl
theorem strings_IndexRune_L1_s (kap : FuncId → List AV → Option AV) (k : Nat) (k1 : Nat) (s0 : ByteArray) (s7 : ByteArray) (s8 : Int) (s9 : Int) : strings_IndexRune_L1 kap k (k1 + 1) s0 s7 s8 s9 =
  (bif (decide (s9 < (((ByteArray.size s0) : Nat) : Int))) then (bif ((decide ((0 : Int) ≤ s9)) && (decide (s9 < (((ByteArray.size s0) : Nat) : Int)))) then (bif ((decide ((0 : Int) ≤ s8)) && (decide (s8 < (((ByteArray.size s7) : Nat) : Int)))) then (bif (!(decide ((byteAt s0 (Int.toNat s9)) = (byteAt s7 (Int.toNat s8))))) then (bif ((decide ((0 : Int) ≤ (IntKind.wrap .i64 (s9 + (1 : Int))))) && (decide ((IntKind.wrap .i64 (s9 + (1 : Int))) ≤ (((ByteArray.size s0) : Nat) : Int)))) then (bif ((decide ((0 : Int) ≤ s8)) && (decide (s8 < (((ByteArray.size s7) : Nat) : Int)))) then (callI .i64 (kap strings_IndexByte [(.str (ByteArray.extract s0 (Int.toNat (IntKind.wrap .i64 (s9 + (1 : Int)))) (ByteArray.size s0))), (.int .u8 (byteAt s7 (Int.toNat s8)))]) fun vn6 => (bif (decide (vn6 < (0 : Int))) then (some (.int .i64 (-1 : Int))) else (strings_IndexRune_L2 kap k k1 k s0 s7 s8 (IntKind.wrap .i64 (s9 + (IntKind.wrap .i64 (vn6 + (1 : Int))))) (1 : Int)))) else none) else none) else (strings_IndexRune_L2 kap k k1 k s0 s7 s8 s9 (1 : Int))) else none) else none) else (some (.int .i64 (-1 : Int)))) := by kernel_rfl
theorem strings_IndexRune_L2_s (kap : FuncId → List AV → Option AV) (k : Nat) (k1 : Nat) (k2 : Nat) (s0 : ByteArray) (s7 : ByteArray) (s8 : Int) (s9 : Int) (s12 : Int) : strings_IndexRune_L2 kap k k1 (k2 + 1) s0 s7 s8 s9 s12 =
  (bif (decide (s12 < (((ByteArray.size s7) : Nat) : Int))) then (bif ((decide ((0 : Int) ≤ (IntKind.wrap .i64 (s9 - s12)))) && (decide ((IntKind.wrap .i64 (s9 - s12)) < (((ByteArray.size s0) : Nat) : Int)))) then (bif ((decide ((0 : Int) ≤ (IntKind.wrap .i64 (s8 - s12)))) && (decide ((IntKind.wrap .i64 (s8 - s12)) < (((ByteArray.size s7) : Nat) : Int)))) then (bif (!(decide ((byteAt s0 (Int.toNat (IntKind.wrap .i64 (s9 - s12)))) = (byteAt s7 (Int.toNat (IntKind.wrap .i64 (s8 - s12))))))) then none else (strings_IndexRune_L2 kap k k1 k2 s0 s7 s8 s9 (IntKind.wrap .i64 (s12 + (1 : Int))))) else none) else none) else (some (.int .i64 (IntKind.wrap .i64 (s9 - s8))))) := by kernel_rfl
theorem strings_IndexRune_eq {E : Ext} [Core E] (k n : Nat) (a0 : ByteArray) (a1 : Int) : kp E k (n + 1) strings_IndexRune [(.str a0), (.int .i32 a1)] =
  (bif (decide ((0 : Int) ≤ a1)) then (bif (decide (a1 < (128 : Int))) then (callI .i64 (kp E k n strings_IndexByte [(.str a0), (.int .u8 (IntKind.wrap .u8 a1))]) fun vn2 => (some (.int .i64 vn2))) else (bif (decide (a1 = (65533 : Int))) then (strings_IndexRune_L0 (kp E k n) k k a0 0) else (callB (kp E k n unicode_utf8_ValidRune [(.int .i32 a1)]) fun vq4 => (bif (!vq4) then (some (.int .i64 (-1 : Int))) else (strings_IndexRune_L1 (kp E k n) k k a0 (Utf8.encode a1) (IntKind.wrap .i64 ((((ByteArray.size (Utf8.encode a1)) : Nat) : Int) - (1 : Int))) (IntKind.wrap .i64 ((((ByteArray.size (Utf8.encode a1)) : Nat) : Int) - (1 : Int)))))))) else (bif (decide (a1 = (65533 : Int))) then (strings_IndexRune_L0 (kp E k n) k k a0 0) else (callB (kp E k n unicode_utf8_ValidRune [(.int .i32 a1)]) fun vq8 => (bif (!vq8) then (some (.int .i64 (-1 : Int))) else (strings_IndexRune_L1 (kp E k n) k k a0 (Utf8.encode a1) (IntKind.wrap .i64 ((((ByteArray.size (Utf8.encode a1)) : Nat) : Int) - (1 : Int))) (IntKind.wrap .i64 ((((ByteArray.size (Utf8.encode a1)) : Nat) : Int) - (1 : Int)))))))) := (kp_at (by kernel_rfl)).trans (by kernel_rfl)
/- strings.shouldUseASCIISet -/
theorem strings_shouldUseASCIISet_eq {E : Ext} [Core E] (k n : Nat) (a0 : Int) : kp E k (n + 1) strings_shouldUseASCIISet [(.int .i64 a0)] =
  (some (.bool (decide (a0 > (8 : Int))))) := (kp_at (by kernel_rfl)).trans (by kernel_rfl)
/- unicode/utf8.ValidRune -/
theorem unicode_utf8_ValidRune_eq {E : Ext} [Core E] (k n : Nat) (a0 : Int) : kp E k (n + 1) unicode_utf8_ValidRune [(.int .i32 a0)] =
  (bif (decide ((0 : Int) ≤ a0)) then (bif (decide (a0 < (55296 : Int))) then (some (.bool true)) else (bif (decide ((57343 : Int) < a0)) then (bif (decide (a0 ≤ (1114111 : Int))) then (some (.bool true)) else (some (.bool false))) else (some (.bool false)))) else (bif (decide ((57343 : Int) < a0)) then (bif (decide (a0 ≤ (1114111 : Int))) then (some (.bool true)) else (some (.bool false))) else (some (.bool false)))) := (kp_at (by kernel_rfl)).trans (by kernel_rfl)
end Go.Proofs.YtilbahgfjfcikaaGreatDoor.Eng.U

/- Is any field of a head wrong: some number answers, and 0 says what ItemFulls wants. -/
set_option linter.unusedVariables false
set_option linter.unusedSectionVars false
set_option linter.unusedSimpArgs false
namespace Go.Proofs.YtilbahgfjfcikaaGreatDoor.Eng.U
open Go Go.Proofs Go.Proofs.YtilbahgfjfcikaaGreatDoor.Eng Go.Proofs.YtilbahgfjfcikaaGreatDoor.P04
variable {E : Ext} [Core E] [HasNum E] {k n : Nat}

class HasText (E : Ext) : Prop where
  dec : ∀ (k n : Nat) (s : List UInt8), ∃ r w : Int, kp E k n unicode_utf8_DecodeRuneInString [.str (str s)] = some (.tup [.int .i32 r, .int .i64 w])
  idx : ∀ (k n : Nat) (s : List UInt8), s.length ≤ 1000000 → ∃ i : Int, kp E k n strings_IndexAny [.str (str s), .str (str [61, 0])] = some (.int .i64 i)
theorem snoc_pairs (s : List Pair) : s = [] ∨ ∃ l c, s = l ++ [c] := by
  induction s with
  | nil => exact .inl rfl
  | cons x s ih =>
    rcases ih with rfl | ⟨l, c, rfl⟩
    · exact .inr ⟨[], x, rfl⟩
    · exact .inr ⟨x :: l, c, rfl⟩
def IsB (x : Option AV) : Prop := ∃ b : Bool, x = some (.bool b)
theorem isB_some (b : Bool) : IsB (some (.bool b)) := ⟨b, rfl⟩
theorem isB_bif {c : Bool} {a b : Option AV} (h1 : IsB a) (h2 : IsB b) : IsB (bif c then a else b) := by cases c <;> assumption
theorem isB_callB {x : Option AV} {K : Bool → Option AV} (h : IsB x) (hK : ∀ b, IsB (K b)) : IsB (callB x K) := by
  obtain ⟨b, rfl⟩ := h
  rw [callB_ok]
  exact hK b
theorem clean_B (s : List UInt8) : IsB (kp E k (n + 1) text_Clean [.str (str s)]) := by
  rw [text_Clean_eq, HasNum.indexB, callI_ok]
  exact isB_some _
theorem pclean_B (s : List UInt8) : IsB (kp E k (n + 1) pax_clean [.str (str s)]) := by
  rw [pax_clean_eq, HasNum.indexB, callI_ok]
  exact isB_some _
theorem named_B (s : List UInt8) : IsB (kp E k (n + 2) item_named [.str (str s)]) := by
  rw [item_named_eq]
  exact isB_bif (isB_bif (isB_callB (clean_B s) isB_some) (isB_some _)) (isB_some _)
theorem named_ne (s : List UInt8) (h : kp E k (n + 2) item_named [.str (str s)] = some (.bool true)) : s ≠ [] := by
  rintro rfl
  rw [item_named_eq] at h
  cases h
theorem plain_B (s : List UInt8) : IsB (kp E k (n + 2) item_plain [.str (str s)]) := by
  rw [item_plain_eq]
  exact isB_bif (isB_callB (clean_B s) isB_some) (isB_some _)
section
variable [HasText E]
theorem wrong_B (s : List UInt8) (i : Nat) (r : Int) (hi : i ≤ s.length) : IsB (kp E k (n + 1) utf_wrong [.str (str s), .int .i64 (i : Int), .int .i32 r]) := by
  rw [utf_wrong_eq, str_size, inbE hi, cond_true, Int.toNat_natCast, str_ext]
  obtain ⟨x, w, h⟩ := HasText.dec (E := E) k n ((s.take s.length).drop i)
  rw [h, callT_ok, tupI_ok, tupI_ok, atNil_ok]
  exact isB_bif (isB_some _) (isB_some _)
theorem width_pos (s : ByteArray) (i : Nat) : 1 ≤ (Utf8.decode s i).2 := by
  rw [Lib.decode_at]
  unfold Lib.decodeN
  (repeat' split) <;> simp
theorem first_I (s : List UInt8) : ∀ (m k0 i : Nat), s.length - i < m → m ≤ k0 → ∃ r : Int, utf_First_L0 (kp E k (n + 1)) k k0 (str s) (str s) i = some (.int .i64 r)
  | 0, k0, i, h, _ => by omega
  | m + 1, k0 + 1, i, h, hk => by
    rw [utf_First_L0_s, str_size]
    by_cases hi : i < s.length
    · rw [decide_eq_true hi, cond_true]
      obtain ⟨b, hb⟩ := wrong_B (E := E) (k := k) (n := n) s i (((Utf8.decode (str s) i).1 : Nat) : Int) (by omega)
      rw [hb, callB_ok]
      cases b with
      | true => exact ⟨_, rfl⟩
      | false =>
        have hw := width_pos (str s) i
        exact first_I s m k0 (i + (Utf8.decode (str s) i).2) (by omega) (by omega)
    · rw [decide_eq_false hi, cond_false]
      exact ⟨_, rfl⟩
theorem utf_B (s : List UInt8) (hk : s.length < k) : IsB (kp E k (n + 3) utf_Right [.str (str s)]) := by
  obtain ⟨r, hr⟩ := first_I (E := E) (k := k) (n := n) s k k 0 (by omega) (Nat.le_refl _)
  rw [utf_Right_eq, utf_First_eq, hr, callI_ok]
  exact isB_some _
theorem any_B (s : List UInt8) (hs : s.length ≤ 1000000) : IsB (kp E k (n + 1) strings_ContainsAny [.str (str s), .str (str [61, 0])]) := by
  obtain ⟨i, hi⟩ := HasText.idx (E := E) k n s hs
  rw [strings_ContainsAny_eq, hi, callI_ok]
  exact isB_some _
theorem num_B (s : List UInt8) (hs : s.length ≤ 1000000) (hk : s.length < k) : IsB (callT (kp E k (n + 3) dec_Number [(.str (str s))]) fun vt6 => (tupI .i64 vt6 fun vn7 vt8 => (tupI .u8 vt8 fun vn9 vt10 => (atNil vt10 (some (.bool (decide (vn9 = (0 : Int)))))))) ) := by
  rw [number_k (n := n) s (by omega) hk]
  cases natOk s && decide (valA 0 s ≤ 9223372036854775807)
  · rw [cond_false, callT_ok, tupI_ok, tupI_ok, atNil_ok]; exact isB_some _
  · rw [cond_true, callT_ok, tupI_ok, tupI_ok, atNil_ok]; exact isB_some _
theorem time_B (s : List UInt8) (hs : s.length ≤ 1000000) (hk : s.length < k) : IsB (callT (kp E k (n + 3) dec_Time [(.str (str s))]) fun vt12 => (tupG 2 vt12 fun vg13 vt14 => (cellI .i64 vg13 0 fun vn15 => (cellI .i64 vg13 1 fun vn16 => (tupI .u8 vt14 fun vn17 vt18 => (atNil vt18 (some (.bool (decide (vn17 = (0 : Int))))))))))) := by
  rw [time_k (n := n) s (by omega) hk]
  have e2 : ∀ (K : List AV → List AV → Option AV) (a b : AV) (t : List AV), tupG 2 (.agg [a, b] :: t) K = K [a, b] t := fun K a b t => by simp [tupG, atCons, atAgg, AV.isFresh]
  have c0 : ∀ (a b : Int) (K : Int → Option AV), cellI .i64 [.int .i64 a, .int .i64 b] 0 K = K a := fun a b K => cellI_0 _ _ _
  have c1 : ∀ (a b : Int) (K : Int → Option AV), cellI .i64 [.int .i64 a, .int .i64 b] 1 K = K b := fun a b K => by simp [cellI, cellAt, atInt]
  unfold timeAV
  cases timeL s with
  | none => rw [callT_ok, e2, c0, c1, tupI_ok, atNil_ok]; exact isB_some _
  | some x => rw [callT_ok, e2, c0, c1, tupI_ok, atNil_ok]; exact isB_some _
theorem value_B (key s : List UInt8) (hs : s.length ≤ 1000000) (hk : s.length < k) : IsB (kp E k (n + 4) pax_value [.str (str key), .str (str s)]) := by
  rw [pax_value_eq]
  refine isB_callB (utf_B (n := n) s hk) fun b => ?_
  have h1 := pclean_B (E := E) (k := k) (n := n + 2) s
  have h2 := num_B (E := E) (k := k) (n := n) s hs hk
  have h3 := time_B (E := E) (k := k) (n := n) s hs hk
  have h1' := isB_callB (K := fun b => some (.bool b)) h1 isB_some
  repeat' first | exact isB_some _ | exact h1' | exact h2 | exact h3 | refine isB_bif ?_ ?_
theorem paxRight_B (key s : List UInt8) (hkey : key.length ≤ 1000000) (hs : s.length ≤ 1000000) (hk : 1000000 < k) : IsB (kp E k (n + 5) pax_Right [.agg [.str (str key), .str (str s)]]) := by
  rw [pax_Right_eq]
  refine isB_bif (isB_callB (utf_B (n := n + 1) key (by omega)) fun b => isB_bif (isB_callB (any_B (n := n + 3) key hkey) fun c => isB_bif (isB_callB (value_B (n := n) key s hs (by omega)) isB_some) (isB_some _)) (isB_some _)) (isB_some _)
theorem over_B (hk : 1000000 < k) : ∀ (suf pre : List Pair) (k0 : Nat), suf.length < k0 → (pre ++ suf).length < 1000000 → (∀ p ∈ pre ++ suf, p.key.length ≤ 1000000 ∧ p.val.length ≤ 1000000) →
    IsB (over_Right_L0 (kp E k (n + 5)) k k0 (prs (pre ++ suf)) (prs (pre ++ suf)) (((pre ++ suf).length : Nat) : Int) ((pre.length : Nat) : Int))
  | [], pre, k0 + 1, h, hb, hp => by
    rw [over_Right_L0_s, nlt, decide_eq_false (by simp), cond_false]
    exact isB_some _
  | p :: suf, pre, k0 + 1, h, hb, hp => by
    have hb' := hb
    rw [mid_len] at hb'
    obtain ⟨g1, g2⟩ := hp p (by simp)
    have ih := over_B hk suf (pre ++ [p]) k0 (by simpa using h) (by simpa using hb) (fun q hq => hp q (by simpa using hq))
    have e1 : (pre ++ [p]).length = pre.length + 1 := by simp
    rw [List.append_assoc, List.singleton_append, e1] at ih
    rw [over_Right_L0_s, prs_len, mid_len, dec0, nlt, decide_eq_true (by omega), Bool.true_and, cond_true, cond_true, Int.toNat_natCast, prs_mid, cells_pair]
    rw [mid_len] at ih
    have c0 : ∀ (q : Pair) (K : ByteArray → Option AV), cellS (encPair q) 0 K = K (str q.key) := fun q K => rfl
    have c1 : ∀ (q : Pair) (K : ByteArray → Option AV), cellS (encPair q) 1 K = K (str q.val) := fun q K => rfl
    rw [c0, c1, wrap1 (by omega)]
    refine isB_bif (isB_some _) (isB_callB (paxRight_B p.key p.val g1 g2 hk) fun b => isB_bif (isB_some _) ?_)
    rcases snoc_pairs pre with rfl | ⟨l, q, rfl⟩
    · rw [bif_f (by simp)]
      exact ih
    · rw [List.length_append, List.length_singleton] at hb' ih ⊢
      rw [bif_t (by omega), wrapM (by omega) (by omega), show l.length + 1 - 1 = l.length from rfl, dec0, nlt, decide_eq_true (by omega), Bool.true_and, cond_true, Int.toNat_natCast, List.append_assoc, List.singleton_append, prs_mid, cells_pair, c0]
      rw [List.append_assoc, List.singleton_append] at ih
      exact isB_bif (isB_some _) ih
end
end Go.Proofs.YtilbahgfjfcikaaGreatDoor.Eng.U

/- ItemFulls answers true. -/
set_option linter.unusedVariables false
set_option linter.unusedSectionVars false
set_option linter.unusedSimpArgs false
namespace Go.Proofs.YtilbahgfjfcikaaGreatDoor.Eng.U
open Go Go.Proofs Go.Proofs.YtilbahgfjfcikaaGreatDoor.Eng Go.Proofs.YtilbahgfjfcikaaGreatDoor.P04
variable {E : Ext} [Core E] [HasNum E] [HasText E] {k n : Nat}

def IsI (x : Option AV) : Prop := ∃ w : Int, x = some (.int .i64 w)
theorem isI_some (w : Int) : IsI (some (.int .i64 w)) := ⟨w, rfl⟩
theorem isI_bif {c : Bool} {a b : Option AV} (h1 : IsI a) (h2 : IsI b) : IsI (bif c then a else b) := by cases c <;> assumption
theorem isI_callB {x : Option AV} {K : Bool → Option AV} (h : IsB x) (hK : ∀ b, IsI (K b)) : IsI (callB x K) := by
  obtain ⟨b, rfl⟩ := h
  rw [callB_ok]
  exact hK b
theorem known_B (s : List UInt8) : IsB (kp E k (n + 1) pax_Known [.str (str s)]) := by
  rw [pax_Known_eq]
  repeat' first | exact isB_some _ | refine isB_bif ?_ ?_
theorem extra1_B (p : Pair) : IsB (kp E k (n + 2) item_extra_1 [.agg [.str (str p.key), .str (str p.val)]]) := by
  rw [item_extra_1_eq]
  exact isB_callB (known_B _) isB_some
theorem indexFunc_I : ∀ (suf pre : List Pair) (k0 : Nat), suf.length < k0 → (pre ++ suf).length < 1000000 → IsI (slices_IndexFunc_api_Pair_L0 (kp E k (n + 2)) k k0 (prs (pre ++ suf)) (((pre ++ suf).length : Nat) : Int) ((pre.length : Nat) : Int))
  | [], pre, k0 + 1, h, hb => by
    rw [slices_IndexFunc_api_Pair_L0_s, nlt, decide_eq_false (by simp), cond_false]
    exact isI_some _
  | p :: suf, pre, k0 + 1, h, hb => by
    have hb' := hb
    rw [mid_len] at hb'
    have ih := indexFunc_I suf (pre ++ [p]) k0 (by simpa using h) (by simpa using hb)
    have e1 : (pre ++ [p]).length = pre.length + 1 := by simp
    rw [List.append_assoc, List.singleton_append, e1] at ih
    rw [slices_IndexFunc_api_Pair_L0_s, prs_len, mid_len, dec0, nlt, decide_eq_true (by omega), Bool.true_and, cond_true, cond_true, Int.toNat_natCast, prs_mid, cells_pair]
    rw [mid_len] at ih
    have c0 : ∀ (q : Pair) (K : ByteArray → Option AV), cellS (encPair q) 0 K = K (str q.key) := fun q K => rfl
    have c1 : ∀ (q : Pair) (K : ByteArray → Option AV), cellS (encPair q) 1 K = K (str q.val) := fun q K => rfl
    rw [c0, c1, wrap1 (by omega)]
    exact isI_callB (extra1_B p) fun b => isI_bif (isI_some _) ih
theorem extra_B (l : List Pair) (hb : l.length ≤ 40) (hp : ∀ p ∈ l, p.key.length ≤ 200000 ∧ p.val.length ≤ 200000) (hk : 1000000 < k) : IsB (kp E k (n + 7) item_extra [.list 2 (prs l)]) := by
  rw [item_extra_eq, over_Right_eq, prs_len]
  have h1 := over_B (E := E) (k := k) (n := n) hk l [] k (by omega) (by simpa using (show l.length < 1000000 by omega)) (fun p hq => by obtain ⟨a, b⟩ := hp p (by simpa using hq); exact ⟨by omega, by omega⟩)
  refine isB_callB h1 fun b => isB_bif ?_ (isB_some _)
  obtain ⟨w, hw⟩ := indexFunc_I (E := E) (k := k) (n := n + 2) l [] k (by omega) (by simpa using (show l.length < 1000000 by omega))
  have hw' : kp E k (n + 5) slices_IndexFunc_api_Pair [.list 2 (prs l), .func (.func item_extra_1) [] []] = some (.int .i64 w) := by
    rw [slices_IndexFunc_api_Pair_eq, prs_len]
    exact hw
  rw [slices_ContainsFunc_api_Pair_eq, hw', callI_ok, callB_ok]
  exact isB_some _
theorem flag_ok (v : Int) : ∃ f : Int, kp E k (n + 1) item_Flag [.int .i64 v] = some (.int .u8 f) := by
  rw [item_Flag_eq]
  by_cases h1 : v < 1
  · rw [bif_t h1]; exact ⟨_, rfl⟩
  · rw [bif_f h1]
    by_cases h2 : v > 7
    · rw [bif_t h2]; exact ⟨_, rfl⟩
    · rw [bif_f h2]; exact ⟨_, rfl⟩
theorem wrong_k (h : Head) (hf : FewH h) (hk : 1000000 < k) : ∃ w : Int, kp E k (n + 8) item_Wrong [.agg (encHead h)] = some (.int .i64 w) ∧ (w = 0 → h.name ≠ [] ∧ ¬ (h.kind = 1 ∧ sl h.name = true)) := by
  have hlink : IsB (kp E k (n + 7) item_link [.agg (encHead h)]) := by
    unfold encHead
    rw [item_link_eq]
    exact isB_bif (isB_callB (named_B (n := n + 4) _) isB_some) (isB_bif (isB_callB (named_B (n := n + 4) _) isB_some) (isB_some _))
  have hdev : ∀ v : Int, IsB (kp E k (n + 7) item_device [.agg (encHead h), .int .i64 v]) := fun v => by
    unfold encHead
    rw [item_device_eq]
    exact isB_bif (isB_some _) (isB_bif (isB_bif (isB_some _) (isB_some _)) (isB_some _))
  have hext : IsB (kp E k (n + 7) item_extra [.list 2 (prs h.extra)]) := extra_B h.extra hf.2.2.2.2.2 hf.2.2.2.2.1 hk
  have hright : ∀ s t : Int, IsB (kp E k (n + 7) dec_Right [.agg [.int .i64 s, .int .i64 t]]) := fun s t => ⟨_, right_k (n := n + 6) s t⟩
  have hplain : ∀ s : List UInt8, IsB (kp E k (n + 7) item_plain [.str (str s)]) := fun s => plain_B (n := n + 5) s
  have hname : IsB (kp E k (n + 7) item_named [.str (str h.name)]) := named_B (n := n + 5) h.name
  obtain ⟨f, hfl⟩ := flag_ok (E := E) (k := k) (n := n + 6) h.kind
  have hsuf := suffix_k (E := E) (k := k) (n := n + 5) h.name (by have := hf.1; omega)
  unfold encHead at hlink hdev ⊢
  rw [item_Wrong_eq, hfl, callI_ok]
  by_cases h0 : f = 0
  · rw [bif_t h0]; exact ⟨1, rfl, fun h => by omega⟩
  · rw [bif_f h0]
    obtain ⟨b, hb⟩ := hname
    rw [hb, callB_ok]
    cases b with
    | false => exact ⟨2, rfl, fun h => by omega⟩
    | true =>
      have hne : h.name ≠ [] := named_ne (E := E) (k := k) (n := n + 5) h.name hb
      rw [Bool.not_true, cond_false]
      rw [hsuf, callB_ok]
      have fin : ∀ {x : Option AV}, IsI x → ¬ (h.kind = 1 ∧ sl h.name = true) → ∃ w : Int, x = some (.int .i64 w) ∧ (w = 0 → h.name ≠ [] ∧ ¬ (h.kind = 1 ∧ sl h.name = true)) := fun hx hq => by
        obtain ⟨w, hw⟩ := hx
        exact ⟨w, hw, fun _ => ⟨hne, hq⟩⟩
      by_cases h1 : h.kind = 1
      · rw [bif_t h1]
        cases hs : sl h.name with
        | true => exact ⟨2, rfl, fun h => by omega⟩
        | false =>
          rw [cond_false]
          refine hs ▸ fin ?_ (fun h => by simp [hs] at h)
          repeat' first | exact isI_some _ | refine isI_callB hlink fun _ => ?_ | refine isI_callB (hright _ _) fun _ => ?_ | refine isI_callB (hplain _) fun _ => ?_ | refine isI_callB (hdev _) fun _ => ?_ | refine isI_callB hext fun _ => ?_ | refine isI_bif ?_ ?_
      · rw [bif_f h1]
        refine fin ?_ (fun h => h1 h.1)
        repeat' first | exact isI_some _ | refine isI_callB hlink fun _ => ?_ | refine isI_callB (hright _ _) fun _ => ?_ | refine isI_callB (hplain _) fun _ => ?_ | refine isI_callB (hdev _) fun _ => ?_ | refine isI_callB hext fun _ => ?_ | refine isI_bif ?_ ?_
theorem alive9 : kp E k (n + 4) law09_alive [] = some (.bool true) := by
  have h1 := told_k (E := E) (k := k) (n := n) 1 [97, 47] (by simp)
  have h2 := fulls_k (E := E) (k := k) (n := n) ⟨6, [47], [], 0, 0, 0, 0, 0, 0, [], [], 0, 0, []⟩ (by simp)
  have e1 : told 1 [97, 47] = (6, [97]) := by decide
  have e2 : fulls 6 [47] = [[47], [47, 47]] := by decide
  rw [e1] at h1
  have h3 : kp E k (n + 3) item_Fulls [.agg [.int .i64 6, .str (str [47]), .str (str []), .int .i64 0, .int .i64 0, .int .i64 0, .int .i64 0, .int .i64 0, .int .i64 0, .str (str []), .str (str []), .int .i64 0, .int .i64 0, .list 2 []]] = some (.list 1 (svs (fulls 6 [47]))) := h2
  rw [law09_alive_eq, h1, callT_ok, tupI_ok, tupS_ok, atNil_ok, h3, callL_ok, e2]
  rfl
end Go.Proofs.YtilbahgfjfcikaaGreatDoor.Eng.U

/- strings.IndexAny at "=\x00" and a text of at most 8 bytes: some place. -/
set_option linter.unusedVariables false
set_option linter.unusedSectionVars false
set_option linter.unusedSimpArgs false
namespace Go.Proofs.YtilbahgfjfcikaaGreatDoor.Eng.U
open Go Go.Proofs Go.Proofs.YtilbahgfjfcikaaGreatDoor.Eng
variable {E : Ext} [Core E] {k n : Nat}

class HasIB (E : Ext) : Prop where
  indexB : ∀ (k n : Nat) (s : List UInt8) (c : Int), kp E k n strings_IndexByte [.str (str s), .int .u8 c] = some (.int .i64 (Lib.indexByte s c.toNat.toUInt8))
theorem valid_B (r : Int) : IsB (kp E k (n + 1) unicode_utf8_ValidRune [.int .i32 r]) := by
  rw [unicode_utf8_ValidRune_eq]
  repeat' first | exact isB_some _ | refine isB_bif ?_ ?_
theorem enc_facts (r : Nat) (h : 128 ≤ r) : (Utf8.encode (r : Int)).size = 2 ∧ 128 ≤ byteAt (Utf8.encode (r : Int)) 1 ∨ (Utf8.encode (r : Int)).size = 3 ∨ (Utf8.encode (r : Int)).size = 4 := by
  unfold Utf8.encode
  dsimp only
  have hc : 128 ≤ (if Utf8.valid (r : Int) = true then Int.toNat (r : Int) else Utf8.runeError) := by
    split
    · omega
    · decide
  generalize (if Utf8.valid (r : Int) = true then Int.toNat (r : Int) else Utf8.runeError) = c at hc
  rw [if_neg (show ¬ c < 128 by omega)]
  split
  · refine .inl ⟨rfl, ?_⟩
    show (128 : Int) ≤ (((UInt8.ofNat (128 + c % 64)).toNat : Nat) : Int)
    rw [UInt8.toNat_ofNat']
    omega
  · split
    · exact .inr (.inl rfl)
    · exact .inr (.inr rfl)
theorem rune_I [HasIB E] (r : Nat) (hk : 10 < k) : ∃ i : Int, kp E k (n + 2) strings_IndexRune [.str (str [61, 0]), .int .i32 (r : Int)] = some (.int .i64 i) := by
  obtain ⟨k, rfl⟩ : ∃ j, k = j + 3 := ⟨k - 3, by omega⟩
  rw [strings_IndexRune_eq, bif_t (by omega)]
  by_cases h1 : r < 128
  · rw [bif_t (by omega), HasIB.indexB, callI_ok]; exact ⟨_, rfl⟩
  · rw [bif_f (by omega)]
    by_cases h2 : (r : Int) = 65533
    · rw [bif_t h2]
      have d0 : Utf8.decode (str [61, 0]) 0 = (61, 1) := by decide +kernel
      have d1 : Utf8.decode (str [61, 0]) 1 = (0, 1) := by decide +kernel
      have sz : (str [61, 0]).size = 2 := rfl
      have z1 : 0 + ((61, 1) : Nat × Nat).2 = 1 := rfl
      have z2 : 1 + ((0, 1) : Nat × Nat).2 = 2 := rfl
      rw [strings_IndexRune_L0_s, sz, d0, z1, bif_t (by omega), bif_f (by decide), strings_IndexRune_L0_s, sz, d1, z2, bif_t (by omega), bif_f (by decide), strings_IndexRune_L0_s, sz, bif_f (by omega)]
      exact ⟨_, rfl⟩
    · rw [bif_f h2]
      obtain ⟨b, hb⟩ := valid_B (E := E) (k := k + 3) (n := n) (r : Int)
      rw [hb, callB_ok]
      cases b with
      | false => exact ⟨_, rfl⟩
      | true =>
        rw [Bool.not_true, cond_false]
        have sz : (str [61, 0]).size = 2 := rfl
        rcases enc_facts r (by omega) with ⟨e1, e2⟩ | e1 | e1
        · rw [e1, i64w (by omega), strings_IndexRune_L1_s, sz, e1]
          have hb1 : byteAt (str [61, 0]) 1 = 0 := rfl
          have e3 : Int.toNat (((2 : Nat) : Int) - 1) = 1 := rfl
          rw [bif_t (by omega), bif_a, bif_t (by omega), bif_t (by omega), bif_a, bif_t (by omega), bif_t (by omega), e3, hb1, decide_eq_false (by omega), Bool.not_false, cond_true, i64w (by omega), bif_a, bif_t (by omega), bif_t (by omega), bif_a, bif_t (by omega), bif_t (by omega)]
          have e4 : Int.toNat (((2 : Nat) : Int) - 1 + 1) = 2 := rfl
          have e5 : ByteArray.extract (str [61, 0]) 2 2 = str [] := by decide +kernel
          rw [e4, e5, HasIB.indexB, callI_ok]
          have e6 : Lib.indexByte [] (byteAt (Utf8.encode (r : Int)) 1).toNat.toUInt8 = -1 := rfl
          rw [e6, bif_t (by omega)]
          exact ⟨_, rfl⟩
        · rw [e1, i64w (by omega), strings_IndexRune_L1_s, sz, bif_f (by omega)]; exact ⟨_, rfl⟩
        · rw [e1, i64w (by omega), strings_IndexRune_L1_s, sz, bif_f (by omega)]; exact ⟨_, rfl⟩
theorem any_loop [HasIB E] (hk : 10 < k) (s : List UInt8) : ∀ (m k0 i : Nat), s.length - i < m → m ≤ k0 → ∃ r : Int, strings_IndexAny_L0 (kp E k (n + 2)) k k0 (str [61, 0]) (str s) i = some (.int .i64 r)
  | 0, k0, i, h, _ => by omega
  | m + 1, k0 + 1, i, h, hkk => by
    rw [strings_IndexAny_L0_s, str_size]
    by_cases hi : i < s.length
    · rw [decide_eq_true hi, cond_true]
      obtain ⟨x, hx⟩ := rune_I (E := E) (k := k) (n := n) (Utf8.decode (str s) i).1 hk
      rw [hx, callI_ok]
      by_cases h0 : x ≥ 0
      · rw [bif_t h0]; exact ⟨_, rfl⟩
      · rw [bif_f h0]
        have hw := width_pos (str s) i
        exact any_loop hk s m k0 (i + (Utf8.decode (str s) i).2) (by omega) (by omega)
    · rw [decide_eq_false hi, cond_false]
      exact ⟨_, rfl⟩
theorem any_short [HasIB E] (hB : E.isBase strings_IndexAny = false) (hF : E.fs.contains strings_IndexAny = true) (hk : 10 < k) (s : List UInt8) (hs : s.length ≤ 8) : ∃ r : Int, kp E k (n + 3) strings_IndexAny [.str (str s), .str (str [61, 0])] = some (.int .i64 r) := by
  have sz : (str [61, 0]).size = 2 := rfl
  rw [strings_IndexAny_eq hB hF, sz, str_size, bif_f (by decide), bif_f (by omega), strings_shouldUseASCIISet_eq, callB_ok, bif_f (by omega)]
  exact any_loop hk s k k 0 (by omega) (Nat.le_refl _)
end Go.Proofs.YtilbahgfjfcikaaGreatDoor.Eng.U

/- What functions answer, as the engine evaluates their code. Printed by gen2.py. -/
set_option linter.unusedVariables false
namespace Go.Proofs.YtilbahgfjfcikaaGreatDoor.Eng.U
open Go Go.Proofs Go.Proofs.YtilbahgfjfcikaaGreatDoor.Eng
/- oakum/oakumlaw07.PaxPrints -/
noncomputable def law07_PaxPrints_bd : Code := Tryz.f4.body.getD .skip
noncomputable def law07_PaxPrints_L0 (kap : FuncId → List AV → Option AV) (k : Nat) (k0 : Nat) (s0 : List AV) (s3 : List AV) (s4 : Int) (s5 : Int) : Option AV :=
  loop (fun fr K => code ((bs E0 k).cfg kap law07_PaxPrints) (sel law07_PaxPrints_bd [1, 1, 1, 1, 0, 1, 0, 0]) fr K) (canon ((bs E0 k).cfg kap law07_PaxPrints) (firstReg (sel law07_PaxPrints_bd [1, 1, 1, 1, 0, 1, 0, 0]))) k0 (mkFr 45 [(0, (.list 2 s0)), (3, (.list 1 s3)), (4, (.int .u8 s4)), (5, (.int .i64 s5))] []) (plug ((bs E0 k).cfg kap law07_PaxPrints) (retK ((bs E0 k).cfg kap law07_PaxPrints) [] Tryz.f4 [] some) [.blk 0, .seqR (sel law07_PaxPrints_bd [1, 1, 1, 1, 1])])
theorem law07_PaxPrints_L0_s (kap : FuncId → List AV → Option AV) (k : Nat) (k0 : Nat) (s0 : List AV) (s3 : List AV) (s4 : Int) (s5 : Int) : law07_PaxPrints_L0 kap k (k0 + 1) s0 s3 s4 s5 =
  (bif (decide (s5 < (((List.length s0) : Nat) : Int))) then (bif ((decide ((0 : Int) ≤ s5)) && (decide (s5 < (((List.length s0) : Nat) : Int)))) then ((s0[(Int.toNat s5)]?).bind fun vy11 => (cellS (AV.cells vy11) 0 fun vs12 => (cellS (AV.cells vy11) 1 fun vs13 => (callB (kap ref07_Right [(.agg [(.str vs12), (.str vs13)])]) fun vq15 => (bif (!vq15) then (bif (decide ((IntKind.wrap .i64 s4) = (15 : Int))) then (some (.bool (decide ((((List.length s3) : Nat) : Int) = (0 : Int))))) else (some (.bool false))) else (law07_PaxPrints_L0 kap k k0 s0 s3 s4 (IntKind.wrap .i64 (s5 + (1 : Int))))))))) else none) else (bif (decide ((IntKind.wrap .i64 s4) = (0 : Int))) then (callL 1 (kap ref07_Print [(.list 2 s0)]) fun vl17 => (callB (kap ref01_Same [(.list 1 s3), (.list 1 vl17)]) fun vq19 => (some (.bool vq19)))) else (some (.bool false)))) := by kernel_rfl
theorem law07_PaxPrints_eq {E : Ext} [Core E] (k n : Nat) (a0 : List AV) : kp E k (n + 1) law07_PaxPrints [(.list 2 a0)] =
  (callB (kp E k n law07_alive []) fun vq2 => (bif (!vq2) then (some (.bool false)) else (callB (kp E k n law07_few [(.list 2 a0)]) fun vq4 => (bif (!vq4) then (some (.bool true)) else (callT (kp E k n pax_Print [(.list 2 a0)]) fun vt6 => (tupL 1 vt6 fun vl7 vt8 => (tupI .u8 vt8 fun vn9 vt10 => (atNil vt10 (law07_PaxPrints_L0 (kp E k n) k k a0 vl7 vn9 (0 : Int)))))))))) := (kp_at (by kernel_rfl)).trans (by kernel_rfl)
/- oakum/oakumlaw07.PaxParses -/
theorem law07_PaxParses_eq {E : Ext} [Core E] (k n : Nat) (a0 : List AV) : kp E k (n + 1) law07_PaxParses [(.list 1 a0)] =
  (callB (kp E k n law07_alive []) fun vq2 => (bif (!vq2) then (some (.bool false)) else (bif (decide ((((List.length a0) : Nat) : Int) > (3000 : Int))) then (some (.bool true)) else (callT (kp E k n pax_Parse [(.list 1 a0)]) fun vt4 => (tupL 2 vt4 fun vl5 vt6 => (tupI .u8 vt6 fun vn7 vt8 => (atNil vt8 (callT (kp E k n ref07_Parse [(.list 1 a0)]) fun vt10 => (tupL 2 vt10 fun vl11 vt12 => (tupB vt12 fun vq13 vt14 => (atNil vt14 (bif (!vq13) then (bif (decide ((IntKind.wrap .i64 vn7) = (6 : Int))) then (some (.bool (decide ((((List.length vl5) : Nat) : Int) = (0 : Int))))) else (some (.bool false))) else (bif (decide ((IntKind.wrap .i64 vn7) = (0 : Int))) then (callB (kp E k n ref07_Same [(.list 2 vl5), (.list 2 vl11)]) fun vq16 => (some (.bool vq16))) else (some (.bool false))))))))))))))) := (kp_at (by kernel_rfl)).trans (by kernel_rfl)
/- oakum/oakumlaw07.PaxPairs -/
theorem law07_PaxPairs_eq {E : Ext} [Core E] (k n : Nat) (a0_0 : ByteArray) (a0_1 : ByteArray) : kp E k (n + 1) law07_PaxPairs [(.agg [(.str a0_0), (.str a0_1)])] =
  (callB (kp E k n law07_alive []) fun vq2 => (bif (!vq2) then (some (.bool false)) else (callB (kp E k n law07_few [(.list 2 [(.agg [(.str a0_0), (.str a0_1)])])]) fun vq4 => (bif (!vq4) then (some (.bool true)) else (callB (kp E k n pax_Right [(.agg [(.str a0_0), (.str a0_1)])]) fun vq6 => (callB (kp E k n ref07_Right [(.agg [(.str a0_0), (.str a0_1)])]) fun vq8 => (bif (vq6 == vq8) then (callB (kp E k n pax_Known [(.str a0_0)]) fun vq10 => (callI .i64 (kp E k n ref07_Which [(.str a0_0)]) fun vn12 => (bif (vq10 == (decide (vn12 ≥ (0 : Int)))) then (callI .i64 (kp E k n pax_Len [(.agg [(.str a0_0), (.str a0_1)])]) fun vn14 => (callI .i64 (kp E k n ref07_Len [(.agg [(.str a0_0), (.str a0_1)])]) fun vn16 => (some (.bool (decide (vn14 = vn16)))))) else (some (.bool false))))) else (some (.bool false))))))))) := (kp_at (by kernel_rfl)).trans (by kernel_rfl)
/- oakum/oakumlaw08.OverApplies -/
theorem law08_OverApplies_eq {E : Ext} [Core E] (k n : Nat) (a0_0 : Int) (a0_1 : ByteArray) (a0_2 : ByteArray) (a0_3 : Int) (a0_4 : Int) (a0_5 : Int) (a0_6 : Int) (a0_7 : Int) (a0_8 : Int) (a0_9 : ByteArray) (a0_10 : ByteArray) (a0_11 : Int) (a0_12 : Int) (a0_13 : List AV) (a1 : List AV) : kp E k (n + 1) law08_OverApplies [(.agg [(.int .i64 a0_0), (.str a0_1), (.str a0_2), (.int .i64 a0_3), (.int .i64 a0_4), (.int .i64 a0_5), (.int .i64 a0_6), (.int .i64 a0_7), (.int .i64 a0_8), (.str a0_9), (.str a0_10), (.int .i64 a0_11), (.int .i64 a0_12), (.list 2 a0_13)]), (.list 2 a1)] =
  (callB (kp E k n law08_alive []) fun vq2 => (bif (!vq2) then (some (.bool false)) else (callB (kp E k n law08_few [(.list 2 a1)]) fun vq4 => (bif (!vq4) then (some (.bool true)) else (callB (kp E k n law08_few [(.list 2 a0_13)]) fun vq6 => (bif (!vq6) then (some (.bool true)) else (callT (kp E k n over_Apply [(.agg [(.int .i64 a0_0), (.str a0_1), (.str a0_2), (.int .i64 a0_3), (.int .i64 a0_4), (.int .i64 a0_5), (.int .i64 a0_6), (.int .i64 a0_7), (.int .i64 a0_8), (.str a0_9), (.str a0_10), (.int .i64 a0_11), (.int .i64 a0_12), (.list 2 a0_13)]), (.list 2 a1)]) fun vt8 => (tupG 14 vt8 fun vg9 vt10 => (cellI .i64 vg9 0 fun vn11 => (cellS vg9 1 fun vs12 => (cellS vg9 2 fun vs13 => (cellI .i64 vg9 3 fun vn14 => (cellI .i64 vg9 4 fun vn15 => (cellI .i64 vg9 5 fun vn16 => (cellI .i64 vg9 6 fun vn17 => (cellI .i64 vg9 7 fun vn18 => (cellI .i64 vg9 8 fun vn19 => (cellS vg9 9 fun vs20 => (cellS vg9 10 fun vs21 => (cellI .i64 vg9 11 fun vn22 => (cellI .i64 vg9 12 fun vn23 => (cellL 2 vg9 13 fun vl24 => (tupI .u8 vt10 fun vn25 vt26 => (atNil vt26 (callB (kp E k n ref08_Right [(.list 2 a1)]) fun vq28 => (bif (!vq28) then (bif (decide ((IntKind.wrap .i64 vn25) = (15 : Int))) then (callB (kp E k n ref08_SameHead [(.agg [(.int .i64 vn11), (.str vs12), (.str vs13), (.int .i64 vn14), (.int .i64 vn15), (.int .i64 vn16), (.int .i64 vn17), (.int .i64 vn18), (.int .i64 vn19), (.str vs20), (.str vs21), (.int .i64 vn22), (.int .i64 vn23), (.list 2 vl24)]), (.agg [(.int .i64 (0 : Int)), (.str (str [])), (.str (str [])), (.int .i64 (0 : Int)), (.int .i64 (0 : Int)), (.int .i64 (0 : Int)), (.int .i64 (0 : Int)), (.int .i64 (0 : Int)), (.int .i64 (0 : Int)), (.str (str [])), (.str (str [])), (.int .i64 (0 : Int)), (.int .i64 (0 : Int)), (.list 2 [])])]) fun vq30 => (some (.bool vq30))) else (some (.bool false))) else (bif (decide ((IntKind.wrap .i64 vn25) = (0 : Int))) then (callG 14 (kp E k n ref08_Apply [(.agg [(.int .i64 a0_0), (.str a0_1), (.str a0_2), (.int .i64 a0_3), (.int .i64 a0_4), (.int .i64 a0_5), (.int .i64 a0_6), (.int .i64 a0_7), (.int .i64 a0_8), (.str a0_9), (.str a0_10), (.int .i64 a0_11), (.int .i64 a0_12), (.list 2 a0_13)]), (.list 2 a1)]) fun vg32 => (cellI .i64 vg32 0 fun vn33 => (cellS vg32 1 fun vs34 => (cellS vg32 2 fun vs35 => (cellI .i64 vg32 3 fun vn36 => (cellI .i64 vg32 4 fun vn37 => (cellI .i64 vg32 5 fun vn38 => (cellI .i64 vg32 6 fun vn39 => (cellI .i64 vg32 7 fun vn40 => (cellI .i64 vg32 8 fun vn41 => (cellS vg32 9 fun vs42 => (cellS vg32 10 fun vs43 => (cellI .i64 vg32 11 fun vn44 => (cellI .i64 vg32 12 fun vn45 => (cellL 2 vg32 13 fun vl46 => (callB (kp E k n ref08_SameHead [(.agg [(.int .i64 vn11), (.str vs12), (.str vs13), (.int .i64 vn14), (.int .i64 vn15), (.int .i64 vn16), (.int .i64 vn17), (.int .i64 vn18), (.int .i64 vn19), (.str vs20), (.str vs21), (.int .i64 vn22), (.int .i64 vn23), (.list 2 vl24)]), (.agg [(.int .i64 vn33), (.str vs34), (.str vs35), (.int .i64 vn36), (.int .i64 vn37), (.int .i64 vn38), (.int .i64 vn39), (.int .i64 vn40), (.int .i64 vn41), (.str vs42), (.str vs43), (.int .i64 vn44), (.int .i64 vn45), (.list 2 vl46)])]) fun vq48 => (some (.bool vq48)))))))))))))))))) else (some (.bool false))))))))))))))))))))))))))))) := (kp_at (by kernel_rfl)).trans (by kernel_rfl)
/- oakum/oakumref09.Fulls -/
theorem ref09_Fulls_eq {E : Ext} [Core E] (k n : Nat) (a0_0 : Int) (a0_1 : ByteArray) (a0_2 : ByteArray) (a0_3 : Int) (a0_4 : Int) (a0_5 : Int) (a0_6 : Int) (a0_7 : Int) (a0_8 : Int) (a0_9 : ByteArray) (a0_10 : ByteArray) (a0_11 : Int) (a0_12 : Int) (a0_13 : List AV) : kp E k (n + 1) ref09_Fulls [(.agg [(.int .i64 a0_0), (.str a0_1), (.str a0_2), (.int .i64 a0_3), (.int .i64 a0_4), (.int .i64 a0_5), (.int .i64 a0_6), (.int .i64 a0_7), (.int .i64 a0_8), (.str a0_9), (.str a0_10), (.int .i64 a0_11), (.int .i64 a0_12), (.list 2 a0_13)])] =
  (bif (!(decide (a0_0 = (6 : Int)))) then (some (.list 1 [(.str a0_1)])) else (callB (kp E k n ref09_Slash [(.str a0_1)]) fun vq2 => (bif vq2 then (bif (!(decide (a0_1 = (str [47])))) then (bif (decide ((ByteArray.size a0_1) + 1 ≤ 9223372036854775807)) then (some (.list 1 [(.str (a0_1 ++ (str [47])))])) else none) else (bif (decide ((ByteArray.size a0_1) + 1 ≤ 9223372036854775807)) then (some (.list 1 [(.str a0_1), (.str (a0_1 ++ (str [47])))])) else none)) else (bif (decide ((ByteArray.size a0_1) + 1 ≤ 9223372036854775807)) then (some (.list 1 [(.str a0_1), (.str (a0_1 ++ (str [47])))])) else none)))) := (kp_at (by kernel_rfl)).trans (by kernel_rfl)
/- oakum/oakumref09.Wrong -/
noncomputable def ref09_Wrong_bd : Code := Tryz.f14.body.getD .skip
noncomputable def ref09_Wrong_L0 (kap : FuncId → List AV → Option AV) (k : Nat) (k0 : Nat) (s4 : Int) (b3_0 : Bool) (b3_1 : Bool) (b3_2 : Bool) (b3_3 : Bool) (b3_4 : Bool) (b3_5 : Bool) (b3_6 : Bool) (b3_7 : Bool) (b3_8 : Bool) (b3_9 : Bool) (b3_10 : Bool) (b3_11 : Bool) (b3_12 : Bool) (b3_13 : Bool) : Option AV :=
  loop (fun fr K => code ((bs E0 k).cfg kap ref09_Wrong) (sel ref09_Wrong_bd [1, 1, 0, 1, 0, 0]) fr K) (canon ((bs E0 k).cfg kap ref09_Wrong) (firstReg (sel ref09_Wrong_bd [1, 1, 0, 1, 0, 0]))) k0 (mkFr 16 [(3, (.loc 3 0)), (4, (.int .i64 s4))] [(3, (.box [(.bool b3_0), (.bool b3_1), (.bool b3_2), (.bool b3_3), (.bool b3_4), (.bool b3_5), (.bool b3_6), (.bool b3_7), (.bool b3_8), (.bool b3_9), (.bool b3_10), (.bool b3_11), (.bool b3_12), (.bool b3_13)]))]) (plug ((bs E0 k).cfg kap ref09_Wrong) (retK ((bs E0 k).cfg kap ref09_Wrong) [] Tryz.f14 [] some) [.blk 0, .seqR (sel ref09_Wrong_bd [1, 1, 1])])
theorem ref09_Wrong_L0_s (kap : FuncId → List AV → Option AV) (k : Nat) (k0 : Nat) (s4 : Int) (b3_0 : Bool) (b3_1 : Bool) (b3_2 : Bool) (b3_3 : Bool) (b3_4 : Bool) (b3_5 : Bool) (b3_6 : Bool) (b3_7 : Bool) (b3_8 : Bool) (b3_9 : Bool) (b3_10 : Bool) (b3_11 : Bool) (b3_12 : Bool) (b3_13 : Bool) : ref09_Wrong_L0 kap k (k0 + 1) s4 b3_0 b3_1 b3_2 b3_3 b3_4 b3_5 b3_6 b3_7 b3_8 b3_9 b3_10 b3_11 b3_12 b3_13 =
  (bif (decide (s4 < (14 : Int))) then (bif ((decide ((0 : Int) ≤ s4)) && (decide (s4 < (14 : Int)))) then (cellB [(.bool b3_0), (.bool b3_1), (.bool b3_2), (.bool b3_3), (.bool b3_4), (.bool b3_5), (.bool b3_6), (.bool b3_7), (.bool b3_8), (.bool b3_9), (.bool b3_10), (.bool b3_11), (.bool b3_12), (.bool b3_13)] (0 + (Int.toNat s4) * 1) fun vq17 => (bif (!vq17) then (some (.int .i64 s4)) else (ref09_Wrong_L0 kap k k0 (IntKind.wrap .i64 (s4 + (1 : Int))) b3_0 b3_1 b3_2 b3_3 b3_4 b3_5 b3_6 b3_7 b3_8 b3_9 b3_10 b3_11 b3_12 b3_13))) else none) else (some (.int .i64 (0 : Int)))) := by kernel_rfl
theorem ref09_Wrong_eq {E : Ext} [Core E] (k n : Nat) (a0_0 : Int) (a0_1 : ByteArray) (a0_2 : ByteArray) (a0_3 : Int) (a0_4 : Int) (a0_5 : Int) (a0_6 : Int) (a0_7 : Int) (a0_8 : Int) (a0_9 : ByteArray) (a0_10 : ByteArray) (a0_11 : Int) (a0_12 : Int) (a0_13 : List AV) : kp E k (n + 1) ref09_Wrong [(.agg [(.int .i64 a0_0), (.str a0_1), (.str a0_2), (.int .i64 a0_3), (.int .i64 a0_4), (.int .i64 a0_5), (.int .i64 a0_6), (.int .i64 a0_7), (.int .i64 a0_8), (.str a0_9), (.str a0_10), (.int .i64 a0_11), (.int .i64 a0_12), (.list 2 a0_13)])] =
  (callG 14 (kp E k n ref09_fields [(.agg [(.int .i64 a0_0), (.str a0_1), (.str a0_2), (.int .i64 a0_3), (.int .i64 a0_4), (.int .i64 a0_5), (.int .i64 a0_6), (.int .i64 a0_7), (.int .i64 a0_8), (.str a0_9), (.str a0_10), (.int .i64 a0_11), (.int .i64 a0_12), (.list 2 a0_13)])]) fun vg2 => (cellB vg2 0 fun vq3 => (cellB vg2 1 fun vq4 => (cellB vg2 2 fun vq5 => (cellB vg2 3 fun vq6 => (cellB vg2 4 fun vq7 => (cellB vg2 5 fun vq8 => (cellB vg2 6 fun vq9 => (cellB vg2 7 fun vq10 => (cellB vg2 8 fun vq11 => (cellB vg2 9 fun vq12 => (cellB vg2 10 fun vq13 => (cellB vg2 11 fun vq14 => (cellB vg2 12 fun vq15 => (cellB vg2 13 fun vq16 => (ref09_Wrong_L0 (kp E k n) k k (1 : Int) vq3 vq4 vq5 vq6 vq7 vq8 vq9 vq10 vq11 vq12 vq13 vq14 vq15 vq16)))))))))))))))) := (kp_at (by kernel_rfl)).trans (by kernel_rfl)
/- oakum/oakumref09.Right -/
theorem ref09_Right_eq {E : Ext} [Core E] (k n : Nat) (a0_0 : Int) (a0_1 : ByteArray) (a0_2 : ByteArray) (a0_3 : Int) (a0_4 : Int) (a0_5 : Int) (a0_6 : Int) (a0_7 : Int) (a0_8 : Int) (a0_9 : ByteArray) (a0_10 : ByteArray) (a0_11 : Int) (a0_12 : Int) (a0_13 : List AV) (a0_14 : List AV) : kp E k (n + 1) ref09_Right [(.agg [(.int .i64 a0_0), (.str a0_1), (.str a0_2), (.int .i64 a0_3), (.int .i64 a0_4), (.int .i64 a0_5), (.int .i64 a0_6), (.int .i64 a0_7), (.int .i64 a0_8), (.str a0_9), (.str a0_10), (.int .i64 a0_11), (.int .i64 a0_12), (.list 2 a0_13), (.list 1 a0_14)])] =
  (callI .i64 (kp E k n ref09_Wrong [(.agg [(.int .i64 a0_0), (.str a0_1), (.str a0_2), (.int .i64 a0_3), (.int .i64 a0_4), (.int .i64 a0_5), (.int .i64 a0_6), (.int .i64 a0_7), (.int .i64 a0_8), (.str a0_9), (.str a0_10), (.int .i64 a0_11), (.int .i64 a0_12), (.list 2 a0_13)])]) fun vn2 => (bif (decide (vn2 = (0 : Int))) then (some (.bool (decide (a0_6 = (((List.length a0_14) : Nat) : Int))))) else (some (.bool false)))) := (kp_at (by kernel_rfl)).trans (by kernel_rfl)
/- oakum/oakumlaw07.alive -/
theorem law07_alive_eq {E : Ext} [Core E] (k n : Nat)  : kp E k (n + 1) law07_alive [] =
  (callT (kp E k n pax_Print [(.list 2 [(.agg [(.str (str [112, 97, 116, 104])), (.str (str [97]))])])]) fun vt2 => (tupL 1 vt2 fun vl3 vt4 => (tupI .u8 vt4 fun vn5 vt6 => (atNil vt6 (callT (kp E k n pax_Parse [(.list 1 [(.int .u8 (49 : Int)), (.int .u8 (48 : Int)), (.int .u8 (32 : Int)), (.int .u8 (112 : Int)), (.int .u8 (97 : Int)), (.int .u8 (116 : Int)), (.int .u8 (104 : Int)), (.int .u8 (61 : Int)), (.int .u8 (97 : Int)), (.int .u8 (10 : Int))])]) fun vt8 => (tupL 2 vt8 fun vl9 vt10 => (tupI .u8 vt10 fun vn11 vt12 => (atNil vt12 (bif (decide ((IntKind.wrap .i64 ((IntKind.wrap .i64 vn5) + (IntKind.wrap .i64 vn11))) = (0 : Int))) then ((toBytes vl3).bind fun vl13 => (bif (decide ((str vl13) = (str [57, 32, 112, 97, 116, 104, 61, 97, 10]))) then (bif (decide ((((List.length vl9) : Nat) : Int) = (1 : Int))) then (bif (decide ((0 : Int) < (((List.length vl9) : Nat) : Int))) then ((vl9[0]?).bind fun vy14 => (cellS (AV.cells vy14) 0 fun vs15 => (cellS (AV.cells vy14) 1 fun vs16 => (some (.bool ((decide (vs15 = (str [112, 97, 116, 104]))) && ((decide (vs16 = (str [97]))) && true))))))) else none) else (some (.bool false))) else (some (.bool false)))) else (some (.bool false))))))))))) := (kp_at (by kernel_rfl)).trans (by kernel_rfl)
/- oakum/oakumlaw07.few -/
noncomputable def law07_few_bd : Code := Tryz.f18.body.getD .skip
noncomputable def law07_few_L0 (kap : FuncId → List AV → Option AV) (k : Nat) (k0 : Nat) (s0 : List AV) (s3 : Int) (s4 : Int) : Option AV :=
  loop (fun fr K => code ((bs E0 k).cfg kap law07_few) (sel law07_few_bd [1, 1, 0, 1, 0, 0]) fr K) (canon ((bs E0 k).cfg kap law07_few) (firstReg (sel law07_few_bd [1, 1, 0, 1, 0, 0]))) k0 (mkFr 33 [(0, (.list 2 s0)), (3, (.int .i64 s3)), (4, (.int .i64 s4))] []) (plug ((bs E0 k).cfg kap law07_few) (retK ((bs E0 k).cfg kap law07_few) [] Tryz.f18 [] some) [.blk 0, .seqR (sel law07_few_bd [1, 1, 1])])
theorem law07_few_L0_s (kap : FuncId → List AV → Option AV) (k : Nat) (k0 : Nat) (s0 : List AV) (s3 : Int) (s4 : Int) : law07_few_L0 kap k (k0 + 1) s0 s3 s4 =
  (bif (decide (s4 < (((List.length s0) : Nat) : Int))) then (bif ((decide ((0 : Int) ≤ s4)) && (decide (s4 < (((List.length s0) : Nat) : Int)))) then ((s0[(Int.toNat s4)]?).bind fun vy1 => (cellS (AV.cells vy1) 0 fun vs2 => (bif ((decide ((0 : Int) ≤ s4)) && (decide (s4 < (((List.length s0) : Nat) : Int)))) then ((s0[(Int.toNat s4)]?).bind fun vy3 => (cellS (AV.cells vy3) 1 fun vs4 => (law07_few_L0 kap k k0 s0 (IntKind.wrap .i64 ((IntKind.wrap .i64 (s3 + (((ByteArray.size vs2) : Nat) : Int))) + (((ByteArray.size vs4) : Nat) : Int))) (IntKind.wrap .i64 (s4 + (1 : Int)))))) else none))) else none) else (bif (decide ((((List.length s0) : Nat) : Int) ≤ (50 : Int))) then (some (.bool (decide (s3 ≤ (3000 : Int))))) else (some (.bool false)))) := by kernel_rfl
theorem law07_few_eq {E : Ext} [Core E] (k n : Nat) (a0 : List AV) : kp E k (n + 1) law07_few [(.list 2 a0)] =
  (law07_few_L0 (kp E k n) k k a0 (0 : Int) (0 : Int)) := (kp_at (by kernel_rfl)).trans (by kernel_rfl)
/- oakum/oakumref07.Right -/
noncomputable def ref07_Right_bd : Code := Tryz.f20.body.getD .skip
noncomputable def ref07_Right_L0 (kap : FuncId → List AV → Option AV) (k : Nat) (k0 : Nat) (s3 : Int) (b1_0 : ByteArray) (b1_1 : ByteArray) : Option AV :=
  loop (fun fr K => code ((bs E0 k).cfg kap ref07_Right) (sel ref07_Right_bd [1, 1, 0, 1, 0, 0]) fr K) (canon ((bs E0 k).cfg kap ref07_Right) (firstReg (sel ref07_Right_bd [1, 1, 0, 1, 0, 0]))) k0 (mkFr 73 [(1, (.loc 1 0)), (3, (.int .i64 s3))] [(1, (.box [(.str b1_0), (.str b1_1)]))]) (plug ((bs E0 k).cfg kap ref07_Right) (retK ((bs E0 k).cfg kap ref07_Right) [] Tryz.f20 [] some) [.blk 0, .seqR (sel ref07_Right_bd [1, 1, 1])])
theorem ref07_Right_L0_s (kap : FuncId → List AV → Option AV) (k : Nat) (k0 : Nat) (s3 : Int) (b1_0 : ByteArray) (b1_1 : ByteArray) : ref07_Right_L0 kap k (k0 + 1) s3 b1_0 b1_1 =
  (bif (decide (s3 < (((ByteArray.size b1_0) : Nat) : Int))) then (bif ((decide ((0 : Int) ≤ s3)) && (decide (s3 < (((ByteArray.size b1_0) : Nat) : Int)))) then (bif (decide ((byteAt b1_0 (Int.toNat s3)) = (61 : Int))) then (some (.bool false)) else (ref07_Right_L0 kap k k0 (IntKind.wrap .i64 (s3 + (1 : Int))) b1_0 b1_1)) else none) else (callI .i64 (kap ref07_Which [(.str b1_0)]) fun vn8 => (bif (decide (b1_1 = (str []))) then (some (.bool true)) else (bif (decide (vn8 < (0 : Int))) then (some (.bool true)) else (bif (decide (vn8 < (4 : Int))) then (callB (kap ref02_Clean [(.str b1_1)]) fun vq10 => (some (.bool vq10))) else (bif (decide (vn8 < (7 : Int))) then (callT (kap ref04_Number [(.str b1_1)]) fun vt12 => (tupI .i64 vt12 fun vn13 vt14 => (tupB vt14 fun vq15 vt16 => (atNil vt16 (some (.bool vq15)))))) else (callT (kap ref04_Time [(.str b1_1)]) fun vt18 => (tupG 2 vt18 fun vg19 vt20 => (cellI .i64 vg19 0 fun vn21 => (cellI .i64 vg19 1 fun vn22 => (tupB vt20 fun vq23 vt24 => (atNil vt24 (some (.bool vq23)))))))))))))) := by kernel_rfl
theorem ref07_Right_eq {E : Ext} [Core E] (k n : Nat) (a0_0 : ByteArray) (a0_1 : ByteArray) : kp E k (n + 1) ref07_Right [(.agg [(.str a0_0), (.str a0_1)])] =
  (bif (decide (a0_0 = (str []))) then (some (.bool false)) else (callI .i64 (kp E k n ref05_First [(.str a0_0)]) fun vn2 => (bif (decide (vn2 ≥ (0 : Int))) then (some (.bool false)) else (callI .i64 (kp E k n ref05_First [(.str a0_1)]) fun vn4 => (bif (decide (vn4 ≥ (0 : Int))) then (some (.bool false)) else (callB (kp E k n ref02_Clean [(.str a0_0)]) fun vq6 => (bif (!vq6) then (some (.bool false)) else (ref07_Right_L0 (kp E k n) k k (0 : Int) a0_0 a0_1)))))))) := (kp_at (by kernel_rfl)).trans (by kernel_rfl)
/- oakum/oakumref01.Same -/
theorem ref01_Same_eq {E : Ext} [Core E] (k n : Nat) (a0 : List AV) (a1 : List AV) : kp E k (n + 1) ref01_Same [(.list 1 a0), (.list 1 a1)] =
  ((toBytes a0).bind fun vl1 => ((toBytes a1).bind fun vl2 => (some (.bool (decide ((str vl1) = (str vl2))))))) := (kp_at (by kernel_rfl)).trans (by kernel_rfl)
/- oakum/oakumref07.Print -/
noncomputable def ref07_Print_bd : Code := Tryz.f22.body.getD .skip
noncomputable def ref07_Print_L0 (kap : FuncId → List AV → Option AV) (k : Nat) (k0 : Nat) (s0 : List AV) (s4 : Int) (x3 : List AV) : Option AV :=
  loop (fun fr K => code ((bs E0 k).cfg kap ref07_Print) (sel ref07_Print_bd [1, 1, 0, 1, 0, 0]) fr K) (canon ((bs E0 k).cfg kap ref07_Print) (firstReg (sel ref07_Print_bd [1, 1, 0, 1, 0, 0]))) k0 (mkFr 19 [(0, (.list 2 s0)), (3, (.own 3)), (4, (.int .i64 s4))] [(3, (.row 5 x3 false))]) (plug ((bs E0 k).cfg kap ref07_Print) (retK ((bs E0 k).cfg kap ref07_Print) [] Tryz.f22 [] some) [.blk 0, .seqR (sel ref07_Print_bd [1, 1, 1])])
theorem ref07_Print_L0_s (kap : FuncId → List AV → Option AV) (k : Nat) (k0 : Nat) (s0 : List AV) (s4 : Int) (x3 : List AV) : ref07_Print_L0 kap k (k0 + 1) s0 s4 x3 =
  (bif (decide (s4 < (((List.length s0) : Nat) : Int))) then (bif ((decide ((0 : Int) ≤ s4)) && (decide (s4 < (((List.length s0) : Nat) : Int)))) then ((s0[(Int.toNat s4)]?).bind fun vy1 => (cellS (AV.cells vy1) 0 fun vs2 => (cellS (AV.cells vy1) 1 fun vs3 => (callL 1 (kap ref07_Record [(.agg [(.str vs2), (.str vs3)])]) fun vl5 => (bif (decide (((List.length x3) + (List.length vl5)) * 1 ≤ 140737488355328) && decide (((List.length x3) + (List.length vl5)) ≤ 9223372036854775807)) then (ref07_Print_L0 kap k k0 s0 (IntKind.wrap .i64 (s4 + (1 : Int))) (x3 ++ vl5)) else none))))) else none) else (some (.list 1 x3))) := by kernel_rfl
theorem ref07_Print_eq {E : Ext} [Core E] (k n : Nat) (a0 : List AV) : kp E k (n + 1) ref07_Print [(.list 2 a0)] =
  (ref07_Print_L0 (kp E k n) k k a0 (0 : Int) []) := (kp_at (by kernel_rfl)).trans (by kernel_rfl)
/- oakum/pax.Parse -/
noncomputable def pax_Parse_bd : Code := Tryz.f23.body.getD .skip
noncomputable def pax_Parse_L0 (kap : FuncId → List AV → Option AV) (k : Nat) (k0 : Nat) (s0 : List AV) (x4 : List AV) : Option AV :=
  loop (fun fr K => code ((bs E0 k).cfg kap pax_Parse) (sel pax_Parse_bd [1, 1, 0, 0, 0]) fr K) (canon ((bs E0 k).cfg kap pax_Parse) (firstReg (sel pax_Parse_bd [1, 1, 0, 0, 0]))) k0 (mkFr 25 [(0, (.list 1 s0)), (4, (.own 4))] [(4, (.row 42 x4 false))]) (plug ((bs E0 k).cfg kap pax_Parse) (retK ((bs E0 k).cfg kap pax_Parse) [] Tryz.f23 [] some) [.blk 0, .seqR (sel pax_Parse_bd [1, 1, 1])])
theorem pax_Parse_L0_s (kap : FuncId → List AV → Option AV) (k : Nat) (k0 : Nat) (s0 : List AV) (x4 : List AV) : pax_Parse_L0 kap k (k0 + 1) s0 x4 =
  (bif (decide ((((List.length s0) : Nat) : Int) > (0 : Int))) then (callT (kap pax_record [(.list 1 s0)]) fun vt2 => (tupG 2 vt2 fun vg3 vt4 => (cellS vg3 0 fun vs5 => (cellS vg3 1 fun vs6 => (tupI .i64 vt4 fun vn7 vt8 => (atNil vt8 (bif (decide (vn7 = (0 : Int))) then (some (.tup [(.list 2 []), (.int .u8 (6 : Int))])) else (bif (decide (((List.length x4) + 1) * 32 ≤ 140737488355328) && decide (((List.length x4) + 1) ≤ 9223372036854775807)) then (bif ((decide ((0 : Int) ≤ vn7)) && (decide (vn7 ≤ (((List.length s0) : Nat) : Int)))) then (pax_Parse_L0 kap k k0 (List.drop (Int.toNat vn7) (List.take (List.length s0) s0)) (x4 ++ [(.agg [(.str vs5), (.str vs6)])])) else none) else none)))))))) else (some (.tup [(.list 2 x4), (.int .u8 (0 : Int))]))) := by kernel_rfl
theorem pax_Parse_eq {E : Ext} [Core E] (k n : Nat) (a0 : List AV) : kp E k (n + 1) pax_Parse [(.list 1 a0)] =
  (pax_Parse_L0 (kp E k n) k k a0 []) := (kp_at (by kernel_rfl)).trans (by kernel_rfl)
/- oakum/oakumref07.Parse -/
noncomputable def ref07_Parse_bd : Code := Tryz.f24.body.getD .skip
noncomputable def ref07_Parse_L0 (kap : FuncId → List AV → Option AV) (k : Nat) (k0 : Nat) (s0 : List AV) (s5 : Int) (x4 : List AV) : Option AV :=
  loop (fun fr K => code ((bs E0 k).cfg kap ref07_Parse) (sel ref07_Parse_bd [1, 1, 0, 1, 0, 0]) fr K) (canon ((bs E0 k).cfg kap ref07_Parse) (firstReg (sel ref07_Parse_bd [1, 1, 0, 1, 0, 0]))) k0 (mkFr 110 [(0, (.list 1 s0)), (4, (.own 4)), (5, (.int .i64 s5))] [(4, (.row 42 x4 false))]) (plug ((bs E0 k).cfg kap ref07_Parse) (retK ((bs E0 k).cfg kap ref07_Parse) [] Tryz.f24 [] some) [.blk 0, .seqR (sel ref07_Parse_bd [1, 1, 1])])
noncomputable def ref07_Parse_L1 (kap : FuncId → List AV → Option AV) (k : Nat) (k0 : Nat) (k1 : Nat) (s0 : List AV) (s5 : Int) (s6 : Int) (x4 : List AV) : Option AV :=
  loop (fun fr K => code ((bs E0 k).cfg kap ref07_Parse) (sel ref07_Parse_bd [1, 1, 0, 1, 0, 0, 1, 0, 1, 0, 0, 0]) fr K) (canon ((bs E0 k).cfg kap ref07_Parse) (firstReg (sel ref07_Parse_bd [1, 1, 0, 1, 0, 0, 1, 0, 1, 0, 0, 0]))) k1 (mkFr 110 [(0, (.list 1 s0)), (4, (.own 4)), (5, (.int .i64 s5)), (6, (.int .i64 s6))] [(4, (.row 42 x4 false))]) (plug ((bs E0 k).cfg kap ref07_Parse) (retK ((bs E0 k).cfg kap ref07_Parse) [] Tryz.f24 [] some) [.blk 2, .seqR (sel ref07_Parse_bd [1, 1, 0, 1, 0, 0, 1, 0, 1, 1]), .blk 1, .lp (sel ref07_Parse_bd [1, 1, 0, 1, 0, 0]) k0, .blk 0, .seqR (sel ref07_Parse_bd [1, 1, 1])])
noncomputable def ref07_Parse_L2 (kap : FuncId → List AV → Option AV) (k : Nat) (k0 : Nat) (k2 : Nat) (s0 : List AV) (s6 : Int) (s9 : Int) (s10 : Int) (x4 : List AV) : Option AV :=
  loop (fun fr K => code ((bs E0 k).cfg kap ref07_Parse) (sel ref07_Parse_bd [1, 1, 0, 1, 0, 0, 1, 0, 1, 1, 1, 1, 1, 1, 1, 0, 0, 0]) fr K) (canon ((bs E0 k).cfg kap ref07_Parse) (firstReg (sel ref07_Parse_bd [1, 1, 0, 1, 0, 0, 1, 0, 1, 1, 1, 1, 1, 1, 1, 0, 0, 0]))) k2 (mkFr 110 [(0, (.list 1 s0)), (4, (.own 4)), (6, (.int .i64 s6)), (9, (.int .i64 s9)), (10, (.int .i64 s10))] [(4, (.row 42 x4 false))]) (plug ((bs E0 k).cfg kap ref07_Parse) (retK ((bs E0 k).cfg kap ref07_Parse) [] Tryz.f24 [] some) [.blk 4, .seqR (sel ref07_Parse_bd [1, 1, 0, 1, 0, 0, 1, 0, 1, 1, 1, 1, 1, 1, 1, 1]), .blk 1, .lp (sel ref07_Parse_bd [1, 1, 0, 1, 0, 0]) k0, .blk 0, .seqR (sel ref07_Parse_bd [1, 1, 1])])
theorem ref07_Parse_L0_s (kap : FuncId → List AV → Option AV) (k : Nat) (k0 : Nat) (s0 : List AV) (s5 : Int) (x4 : List AV) : ref07_Parse_L0 kap k (k0 + 1) s0 s5 x4 =
  (bif (decide (s5 < (((List.length s0) : Nat) : Int))) then (ref07_Parse_L1 kap k k0 k s0 s5 s5 x4) else (some (.tup [(.list 2 x4), (.bool true)]))) := by kernel_rfl
theorem ref07_Parse_L1_s (kap : FuncId → List AV → Option AV) (k : Nat) (k0 : Nat) (k1 : Nat) (s0 : List AV) (s5 : Int) (s6 : Int) (x4 : List AV) : ref07_Parse_L1 kap k k0 (k1 + 1) s0 s5 s6 x4 =
  (bif (decide (s6 < (((List.length s0) : Nat) : Int))) then (bif ((decide ((0 : Int) ≤ s6)) && (decide (s6 < (((List.length s0) : Nat) : Int)))) then ((s0[(Int.toNat s6)]?).bind fun vy1 => (cellI .u8 (AV.cells vy1) 0 fun vn2 => (bif (!(decide (vn2 = (32 : Int)))) then (ref07_Parse_L1 kap k k0 k1 s0 s5 (IntKind.wrap .i64 (s6 + (1 : Int))) x4) else (bif (decide ((IntKind.wrap .i64 (s6 - s5)) > (8 : Int))) then (some (.tup [(.list 2 []), (.bool false)])) else (bif ((decide ((0 : Int) ≤ s6)) && (decide (s6 ≤ (((List.length s0) : Nat) : Int)))) then (bif ((decide ((0 : Int) ≤ s5)) && (decide (s5 ≤ (((Int.toNat s6) : Nat) : Int)))) then ((toBytes (List.drop (Int.toNat s5) (List.take (Int.toNat s6) s0))).bind fun vl3 => (callT (kap ref04_Number [(.str (str vl3))]) fun vt5 => (tupI .i64 vt5 fun vn6 vt7 => (tupB vt7 fun vq8 vt9 => (atNil vt9 (bif (!vq8) then (some (.tup [(.list 2 []), (.bool false)])) else (bif (decide ((IntKind.wrap .i64 (s5 + vn6)) > (((List.length s0) : Nat) : Int))) then (some (.tup [(.list 2 []), (.bool false)])) else (bif (decide ((IntKind.wrap .i64 (s5 + vn6)) < (IntKind.wrap .i64 (s6 + (2 : Int))))) then (some (.tup [(.list 2 []), (.bool false)])) else (bif ((decide ((0 : Int) ≤ (IntKind.wrap .i64 ((IntKind.wrap .i64 (s5 + vn6)) - (1 : Int))))) && (decide ((IntKind.wrap .i64 ((IntKind.wrap .i64 (s5 + vn6)) - (1 : Int))) < (((List.length s0) : Nat) : Int)))) then ((s0[(Int.toNat (IntKind.wrap .i64 ((IntKind.wrap .i64 (s5 + vn6)) - (1 : Int))))]?).bind fun vy10 => (cellI .u8 (AV.cells vy10) 0 fun vn11 => (bif (!(decide (vn11 = (10 : Int)))) then (some (.tup [(.list 2 []), (.bool false)])) else (ref07_Parse_L2 kap k k0 k s0 s6 (IntKind.wrap .i64 (s5 + vn6)) (IntKind.wrap .i64 (s6 + (1 : Int))) x4)))) else none))))))))) else none) else none))))) else none) else (bif (decide ((IntKind.wrap .i64 (s6 - s5)) > (8 : Int))) then (some (.tup [(.list 2 []), (.bool false)])) else (bif ((decide ((0 : Int) ≤ s6)) && (decide (s6 ≤ (((List.length s0) : Nat) : Int)))) then (bif ((decide ((0 : Int) ≤ s5)) && (decide (s5 ≤ (((Int.toNat s6) : Nat) : Int)))) then ((toBytes (List.drop (Int.toNat s5) (List.take (Int.toNat s6) s0))).bind fun vl22 => (callT (kap ref04_Number [(.str (str vl22))]) fun vt24 => (tupI .i64 vt24 fun vn25 vt26 => (tupB vt26 fun vq27 vt28 => (atNil vt28 (bif (!vq27) then (some (.tup [(.list 2 []), (.bool false)])) else (bif (decide ((IntKind.wrap .i64 (s5 + vn25)) > (((List.length s0) : Nat) : Int))) then (some (.tup [(.list 2 []), (.bool false)])) else (bif (decide ((IntKind.wrap .i64 (s5 + vn25)) < (IntKind.wrap .i64 (s6 + (2 : Int))))) then (some (.tup [(.list 2 []), (.bool false)])) else (bif ((decide ((0 : Int) ≤ (IntKind.wrap .i64 ((IntKind.wrap .i64 (s5 + vn25)) - (1 : Int))))) && (decide ((IntKind.wrap .i64 ((IntKind.wrap .i64 (s5 + vn25)) - (1 : Int))) < (((List.length s0) : Nat) : Int)))) then ((s0[(Int.toNat (IntKind.wrap .i64 ((IntKind.wrap .i64 (s5 + vn25)) - (1 : Int))))]?).bind fun vy29 => (cellI .u8 (AV.cells vy29) 0 fun vn30 => (bif (!(decide (vn30 = (10 : Int)))) then (some (.tup [(.list 2 []), (.bool false)])) else (ref07_Parse_L2 kap k k0 k s0 s6 (IntKind.wrap .i64 (s5 + vn25)) (IntKind.wrap .i64 (s6 + (1 : Int))) x4)))) else none))))))))) else none) else none))) := by kernel_rfl
theorem ref07_Parse_L2_s (kap : FuncId → List AV → Option AV) (k : Nat) (k0 : Nat) (k2 : Nat) (s0 : List AV) (s6 : Int) (s9 : Int) (s10 : Int) (x4 : List AV) : ref07_Parse_L2 kap k k0 (k2 + 1) s0 s6 s9 s10 x4 =
  (bif (decide (s10 < (IntKind.wrap .i64 (s9 - (1 : Int))))) then (bif ((decide ((0 : Int) ≤ s10)) && (decide (s10 < (((List.length s0) : Nat) : Int)))) then ((s0[(Int.toNat s10)]?).bind fun vy12 => (cellI .u8 (AV.cells vy12) 0 fun vn13 => (bif (!(decide (vn13 = (61 : Int)))) then (ref07_Parse_L2 kap k k0 k2 s0 s6 s9 (IntKind.wrap .i64 (s10 + (1 : Int))) x4) else (bif (decide (s10 ≥ (IntKind.wrap .i64 (s9 - (1 : Int))))) then (some (.tup [(.list 2 []), (.bool false)])) else (bif ((decide ((0 : Int) ≤ s10)) && (decide (s10 ≤ (((List.length s0) : Nat) : Int)))) then (bif ((decide ((0 : Int) ≤ (IntKind.wrap .i64 (s6 + (1 : Int))))) && (decide ((IntKind.wrap .i64 (s6 + (1 : Int))) ≤ (((Int.toNat s10) : Nat) : Int)))) then ((toBytes (List.drop (Int.toNat (IntKind.wrap .i64 (s6 + (1 : Int)))) (List.take (Int.toNat s10) s0))).bind fun vl14 => (bif ((decide ((0 : Int) ≤ (IntKind.wrap .i64 (s9 - (1 : Int))))) && (decide ((IntKind.wrap .i64 (s9 - (1 : Int))) ≤ (((List.length s0) : Nat) : Int)))) then (bif ((decide ((0 : Int) ≤ (IntKind.wrap .i64 (s10 + (1 : Int))))) && (decide ((IntKind.wrap .i64 (s10 + (1 : Int))) ≤ (((Int.toNat (IntKind.wrap .i64 (s9 - (1 : Int)))) : Nat) : Int)))) then ((toBytes (List.drop (Int.toNat (IntKind.wrap .i64 (s10 + (1 : Int)))) (List.take (Int.toNat (IntKind.wrap .i64 (s9 - (1 : Int)))) s0))).bind fun vl15 => (callB (kap ref07_Right [(.agg [(.str (str vl14)), (.str (str vl15))])]) fun vq17 => (bif (!vq17) then (some (.tup [(.list 2 []), (.bool false)])) else (bif (decide (((List.length x4) + 1) * 32 ≤ 140737488355328) && decide (((List.length x4) + 1) ≤ 9223372036854775807)) then (ref07_Parse_L0 kap k k0 s0 s9 (x4 ++ [(.agg [(.str (str vl14)), (.str (str vl15))])])) else none)))) else none) else none)) else none) else none))))) else none) else (bif (decide (s10 ≥ (IntKind.wrap .i64 (s9 - (1 : Int))))) then (some (.tup [(.list 2 []), (.bool false)])) else (bif ((decide ((0 : Int) ≤ s10)) && (decide (s10 ≤ (((List.length s0) : Nat) : Int)))) then (bif ((decide ((0 : Int) ≤ (IntKind.wrap .i64 (s6 + (1 : Int))))) && (decide ((IntKind.wrap .i64 (s6 + (1 : Int))) ≤ (((Int.toNat s10) : Nat) : Int)))) then ((toBytes (List.drop (Int.toNat (IntKind.wrap .i64 (s6 + (1 : Int)))) (List.take (Int.toNat s10) s0))).bind fun vl18 => (bif ((decide ((0 : Int) ≤ (IntKind.wrap .i64 (s9 - (1 : Int))))) && (decide ((IntKind.wrap .i64 (s9 - (1 : Int))) ≤ (((List.length s0) : Nat) : Int)))) then (bif ((decide ((0 : Int) ≤ (IntKind.wrap .i64 (s10 + (1 : Int))))) && (decide ((IntKind.wrap .i64 (s10 + (1 : Int))) ≤ (((Int.toNat (IntKind.wrap .i64 (s9 - (1 : Int)))) : Nat) : Int)))) then ((toBytes (List.drop (Int.toNat (IntKind.wrap .i64 (s10 + (1 : Int)))) (List.take (Int.toNat (IntKind.wrap .i64 (s9 - (1 : Int)))) s0))).bind fun vl19 => (callB (kap ref07_Right [(.agg [(.str (str vl18)), (.str (str vl19))])]) fun vq21 => (bif (!vq21) then (some (.tup [(.list 2 []), (.bool false)])) else (bif (decide (((List.length x4) + 1) * 32 ≤ 140737488355328) && decide (((List.length x4) + 1) ≤ 9223372036854775807)) then (ref07_Parse_L0 kap k k0 s0 s9 (x4 ++ [(.agg [(.str (str vl18)), (.str (str vl19))])])) else none)))) else none) else none)) else none) else none))) := by kernel_rfl
theorem ref07_Parse_eq {E : Ext} [Core E] (k n : Nat) (a0 : List AV) : kp E k (n + 1) ref07_Parse [(.list 1 a0)] =
  (ref07_Parse_L0 (kp E k n) k k a0 (0 : Int) []) := (kp_at (by kernel_rfl)).trans (by kernel_rfl)
/- oakum/oakumref07.Same -/
noncomputable def ref07_Same_bd : Code := Tryz.f25.body.getD .skip
noncomputable def ref07_Same_L0 (kap : FuncId → List AV → Option AV) (k : Nat) (k0 : Nat) (s0 : List AV) (s1 : List AV) (s5 : Int) : Option AV :=
  loop (fun fr K => code ((bs E0 k).cfg kap ref07_Same) (sel ref07_Same_bd [1, 1, 0, 1, 0, 0]) fr K) (canon ((bs E0 k).cfg kap ref07_Same) (firstReg (sel ref07_Same_bd [1, 1, 0, 1, 0, 0]))) k0 (mkFr 26 [(0, (.list 2 s0)), (1, (.list 2 s1)), (5, (.int .i64 s5))] []) (plug ((bs E0 k).cfg kap ref07_Same) (retK ((bs E0 k).cfg kap ref07_Same) [] Tryz.f25 [] some) [.blk 0, .seqR (sel ref07_Same_bd [1, 1, 1])])
theorem ref07_Same_L0_s (kap : FuncId → List AV → Option AV) (k : Nat) (k0 : Nat) (s0 : List AV) (s1 : List AV) (s5 : Int) : ref07_Same_L0 kap k (k0 + 1) s0 s1 s5 =
  (bif (decide (s5 < (((List.length s0) : Nat) : Int))) then (bif ((decide ((0 : Int) ≤ s5)) && (decide (s5 < (((List.length s0) : Nat) : Int)))) then ((s0[(Int.toNat s5)]?).bind fun vy1 => (cellS (AV.cells vy1) 0 fun vs2 => (cellS (AV.cells vy1) 1 fun vs3 => (bif ((decide ((0 : Int) ≤ s5)) && (decide (s5 < (((List.length s1) : Nat) : Int)))) then ((s1[(Int.toNat s5)]?).bind fun vy4 => (cellS (AV.cells vy4) 0 fun vs5 => (cellS (AV.cells vy4) 1 fun vs6 => (bif (!((decide (vs2 = vs5)) && ((decide (vs3 = vs6)) && true))) then (some (.bool false)) else (ref07_Same_L0 kap k k0 s0 s1 (IntKind.wrap .i64 (s5 + (1 : Int)))))))) else none)))) else none) else (some (.bool true))) := by kernel_rfl
theorem ref07_Same_eq {E : Ext} [Core E] (k n : Nat) (a0 : List AV) (a1 : List AV) : kp E k (n + 1) ref07_Same [(.list 2 a0), (.list 2 a1)] =
  (bif (!(decide ((((List.length a0) : Nat) : Int) = (((List.length a1) : Nat) : Int)))) then (some (.bool false)) else (ref07_Same_L0 (kp E k n) k k a0 a1 (0 : Int))) := (kp_at (by kernel_rfl)).trans (by kernel_rfl)
/- oakum/oakumref07.Which -/
noncomputable def ref07_Which_bd : Code := Tryz.f28.body.getD .skip
noncomputable def ref07_Which_L0 (kap : FuncId → List AV → Option AV) (k : Nat) (k0 : Nat) (s0 : ByteArray) (s3 : List AV) (s4 : Int) : Option AV :=
  loop (fun fr K => code ((bs E0 k).cfg kap ref07_Which) (sel ref07_Which_bd [1, 1, 0, 1, 0, 0]) fr K) (canon ((bs E0 k).cfg kap ref07_Which) (firstReg (sel ref07_Which_bd [1, 1, 0, 1, 0, 0]))) k0 (mkFr 19 [(0, (.str s0)), (3, (.list 1 s3)), (4, (.int .i64 s4))] []) (plug ((bs E0 k).cfg kap ref07_Which) (retK ((bs E0 k).cfg kap ref07_Which) [] Tryz.f28 [] some) [.blk 0, .seqR (sel ref07_Which_bd [1, 1, 1])])
theorem ref07_Which_L0_s (kap : FuncId → List AV → Option AV) (k : Nat) (k0 : Nat) (s0 : ByteArray) (s3 : List AV) (s4 : Int) : ref07_Which_L0 kap k (k0 + 1) s0 s3 s4 =
  (bif (decide (s4 < (((List.length s3) : Nat) : Int))) then (bif ((decide ((0 : Int) ≤ s4)) && (decide (s4 < (((List.length s3) : Nat) : Int)))) then ((s3[(Int.toNat s4)]?).bind fun vy3 => (cellS (AV.cells vy3) 0 fun vs4 => (bif (decide (vs4 = s0)) then (some (.int .i64 s4)) else (ref07_Which_L0 kap k k0 s0 s3 (IntKind.wrap .i64 (s4 + (1 : Int))))))) else none) else (some (.int .i64 (-1 : Int)))) := by kernel_rfl
theorem ref07_Which_eq {E : Ext} [Core E] (k n : Nat) (a0 : ByteArray) : kp E k (n + 1) ref07_Which [(.str a0)] =
  (callL 1 (kp E k n ref07_Keys []) fun vl2 => (ref07_Which_L0 (kp E k n) k k a0 vl2 (0 : Int))) := (kp_at (by kernel_rfl)).trans (by kernel_rfl)
/- oakum/pax.Len -/
noncomputable def pax_Len_bd : Code := Tryz.f29.body.getD .skip
noncomputable def pax_Len_L0 (kap : FuncId → List AV → Option AV) (k : Nat) (k0 : Nat) (s3 : Int) (s4 : Int) : Option AV :=
  loop (fun fr K => code ((bs E0 k).cfg kap pax_Len) (sel pax_Len_bd [1, 1, 1, 0, 0]) fr K) (canon ((bs E0 k).cfg kap pax_Len) (firstReg (sel pax_Len_bd [1, 1, 1, 0, 0]))) k0 (mkFr 25 [(3, (.int .i64 s3)), (4, (.int .i64 s4))] []) (plug ((bs E0 k).cfg kap pax_Len) (retK ((bs E0 k).cfg kap pax_Len) [] Tryz.f29 [] some) [.blk 0])
theorem pax_Len_L0_s (kap : FuncId → List AV → Option AV) (k : Nat) (k0 : Nat) (s3 : Int) (s4 : Int) : pax_Len_L0 kap k (k0 + 1) s3 s4 =
  (callS (kap strconv_Itoa [(.int .i64 s4)]) fun vs2 => (bif (decide ((IntKind.wrap .i64 (s3 + (((ByteArray.size vs2) : Nat) : Int))) = s4)) then (some (.int .i64 s4)) else (pax_Len_L0 kap k k0 s3 (IntKind.wrap .i64 (s3 + (((ByteArray.size vs2) : Nat) : Int)))))) := by kernel_rfl
theorem pax_Len_eq {E : Ext} [Core E] (k n : Nat) (a0_0 : ByteArray) (a0_1 : ByteArray) : kp E k (n + 1) pax_Len [(.agg [(.str a0_0), (.str a0_1)])] =
  (pax_Len_L0 (kp E k n) k k (IntKind.wrap .i64 ((IntKind.wrap .i64 ((((ByteArray.size a0_0) : Nat) : Int) + (((ByteArray.size a0_1) : Nat) : Int))) + (3 : Int))) (IntKind.wrap .i64 ((IntKind.wrap .i64 ((((ByteArray.size a0_0) : Nat) : Int) + (((ByteArray.size a0_1) : Nat) : Int))) + (3 : Int)))) := (kp_at (by kernel_rfl)).trans (by kernel_rfl)
/- oakum/oakumref07.Len -/
noncomputable def ref07_Len_bd : Code := Tryz.f30.body.getD .skip
noncomputable def ref07_Len_L0 (kap : FuncId → List AV → Option AV) (k : Nat) (k0 : Nat) (s3 : Int) (b1_0 : ByteArray) (b1_1 : ByteArray) : Option AV :=
  loop (fun fr K => code ((bs E0 k).cfg kap ref07_Len) (sel ref07_Len_bd [1, 1, 0, 0]) fr K) (canon ((bs E0 k).cfg kap ref07_Len) (firstReg (sel ref07_Len_bd [1, 1, 0, 0]))) k0 (mkFr 23 [(1, (.loc 1 0)), (3, (.int .i64 s3))] [(1, (.box [(.str b1_0), (.str b1_1)]))]) (plug ((bs E0 k).cfg kap ref07_Len) (retK ((bs E0 k).cfg kap ref07_Len) [] Tryz.f30 [] some) [.blk 0])
theorem ref07_Len_L0_s (kap : FuncId → List AV → Option AV) (k : Nat) (k0 : Nat) (s3 : Int) (b1_0 : ByteArray) (b1_1 : ByteArray) : ref07_Len_L0 kap k (k0 + 1) s3 b1_0 b1_1 =
  (callS (kap ref04_Digits [(.int .i64 (IntKind.wrap .i64 ((IntKind.wrap .i64 ((IntKind.wrap .i64 (s3 + (((ByteArray.size b1_0) : Nat) : Int))) + (((ByteArray.size b1_1) : Nat) : Int))) + (3 : Int))))]) fun vs2 => (bif (decide ((((ByteArray.size vs2) : Nat) : Int) = s3)) then (some (.int .i64 (IntKind.wrap .i64 ((IntKind.wrap .i64 ((IntKind.wrap .i64 (s3 + (((ByteArray.size b1_0) : Nat) : Int))) + (((ByteArray.size b1_1) : Nat) : Int))) + (3 : Int))))) else (ref07_Len_L0 kap k k0 (IntKind.wrap .i64 (s3 + (1 : Int))) b1_0 b1_1))) := by kernel_rfl
theorem ref07_Len_eq {E : Ext} [Core E] (k n : Nat) (a0_0 : ByteArray) (a0_1 : ByteArray) : kp E k (n + 1) ref07_Len [(.agg [(.str a0_0), (.str a0_1)])] =
  (ref07_Len_L0 (kp E k n) k k (1 : Int) a0_0 a0_1) := (kp_at (by kernel_rfl)).trans (by kernel_rfl)
/- oakum/oakumlaw08.alive -/
theorem law08_alive_eq {E : Ext} [Core E] (k n : Nat)  : kp E k (n + 1) law08_alive [] =
  (callT (kp E k n over_Apply [(.agg [(.int .i64 (0 : Int)), (.str (str [98])), (.str (str [])), (.int .i64 (0 : Int)), (.int .i64 (0 : Int)), (.int .i64 (0 : Int)), (.int .i64 (0 : Int)), (.int .i64 (0 : Int)), (.int .i64 (0 : Int)), (.str (str [])), (.str (str [])), (.int .i64 (0 : Int)), (.int .i64 (0 : Int)), (.list 2 [])]), (.list 2 [(.agg [(.str (str [112, 97, 116, 104])), (.str (str [97]))])])]) fun vt2 => (tupG 14 vt2 fun vg3 vt4 => (cellI .i64 vg3 0 fun vn5 => (cellS vg3 1 fun vs6 => (cellS vg3 2 fun vs7 => (cellI .i64 vg3 3 fun vn8 => (cellI .i64 vg3 4 fun vn9 => (cellI .i64 vg3 5 fun vn10 => (cellI .i64 vg3 6 fun vn11 => (cellI .i64 vg3 7 fun vn12 => (cellI .i64 vg3 8 fun vn13 => (cellS vg3 9 fun vs14 => (cellS vg3 10 fun vs15 => (cellI .i64 vg3 11 fun vn16 => (cellI .i64 vg3 12 fun vn17 => (cellL 2 vg3 13 fun vl18 => (tupI .u8 vt4 fun vn19 vt20 => (atNil vt20 (callL 2 (kp E k n over_Lay [(.list 2 [(.agg [(.str (str [112, 97, 116, 104])), (.str (str [97]))])]), (.list 2 [(.agg [(.str (str [112, 97, 116, 104])), (.str (str []))])])]) fun vl22 => (bif (decide ((((List.length vl22) : Nat) : Int) = (0 : Int))) then (bif (decide ((IntKind.wrap .i64 vn19) = (0 : Int))) then (some (.bool (decide (vs6 = (str [97]))))) else (some (.bool false))) else (some (.bool false)))))))))))))))))))))) := (kp_at (by kernel_rfl)).trans (by kernel_rfl)
/- oakum/oakumlaw08.few -/
noncomputable def law08_few_bd : Code := Tryz.f37.body.getD .skip
noncomputable def law08_few_L0 (kap : FuncId → List AV → Option AV) (k : Nat) (k0 : Nat) (s0 : List AV) (s3 : Int) (s4 : Int) : Option AV :=
  loop (fun fr K => code ((bs E0 k).cfg kap law08_few) (sel law08_few_bd [1, 1, 0, 1, 0, 0]) fr K) (canon ((bs E0 k).cfg kap law08_few) (firstReg (sel law08_few_bd [1, 1, 0, 1, 0, 0]))) k0 (mkFr 33 [(0, (.list 2 s0)), (3, (.int .i64 s3)), (4, (.int .i64 s4))] []) (plug ((bs E0 k).cfg kap law08_few) (retK ((bs E0 k).cfg kap law08_few) [] Tryz.f37 [] some) [.blk 0, .seqR (sel law08_few_bd [1, 1, 1])])
theorem law08_few_L0_s (kap : FuncId → List AV → Option AV) (k : Nat) (k0 : Nat) (s0 : List AV) (s3 : Int) (s4 : Int) : law08_few_L0 kap k (k0 + 1) s0 s3 s4 =
  (bif (decide (s4 < (((List.length s0) : Nat) : Int))) then (bif ((decide ((0 : Int) ≤ s4)) && (decide (s4 < (((List.length s0) : Nat) : Int)))) then ((s0[(Int.toNat s4)]?).bind fun vy1 => (cellS (AV.cells vy1) 0 fun vs2 => (bif ((decide ((0 : Int) ≤ s4)) && (decide (s4 < (((List.length s0) : Nat) : Int)))) then ((s0[(Int.toNat s4)]?).bind fun vy3 => (cellS (AV.cells vy3) 1 fun vs4 => (law08_few_L0 kap k k0 s0 (IntKind.wrap .i64 ((IntKind.wrap .i64 (s3 + (((ByteArray.size vs2) : Nat) : Int))) + (((ByteArray.size vs4) : Nat) : Int))) (IntKind.wrap .i64 (s4 + (1 : Int)))))) else none))) else none) else (bif (decide ((((List.length s0) : Nat) : Int) ≤ (40 : Int))) then (some (.bool (decide (s3 ≤ (3000 : Int))))) else (some (.bool false)))) := by kernel_rfl
theorem law08_few_eq {E : Ext} [Core E] (k n : Nat) (a0 : List AV) : kp E k (n + 1) law08_few [(.list 2 a0)] =
  (law08_few_L0 (kp E k n) k k a0 (0 : Int) (0 : Int)) := (kp_at (by kernel_rfl)).trans (by kernel_rfl)
/- oakum/oakumref08.Right -/
noncomputable def ref08_Right_bd : Code := Tryz.f39.body.getD .skip
noncomputable def ref08_Right_L0 (kap : FuncId → List AV → Option AV) (k : Nat) (k0 : Nat) (s0 : List AV) (s3 : Int) : Option AV :=
  loop (fun fr K => code ((bs E0 k).cfg kap ref08_Right) (sel ref08_Right_bd [1, 0, 1, 0, 0]) fr K) (canon ((bs E0 k).cfg kap ref08_Right) (firstReg (sel ref08_Right_bd [1, 0, 1, 0, 0]))) k0 (mkFr 20 [(0, (.list 2 s0)), (3, (.int .i64 s3))] []) (plug ((bs E0 k).cfg kap ref08_Right) (retK ((bs E0 k).cfg kap ref08_Right) [] Tryz.f39 [] some) [.blk 0, .seqR (sel ref08_Right_bd [1, 1])])
theorem ref08_Right_L0_s (kap : FuncId → List AV → Option AV) (k : Nat) (k0 : Nat) (s0 : List AV) (s3 : Int) : ref08_Right_L0 kap k (k0 + 1) s0 s3 =
  (bif (decide (s3 < (((List.length s0) : Nat) : Int))) then (bif ((decide ((0 : Int) ≤ s3)) && (decide (s3 < (((List.length s0) : Nat) : Int)))) then ((s0[(Int.toNat s3)]?).bind fun vy1 => (cellS (AV.cells vy1) 0 fun vs2 => (cellS (AV.cells vy1) 1 fun vs3 => (callB (kap ref07_Right [(.agg [(.str vs2), (.str vs3)])]) fun vq5 => (bif (!vq5) then (some (.bool false)) else (ref08_Right_L0 kap k k0 s0 (IntKind.wrap .i64 (s3 + (1 : Int))))))))) else none) else (callL 2 (kap ref08_Lay [(.list 2 s0), (.list 2 [])]) fun vl7 => (callB (kap ref07_Same [(.list 2 vl7), (.list 2 s0)]) fun vq9 => (some (.bool vq9))))) := by kernel_rfl
theorem ref08_Right_eq {E : Ext} [Core E] (k n : Nat) (a0 : List AV) : kp E k (n + 1) ref08_Right [(.list 2 a0)] =
  (ref08_Right_L0 (kp E k n) k k a0 (0 : Int)) := (kp_at (by kernel_rfl)).trans (by kernel_rfl)
/- oakum/oakumref08.SameHead -/
theorem ref08_SameHead_eq {E : Ext} [Core E] (k n : Nat) (a0_0 : Int) (a0_1 : ByteArray) (a0_2 : ByteArray) (a0_3 : Int) (a0_4 : Int) (a0_5 : Int) (a0_6 : Int) (a0_7 : Int) (a0_8 : Int) (a0_9 : ByteArray) (a0_10 : ByteArray) (a0_11 : Int) (a0_12 : Int) (a0_13 : List AV) (a1_0 : Int) (a1_1 : ByteArray) (a1_2 : ByteArray) (a1_3 : Int) (a1_4 : Int) (a1_5 : Int) (a1_6 : Int) (a1_7 : Int) (a1_8 : Int) (a1_9 : ByteArray) (a1_10 : ByteArray) (a1_11 : Int) (a1_12 : Int) (a1_13 : List AV) : kp E k (n + 1) ref08_SameHead [(.agg [(.int .i64 a0_0), (.str a0_1), (.str a0_2), (.int .i64 a0_3), (.int .i64 a0_4), (.int .i64 a0_5), (.int .i64 a0_6), (.int .i64 a0_7), (.int .i64 a0_8), (.str a0_9), (.str a0_10), (.int .i64 a0_11), (.int .i64 a0_12), (.list 2 a0_13)]), (.agg [(.int .i64 a1_0), (.str a1_1), (.str a1_2), (.int .i64 a1_3), (.int .i64 a1_4), (.int .i64 a1_5), (.int .i64 a1_6), (.int .i64 a1_7), (.int .i64 a1_8), (.str a1_9), (.str a1_10), (.int .i64 a1_11), (.int .i64 a1_12), (.list 2 a1_13)])] =
  (bif (decide (a0_0 = a1_0)) then (bif (decide (a0_1 = a1_1)) then (bif (decide (a0_2 = a1_2)) then (bif (decide (a0_3 = a1_3)) then (bif (decide (a0_4 = a1_4)) then (bif (decide (a0_5 = a1_5)) then (bif (decide (a0_6 = a1_6)) then (bif ((decide (a0_7 = a1_7)) && ((decide (a0_8 = a1_8)) && true)) then (bif (decide (a0_9 = a1_9)) then (bif (decide (a0_10 = a1_10)) then (bif (decide (a0_11 = a1_11)) then (bif (decide (a0_12 = a1_12)) then (callB (kp E k n ref07_Same [(.list 2 a0_13), (.list 2 a1_13)]) fun vq2 => (some (.bool vq2))) else (some (.bool false))) else (some (.bool false))) else (some (.bool false))) else (some (.bool false))) else (some (.bool false))) else (some (.bool false))) else (some (.bool false))) else (some (.bool false))) else (some (.bool false))) else (some (.bool false))) else (some (.bool false))) else (some (.bool false))) := (kp_at (by kernel_rfl)).trans (by kernel_rfl)
/- oakum/oakumref08.Apply -/
noncomputable def ref08_Apply_bd : Code := Tryz.f41.body.getD .skip
noncomputable def ref08_Apply_L0 (kap : FuncId → List AV → Option AV) (k : Nat) (k0 : Nat) (s1 : List AV) (s6 : Int) (b2_0 : Int) (b2_1 : ByteArray) (b2_2 : ByteArray) (b2_3 : Int) (b2_4 : Int) (b2_5 : Int) (b2_6 : Int) (b2_7 : Int) (b2_8 : Int) (b2_9 : ByteArray) (b2_10 : ByteArray) (b2_11 : Int) (b2_12 : Int) (b2_13 : List AV) (b4_0 : Int) (b4_1 : ByteArray) (b4_2 : ByteArray) (b4_3 : Int) (b4_4 : Int) (b4_5 : Int) (b4_6 : Int) (b4_7 : Int) (b4_8 : Int) (b4_9 : ByteArray) (b4_10 : ByteArray) (b4_11 : Int) (b4_12 : Int) (b5_0 : Int) (b5_1 : ByteArray) (b5_2 : ByteArray) (b5_3 : Int) (b5_4 : Int) (b5_5 : Int) (b5_6 : Int) (b5_7 : Int) (b5_8 : Int) (b5_9 : ByteArray) (b5_10 : ByteArray) (b5_11 : Int) (b5_12 : Int) (x164 : List AV) (x165 : List AV) : Option AV :=
  loop (fun fr K => code ((bs E0 k).cfg kap ref08_Apply) (sel ref08_Apply_bd [1, 1, 1, 0, 1, 0, 0]) fr K) (canon ((bs E0 k).cfg kap ref08_Apply) (firstReg (sel ref08_Apply_bd [1, 1, 1, 0, 1, 0, 0]))) k0 (mkFr 80 [(1, (.list 2 s1)), (4, (.loc 4 0)), (5, (.loc 5 0)), (6, (.int .i64 s6))] [(2, (.box [(.int .i64 b2_0), (.str b2_1), (.str b2_2), (.int .i64 b2_3), (.int .i64 b2_4), (.int .i64 b2_5), (.int .i64 b2_6), (.int .i64 b2_7), (.int .i64 b2_8), (.str b2_9), (.str b2_10), (.int .i64 b2_11), (.int .i64 b2_12), (.list 2 b2_13)])), (4, (.box [(.int .i64 b4_0), (.str b4_1), (.str b4_2), (.int .i64 b4_3), (.int .i64 b4_4), (.int .i64 b4_5), (.int .i64 b4_6), (.int .i64 b4_7), (.int .i64 b4_8), (.str b4_9), (.str b4_10), (.int .i64 b4_11), (.int .i64 b4_12), (.own 164)])), (5, (.box [(.int .i64 b5_0), (.str b5_1), (.str b5_2), (.int .i64 b5_3), (.int .i64 b5_4), (.int .i64 b5_5), (.int .i64 b5_6), (.int .i64 b5_7), (.int .i64 b5_8), (.str b5_9), (.str b5_10), (.int .i64 b5_11), (.int .i64 b5_12), (.own 165)])), (164, (.row 42 x164 false)), (165, (.row 42 x165 false))]) (plug ((bs E0 k).cfg kap ref08_Apply) (retK ((bs E0 k).cfg kap ref08_Apply) [] Tryz.f41 [] some) [.blk 0, .seqR (sel ref08_Apply_bd [1, 1, 1, 1])])
theorem ref08_Apply_L0_s (kap : FuncId → List AV → Option AV) (k : Nat) (k0 : Nat) (s1 : List AV) (s6 : Int) (b2_0 : Int) (b2_1 : ByteArray) (b2_2 : ByteArray) (b2_3 : Int) (b2_4 : Int) (b2_5 : Int) (b2_6 : Int) (b2_7 : Int) (b2_8 : Int) (b2_9 : ByteArray) (b2_10 : ByteArray) (b2_11 : Int) (b2_12 : Int) (b2_13 : List AV) (b4_0 : Int) (b4_1 : ByteArray) (b4_2 : ByteArray) (b4_3 : Int) (b4_4 : Int) (b4_5 : Int) (b4_6 : Int) (b4_7 : Int) (b4_8 : Int) (b4_9 : ByteArray) (b4_10 : ByteArray) (b4_11 : Int) (b4_12 : Int) (b5_0 : Int) (b5_1 : ByteArray) (b5_2 : ByteArray) (b5_3 : Int) (b5_4 : Int) (b5_5 : Int) (b5_6 : Int) (b5_7 : Int) (b5_8 : Int) (b5_9 : ByteArray) (b5_10 : ByteArray) (b5_11 : Int) (b5_12 : Int) (x164 : List AV) (x165 : List AV) : ref08_Apply_L0 kap k (k0 + 1) s1 s6 b2_0 b2_1 b2_2 b2_3 b2_4 b2_5 b2_6 b2_7 b2_8 b2_9 b2_10 b2_11 b2_12 b2_13 b4_0 b4_1 b4_2 b4_3 b4_4 b4_5 b4_6 b4_7 b4_8 b4_9 b4_10 b4_11 b4_12 b5_0 b5_1 b5_2 b5_3 b5_4 b5_5 b5_6 b5_7 b5_8 b5_9 b5_10 b5_11 b5_12 x164 x165 =
  (bif (decide (s6 < (((List.length s1) : Nat) : Int))) then (bif ((decide ((0 : Int) ≤ s6)) && (decide (s6 < (((List.length s1) : Nat) : Int)))) then ((s1[(Int.toNat s6)]?).bind fun vy1 => (cellS (AV.cells vy1) 1 fun vs2 => (callT (kap ref04_Number [(.str vs2)]) fun vt4 => (tupI .i64 vt4 fun vn5 vt6 => (tupB vt6 fun vq7 vt8 => (atNil vt8 (bif ((decide ((0 : Int) ≤ s6)) && (decide (s6 < (((List.length s1) : Nat) : Int)))) then ((s1[(Int.toNat s6)]?).bind fun vy9 => (cellS (AV.cells vy9) 0 fun vs10 => (callI .i64 (kap ref07_Which [(.str vs10)]) fun vn12 => (bif (decide (vn12 = (0 : Int))) then (ref08_Apply_L0 kap k k0 s1 (IntKind.wrap .i64 (s6 + (1 : Int))) b2_0 b2_1 b2_2 b2_3 b2_4 b2_5 b2_6 b2_7 b2_8 b2_9 b2_10 b2_11 b2_12 b2_13 b4_0 b4_1 b4_2 b4_3 b4_4 b4_5 b4_6 b4_7 b4_8 b4_9 b4_10 b4_11 b4_12 b5_0 vs2 b5_2 b5_3 b5_4 b5_5 b5_6 b5_7 b5_8 b5_9 b5_10 b5_11 b5_12 x164 x165) else (bif (decide (vn12 = (1 : Int))) then (ref08_Apply_L0 kap k k0 s1 (IntKind.wrap .i64 (s6 + (1 : Int))) b2_0 b2_1 b2_2 b2_3 b2_4 b2_5 b2_6 b2_7 b2_8 b2_9 b2_10 b2_11 b2_12 b2_13 b4_0 b4_1 b4_2 b4_3 b4_4 b4_5 b4_6 b4_7 b4_8 b4_9 b4_10 b4_11 b4_12 b5_0 b5_1 vs2 b5_3 b5_4 b5_5 b5_6 b5_7 b5_8 b5_9 b5_10 b5_11 b5_12 x164 x165) else (bif (decide (vn12 = (2 : Int))) then (ref08_Apply_L0 kap k k0 s1 (IntKind.wrap .i64 (s6 + (1 : Int))) b2_0 b2_1 b2_2 b2_3 b2_4 b2_5 b2_6 b2_7 b2_8 b2_9 b2_10 b2_11 b2_12 b2_13 b4_0 b4_1 b4_2 b4_3 b4_4 b4_5 b4_6 b4_7 b4_8 b4_9 b4_10 b4_11 b4_12 b5_0 b5_1 b5_2 b5_3 b5_4 b5_5 b5_6 b5_7 b5_8 vs2 b5_10 b5_11 b5_12 x164 x165) else (bif (decide (vn12 = (3 : Int))) then (ref08_Apply_L0 kap k k0 s1 (IntKind.wrap .i64 (s6 + (1 : Int))) b2_0 b2_1 b2_2 b2_3 b2_4 b2_5 b2_6 b2_7 b2_8 b2_9 b2_10 b2_11 b2_12 b2_13 b4_0 b4_1 b4_2 b4_3 b4_4 b4_5 b4_6 b4_7 b4_8 b4_9 b4_10 b4_11 b4_12 b5_0 b5_1 b5_2 b5_3 b5_4 b5_5 b5_6 b5_7 b5_8 b5_9 vs2 b5_11 b5_12 x164 x165) else (bif (decide (vn12 = (4 : Int))) then (ref08_Apply_L0 kap k k0 s1 (IntKind.wrap .i64 (s6 + (1 : Int))) b2_0 b2_1 b2_2 b2_3 b2_4 b2_5 b2_6 b2_7 b2_8 b2_9 b2_10 b2_11 b2_12 b2_13 b4_0 b4_1 b4_2 b4_3 b4_4 b4_5 b4_6 b4_7 b4_8 b4_9 b4_10 b4_11 b4_12 b5_0 b5_1 b5_2 b5_3 vn5 b5_5 b5_6 b5_7 b5_8 b5_9 b5_10 b5_11 b5_12 x164 x165) else (bif (decide (vn12 = (5 : Int))) then (ref08_Apply_L0 kap k k0 s1 (IntKind.wrap .i64 (s6 + (1 : Int))) b2_0 b2_1 b2_2 b2_3 b2_4 b2_5 b2_6 b2_7 b2_8 b2_9 b2_10 b2_11 b2_12 b2_13 b4_0 b4_1 b4_2 b4_3 b4_4 b4_5 b4_6 b4_7 b4_8 b4_9 b4_10 b4_11 b4_12 b5_0 b5_1 b5_2 b5_3 b5_4 vn5 b5_6 b5_7 b5_8 b5_9 b5_10 b5_11 b5_12 x164 x165) else (bif (decide (vn12 = (6 : Int))) then (ref08_Apply_L0 kap k k0 s1 (IntKind.wrap .i64 (s6 + (1 : Int))) b2_0 b2_1 b2_2 b2_3 b2_4 b2_5 b2_6 b2_7 b2_8 b2_9 b2_10 b2_11 b2_12 b2_13 b4_0 b4_1 b4_2 b4_3 b4_4 b4_5 b4_6 b4_7 b4_8 b4_9 b4_10 b4_11 b4_12 b5_0 b5_1 b5_2 b5_3 b5_4 b5_5 vn5 b5_7 b5_8 b5_9 b5_10 b5_11 b5_12 x164 x165) else (bif (decide (vn12 = (7 : Int))) then (callT (kap ref04_Time [(.str vs2)]) fun vt14 => (tupG 2 vt14 fun vg15 vt16 => (cellI .i64 vg15 0 fun vn17 => (cellI .i64 vg15 1 fun vn18 => (tupB vt16 fun vq19 vt20 => (atNil vt20 (ref08_Apply_L0 kap k k0 s1 (IntKind.wrap .i64 (s6 + (1 : Int))) b2_0 b2_1 b2_2 b2_3 b2_4 b2_5 b2_6 b2_7 b2_8 b2_9 b2_10 b2_11 b2_12 b2_13 b4_0 b4_1 b4_2 b4_3 b4_4 b4_5 b4_6 b4_7 b4_8 b4_9 b4_10 b4_11 b4_12 b5_0 b5_1 b5_2 b5_3 b5_4 b5_5 b5_6 vn17 vn18 b5_9 b5_10 b5_11 b5_12 x164 x165))))))) else (bif ((decide ((0 : Int) ≤ s6)) && (decide (s6 < (((List.length s1) : Nat) : Int)))) then ((s1[(Int.toNat s6)]?).bind fun vy21 => (cellS (AV.cells vy21) 0 fun vs22 => (cellS (AV.cells vy21) 1 fun vs23 => (bif (decide (((List.length x165) + 1) * 32 ≤ 140737488355328) && decide (((List.length x165) + 1) ≤ 9223372036854775807)) then (ref08_Apply_L0 kap k k0 s1 (IntKind.wrap .i64 (s6 + (1 : Int))) b2_0 b2_1 b2_2 b2_3 b2_4 b2_5 b2_6 b2_7 b2_8 b2_9 b2_10 b2_11 b2_12 b2_13 b4_0 b4_1 b4_2 b4_3 b4_4 b4_5 b4_6 b4_7 b4_8 b4_9 b4_10 b4_11 b4_12 b5_0 b5_1 b5_2 b5_3 b5_4 b5_5 b5_6 b5_7 b5_8 b5_9 b5_10 b5_11 b5_12 x164 (x165 ++ [(.agg [(.str vs22), (.str vs23)])])) else none)))) else none)))))))))))) else none))))))) else none) else (some (.agg [(.int .i64 b5_0), (.str b5_1), (.str b5_2), (.int .i64 b5_3), (.int .i64 b5_4), (.int .i64 b5_5), (.int .i64 b5_6), (.int .i64 b5_7), (.int .i64 b5_8), (.str b5_9), (.str b5_10), (.int .i64 b5_11), (.int .i64 b5_12), (.list 2 x165)]))) := by kernel_rfl
theorem ref08_Apply_eq {E : Ext} [Core E] (k n : Nat) (a0_0 : Int) (a0_1 : ByteArray) (a0_2 : ByteArray) (a0_3 : Int) (a0_4 : Int) (a0_5 : Int) (a0_6 : Int) (a0_7 : Int) (a0_8 : Int) (a0_9 : ByteArray) (a0_10 : ByteArray) (a0_11 : Int) (a0_12 : Int) (a0_13 : List AV) (a1 : List AV) : kp E k (n + 1) ref08_Apply [(.agg [(.int .i64 a0_0), (.str a0_1), (.str a0_2), (.int .i64 a0_3), (.int .i64 a0_4), (.int .i64 a0_5), (.int .i64 a0_6), (.int .i64 a0_7), (.int .i64 a0_8), (.str a0_9), (.str a0_10), (.int .i64 a0_11), (.int .i64 a0_12), (.list 2 a0_13)]), (.list 2 a1)] =
  (ref08_Apply_L0 (kp E k n) k k a1 (0 : Int) a0_0 a0_1 a0_2 a0_3 a0_4 a0_5 a0_6 a0_7 a0_8 a0_9 a0_10 a0_11 a0_12 a0_13 (0 : Int) (str []) (str []) (0 : Int) (0 : Int) (0 : Int) (0 : Int) (0 : Int) (0 : Int) (str []) (str []) (0 : Int) (0 : Int) a0_0 a0_1 a0_2 a0_3 a0_4 a0_5 a0_6 a0_7 a0_8 a0_9 a0_10 a0_11 a0_12 [] []) := (kp_at (by kernel_rfl)).trans (by kernel_rfl)
/- oakum/oakumref09.Slash -/
theorem ref09_Slash_eq {E : Ext} [Core E] (k n : Nat) (a0 : ByteArray) : kp E k (n + 1) ref09_Slash [(.str a0)] =
  (bif (!(decide (a0 = (str [])))) then (bif ((decide ((0 : Int) ≤ (IntKind.wrap .i64 ((((ByteArray.size a0) : Nat) : Int) - (1 : Int))))) && (decide ((IntKind.wrap .i64 ((((ByteArray.size a0) : Nat) : Int) - (1 : Int))) < (((ByteArray.size a0) : Nat) : Int)))) then (some (.bool (decide ((byteAt a0 (Int.toNat (IntKind.wrap .i64 ((((ByteArray.size a0) : Nat) : Int) - (1 : Int))))) = (47 : Int))))) else none) else (some (.bool false))) := (kp_at (by kernel_rfl)).trans (by kernel_rfl)
/- oakum/oakumref09.fields -/
noncomputable def ref09_fields_bd : Code := Tryz.f52.body.getD .skip
noncomputable def ref09_fields_J0 (kap : FuncId → List AV → Option AV) (k : Nat) (kj : Nat) (s3 : Bool) (b1_0 : Int) (b1_1 : ByteArray) (b1_2 : ByteArray) (b1_3 : Int) (b1_4 : Int) (b1_5 : Int) (b1_6 : Int) (b1_7 : Int) (b1_8 : Int) (b1_9 : ByteArray) (b1_10 : ByteArray) (b1_11 : Int) (b1_12 : Int) (b1_13 : List AV) (b2_0 : Bool) (b2_1 : Bool) (b2_2 : Bool) (b2_3 : Bool) (b2_4 : Bool) (b2_5 : Bool) (b2_6 : Bool) (b2_7 : Bool) (b2_8 : Bool) (b2_9 : Bool) (b2_10 : Bool) (b2_11 : Bool) (b2_12 : Bool) (b2_13 : Bool) : Option AV :=
  gate kj fun _ => code ((bs E0 k).cfg kap ref09_fields) (sel ref09_fields_bd [1, 1]) (mkFr 160 [(1, (.loc 1 0)), (2, (.loc 2 0)), (3, (.bool s3))] [(1, (.box [(.int .i64 b1_0), (.str b1_1), (.str b1_2), (.int .i64 b1_3), (.int .i64 b1_4), (.int .i64 b1_5), (.int .i64 b1_6), (.int .i64 b1_7), (.int .i64 b1_8), (.str b1_9), (.str b1_10), (.int .i64 b1_11), (.int .i64 b1_12), (.list 2 b1_13)])), (2, (.box [(.bool b2_0), (.bool b2_1), (.bool b2_2), (.bool b2_3), (.bool b2_4), (.bool b2_5), (.bool b2_6), (.bool b2_7), (.bool b2_8), (.bool b2_9), (.bool b2_10), (.bool b2_11), (.bool b2_12), (.bool b2_13)]))]) (plug ((bs E0 k).cfg kap ref09_fields) (retK ((bs E0 k).cfg kap ref09_fields) [] Tryz.f52 [] some) [])
noncomputable def ref09_fields_J1 (kap : FuncId → List AV → Option AV) (k : Nat) (kj : Nat) (s3 : Bool) (s4 : Bool) (b1_0 : Int) (b1_1 : ByteArray) (b1_2 : ByteArray) (b1_3 : Int) (b1_4 : Int) (b1_5 : Int) (b1_6 : Int) (b1_7 : Int) (b1_8 : Int) (b1_9 : ByteArray) (b1_10 : ByteArray) (b1_11 : Int) (b1_12 : Int) (b1_13 : List AV) (b2_0 : Bool) (b2_1 : Bool) (b2_2 : Bool) (b2_3 : Bool) (b2_4 : Bool) (b2_5 : Bool) (b2_6 : Bool) (b2_7 : Bool) (b2_8 : Bool) (b2_9 : Bool) (b2_10 : Bool) (b2_11 : Bool) (b2_12 : Bool) (b2_13 : Bool) : Option AV :=
  gate kj fun _ => code ((bs E0 k).cfg kap ref09_fields) (sel ref09_fields_bd [1, 1, 1]) (mkFr 160 [(1, (.loc 1 0)), (2, (.loc 2 0)), (3, (.bool s3)), (4, (.bool s4))] [(1, (.box [(.int .i64 b1_0), (.str b1_1), (.str b1_2), (.int .i64 b1_3), (.int .i64 b1_4), (.int .i64 b1_5), (.int .i64 b1_6), (.int .i64 b1_7), (.int .i64 b1_8), (.str b1_9), (.str b1_10), (.int .i64 b1_11), (.int .i64 b1_12), (.list 2 b1_13)])), (2, (.box [(.bool b2_0), (.bool b2_1), (.bool b2_2), (.bool b2_3), (.bool b2_4), (.bool b2_5), (.bool b2_6), (.bool b2_7), (.bool b2_8), (.bool b2_9), (.bool b2_10), (.bool b2_11), (.bool b2_12), (.bool b2_13)]))]) (plug ((bs E0 k).cfg kap ref09_fields) (retK ((bs E0 k).cfg kap ref09_fields) [] Tryz.f52 [] some) [])
noncomputable def ref09_fields_J2 (kap : FuncId → List AV → Option AV) (k : Nat) (kj : Nat) (s3 : Bool) (s4 : Bool) (b1_0 : Int) (b1_1 : ByteArray) (b1_2 : ByteArray) (b1_3 : Int) (b1_4 : Int) (b1_5 : Int) (b1_6 : Int) (b1_7 : Int) (b1_8 : Int) (b1_9 : ByteArray) (b1_10 : ByteArray) (b1_11 : Int) (b1_12 : Int) (b1_13 : List AV) (b2_0 : Bool) (b2_1 : Bool) (b2_2 : Bool) (b2_3 : Bool) (b2_4 : Bool) (b2_5 : Bool) (b2_6 : Bool) (b2_7 : Bool) (b2_8 : Bool) (b2_9 : Bool) (b2_10 : Bool) (b2_11 : Bool) (b2_12 : Bool) (b2_13 : Bool) (b5_0 : Bool) (b5_1 : Bool) (b5_2 : Bool) (b5_3 : Bool) (b5_4 : Bool) (b5_5 : Bool) (b5_6 : Bool) (b5_7 : Bool) (b5_8 : Bool) (b5_9 : Bool) (b5_10 : Bool) (b5_11 : Bool) (b5_12 : Bool) (b5_13 : Bool) : Option AV :=
  gate kj fun _ => code ((bs E0 k).cfg kap ref09_fields) (sel ref09_fields_bd [1, 1, 1, 1, 1]) (mkFr 160 [(1, (.loc 1 0)), (2, (.loc 2 0)), (3, (.bool s3)), (4, (.bool s4)), (5, (.loc 5 0))] [(1, (.box [(.int .i64 b1_0), (.str b1_1), (.str b1_2), (.int .i64 b1_3), (.int .i64 b1_4), (.int .i64 b1_5), (.int .i64 b1_6), (.int .i64 b1_7), (.int .i64 b1_8), (.str b1_9), (.str b1_10), (.int .i64 b1_11), (.int .i64 b1_12), (.list 2 b1_13)])), (2, (.box [(.bool b2_0), (.bool b2_1), (.bool b2_2), (.bool b2_3), (.bool b2_4), (.bool b2_5), (.bool b2_6), (.bool b2_7), (.bool b2_8), (.bool b2_9), (.bool b2_10), (.bool b2_11), (.bool b2_12), (.bool b2_13)])), (5, (.box [(.bool b5_0), (.bool b5_1), (.bool b5_2), (.bool b5_3), (.bool b5_4), (.bool b5_5), (.bool b5_6), (.bool b5_7), (.bool b5_8), (.bool b5_9), (.bool b5_10), (.bool b5_11), (.bool b5_12), (.bool b5_13)]))]) (plug ((bs E0 k).cfg kap ref09_fields) (retK ((bs E0 k).cfg kap ref09_fields) [] Tryz.f52 [] some) [])
noncomputable def ref09_fields_J3 (kap : FuncId → List AV → Option AV) (k : Nat) (kj : Nat) (s3 : Bool) (s4 : Bool) (b1_0 : Int) (b1_1 : ByteArray) (b1_2 : ByteArray) (b1_3 : Int) (b1_4 : Int) (b1_5 : Int) (b1_6 : Int) (b1_7 : Int) (b1_8 : Int) (b1_9 : ByteArray) (b1_10 : ByteArray) (b1_11 : Int) (b1_12 : Int) (b1_13 : List AV) (b2_0 : Bool) (b2_1 : Bool) (b2_2 : Bool) (b2_3 : Bool) (b2_4 : Bool) (b2_5 : Bool) (b2_6 : Bool) (b2_7 : Bool) (b2_8 : Bool) (b2_9 : Bool) (b2_10 : Bool) (b2_11 : Bool) (b2_12 : Bool) (b2_13 : Bool) (b5_0 : Bool) (b5_1 : Bool) (b5_2 : Bool) (b5_3 : Bool) (b5_4 : Bool) (b5_5 : Bool) (b5_6 : Bool) (b5_7 : Bool) (b5_8 : Bool) (b5_9 : Bool) (b5_10 : Bool) (b5_11 : Bool) (b5_12 : Bool) (b5_13 : Bool) : Option AV :=
  gate kj fun _ => code ((bs E0 k).cfg kap ref09_fields) (sel ref09_fields_bd [1, 1, 1, 1, 1, 1]) (mkFr 160 [(1, (.loc 1 0)), (2, (.loc 2 0)), (3, (.bool s3)), (4, (.bool s4)), (5, (.loc 5 0))] [(1, (.box [(.int .i64 b1_0), (.str b1_1), (.str b1_2), (.int .i64 b1_3), (.int .i64 b1_4), (.int .i64 b1_5), (.int .i64 b1_6), (.int .i64 b1_7), (.int .i64 b1_8), (.str b1_9), (.str b1_10), (.int .i64 b1_11), (.int .i64 b1_12), (.list 2 b1_13)])), (2, (.box [(.bool b2_0), (.bool b2_1), (.bool b2_2), (.bool b2_3), (.bool b2_4), (.bool b2_5), (.bool b2_6), (.bool b2_7), (.bool b2_8), (.bool b2_9), (.bool b2_10), (.bool b2_11), (.bool b2_12), (.bool b2_13)])), (5, (.box [(.bool b5_0), (.bool b5_1), (.bool b5_2), (.bool b5_3), (.bool b5_4), (.bool b5_5), (.bool b5_6), (.bool b5_7), (.bool b5_8), (.bool b5_9), (.bool b5_10), (.bool b5_11), (.bool b5_12), (.bool b5_13)]))]) (plug ((bs E0 k).cfg kap ref09_fields) (retK ((bs E0 k).cfg kap ref09_fields) [] Tryz.f52 [] some) [])
noncomputable def ref09_fields_J4 (kap : FuncId → List AV → Option AV) (k : Nat) (kj : Nat) (s4 : Bool) (b1_0 : Int) (b1_1 : ByteArray) (b1_2 : ByteArray) (b1_3 : Int) (b1_4 : Int) (b1_5 : Int) (b1_6 : Int) (b1_7 : Int) (b1_8 : Int) (b1_9 : ByteArray) (b1_10 : ByteArray) (b1_11 : Int) (b1_12 : Int) (b1_13 : List AV) (b2_0 : Bool) (b2_1 : Bool) (b2_2 : Bool) (b2_3 : Bool) (b2_4 : Bool) (b2_5 : Bool) (b2_6 : Bool) (b2_7 : Bool) (b2_8 : Bool) (b2_9 : Bool) (b2_10 : Bool) (b2_11 : Bool) (b2_12 : Bool) (b2_13 : Bool) (b5_0 : Bool) (b5_1 : Bool) (b5_2 : Bool) (b5_3 : Bool) (b5_4 : Bool) (b5_5 : Bool) (b5_6 : Bool) (b5_7 : Bool) (b5_8 : Bool) (b5_9 : Bool) (b5_10 : Bool) (b5_11 : Bool) (b5_12 : Bool) (b5_13 : Bool) : Option AV :=
  gate kj fun _ => code ((bs E0 k).cfg kap ref09_fields) (sel ref09_fields_bd [1, 1, 1, 1, 1, 1, 1]) (mkFr 160 [(1, (.loc 1 0)), (2, (.loc 2 0)), (4, (.bool s4)), (5, (.loc 5 0))] [(1, (.box [(.int .i64 b1_0), (.str b1_1), (.str b1_2), (.int .i64 b1_3), (.int .i64 b1_4), (.int .i64 b1_5), (.int .i64 b1_6), (.int .i64 b1_7), (.int .i64 b1_8), (.str b1_9), (.str b1_10), (.int .i64 b1_11), (.int .i64 b1_12), (.list 2 b1_13)])), (2, (.box [(.bool b2_0), (.bool b2_1), (.bool b2_2), (.bool b2_3), (.bool b2_4), (.bool b2_5), (.bool b2_6), (.bool b2_7), (.bool b2_8), (.bool b2_9), (.bool b2_10), (.bool b2_11), (.bool b2_12), (.bool b2_13)])), (5, (.box [(.bool b5_0), (.bool b5_1), (.bool b5_2), (.bool b5_3), (.bool b5_4), (.bool b5_5), (.bool b5_6), (.bool b5_7), (.bool b5_8), (.bool b5_9), (.bool b5_10), (.bool b5_11), (.bool b5_12), (.bool b5_13)]))]) (plug ((bs E0 k).cfg kap ref09_fields) (retK ((bs E0 k).cfg kap ref09_fields) [] Tryz.f52 [] some) [])
noncomputable def ref09_fields_J5 (kap : FuncId → List AV → Option AV) (k : Nat) (kj : Nat) (s4 : Bool) (b1_0 : Int) (b1_1 : ByteArray) (b1_2 : ByteArray) (b1_3 : Int) (b1_4 : Int) (b1_5 : Int) (b1_6 : Int) (b1_7 : Int) (b1_8 : Int) (b1_9 : ByteArray) (b1_10 : ByteArray) (b1_11 : Int) (b1_12 : Int) (b1_13 : List AV) (b2_0 : Bool) (b2_1 : Bool) (b2_2 : Bool) (b2_3 : Bool) (b2_4 : Bool) (b2_5 : Bool) (b2_6 : Bool) (b2_7 : Bool) (b2_8 : Bool) (b2_9 : Bool) (b2_10 : Bool) (b2_11 : Bool) (b2_12 : Bool) (b2_13 : Bool) (b5_0 : Bool) (b5_1 : Bool) (b5_2 : Bool) (b5_3 : Bool) (b5_4 : Bool) (b5_5 : Bool) (b5_6 : Bool) (b5_7 : Bool) (b5_8 : Bool) (b5_9 : Bool) (b5_10 : Bool) (b5_11 : Bool) (b5_12 : Bool) (b5_13 : Bool) : Option AV :=
  gate kj fun _ => code ((bs E0 k).cfg kap ref09_fields) (sel ref09_fields_bd [1, 1, 1, 1, 1, 1, 1, 1, 1, 1, 1]) (mkFr 160 [(1, (.loc 1 0)), (2, (.loc 2 0)), (4, (.bool s4)), (5, (.loc 5 0))] [(1, (.box [(.int .i64 b1_0), (.str b1_1), (.str b1_2), (.int .i64 b1_3), (.int .i64 b1_4), (.int .i64 b1_5), (.int .i64 b1_6), (.int .i64 b1_7), (.int .i64 b1_8), (.str b1_9), (.str b1_10), (.int .i64 b1_11), (.int .i64 b1_12), (.list 2 b1_13)])), (2, (.box [(.bool b2_0), (.bool b2_1), (.bool b2_2), (.bool b2_3), (.bool b2_4), (.bool b2_5), (.bool b2_6), (.bool b2_7), (.bool b2_8), (.bool b2_9), (.bool b2_10), (.bool b2_11), (.bool b2_12), (.bool b2_13)])), (5, (.box [(.bool b5_0), (.bool b5_1), (.bool b5_2), (.bool b5_3), (.bool b5_4), (.bool b5_5), (.bool b5_6), (.bool b5_7), (.bool b5_8), (.bool b5_9), (.bool b5_10), (.bool b5_11), (.bool b5_12), (.bool b5_13)]))]) (plug ((bs E0 k).cfg kap ref09_fields) (retK ((bs E0 k).cfg kap ref09_fields) [] Tryz.f52 [] some) [])
noncomputable def ref09_fields_J6 (kap : FuncId → List AV → Option AV) (k : Nat) (kj : Nat) (s4 : Bool) (b1_0 : Int) (b1_1 : ByteArray) (b1_2 : ByteArray) (b1_3 : Int) (b1_4 : Int) (b1_5 : Int) (b1_6 : Int) (b1_7 : Int) (b1_8 : Int) (b1_9 : ByteArray) (b1_10 : ByteArray) (b1_11 : Int) (b1_12 : Int) (b1_13 : List AV) (b2_0 : Bool) (b2_1 : Bool) (b2_2 : Bool) (b2_3 : Bool) (b2_4 : Bool) (b2_5 : Bool) (b2_6 : Bool) (b2_7 : Bool) (b2_8 : Bool) (b2_9 : Bool) (b2_10 : Bool) (b2_11 : Bool) (b2_12 : Bool) (b2_13 : Bool) (b5_0 : Bool) (b5_1 : Bool) (b5_2 : Bool) (b5_3 : Bool) (b5_4 : Bool) (b5_5 : Bool) (b5_6 : Bool) (b5_7 : Bool) (b5_8 : Bool) (b5_9 : Bool) (b5_10 : Bool) (b5_11 : Bool) (b5_12 : Bool) (b5_13 : Bool) : Option AV :=
  gate kj fun _ => code ((bs E0 k).cfg kap ref09_fields) (sel ref09_fields_bd [1, 1, 1, 1, 1, 1, 1, 1, 1, 1, 1, 1, 1]) (mkFr 160 [(1, (.loc 1 0)), (2, (.loc 2 0)), (4, (.bool s4)), (5, (.loc 5 0))] [(1, (.box [(.int .i64 b1_0), (.str b1_1), (.str b1_2), (.int .i64 b1_3), (.int .i64 b1_4), (.int .i64 b1_5), (.int .i64 b1_6), (.int .i64 b1_7), (.int .i64 b1_8), (.str b1_9), (.str b1_10), (.int .i64 b1_11), (.int .i64 b1_12), (.list 2 b1_13)])), (2, (.box [(.bool b2_0), (.bool b2_1), (.bool b2_2), (.bool b2_3), (.bool b2_4), (.bool b2_5), (.bool b2_6), (.bool b2_7), (.bool b2_8), (.bool b2_9), (.bool b2_10), (.bool b2_11), (.bool b2_12), (.bool b2_13)])), (5, (.box [(.bool b5_0), (.bool b5_1), (.bool b5_2), (.bool b5_3), (.bool b5_4), (.bool b5_5), (.bool b5_6), (.bool b5_7), (.bool b5_8), (.bool b5_9), (.bool b5_10), (.bool b5_11), (.bool b5_12), (.bool b5_13)]))]) (plug ((bs E0 k).cfg kap ref09_fields) (retK ((bs E0 k).cfg kap ref09_fields) [] Tryz.f52 [] some) [])
noncomputable def ref09_fields_J7 (kap : FuncId → List AV → Option AV) (k : Nat) (kj : Nat) (s4 : Bool) (b1_0 : Int) (b1_1 : ByteArray) (b1_2 : ByteArray) (b1_3 : Int) (b1_4 : Int) (b1_5 : Int) (b1_6 : Int) (b1_7 : Int) (b1_8 : Int) (b1_9 : ByteArray) (b1_10 : ByteArray) (b1_11 : Int) (b1_12 : Int) (b1_13 : List AV) (b2_0 : Bool) (b2_1 : Bool) (b2_2 : Bool) (b2_3 : Bool) (b2_4 : Bool) (b2_5 : Bool) (b2_6 : Bool) (b2_7 : Bool) (b2_8 : Bool) (b2_9 : Bool) (b2_10 : Bool) (b2_11 : Bool) (b2_12 : Bool) (b2_13 : Bool) (b5_0 : Bool) (b5_1 : Bool) (b5_2 : Bool) (b5_3 : Bool) (b5_4 : Bool) (b5_5 : Bool) (b5_6 : Bool) (b5_7 : Bool) (b5_8 : Bool) (b5_9 : Bool) (b5_10 : Bool) (b5_11 : Bool) (b5_12 : Bool) (b5_13 : Bool) : Option AV :=
  gate kj fun _ => code ((bs E0 k).cfg kap ref09_fields) (sel ref09_fields_bd [1, 1, 1, 1, 1, 1, 1, 1, 1, 1, 1, 1, 1, 1]) (mkFr 160 [(1, (.loc 1 0)), (2, (.loc 2 0)), (4, (.bool s4)), (5, (.loc 5 0))] [(1, (.box [(.int .i64 b1_0), (.str b1_1), (.str b1_2), (.int .i64 b1_3), (.int .i64 b1_4), (.int .i64 b1_5), (.int .i64 b1_6), (.int .i64 b1_7), (.int .i64 b1_8), (.str b1_9), (.str b1_10), (.int .i64 b1_11), (.int .i64 b1_12), (.list 2 b1_13)])), (2, (.box [(.bool b2_0), (.bool b2_1), (.bool b2_2), (.bool b2_3), (.bool b2_4), (.bool b2_5), (.bool b2_6), (.bool b2_7), (.bool b2_8), (.bool b2_9), (.bool b2_10), (.bool b2_11), (.bool b2_12), (.bool b2_13)])), (5, (.box [(.bool b5_0), (.bool b5_1), (.bool b5_2), (.bool b5_3), (.bool b5_4), (.bool b5_5), (.bool b5_6), (.bool b5_7), (.bool b5_8), (.bool b5_9), (.bool b5_10), (.bool b5_11), (.bool b5_12), (.bool b5_13)]))]) (plug ((bs E0 k).cfg kap ref09_fields) (retK ((bs E0 k).cfg kap ref09_fields) [] Tryz.f52 [] some) [])
noncomputable def ref09_fields_J8 (kap : FuncId → List AV → Option AV) (k : Nat) (kj : Nat) (s4 : Bool) (b1_0 : Int) (b1_1 : ByteArray) (b1_2 : ByteArray) (b1_3 : Int) (b1_4 : Int) (b1_5 : Int) (b1_6 : Int) (b1_7 : Int) (b1_8 : Int) (b1_9 : ByteArray) (b1_10 : ByteArray) (b1_11 : Int) (b1_12 : Int) (b1_13 : List AV) (b2_0 : Bool) (b2_1 : Bool) (b2_2 : Bool) (b2_3 : Bool) (b2_4 : Bool) (b2_5 : Bool) (b2_6 : Bool) (b2_7 : Bool) (b2_8 : Bool) (b2_9 : Bool) (b2_10 : Bool) (b2_11 : Bool) (b2_12 : Bool) (b2_13 : Bool) (b5_0 : Bool) (b5_1 : Bool) (b5_2 : Bool) (b5_3 : Bool) (b5_4 : Bool) (b5_5 : Bool) (b5_6 : Bool) (b5_7 : Bool) (b5_8 : Bool) (b5_9 : Bool) (b5_10 : Bool) (b5_11 : Bool) (b5_12 : Bool) (b5_13 : Bool) : Option AV :=
  gate kj fun _ => code ((bs E0 k).cfg kap ref09_fields) (sel ref09_fields_bd [1, 1, 1, 1, 1, 1, 1, 1, 1, 1, 1, 1, 1, 1, 1]) (mkFr 160 [(1, (.loc 1 0)), (2, (.loc 2 0)), (4, (.bool s4)), (5, (.loc 5 0))] [(1, (.box [(.int .i64 b1_0), (.str b1_1), (.str b1_2), (.int .i64 b1_3), (.int .i64 b1_4), (.int .i64 b1_5), (.int .i64 b1_6), (.int .i64 b1_7), (.int .i64 b1_8), (.str b1_9), (.str b1_10), (.int .i64 b1_11), (.int .i64 b1_12), (.list 2 b1_13)])), (2, (.box [(.bool b2_0), (.bool b2_1), (.bool b2_2), (.bool b2_3), (.bool b2_4), (.bool b2_5), (.bool b2_6), (.bool b2_7), (.bool b2_8), (.bool b2_9), (.bool b2_10), (.bool b2_11), (.bool b2_12), (.bool b2_13)])), (5, (.box [(.bool b5_0), (.bool b5_1), (.bool b5_2), (.bool b5_3), (.bool b5_4), (.bool b5_5), (.bool b5_6), (.bool b5_7), (.bool b5_8), (.bool b5_9), (.bool b5_10), (.bool b5_11), (.bool b5_12), (.bool b5_13)]))]) (plug ((bs E0 k).cfg kap ref09_fields) (retK ((bs E0 k).cfg kap ref09_fields) [] Tryz.f52 [] some) [])
noncomputable def ref09_fields_J9 (kap : FuncId → List AV → Option AV) (k : Nat) (kj : Nat) (b1_0 : Int) (b1_1 : ByteArray) (b1_2 : ByteArray) (b1_3 : Int) (b1_4 : Int) (b1_5 : Int) (b1_6 : Int) (b1_7 : Int) (b1_8 : Int) (b1_9 : ByteArray) (b1_10 : ByteArray) (b1_11 : Int) (b1_12 : Int) (b1_13 : List AV) (b2_0 : Bool) (b2_1 : Bool) (b2_2 : Bool) (b2_3 : Bool) (b2_4 : Bool) (b2_5 : Bool) (b2_6 : Bool) (b2_7 : Bool) (b2_8 : Bool) (b2_9 : Bool) (b2_10 : Bool) (b2_11 : Bool) (b2_12 : Bool) (b2_13 : Bool) (b5_0 : Bool) (b5_1 : Bool) (b5_2 : Bool) (b5_3 : Bool) (b5_4 : Bool) (b5_5 : Bool) (b5_6 : Bool) (b5_7 : Bool) (b5_8 : Bool) (b5_9 : Bool) (b5_10 : Bool) (b5_11 : Bool) (b5_12 : Bool) (b5_13 : Bool) : Option AV :=
  gate kj fun _ => code ((bs E0 k).cfg kap ref09_fields) (sel ref09_fields_bd [1, 1, 1, 1, 1, 1, 1, 1, 1, 1, 1, 1, 1, 1, 1, 1]) (mkFr 160 [(1, (.loc 1 0)), (2, (.loc 2 0)), (5, (.loc 5 0))] [(1, (.box [(.int .i64 b1_0), (.str b1_1), (.str b1_2), (.int .i64 b1_3), (.int .i64 b1_4), (.int .i64 b1_5), (.int .i64 b1_6), (.int .i64 b1_7), (.int .i64 b1_8), (.str b1_9), (.str b1_10), (.int .i64 b1_11), (.int .i64 b1_12), (.list 2 b1_13)])), (2, (.box [(.bool b2_0), (.bool b2_1), (.bool b2_2), (.bool b2_3), (.bool b2_4), (.bool b2_5), (.bool b2_6), (.bool b2_7), (.bool b2_8), (.bool b2_9), (.bool b2_10), (.bool b2_11), (.bool b2_12), (.bool b2_13)])), (5, (.box [(.bool b5_0), (.bool b5_1), (.bool b5_2), (.bool b5_3), (.bool b5_4), (.bool b5_5), (.bool b5_6), (.bool b5_7), (.bool b5_8), (.bool b5_9), (.bool b5_10), (.bool b5_11), (.bool b5_12), (.bool b5_13)]))]) (plug ((bs E0 k).cfg kap ref09_fields) (retK ((bs E0 k).cfg kap ref09_fields) [] Tryz.f52 [] some) [])
noncomputable def ref09_fields_L10 (kap : FuncId → List AV → Option AV) (k : Nat) (k10 : Nat) (s6 : Int) (b1_0 : Int) (b1_1 : ByteArray) (b1_2 : ByteArray) (b1_3 : Int) (b1_4 : Int) (b1_5 : Int) (b1_6 : Int) (b1_7 : Int) (b1_8 : Int) (b1_9 : ByteArray) (b1_10 : ByteArray) (b1_11 : Int) (b1_12 : Int) (b1_13 : List AV) (b2_0 : Bool) (b2_1 : Bool) (b2_2 : Bool) (b2_3 : Bool) (b2_4 : Bool) (b2_5 : Bool) (b2_6 : Bool) (b2_7 : Bool) (b2_8 : Bool) (b2_9 : Bool) (b2_10 : Bool) (b2_11 : Bool) (b2_12 : Bool) (b2_13 : Bool) (b5_0 : Bool) (b5_1 : Bool) (b5_2 : Bool) (b5_3 : Bool) (b5_4 : Bool) (b5_5 : Bool) (b5_6 : Bool) (b5_7 : Bool) (b5_8 : Bool) (b5_9 : Bool) (b5_10 : Bool) (b5_11 : Bool) (b5_12 : Bool) (b5_13 : Bool) : Option AV :=
  loop (fun fr K => code ((bs E0 k).cfg kap ref09_fields) (sel ref09_fields_bd [1, 1, 1, 1, 1, 1, 1, 1, 1, 1, 1, 1, 1, 1, 1, 1, 1, 0, 1, 0, 0]) fr K) (canon ((bs E0 k).cfg kap ref09_fields) (firstReg (sel ref09_fields_bd [1, 1, 1, 1, 1, 1, 1, 1, 1, 1, 1, 1, 1, 1, 1, 1, 1, 0, 1, 0, 0]))) k10 (mkFr 160 [(1, (.loc 1 0)), (2, (.loc 2 0)), (5, (.loc 5 0)), (6, (.int .i64 s6))] [(1, (.box [(.int .i64 b1_0), (.str b1_1), (.str b1_2), (.int .i64 b1_3), (.int .i64 b1_4), (.int .i64 b1_5), (.int .i64 b1_6), (.int .i64 b1_7), (.int .i64 b1_8), (.str b1_9), (.str b1_10), (.int .i64 b1_11), (.int .i64 b1_12), (.list 2 b1_13)])), (2, (.box [(.bool b2_0), (.bool b2_1), (.bool b2_2), (.bool b2_3), (.bool b2_4), (.bool b2_5), (.bool b2_6), (.bool b2_7), (.bool b2_8), (.bool b2_9), (.bool b2_10), (.bool b2_11), (.bool b2_12), (.bool b2_13)])), (5, (.box [(.bool b5_0), (.bool b5_1), (.bool b5_2), (.bool b5_3), (.bool b5_4), (.bool b5_5), (.bool b5_6), (.bool b5_7), (.bool b5_8), (.bool b5_9), (.bool b5_10), (.bool b5_11), (.bool b5_12), (.bool b5_13)]))]) (plug ((bs E0 k).cfg kap ref09_fields) (retK ((bs E0 k).cfg kap ref09_fields) [] Tryz.f52 [] some) [.blk 0, .seqR (sel ref09_fields_bd [1, 1, 1, 1, 1, 1, 1, 1, 1, 1, 1, 1, 1, 1, 1, 1, 1, 1])])
theorem ref09_fields_J0_s (kap : FuncId → List AV → Option AV) (k : Nat) (kj : Nat) (s3 : Bool) (b1_0 : Int) (b1_1 : ByteArray) (b1_2 : ByteArray) (b1_3 : Int) (b1_4 : Int) (b1_5 : Int) (b1_6 : Int) (b1_7 : Int) (b1_8 : Int) (b1_9 : ByteArray) (b1_10 : ByteArray) (b1_11 : Int) (b1_12 : Int) (b1_13 : List AV) (b2_0 : Bool) (b2_1 : Bool) (b2_2 : Bool) (b2_3 : Bool) (b2_4 : Bool) (b2_5 : Bool) (b2_6 : Bool) (b2_7 : Bool) (b2_8 : Bool) (b2_9 : Bool) (b2_10 : Bool) (b2_11 : Bool) (b2_12 : Bool) (b2_13 : Bool) : ref09_fields_J0 kap k (kj + 1) s3 b1_0 b1_1 b1_2 b1_3 b1_4 b1_5 b1_6 b1_7 b1_8 b1_9 b1_10 b1_11 b1_12 b1_13 b2_0 b2_1 b2_2 b2_3 b2_4 b2_5 b2_6 b2_7 b2_8 b2_9 b2_10 b2_11 b2_12 b2_13 =
  (bif (decide (b1_0 = (4 : Int))) then (ref09_fields_J1 kap k k s3 true b1_0 b1_1 b1_2 b1_3 b1_4 b1_5 b1_6 b1_7 b1_8 b1_9 b1_10 b1_11 b1_12 b1_13 b2_0 b2_1 b2_2 b2_3 b2_4 b2_5 b2_6 b2_7 b2_8 b2_9 b2_10 b2_11 b2_12 b2_13) else (ref09_fields_J1 kap k k s3 (decide (b1_0 = (5 : Int))) b1_0 b1_1 b1_2 b1_3 b1_4 b1_5 b1_6 b1_7 b1_8 b1_9 b1_10 b1_11 b1_12 b1_13 b2_0 b2_1 b2_2 b2_3 b2_4 b2_5 b2_6 b2_7 b2_8 b2_9 b2_10 b2_11 b2_12 b2_13)) := by kernel_rfl
theorem ref09_fields_J1_s (kap : FuncId → List AV → Option AV) (k : Nat) (kj : Nat) (s3 : Bool) (s4 : Bool) (b1_0 : Int) (b1_1 : ByteArray) (b1_2 : ByteArray) (b1_3 : Int) (b1_4 : Int) (b1_5 : Int) (b1_6 : Int) (b1_7 : Int) (b1_8 : Int) (b1_9 : ByteArray) (b1_10 : ByteArray) (b1_11 : Int) (b1_12 : Int) (b1_13 : List AV) (b2_0 : Bool) (b2_1 : Bool) (b2_2 : Bool) (b2_3 : Bool) (b2_4 : Bool) (b2_5 : Bool) (b2_6 : Bool) (b2_7 : Bool) (b2_8 : Bool) (b2_9 : Bool) (b2_10 : Bool) (b2_11 : Bool) (b2_12 : Bool) (b2_13 : Bool) : ref09_fields_J1 kap k (kj + 1) s3 s4 b1_0 b1_1 b1_2 b1_3 b1_4 b1_5 b1_6 b1_7 b1_8 b1_9 b1_10 b1_11 b1_12 b1_13 b2_0 b2_1 b2_2 b2_3 b2_4 b2_5 b2_6 b2_7 b2_8 b2_9 b2_10 b2_11 b2_12 b2_13 =
  (bif (decide (b1_0 ≥ (1 : Int))) then (ref09_fields_J2 kap k k s3 s4 b1_0 b1_1 b1_2 b1_3 b1_4 b1_5 b1_6 b1_7 b1_8 b1_9 b1_10 b1_11 b1_12 b1_13 b2_0 b2_1 b2_2 b2_3 b2_4 b2_5 b2_6 b2_7 b2_8 b2_9 b2_10 b2_11 b2_12 b2_13 false (decide (b1_0 ≤ (7 : Int))) false false false false false false false false false false false false) else (ref09_fields_J2 kap k k s3 s4 b1_0 b1_1 b1_2 b1_3 b1_4 b1_5 b1_6 b1_7 b1_8 b1_9 b1_10 b1_11 b1_12 b1_13 b2_0 b2_1 b2_2 b2_3 b2_4 b2_5 b2_6 b2_7 b2_8 b2_9 b2_10 b2_11 b2_12 b2_13 false false false false false false false false false false false false false false)) := by kernel_rfl
theorem ref09_fields_J2_s (kap : FuncId → List AV → Option AV) (k : Nat) (kj : Nat) (s3 : Bool) (s4 : Bool) (b1_0 : Int) (b1_1 : ByteArray) (b1_2 : ByteArray) (b1_3 : Int) (b1_4 : Int) (b1_5 : Int) (b1_6 : Int) (b1_7 : Int) (b1_8 : Int) (b1_9 : ByteArray) (b1_10 : ByteArray) (b1_11 : Int) (b1_12 : Int) (b1_13 : List AV) (b2_0 : Bool) (b2_1 : Bool) (b2_2 : Bool) (b2_3 : Bool) (b2_4 : Bool) (b2_5 : Bool) (b2_6 : Bool) (b2_7 : Bool) (b2_8 : Bool) (b2_9 : Bool) (b2_10 : Bool) (b2_11 : Bool) (b2_12 : Bool) (b2_13 : Bool) (b5_0 : Bool) (b5_1 : Bool) (b5_2 : Bool) (b5_3 : Bool) (b5_4 : Bool) (b5_5 : Bool) (b5_6 : Bool) (b5_7 : Bool) (b5_8 : Bool) (b5_9 : Bool) (b5_10 : Bool) (b5_11 : Bool) (b5_12 : Bool) (b5_13 : Bool) : ref09_fields_J2 kap k (kj + 1) s3 s4 b1_0 b1_1 b1_2 b1_3 b1_4 b1_5 b1_6 b1_7 b1_8 b1_9 b1_10 b1_11 b1_12 b1_13 b2_0 b2_1 b2_2 b2_3 b2_4 b2_5 b2_6 b2_7 b2_8 b2_9 b2_10 b2_11 b2_12 b2_13 b5_0 b5_1 b5_2 b5_3 b5_4 b5_5 b5_6 b5_7 b5_8 b5_9 b5_10 b5_11 b5_12 b5_13 =
  (callB (kap ref09_name [(.str b1_1)]) fun vq2 => (bif vq2 then (bif (decide (b1_0 = (1 : Int))) then (callB (kap ref09_Slash [(.str b1_1)]) fun vq4 => (ref09_fields_J3 kap k k s3 s4 b1_0 b1_1 b1_2 b1_3 b1_4 b1_5 b1_6 b1_7 b1_8 b1_9 b1_10 b1_11 b1_12 b1_13 b2_0 b2_1 b2_2 b2_3 b2_4 b2_5 b2_6 b2_7 b2_8 b2_9 b2_10 b2_11 b2_12 b2_13 b5_0 b5_1 (!vq4) b5_3 b5_4 b5_5 b5_6 b5_7 b5_8 b5_9 b5_10 b5_11 b5_12 b5_13)) else (ref09_fields_J3 kap k k s3 s4 b1_0 b1_1 b1_2 b1_3 b1_4 b1_5 b1_6 b1_7 b1_8 b1_9 b1_10 b1_11 b1_12 b1_13 b2_0 b2_1 b2_2 b2_3 b2_4 b2_5 b2_6 b2_7 b2_8 b2_9 b2_10 b2_11 b2_12 b2_13 b5_0 b5_1 true b5_3 b5_4 b5_5 b5_6 b5_7 b5_8 b5_9 b5_10 b5_11 b5_12 b5_13)) else (ref09_fields_J3 kap k k s3 s4 b1_0 b1_1 b1_2 b1_3 b1_4 b1_5 b1_6 b1_7 b1_8 b1_9 b1_10 b1_11 b1_12 b1_13 b2_0 b2_1 b2_2 b2_3 b2_4 b2_5 b2_6 b2_7 b2_8 b2_9 b2_10 b2_11 b2_12 b2_13 b5_0 b5_1 false b5_3 b5_4 b5_5 b5_6 b5_7 b5_8 b5_9 b5_10 b5_11 b5_12 b5_13))) := by kernel_rfl
theorem ref09_fields_J3_s (kap : FuncId → List AV → Option AV) (k : Nat) (kj : Nat) (s3 : Bool) (s4 : Bool) (b1_0 : Int) (b1_1 : ByteArray) (b1_2 : ByteArray) (b1_3 : Int) (b1_4 : Int) (b1_5 : Int) (b1_6 : Int) (b1_7 : Int) (b1_8 : Int) (b1_9 : ByteArray) (b1_10 : ByteArray) (b1_11 : Int) (b1_12 : Int) (b1_13 : List AV) (b2_0 : Bool) (b2_1 : Bool) (b2_2 : Bool) (b2_3 : Bool) (b2_4 : Bool) (b2_5 : Bool) (b2_6 : Bool) (b2_7 : Bool) (b2_8 : Bool) (b2_9 : Bool) (b2_10 : Bool) (b2_11 : Bool) (b2_12 : Bool) (b2_13 : Bool) (b5_0 : Bool) (b5_1 : Bool) (b5_2 : Bool) (b5_3 : Bool) (b5_4 : Bool) (b5_5 : Bool) (b5_6 : Bool) (b5_7 : Bool) (b5_8 : Bool) (b5_9 : Bool) (b5_10 : Bool) (b5_11 : Bool) (b5_12 : Bool) (b5_13 : Bool) : ref09_fields_J3 kap k (kj + 1) s3 s4 b1_0 b1_1 b1_2 b1_3 b1_4 b1_5 b1_6 b1_7 b1_8 b1_9 b1_10 b1_11 b1_12 b1_13 b2_0 b2_1 b2_2 b2_3 b2_4 b2_5 b2_6 b2_7 b2_8 b2_9 b2_10 b2_11 b2_12 b2_13 b5_0 b5_1 b5_2 b5_3 b5_4 b5_5 b5_6 b5_7 b5_8 b5_9 b5_10 b5_11 b5_12 b5_13 =
  (bif s3 then (callB (kap ref09_name [(.str b1_2)]) fun vq6 => (bif vq6 then (ref09_fields_J4 kap k k s4 b1_0 b1_1 b1_2 b1_3 b1_4 b1_5 b1_6 b1_7 b1_8 b1_9 b1_10 b1_11 b1_12 b1_13 b2_0 b2_1 b2_2 b2_3 b2_4 b2_5 b2_6 b2_7 b2_8 b2_9 b2_10 b2_11 b2_12 b2_13 b5_0 b5_1 b5_2 true b5_4 b5_5 b5_6 b5_7 b5_8 b5_9 b5_10 b5_11 b5_12 b5_13) else (bif (!s3) then (ref09_fields_J4 kap k k s4 b1_0 b1_1 b1_2 b1_3 b1_4 b1_5 b1_6 b1_7 b1_8 b1_9 b1_10 b1_11 b1_12 b1_13 b2_0 b2_1 b2_2 b2_3 b2_4 b2_5 b2_6 b2_7 b2_8 b2_9 b2_10 b2_11 b2_12 b2_13 b5_0 b5_1 b5_2 (decide (b1_2 = (str []))) b5_4 b5_5 b5_6 b5_7 b5_8 b5_9 b5_10 b5_11 b5_12 b5_13) else (ref09_fields_J4 kap k k s4 b1_0 b1_1 b1_2 b1_3 b1_4 b1_5 b1_6 b1_7 b1_8 b1_9 b1_10 b1_11 b1_12 b1_13 b2_0 b2_1 b2_2 b2_3 b2_4 b2_5 b2_6 b2_7 b2_8 b2_9 b2_10 b2_11 b2_12 b2_13 b5_0 b5_1 b5_2 false b5_4 b5_5 b5_6 b5_7 b5_8 b5_9 b5_10 b5_11 b5_12 b5_13)))) else (bif (!s3) then (ref09_fields_J4 kap k k s4 b1_0 b1_1 b1_2 b1_3 b1_4 b1_5 b1_6 b1_7 b1_8 b1_9 b1_10 b1_11 b1_12 b1_13 b2_0 b2_1 b2_2 b2_3 b2_4 b2_5 b2_6 b2_7 b2_8 b2_9 b2_10 b2_11 b2_12 b2_13 b5_0 b5_1 b5_2 (decide (b1_2 = (str []))) b5_4 b5_5 b5_6 b5_7 b5_8 b5_9 b5_10 b5_11 b5_12 b5_13) else (ref09_fields_J4 kap k k s4 b1_0 b1_1 b1_2 b1_3 b1_4 b1_5 b1_6 b1_7 b1_8 b1_9 b1_10 b1_11 b1_12 b1_13 b2_0 b2_1 b2_2 b2_3 b2_4 b2_5 b2_6 b2_7 b2_8 b2_9 b2_10 b2_11 b2_12 b2_13 b5_0 b5_1 b5_2 false b5_4 b5_5 b5_6 b5_7 b5_8 b5_9 b5_10 b5_11 b5_12 b5_13))) := by kernel_rfl
theorem ref09_fields_J4_s (kap : FuncId → List AV → Option AV) (k : Nat) (kj : Nat) (s4 : Bool) (b1_0 : Int) (b1_1 : ByteArray) (b1_2 : ByteArray) (b1_3 : Int) (b1_4 : Int) (b1_5 : Int) (b1_6 : Int) (b1_7 : Int) (b1_8 : Int) (b1_9 : ByteArray) (b1_10 : ByteArray) (b1_11 : Int) (b1_12 : Int) (b1_13 : List AV) (b2_0 : Bool) (b2_1 : Bool) (b2_2 : Bool) (b2_3 : Bool) (b2_4 : Bool) (b2_5 : Bool) (b2_6 : Bool) (b2_7 : Bool) (b2_8 : Bool) (b2_9 : Bool) (b2_10 : Bool) (b2_11 : Bool) (b2_12 : Bool) (b2_13 : Bool) (b5_0 : Bool) (b5_1 : Bool) (b5_2 : Bool) (b5_3 : Bool) (b5_4 : Bool) (b5_5 : Bool) (b5_6 : Bool) (b5_7 : Bool) (b5_8 : Bool) (b5_9 : Bool) (b5_10 : Bool) (b5_11 : Bool) (b5_12 : Bool) (b5_13 : Bool) : ref09_fields_J4 kap k (kj + 1) s4 b1_0 b1_1 b1_2 b1_3 b1_4 b1_5 b1_6 b1_7 b1_8 b1_9 b1_10 b1_11 b1_12 b1_13 b2_0 b2_1 b2_2 b2_3 b2_4 b2_5 b2_6 b2_7 b2_8 b2_9 b2_10 b2_11 b2_12 b2_13 b5_0 b5_1 b5_2 b5_3 b5_4 b5_5 b5_6 b5_7 b5_8 b5_9 b5_10 b5_11 b5_12 b5_13 =
  (bif (decide (b1_6 = (0 : Int))) then (ref09_fields_J5 kap k k s4 b1_0 b1_1 b1_2 b1_3 b1_4 b1_5 b1_6 b1_7 b1_8 b1_9 b1_10 b1_11 b1_12 b1_13 b2_0 b2_1 b2_2 b2_3 b2_4 b2_5 b2_6 b2_7 b2_8 b2_9 b2_10 b2_11 b2_12 b2_13 b5_0 b5_1 b5_2 b5_3 (decide (b1_3 ≥ (0 : Int))) (decide (b1_4 ≥ (0 : Int))) (decide (b1_5 ≥ (0 : Int))) true b5_8 b5_9 b5_10 b5_11 b5_12 b5_13) else (bif (decide (b1_6 > (0 : Int))) then (ref09_fields_J5 kap k k s4 b1_0 b1_1 b1_2 b1_3 b1_4 b1_5 b1_6 b1_7 b1_8 b1_9 b1_10 b1_11 b1_12 b1_13 b2_0 b2_1 b2_2 b2_3 b2_4 b2_5 b2_6 b2_7 b2_8 b2_9 b2_10 b2_11 b2_12 b2_13 b5_0 b5_1 b5_2 b5_3 (decide (b1_3 ≥ (0 : Int))) (decide (b1_4 ≥ (0 : Int))) (decide (b1_5 ≥ (0 : Int))) (decide (b1_0 = (1 : Int))) b5_8 b5_9 b5_10 b5_11 b5_12 b5_13) else (ref09_fields_J5 kap k k s4 b1_0 b1_1 b1_2 b1_3 b1_4 b1_5 b1_6 b1_7 b1_8 b1_9 b1_10 b1_11 b1_12 b1_13 b2_0 b2_1 b2_2 b2_3 b2_4 b2_5 b2_6 b2_7 b2_8 b2_9 b2_10 b2_11 b2_12 b2_13 b5_0 b5_1 b5_2 b5_3 (decide (b1_3 ≥ (0 : Int))) (decide (b1_4 ≥ (0 : Int))) (decide (b1_5 ≥ (0 : Int))) false b5_8 b5_9 b5_10 b5_11 b5_12 b5_13))) := by kernel_rfl
theorem ref09_fields_J5_s (kap : FuncId → List AV → Option AV) (k : Nat) (kj : Nat) (s4 : Bool) (b1_0 : Int) (b1_1 : ByteArray) (b1_2 : ByteArray) (b1_3 : Int) (b1_4 : Int) (b1_5 : Int) (b1_6 : Int) (b1_7 : Int) (b1_8 : Int) (b1_9 : ByteArray) (b1_10 : ByteArray) (b1_11 : Int) (b1_12 : Int) (b1_13 : List AV) (b2_0 : Bool) (b2_1 : Bool) (b2_2 : Bool) (b2_3 : Bool) (b2_4 : Bool) (b2_5 : Bool) (b2_6 : Bool) (b2_7 : Bool) (b2_8 : Bool) (b2_9 : Bool) (b2_10 : Bool) (b2_11 : Bool) (b2_12 : Bool) (b2_13 : Bool) (b5_0 : Bool) (b5_1 : Bool) (b5_2 : Bool) (b5_3 : Bool) (b5_4 : Bool) (b5_5 : Bool) (b5_6 : Bool) (b5_7 : Bool) (b5_8 : Bool) (b5_9 : Bool) (b5_10 : Bool) (b5_11 : Bool) (b5_12 : Bool) (b5_13 : Bool) : ref09_fields_J5 kap k (kj + 1) s4 b1_0 b1_1 b1_2 b1_3 b1_4 b1_5 b1_6 b1_7 b1_8 b1_9 b1_10 b1_11 b1_12 b1_13 b2_0 b2_1 b2_2 b2_3 b2_4 b2_5 b2_6 b2_7 b2_8 b2_9 b2_10 b2_11 b2_12 b2_13 b5_0 b5_1 b5_2 b5_3 b5_4 b5_5 b5_6 b5_7 b5_8 b5_9 b5_10 b5_11 b5_12 b5_13 =
  (callB (kap ref04_Right [(.agg [(.int .i64 b1_7), (.int .i64 b1_8)])]) fun vq8 => (bif (decide (b1_9 = (str []))) then (ref09_fields_J6 kap k k s4 b1_0 b1_1 b1_2 b1_3 b1_4 b1_5 b1_6 b1_7 b1_8 b1_9 b1_10 b1_11 b1_12 b1_13 b2_0 b2_1 b2_2 b2_3 b2_4 b2_5 b2_6 b2_7 b2_8 b2_9 b2_10 b2_11 b2_12 b2_13 b5_0 b5_1 b5_2 b5_3 b5_4 b5_5 b5_6 b5_7 vq8 true b5_10 b5_11 b5_12 b5_13) else (callB (kap ref09_name [(.str b1_9)]) fun vq18 => (ref09_fields_J6 kap k k s4 b1_0 b1_1 b1_2 b1_3 b1_4 b1_5 b1_6 b1_7 b1_8 b1_9 b1_10 b1_11 b1_12 b1_13 b2_0 b2_1 b2_2 b2_3 b2_4 b2_5 b2_6 b2_7 b2_8 b2_9 b2_10 b2_11 b2_12 b2_13 b5_0 b5_1 b5_2 b5_3 b5_4 b5_5 b5_6 b5_7 vq8 vq18 b5_10 b5_11 b5_12 b5_13)))) := by kernel_rfl
theorem ref09_fields_J6_s (kap : FuncId → List AV → Option AV) (k : Nat) (kj : Nat) (s4 : Bool) (b1_0 : Int) (b1_1 : ByteArray) (b1_2 : ByteArray) (b1_3 : Int) (b1_4 : Int) (b1_5 : Int) (b1_6 : Int) (b1_7 : Int) (b1_8 : Int) (b1_9 : ByteArray) (b1_10 : ByteArray) (b1_11 : Int) (b1_12 : Int) (b1_13 : List AV) (b2_0 : Bool) (b2_1 : Bool) (b2_2 : Bool) (b2_3 : Bool) (b2_4 : Bool) (b2_5 : Bool) (b2_6 : Bool) (b2_7 : Bool) (b2_8 : Bool) (b2_9 : Bool) (b2_10 : Bool) (b2_11 : Bool) (b2_12 : Bool) (b2_13 : Bool) (b5_0 : Bool) (b5_1 : Bool) (b5_2 : Bool) (b5_3 : Bool) (b5_4 : Bool) (b5_5 : Bool) (b5_6 : Bool) (b5_7 : Bool) (b5_8 : Bool) (b5_9 : Bool) (b5_10 : Bool) (b5_11 : Bool) (b5_12 : Bool) (b5_13 : Bool) : ref09_fields_J6 kap k (kj + 1) s4 b1_0 b1_1 b1_2 b1_3 b1_4 b1_5 b1_6 b1_7 b1_8 b1_9 b1_10 b1_11 b1_12 b1_13 b2_0 b2_1 b2_2 b2_3 b2_4 b2_5 b2_6 b2_7 b2_8 b2_9 b2_10 b2_11 b2_12 b2_13 b5_0 b5_1 b5_2 b5_3 b5_4 b5_5 b5_6 b5_7 b5_8 b5_9 b5_10 b5_11 b5_12 b5_13 =
  (bif (decide (b1_10 = (str []))) then (ref09_fields_J7 kap k k s4 b1_0 b1_1 b1_2 b1_3 b1_4 b1_5 b1_6 b1_7 b1_8 b1_9 b1_10 b1_11 b1_12 b1_13 b2_0 b2_1 b2_2 b2_3 b2_4 b2_5 b2_6 b2_7 b2_8 b2_9 b2_10 b2_11 b2_12 b2_13 b5_0 b5_1 b5_2 b5_3 b5_4 b5_5 b5_6 b5_7 b5_8 b5_9 true b5_11 b5_12 b5_13) else (callB (kap ref09_name [(.str b1_10)]) fun vq16 => (ref09_fields_J7 kap k k s4 b1_0 b1_1 b1_2 b1_3 b1_4 b1_5 b1_6 b1_7 b1_8 b1_9 b1_10 b1_11 b1_12 b1_13 b2_0 b2_1 b2_2 b2_3 b2_4 b2_5 b2_6 b2_7 b2_8 b2_9 b2_10 b2_11 b2_12 b2_13 b5_0 b5_1 b5_2 b5_3 b5_4 b5_5 b5_6 b5_7 b5_8 b5_9 vq16 b5_11 b5_12 b5_13))) := by kernel_rfl
theorem ref09_fields_J7_s (kap : FuncId → List AV → Option AV) (k : Nat) (kj : Nat) (s4 : Bool) (b1_0 : Int) (b1_1 : ByteArray) (b1_2 : ByteArray) (b1_3 : Int) (b1_4 : Int) (b1_5 : Int) (b1_6 : Int) (b1_7 : Int) (b1_8 : Int) (b1_9 : ByteArray) (b1_10 : ByteArray) (b1_11 : Int) (b1_12 : Int) (b1_13 : List AV) (b2_0 : Bool) (b2_1 : Bool) (b2_2 : Bool) (b2_3 : Bool) (b2_4 : Bool) (b2_5 : Bool) (b2_6 : Bool) (b2_7 : Bool) (b2_8 : Bool) (b2_9 : Bool) (b2_10 : Bool) (b2_11 : Bool) (b2_12 : Bool) (b2_13 : Bool) (b5_0 : Bool) (b5_1 : Bool) (b5_2 : Bool) (b5_3 : Bool) (b5_4 : Bool) (b5_5 : Bool) (b5_6 : Bool) (b5_7 : Bool) (b5_8 : Bool) (b5_9 : Bool) (b5_10 : Bool) (b5_11 : Bool) (b5_12 : Bool) (b5_13 : Bool) : ref09_fields_J7 kap k (kj + 1) s4 b1_0 b1_1 b1_2 b1_3 b1_4 b1_5 b1_6 b1_7 b1_8 b1_9 b1_10 b1_11 b1_12 b1_13 b2_0 b2_1 b2_2 b2_3 b2_4 b2_5 b2_6 b2_7 b2_8 b2_9 b2_10 b2_11 b2_12 b2_13 b5_0 b5_1 b5_2 b5_3 b5_4 b5_5 b5_6 b5_7 b5_8 b5_9 b5_10 b5_11 b5_12 b5_13 =
  (bif (decide (b1_11 = (0 : Int))) then (ref09_fields_J8 kap k k s4 b1_0 b1_1 b1_2 b1_3 b1_4 b1_5 b1_6 b1_7 b1_8 b1_9 b1_10 b1_11 b1_12 b1_13 b2_0 b2_1 b2_2 b2_3 b2_4 b2_5 b2_6 b2_7 b2_8 b2_9 b2_10 b2_11 b2_12 b2_13 b5_0 b5_1 b5_2 b5_3 b5_4 b5_5 b5_6 b5_7 b5_8 b5_9 b5_10 true b5_12 b5_13) else (bif (decide (b1_11 > (0 : Int))) then (ref09_fields_J8 kap k k s4 b1_0 b1_1 b1_2 b1_3 b1_4 b1_5 b1_6 b1_7 b1_8 b1_9 b1_10 b1_11 b1_12 b1_13 b2_0 b2_1 b2_2 b2_3 b2_4 b2_5 b2_6 b2_7 b2_8 b2_9 b2_10 b2_11 b2_12 b2_13 b5_0 b5_1 b5_2 b5_3 b5_4 b5_5 b5_6 b5_7 b5_8 b5_9 b5_10 s4 b5_12 b5_13) else (ref09_fields_J8 kap k k s4 b1_0 b1_1 b1_2 b1_3 b1_4 b1_5 b1_6 b1_7 b1_8 b1_9 b1_10 b1_11 b1_12 b1_13 b2_0 b2_1 b2_2 b2_3 b2_4 b2_5 b2_6 b2_7 b2_8 b2_9 b2_10 b2_11 b2_12 b2_13 b5_0 b5_1 b5_2 b5_3 b5_4 b5_5 b5_6 b5_7 b5_8 b5_9 b5_10 false b5_12 b5_13))) := by kernel_rfl
theorem ref09_fields_J8_s (kap : FuncId → List AV → Option AV) (k : Nat) (kj : Nat) (s4 : Bool) (b1_0 : Int) (b1_1 : ByteArray) (b1_2 : ByteArray) (b1_3 : Int) (b1_4 : Int) (b1_5 : Int) (b1_6 : Int) (b1_7 : Int) (b1_8 : Int) (b1_9 : ByteArray) (b1_10 : ByteArray) (b1_11 : Int) (b1_12 : Int) (b1_13 : List AV) (b2_0 : Bool) (b2_1 : Bool) (b2_2 : Bool) (b2_3 : Bool) (b2_4 : Bool) (b2_5 : Bool) (b2_6 : Bool) (b2_7 : Bool) (b2_8 : Bool) (b2_9 : Bool) (b2_10 : Bool) (b2_11 : Bool) (b2_12 : Bool) (b2_13 : Bool) (b5_0 : Bool) (b5_1 : Bool) (b5_2 : Bool) (b5_3 : Bool) (b5_4 : Bool) (b5_5 : Bool) (b5_6 : Bool) (b5_7 : Bool) (b5_8 : Bool) (b5_9 : Bool) (b5_10 : Bool) (b5_11 : Bool) (b5_12 : Bool) (b5_13 : Bool) : ref09_fields_J8 kap k (kj + 1) s4 b1_0 b1_1 b1_2 b1_3 b1_4 b1_5 b1_6 b1_7 b1_8 b1_9 b1_10 b1_11 b1_12 b1_13 b2_0 b2_1 b2_2 b2_3 b2_4 b2_5 b2_6 b2_7 b2_8 b2_9 b2_10 b2_11 b2_12 b2_13 b5_0 b5_1 b5_2 b5_3 b5_4 b5_5 b5_6 b5_7 b5_8 b5_9 b5_10 b5_11 b5_12 b5_13 =
  (bif (decide (b1_12 = (0 : Int))) then (ref09_fields_J9 kap k k b1_0 b1_1 b1_2 b1_3 b1_4 b1_5 b1_6 b1_7 b1_8 b1_9 b1_10 b1_11 b1_12 b1_13 b2_0 b2_1 b2_2 b2_3 b2_4 b2_5 b2_6 b2_7 b2_8 b2_9 b2_10 b2_11 b2_12 b2_13 b5_0 b5_1 b5_2 b5_3 b5_4 b5_5 b5_6 b5_7 b5_8 b5_9 b5_10 b5_11 true b5_13) else (bif (decide (b1_12 > (0 : Int))) then (ref09_fields_J9 kap k k b1_0 b1_1 b1_2 b1_3 b1_4 b1_5 b1_6 b1_7 b1_8 b1_9 b1_10 b1_11 b1_12 b1_13 b2_0 b2_1 b2_2 b2_3 b2_4 b2_5 b2_6 b2_7 b2_8 b2_9 b2_10 b2_11 b2_12 b2_13 b5_0 b5_1 b5_2 b5_3 b5_4 b5_5 b5_6 b5_7 b5_8 b5_9 b5_10 b5_11 s4 b5_13) else (ref09_fields_J9 kap k k b1_0 b1_1 b1_2 b1_3 b1_4 b1_5 b1_6 b1_7 b1_8 b1_9 b1_10 b1_11 b1_12 b1_13 b2_0 b2_1 b2_2 b2_3 b2_4 b2_5 b2_6 b2_7 b2_8 b2_9 b2_10 b2_11 b2_12 b2_13 b5_0 b5_1 b5_2 b5_3 b5_4 b5_5 b5_6 b5_7 b5_8 b5_9 b5_10 b5_11 false b5_13))) := by kernel_rfl
theorem ref09_fields_J9_s (kap : FuncId → List AV → Option AV) (k : Nat) (kj : Nat) (b1_0 : Int) (b1_1 : ByteArray) (b1_2 : ByteArray) (b1_3 : Int) (b1_4 : Int) (b1_5 : Int) (b1_6 : Int) (b1_7 : Int) (b1_8 : Int) (b1_9 : ByteArray) (b1_10 : ByteArray) (b1_11 : Int) (b1_12 : Int) (b1_13 : List AV) (b2_0 : Bool) (b2_1 : Bool) (b2_2 : Bool) (b2_3 : Bool) (b2_4 : Bool) (b2_5 : Bool) (b2_6 : Bool) (b2_7 : Bool) (b2_8 : Bool) (b2_9 : Bool) (b2_10 : Bool) (b2_11 : Bool) (b2_12 : Bool) (b2_13 : Bool) (b5_0 : Bool) (b5_1 : Bool) (b5_2 : Bool) (b5_3 : Bool) (b5_4 : Bool) (b5_5 : Bool) (b5_6 : Bool) (b5_7 : Bool) (b5_8 : Bool) (b5_9 : Bool) (b5_10 : Bool) (b5_11 : Bool) (b5_12 : Bool) (b5_13 : Bool) : ref09_fields_J9 kap k (kj + 1) b1_0 b1_1 b1_2 b1_3 b1_4 b1_5 b1_6 b1_7 b1_8 b1_9 b1_10 b1_11 b1_12 b1_13 b2_0 b2_1 b2_2 b2_3 b2_4 b2_5 b2_6 b2_7 b2_8 b2_9 b2_10 b2_11 b2_12 b2_13 b5_0 b5_1 b5_2 b5_3 b5_4 b5_5 b5_6 b5_7 b5_8 b5_9 b5_10 b5_11 b5_12 b5_13 =
  (callB (kap ref08_Right [(.list 2 b1_13)]) fun vq10 => (ref09_fields_L10 kap k k (0 : Int) b1_0 b1_1 b1_2 b1_3 b1_4 b1_5 b1_6 b1_7 b1_8 b1_9 b1_10 b1_11 b1_12 b1_13 b2_0 b2_1 b2_2 b2_3 b2_4 b2_5 b2_6 b2_7 b2_8 b2_9 b2_10 b2_11 b2_12 b2_13 b5_0 b5_1 b5_2 b5_3 b5_4 b5_5 b5_6 b5_7 b5_8 b5_9 b5_10 b5_11 b5_12 vq10)) := by kernel_rfl
theorem ref09_fields_L10_s (kap : FuncId → List AV → Option AV) (k : Nat) (k10 : Nat) (s6 : Int) (b1_0 : Int) (b1_1 : ByteArray) (b1_2 : ByteArray) (b1_3 : Int) (b1_4 : Int) (b1_5 : Int) (b1_6 : Int) (b1_7 : Int) (b1_8 : Int) (b1_9 : ByteArray) (b1_10 : ByteArray) (b1_11 : Int) (b1_12 : Int) (b1_13 : List AV) (b2_0 : Bool) (b2_1 : Bool) (b2_2 : Bool) (b2_3 : Bool) (b2_4 : Bool) (b2_5 : Bool) (b2_6 : Bool) (b2_7 : Bool) (b2_8 : Bool) (b2_9 : Bool) (b2_10 : Bool) (b2_11 : Bool) (b2_12 : Bool) (b2_13 : Bool) (b5_0 : Bool) (b5_1 : Bool) (b5_2 : Bool) (b5_3 : Bool) (b5_4 : Bool) (b5_5 : Bool) (b5_6 : Bool) (b5_7 : Bool) (b5_8 : Bool) (b5_9 : Bool) (b5_10 : Bool) (b5_11 : Bool) (b5_12 : Bool) (b5_13 : Bool) : ref09_fields_L10 kap k (k10 + 1) s6 b1_0 b1_1 b1_2 b1_3 b1_4 b1_5 b1_6 b1_7 b1_8 b1_9 b1_10 b1_11 b1_12 b1_13 b2_0 b2_1 b2_2 b2_3 b2_4 b2_5 b2_6 b2_7 b2_8 b2_9 b2_10 b2_11 b2_12 b2_13 b5_0 b5_1 b5_2 b5_3 b5_4 b5_5 b5_6 b5_7 b5_8 b5_9 b5_10 b5_11 b5_12 b5_13 =
  (bif (decide (s6 < (((List.length b1_13) : Nat) : Int))) then (bif b5_13 then (bif ((decide ((0 : Int) ≤ s6)) && (decide (s6 < (((List.length b1_13) : Nat) : Int)))) then ((b1_13[(Int.toNat s6)]?).bind fun vy11 => (cellS (AV.cells vy11) 0 fun vs12 => (callI .i64 (kap ref07_Which [(.str vs12)]) fun vn14 => (ref09_fields_L10 kap k k10 (IntKind.wrap .i64 (s6 + (1 : Int))) b1_0 b1_1 b1_2 b1_3 b1_4 b1_5 b1_6 b1_7 b1_8 b1_9 b1_10 b1_11 b1_12 b1_13 b2_0 b2_1 b2_2 b2_3 b2_4 b2_5 b2_6 b2_7 b2_8 b2_9 b2_10 b2_11 b2_12 b2_13 b5_0 b5_1 b5_2 b5_3 b5_4 b5_5 b5_6 b5_7 b5_8 b5_9 b5_10 b5_11 b5_12 (decide (vn14 < (0 : Int))))))) else none) else (ref09_fields_L10 kap k k10 (IntKind.wrap .i64 (s6 + (1 : Int))) b1_0 b1_1 b1_2 b1_3 b1_4 b1_5 b1_6 b1_7 b1_8 b1_9 b1_10 b1_11 b1_12 b1_13 b2_0 b2_1 b2_2 b2_3 b2_4 b2_5 b2_6 b2_7 b2_8 b2_9 b2_10 b2_11 b2_12 b2_13 b5_0 b5_1 b5_2 b5_3 b5_4 b5_5 b5_6 b5_7 b5_8 b5_9 b5_10 b5_11 b5_12 false)) else (some (.agg [(.bool b5_0), (.bool b5_1), (.bool b5_2), (.bool b5_3), (.bool b5_4), (.bool b5_5), (.bool b5_6), (.bool b5_7), (.bool b5_8), (.bool b5_9), (.bool b5_10), (.bool b5_11), (.bool b5_12), (.bool b5_13)]))) := by kernel_rfl
theorem ref09_fields_eq {E : Ext} [Core E] (k n : Nat) (a0_0 : Int) (a0_1 : ByteArray) (a0_2 : ByteArray) (a0_3 : Int) (a0_4 : Int) (a0_5 : Int) (a0_6 : Int) (a0_7 : Int) (a0_8 : Int) (a0_9 : ByteArray) (a0_10 : ByteArray) (a0_11 : Int) (a0_12 : Int) (a0_13 : List AV) : kp E k (n + 1) ref09_fields [(.agg [(.int .i64 a0_0), (.str a0_1), (.str a0_2), (.int .i64 a0_3), (.int .i64 a0_4), (.int .i64 a0_5), (.int .i64 a0_6), (.int .i64 a0_7), (.int .i64 a0_8), (.str a0_9), (.str a0_10), (.int .i64 a0_11), (.int .i64 a0_12), (.list 2 a0_13)])] =
  (bif (decide (a0_0 = (2 : Int))) then (ref09_fields_J0 (kp E k n) k k true a0_0 a0_1 a0_2 a0_3 a0_4 a0_5 a0_6 a0_7 a0_8 a0_9 a0_10 a0_11 a0_12 a0_13 false false false false false false false false false false false false false false) else (ref09_fields_J0 (kp E k n) k k (decide (a0_0 = (3 : Int))) a0_0 a0_1 a0_2 a0_3 a0_4 a0_5 a0_6 a0_7 a0_8 a0_9 a0_10 a0_11 a0_12 a0_13 false false false false false false false false false false false false false false)) := (kp_at (by kernel_rfl)).trans (by kernel_rfl)
/- oakum/oakumref05.First -/
noncomputable def ref05_First_bd : Code := Tryz.f56.body.getD .skip
noncomputable def ref05_First_L0 (kap : FuncId → List AV → Option AV) (k : Nat) (k0 : Nat) (s3 : List AV) (s4 : Int) : Option AV :=
  loop (fun fr K => code ((bs E0 k).cfg kap ref05_First) (sel ref05_First_bd [1, 1, 0, 1, 0, 0]) fr K) (canon ((bs E0 k).cfg kap ref05_First) (firstReg (sel ref05_First_bd [1, 1, 0, 1, 0, 0]))) k0 (mkFr 24 [(3, (.list 1 s3)), (4, (.int .i64 s4))] []) (plug ((bs E0 k).cfg kap ref05_First) (retK ((bs E0 k).cfg kap ref05_First) [] Tryz.f56 [] some) [.blk 0, .seqR (sel ref05_First_bd [1, 1, 1])])
theorem ref05_First_L0_s (kap : FuncId → List AV → Option AV) (k : Nat) (k0 : Nat) (s3 : List AV) (s4 : Int) : ref05_First_L0 kap k (k0 + 1) s3 s4 =
  (bif (decide (s4 < (((List.length s3) : Nat) : Int))) then (bif ((decide ((0 : Int) ≤ s4)) && (decide (s4 < (((List.length s3) : Nat) : Int)))) then ((s3[(Int.toNat s4)]?).bind fun vy3 => (cellI .i64 (AV.cells vy3) 0 fun vn4 => (bif (decide (vn4 < (0 : Int))) then (bif ((decide ((0 : Int) ≤ s4)) && (decide (s4 < (((List.length s3) : Nat) : Int)))) then ((s3[(Int.toNat s4)]?).bind fun vy5 => (cellI .i64 (AV.cells vy5) 0 fun vn6 => (some (.int .i64 (IntKind.wrap .i64 ((IntKind.wrap .i64 (0 - vn6)) - (1 : Int))))))) else none) else (ref05_First_L0 kap k k0 s3 (IntKind.wrap .i64 (s4 + (1 : Int))))))) else none) else (some (.int .i64 (-1 : Int)))) := by kernel_rfl
theorem ref05_First_eq {E : Ext} [Core E] (k n : Nat) (a0 : ByteArray) : kp E k (n + 1) ref05_First [(.str a0)] =
  (callL 1 (kp E k n ref05_Ends [(.str a0)]) fun vl2 => (ref05_First_L0 (kp E k n) k k vl2 (0 : Int))) := (kp_at (by kernel_rfl)).trans (by kernel_rfl)
/- oakum/oakumref02.Clean -/
theorem ref02_Clean_eq {E : Ext} [Core E] (k n : Nat) (a0 : ByteArray) : kp E k (n + 1) ref02_Clean [(.str a0)] =
  (callS (kp E k n ref02_Get [(.list 1 (bytesAV a0))]) fun vs2 => (some (.bool (decide (vs2 = a0))))) := (kp_at (by kernel_rfl)).trans (by kernel_rfl)
/- oakum/oakumref07.Record -/
theorem ref07_Record_eq {E : Ext} [Core E] (k n : Nat) (a0_0 : ByteArray) (a0_1 : ByteArray) : kp E k (n + 1) ref07_Record [(.agg [(.str a0_0), (.str a0_1)])] =
  (callI .i64 (kp E k n ref07_Len [(.agg [(.str a0_0), (.str a0_1)])]) fun vn2 => (callS (kp E k n ref04_Digits [(.int .i64 vn2)]) fun vs4 => (bif (decide ((ByteArray.size vs4) + 1 ≤ 9223372036854775807)) then (bif (decide ((ByteArray.size (vs4 ++ (str [32]))) + (ByteArray.size a0_0) ≤ 9223372036854775807)) then (bif (decide ((ByteArray.size ((vs4 ++ (str [32])) ++ a0_0)) + 1 ≤ 9223372036854775807)) then (bif (decide ((ByteArray.size (((vs4 ++ (str [32])) ++ a0_0) ++ (str [61]))) + (ByteArray.size a0_1) ≤ 9223372036854775807)) then (bif (decide ((ByteArray.size ((((vs4 ++ (str [32])) ++ a0_0) ++ (str [61])) ++ a0_1)) + 1 ≤ 9223372036854775807)) then (some (.list 1 (bytesAV (((((vs4 ++ (str [32])) ++ a0_0) ++ (str [61])) ++ a0_1) ++ (str [10]))))) else none) else none) else none) else none) else none))) := (kp_at (by kernel_rfl)).trans (by kernel_rfl)
/- oakum/pax.record -/
theorem pax_record_eq {E : Ext} [Core E] (k n : Nat) (a0 : List AV) : kp E k (n + 1) pax_record [(.list 1 a0)] =
  (callT (kp E k n pax_length [(.list 1 a0)]) fun vt2 => (tupI .i64 vt2 fun vn3 vt4 => (tupI .i64 vt4 fun vn5 vt6 => (tupB vt6 fun vq7 vt8 => (atNil vt8 (bif (!vq7) then (some (.tup [(.agg [(.str (str [])), (.str (str []))]), (.int .i64 (0 : Int))])) else (bif (decide (vn3 < (IntKind.wrap .i64 (vn5 + (2 : Int))))) then (some (.tup [(.agg [(.str (str [])), (.str (str []))]), (.int .i64 (0 : Int))])) else (bif ((decide ((0 : Int) ≤ (IntKind.wrap .i64 (vn3 - (1 : Int))))) && (decide ((IntKind.wrap .i64 (vn3 - (1 : Int))) < (((List.length a0) : Nat) : Int)))) then ((a0[(Int.toNat (IntKind.wrap .i64 (vn3 - (1 : Int))))]?).bind fun vy9 => (cellI .u8 (AV.cells vy9) 0 fun vn10 => (bif (!(decide (vn10 = (10 : Int)))) then (some (.tup [(.agg [(.str (str [])), (.str (str []))]), (.int .i64 (0 : Int))])) else (bif ((decide ((0 : Int) ≤ (IntKind.wrap .i64 (vn3 - (1 : Int))))) && (decide ((IntKind.wrap .i64 (vn3 - (1 : Int))) ≤ (((List.length a0) : Nat) : Int)))) then (bif ((decide ((0 : Int) ≤ (IntKind.wrap .i64 (vn5 + (1 : Int))))) && (decide ((IntKind.wrap .i64 (vn5 + (1 : Int))) ≤ (((Int.toNat (IntKind.wrap .i64 (vn3 - (1 : Int)))) : Nat) : Int)))) then ((toBytes (List.drop (Int.toNat (IntKind.wrap .i64 (vn5 + (1 : Int)))) (List.take (Int.toNat (IntKind.wrap .i64 (vn3 - (1 : Int)))) a0))).bind fun vl11 => (callT (kp E k n strings_Cut [(.str (str vl11)), (.str (str [61]))]) fun vt13 => (tupS vt13 fun vs14 vt15 => (tupS vt15 fun vs16 vt17 => (tupB vt17 fun vq18 vt19 => (atNil vt19 (bif (!vq18) then (some (.tup [(.agg [(.str (str [])), (.str (str []))]), (.int .i64 (0 : Int))])) else (callB (kp E k n pax_Right [(.agg [(.str vs14), (.str vs16)])]) fun vq21 => (bif (!vq21) then (some (.tup [(.agg [(.str (str [])), (.str (str []))]), (.int .i64 (0 : Int))])) else (some (.tup [(.agg [(.str vs14), (.str vs16)]), (.int .i64 vn3)]))))))))))) else none) else none)))) else none)))))))) := (kp_at (by kernel_rfl)).trans (by kernel_rfl)
/- oakum/oakumref07.Keys -/
theorem ref07_Keys_eq {E : Ext} [Core E] (k n : Nat)  : kp E k (n + 1) ref07_Keys [] =
  (some (.list 1 [(.str (str [112, 97, 116, 104])), (.str (str [108, 105, 110, 107, 112, 97, 116, 104])), (.str (str [117, 110, 97, 109, 101])), (.str (str [103, 110, 97, 109, 101])), (.str (str [117, 105, 100])), (.str (str [103, 105, 100])), (.str (str [115, 105, 122, 101])), (.str (str [109, 116, 105, 109, 101]))])) := (kp_at (by kernel_rfl)).trans (by kernel_rfl)
/- oakum/oakumref02.Quote -/
noncomputable def ref02_Quote_bd : Code := Tryz.f72.body.getD .skip
noncomputable def ref02_Quote_L0 (kap : FuncId → List AV → Option AV) (k : Nat) (k0 : Nat) (s0 : ByteArray) (s3 : ByteArray) (s4 : Int) : Option AV :=
  loop (fun fr K => code ((bs E0 k).cfg kap ref02_Quote) (sel ref02_Quote_bd [1, 1, 0, 1, 0, 0]) fr K) (canon ((bs E0 k).cfg kap ref02_Quote) (firstReg (sel ref02_Quote_bd [1, 1, 0, 1, 0, 0]))) k0 (mkFr 29 [(0, (.str s0)), (3, (.str s3)), (4, (.int .i64 s4))] []) (plug ((bs E0 k).cfg kap ref02_Quote) (retK ((bs E0 k).cfg kap ref02_Quote) [] Tryz.f72 [] some) [.blk 0, .seqR (sel ref02_Quote_bd [1, 1, 1])])
theorem ref02_Quote_L0_s (kap : FuncId → List AV → Option AV) (k : Nat) (k0 : Nat) (s0 : ByteArray) (s3 : ByteArray) (s4 : Int) : ref02_Quote_L0 kap k (k0 + 1) s0 s3 s4 =
  (bif (decide (s4 < (((ByteArray.size s0) : Nat) : Int))) then (bif ((decide ((0 : Int) ≤ s4)) && (decide (s4 < (((ByteArray.size s0) : Nat) : Int)))) then (callB (kap ref02_open [(.int .u8 (byteAt s0 (Int.toNat s4)))]) fun vq2 => (bif vq2 then (bif ((decide ((0 : Int) ≤ (IntKind.wrap .i64 (s4 + (1 : Int))))) && (decide ((IntKind.wrap .i64 (s4 + (1 : Int))) ≤ (((ByteArray.size s0) : Nat) : Int)))) then (bif ((decide ((0 : Int) ≤ s4)) && (decide (s4 ≤ (((Int.toNat (IntKind.wrap .i64 (s4 + (1 : Int)))) : Nat) : Int)))) then (bif (decide ((ByteArray.size s3) + (ByteArray.size (ByteArray.extract s0 (Int.toNat s4) (Int.toNat (IntKind.wrap .i64 (s4 + (1 : Int)))))) ≤ 9223372036854775807)) then (ref02_Quote_L0 kap k k0 s0 (s3 ++ (ByteArray.extract s0 (Int.toNat s4) (Int.toNat (IntKind.wrap .i64 (s4 + (1 : Int)))))) (IntKind.wrap .i64 (s4 + (1 : Int)))) else none) else none) else none) else (bif ((decide ((0 : Int) ≤ s4)) && (decide (s4 < (((ByteArray.size s0) : Nat) : Int)))) then (callS (kap ref02_code [(.int .u8 (byteAt s0 (Int.toNat s4)))]) fun vs4 => (bif (decide ((ByteArray.size s3) + (ByteArray.size vs4) ≤ 9223372036854775807)) then (ref02_Quote_L0 kap k k0 s0 (s3 ++ vs4) (IntKind.wrap .i64 (s4 + (1 : Int)))) else none)) else none))) else none) else (some (.str s3))) := by kernel_rfl
theorem ref02_Quote_eq {E : Ext} [Core E] (k n : Nat) (a0 : ByteArray) : kp E k (n + 1) ref02_Quote [(.str a0)] =
  (ref02_Quote_L0 (kp E k n) k k a0 (str []) (0 : Int)) := (kp_at (by kernel_rfl)).trans (by kernel_rfl)
/- oakum/oakumref08.Lay -/
noncomputable def ref08_Lay_bd : Code := Tryz.f76.body.getD .skip
noncomputable def ref08_Lay_L0 (kap : FuncId → List AV → Option AV) (k : Nat) (k0 : Nat) (s7 : ByteArray) (s8 : Bool) (x5 : List AV) (x6 : List AV) : Option AV :=
  loop (fun fr K => code ((bs E0 k).cfg kap ref08_Lay) (sel ref08_Lay_bd [1, 1, 1, 1, 0, 0]) fr K) (canon ((bs E0 k).cfg kap ref08_Lay) (firstReg (sel ref08_Lay_bd [1, 1, 1, 1, 0, 0]))) k0 (mkFr 64 [(5, (.own 5)), (6, (.own 6)), (7, (.str s7)), (8, (.bool s8))] [(5, (.row 42 x5 true)), (6, (.row 42 x6 false))]) (plug ((bs E0 k).cfg kap ref08_Lay) (retK ((bs E0 k).cfg kap ref08_Lay) [] Tryz.f76 [] some) [.blk 0])
noncomputable def ref08_Lay_L1 (kap : FuncId → List AV → Option AV) (k : Nat) (k0 : Nat) (k1 : Nat) (s7 : ByteArray) (s8 : Bool) (s9 : ByteArray) (s10 : Bool) (s11 : Int) (x5 : List AV) (x6 : List AV) : Option AV :=
  loop (fun fr K => code ((bs E0 k).cfg kap ref08_Lay) (sel ref08_Lay_bd [1, 1, 1, 1, 0, 0, 0, 1, 0, 1, 0, 0]) fr K) (canon ((bs E0 k).cfg kap ref08_Lay) (firstReg (sel ref08_Lay_bd [1, 1, 1, 1, 0, 0, 0, 1, 0, 1, 0, 0]))) k1 (mkFr 64 [(5, (.own 5)), (6, (.own 6)), (7, (.str s7)), (8, (.bool s8)), (9, (.str s9)), (10, (.bool s10)), (11, (.int .i64 s11))] [(5, (.row 42 x5 true)), (6, (.row 42 x6 false))]) (plug ((bs E0 k).cfg kap ref08_Lay) (retK ((bs E0 k).cfg kap ref08_Lay) [] Tryz.f76 [] some) [.blk 2, .seqR (sel ref08_Lay_bd [1, 1, 1, 1, 0, 0, 0, 1, 1]), .blk 1, .lp (sel ref08_Lay_bd [1, 1, 1, 1, 0, 0]) k0, .blk 0])
theorem ref08_Lay_L0_s (kap : FuncId → List AV → Option AV) (k : Nat) (k0 : Nat) (s7 : ByteArray) (s8 : Bool) (x5 : List AV) (x6 : List AV) : ref08_Lay_L0 kap k (k0 + 1) s7 s8 x5 x6 =
  (ref08_Lay_L1 kap k k0 k s7 s8 (str []) false (0 : Int) x5 x6) := by kernel_rfl
theorem ref08_Lay_L1_s (kap : FuncId → List AV → Option AV) (k : Nat) (k0 : Nat) (k1 : Nat) (s7 : ByteArray) (s8 : Bool) (s9 : ByteArray) (s10 : Bool) (s11 : Int) (x5 : List AV) (x6 : List AV) : ref08_Lay_L1 kap k k0 (k1 + 1) s7 s8 s9 s10 s11 x5 x6 =
  (bif (decide (s11 < (((List.length x5) : Nat) : Int))) then (bif ((decide ((0 : Int) ≤ s11)) && (decide (s11 < (((List.length x5) : Nat) : Int)))) then ((x5[(Int.toNat s11)]?).bind fun vy1 => (cellS (AV.cells vy1) 0 fun vs2 => (bif s8 then (bif (!s10) then (ref08_Lay_L1 kap k k0 k1 s7 s8 vs2 true (IntKind.wrap .i64 (s11 + (1 : Int))) x5 x6) else (bif (Op.bytesLess (ByteArray.toList vs2) (ByteArray.toList s9)) then (ref08_Lay_L1 kap k k0 k1 s7 s8 vs2 true (IntKind.wrap .i64 (s11 + (1 : Int))) x5 x6) else (ref08_Lay_L1 kap k k0 k1 s7 s8 s9 s10 (IntKind.wrap .i64 (s11 + (1 : Int))) x5 x6))) else (bif (!((Op.bytesLess (ByteArray.toList vs2) (ByteArray.toList s7)) || (decide (vs2 = s7)))) then (bif (!s10) then (ref08_Lay_L1 kap k k0 k1 s7 s8 vs2 true (IntKind.wrap .i64 (s11 + (1 : Int))) x5 x6) else (bif (Op.bytesLess (ByteArray.toList vs2) (ByteArray.toList s9)) then (ref08_Lay_L1 kap k k0 k1 s7 s8 vs2 true (IntKind.wrap .i64 (s11 + (1 : Int))) x5 x6) else (ref08_Lay_L1 kap k k0 k1 s7 s8 s9 s10 (IntKind.wrap .i64 (s11 + (1 : Int))) x5 x6))) else (ref08_Lay_L1 kap k k0 k1 s7 s8 s9 s10 (IntKind.wrap .i64 (s11 + (1 : Int))) x5 x6))))) else none) else (bif (!s10) then (some (.list 2 x6)) else (callT (kap ref08_Last [(.list 2 x5), (.str s9)]) fun vt4 => (tupS vt4 fun vs5 vt6 => (tupB vt6 fun vq7 vt8 => (atNil vt8 (bif vq7 then (bif (decide (((List.length x6) + 1) * 32 ≤ 140737488355328) && decide (((List.length x6) + 1) ≤ 9223372036854775807)) then (ref08_Lay_L0 kap k k0 s9 false x5 (x6 ++ [(.agg [(.str s9), (.str vs5)])])) else none) else (ref08_Lay_L0 kap k k0 s9 false x5 x6)))))))) := by kernel_rfl
theorem ref08_Lay_eq {E : Ext} [Core E] (k n : Nat) (a0 : List AV) (a1 : List AV) : kp E k (n + 1) ref08_Lay [(.list 2 a0), (.list 2 a1)] =
  (bif (decide ((0 + (List.length a0)) * 32 ≤ 140737488355328) && decide ((0 + (List.length a0)) ≤ 9223372036854775807)) then (bif (decide (((List.length ([] ++ a0)) + (List.length a1)) * 32 ≤ 140737488355328) && decide (((List.length ([] ++ a0)) + (List.length a1)) ≤ 9223372036854775807)) then (ref08_Lay_L0 (kp E k n) k k (str []) true (([] ++ a0) ++ a1) []) else none) else none) := (kp_at (by kernel_rfl)).trans (by kernel_rfl)
/- oakum/oakumref09.name -/
theorem ref09_name_eq {E : Ext} [Core E] (k n : Nat) (a0 : ByteArray) : kp E k (n + 1) ref09_name [(.str a0)] =
  (bif (!(decide (a0 = (str [])))) then (bif (decide ((((ByteArray.size a0) : Nat) : Int) ≤ (65536 : Int))) then (callB (kp E k n ref02_Clean [(.str a0)]) fun vq2 => (some (.bool vq2))) else (some (.bool false))) else (some (.bool false))) := (kp_at (by kernel_rfl)).trans (by kernel_rfl)
/- oakum/oakumref05.Ends -/
noncomputable def ref05_Ends_bd : Code := Tryz.f86.body.getD .skip
noncomputable def ref05_Ends_L0 (kap : FuncId → List AV → Option AV) (k : Nat) (k0 : Nat) (s0 : ByteArray) (s4 : Int) (x3 : List AV) : Option AV :=
  loop (fun fr K => code ((bs E0 k).cfg kap ref05_Ends) (sel ref05_Ends_bd [1, 1, 0, 1, 0, 0]) fr K) (canon ((bs E0 k).cfg kap ref05_Ends) (firstReg (sel ref05_Ends_bd [1, 1, 0, 1, 0, 0]))) k0 (mkFr 30 [(0, (.str s0)), (3, (.own 3)), (4, (.int .i64 s4))] [(3, (.row 3 x3 false))]) (plug ((bs E0 k).cfg kap ref05_Ends) (retK ((bs E0 k).cfg kap ref05_Ends) [] Tryz.f86 [] some) [.blk 0, .seqR (sel ref05_Ends_bd [1, 1, 1])])
theorem ref05_Ends_L0_s (kap : FuncId → List AV → Option AV) (k : Nat) (k0 : Nat) (s0 : ByteArray) (s4 : Int) (x3 : List AV) : ref05_Ends_L0 kap k (k0 + 1) s0 s4 x3 =
  (bif (decide (s4 < (((ByteArray.size s0) : Nat) : Int))) then (callI .i64 (kap ref05_size [(.str s0), (.int .i64 s4)]) fun vn2 => (bif (decide (vn2 = (0 : Int))) then (bif (decide (((List.length x3) + 1) * 8 ≤ 140737488355328) && decide (((List.length x3) + 1) ≤ 9223372036854775807)) then (ref05_Ends_L0 kap k k0 s0 (IntKind.wrap .i64 (s4 + (1 : Int))) (x3 ++ [(.int .i64 (IntKind.wrap .i64 (0 - (IntKind.wrap .i64 (s4 + (1 : Int))))))])) else none) else (bif (decide (((List.length x3) + 1) * 8 ≤ 140737488355328) && decide (((List.length x3) + 1) ≤ 9223372036854775807)) then (ref05_Ends_L0 kap k k0 s0 (IntKind.wrap .i64 (s4 + vn2)) (x3 ++ [(.int .i64 (IntKind.wrap .i64 (s4 + vn2)))])) else none))) else (some (.list 1 x3))) := by kernel_rfl
theorem ref05_Ends_eq {E : Ext} [Core E] (k n : Nat) (a0 : ByteArray) : kp E k (n + 1) ref05_Ends [(.str a0)] =
  (ref05_Ends_L0 (kp E k n) k k a0 (0 : Int) []) := (kp_at (by kernel_rfl)).trans (by kernel_rfl)
/- oakum/oakumref02.Get -/
noncomputable def ref02_Get_bd : Code := Tryz.f87.body.getD .skip
noncomputable def ref02_Get_L0 (kap : FuncId → List AV → Option AV) (k : Nat) (k0 : Nat) (s0 : List AV) (s4 : Int) (x3 : List AV) : Option AV :=
  loop (fun fr K => code ((bs E0 k).cfg kap ref02_Get) (sel ref02_Get_bd [1, 1, 0, 1, 0, 0]) fr K) (canon ((bs E0 k).cfg kap ref02_Get) (firstReg (sel ref02_Get_bd [1, 1, 0, 1, 0, 0]))) k0 (mkFr 28 [(0, (.list 1 s0)), (3, (.own 3)), (4, (.int .i64 s4))] [(3, (.row 5 x3 false))]) (plug ((bs E0 k).cfg kap ref02_Get) (retK ((bs E0 k).cfg kap ref02_Get) [] Tryz.f87 [] some) [.blk 0, .seqR (sel ref02_Get_bd [1, 1, 1])])
theorem ref02_Get_L0_s (kap : FuncId → List AV → Option AV) (k : Nat) (k0 : Nat) (s0 : List AV) (s4 : Int) (x3 : List AV) : ref02_Get_L0 kap k (k0 + 1) s0 s4 x3 =
  (bif (decide (s4 < (((List.length s0) : Nat) : Int))) then (bif ((decide ((0 : Int) ≤ s4)) && (decide (s4 < (((List.length s0) : Nat) : Int)))) then ((s0[(Int.toNat s4)]?).bind fun vy1 => (cellI .u8 (AV.cells vy1) 0 fun vn2 => (bif (!(decide (vn2 = (0 : Int)))) then (bif ((decide ((0 : Int) ≤ s4)) && (decide (s4 < (((List.length s0) : Nat) : Int)))) then ((s0[(Int.toNat s4)]?).bind fun vy3 => (cellI .u8 (AV.cells vy3) 0 fun vn4 => (bif (decide (((List.length x3) + 1) * 1 ≤ 140737488355328) && decide (((List.length x3) + 1) ≤ 9223372036854775807)) then (ref02_Get_L0 kap k k0 s0 (IntKind.wrap .i64 (s4 + (1 : Int))) (x3 ++ [(.int .u8 vn4)])) else none))) else none) else ((toBytes x3).bind fun vl5 => (some (.str (str vl5))))))) else none) else ((toBytes x3).bind fun vl6 => (some (.str (str vl6))))) := by kernel_rfl
theorem ref02_Get_eq {E : Ext} [Core E] (k n : Nat) (a0 : List AV) : kp E k (n + 1) ref02_Get [(.list 1 a0)] =
  (ref02_Get_L0 (kp E k n) k k a0 (0 : Int) []) := (kp_at (by kernel_rfl)).trans (by kernel_rfl)
/- oakum/pax.length -/
noncomputable def pax_length_bd : Code := Tryz.f90.body.getD .skip
noncomputable def pax_length_L0 (kap : FuncId → List AV → Option AV) (k : Nat) (k0 : Nat) (s0 : List AV) (s5 : Int) (s8 : List AV) (s9 : Int) (s10 : Int) : Option AV :=
  loop (fun fr K => code ((bs E0 k).cfg kap pax_length) (sel pax_length_bd [1, 1, 0, 1, 0, 0]) fr K) (canon ((bs E0 k).cfg kap pax_length) (firstReg (sel pax_length_bd [1, 1, 0, 1, 0, 0]))) k0 (mkFr 50 [(0, (.list 1 s0)), (5, (.int .i64 s5)), (8, (.list 1 s8)), (9, (.int .i64 s9)), (10, (.int .i64 s10))] []) (plug ((bs E0 k).cfg kap pax_length) (retK ((bs E0 k).cfg kap pax_length) [] Tryz.f90 [] some) [.blk 0, .seqR (sel pax_length_bd [1, 1, 1])])
theorem pax_length_L0_s (kap : FuncId → List AV → Option AV) (k : Nat) (k0 : Nat) (s0 : List AV) (s5 : Int) (s8 : List AV) (s9 : Int) (s10 : Int) : pax_length_L0 kap k (k0 + 1) s0 s5 s8 s9 s10 =
  (bif (decide (s10 < s9)) then (bif ((decide ((0 : Int) ≤ s10)) && (decide (s10 < (((List.length s8) : Nat) : Int)))) then ((s8[(Int.toNat s10)]?).bind fun vy1 => (cellI .u8 (AV.cells vy1) 0 fun vn2 => (bif (decide (vn2 = (32 : Int))) then (bif (decide (s10 > (0 : Int))) then (some (.tup [(.int .i64 s5), (.int .i64 s10), (.bool true)])) else (bif (decide (vn2 < (48 : Int))) then (some (.tup [(.int .i64 (0 : Int)), (.int .i64 (0 : Int)), (.bool false)])) else (bif (decide (vn2 > (57 : Int))) then (some (.tup [(.int .i64 (0 : Int)), (.int .i64 (0 : Int)), (.bool false)])) else (bif (decide (s10 = (0 : Int))) then (bif (decide (vn2 = (48 : Int))) then (some (.tup [(.int .i64 (0 : Int)), (.int .i64 (0 : Int)), (.bool false)])) else (bif (decide ((IntKind.wrap .i64 ((IntKind.wrap .i64 (s5 * (10 : Int))) + (IntKind.wrap .i64 (IntKind.wrap .u8 (vn2 - (48 : Int)))))) > (((List.length s0) : Nat) : Int))) then (some (.tup [(.int .i64 (0 : Int)), (.int .i64 (0 : Int)), (.bool false)])) else (pax_length_L0 kap k k0 s0 (IntKind.wrap .i64 ((IntKind.wrap .i64 (s5 * (10 : Int))) + (IntKind.wrap .i64 (IntKind.wrap .u8 (vn2 - (48 : Int)))))) s8 s9 (IntKind.wrap .i64 (s10 + (1 : Int)))))) else (bif (decide ((IntKind.wrap .i64 ((IntKind.wrap .i64 (s5 * (10 : Int))) + (IntKind.wrap .i64 (IntKind.wrap .u8 (vn2 - (48 : Int)))))) > (((List.length s0) : Nat) : Int))) then (some (.tup [(.int .i64 (0 : Int)), (.int .i64 (0 : Int)), (.bool false)])) else (pax_length_L0 kap k k0 s0 (IntKind.wrap .i64 ((IntKind.wrap .i64 (s5 * (10 : Int))) + (IntKind.wrap .i64 (IntKind.wrap .u8 (vn2 - (48 : Int)))))) s8 s9 (IntKind.wrap .i64 (s10 + (1 : Int))))))))) else (bif (decide (vn2 < (48 : Int))) then (some (.tup [(.int .i64 (0 : Int)), (.int .i64 (0 : Int)), (.bool false)])) else (bif (decide (vn2 > (57 : Int))) then (some (.tup [(.int .i64 (0 : Int)), (.int .i64 (0 : Int)), (.bool false)])) else (bif (decide (s10 = (0 : Int))) then (bif (decide (vn2 = (48 : Int))) then (some (.tup [(.int .i64 (0 : Int)), (.int .i64 (0 : Int)), (.bool false)])) else (bif (decide ((IntKind.wrap .i64 ((IntKind.wrap .i64 (s5 * (10 : Int))) + (IntKind.wrap .i64 (IntKind.wrap .u8 (vn2 - (48 : Int)))))) > (((List.length s0) : Nat) : Int))) then (some (.tup [(.int .i64 (0 : Int)), (.int .i64 (0 : Int)), (.bool false)])) else (pax_length_L0 kap k k0 s0 (IntKind.wrap .i64 ((IntKind.wrap .i64 (s5 * (10 : Int))) + (IntKind.wrap .i64 (IntKind.wrap .u8 (vn2 - (48 : Int)))))) s8 s9 (IntKind.wrap .i64 (s10 + (1 : Int)))))) else (bif (decide ((IntKind.wrap .i64 ((IntKind.wrap .i64 (s5 * (10 : Int))) + (IntKind.wrap .i64 (IntKind.wrap .u8 (vn2 - (48 : Int)))))) > (((List.length s0) : Nat) : Int))) then (some (.tup [(.int .i64 (0 : Int)), (.int .i64 (0 : Int)), (.bool false)])) else (pax_length_L0 kap k k0 s0 (IntKind.wrap .i64 ((IntKind.wrap .i64 (s5 * (10 : Int))) + (IntKind.wrap .i64 (IntKind.wrap .u8 (vn2 - (48 : Int)))))) s8 s9 (IntKind.wrap .i64 (s10 + (1 : Int))))))))))) else none) else (some (.tup [(.int .i64 (0 : Int)), (.int .i64 (0 : Int)), (.bool false)]))) := by kernel_rfl
theorem pax_length_eq {E : Ext} [Core E] (k n : Nat) (a0 : List AV) : kp E k (n + 1) pax_length [(.list 1 a0)] =
  (pax_length_L0 (kp E k n) k k a0 (0 : Int) a0 (((List.length a0) : Nat) : Int) (0 : Int)) := (kp_at (by kernel_rfl)).trans (by kernel_rfl)
/- oakum/oakumref02.open -/
theorem ref02_open_eq {E : Ext} [Core E] (k n : Nat) (a0 : Int) : kp E k (n + 1) ref02_open [(.int .u8 a0)] =
  (bif (decide (a0 ≥ (33 : Int))) then (bif (decide (a0 ≤ (126 : Int))) then (some (.bool (!(decide (a0 = (92 : Int)))))) else (some (.bool false))) else (some (.bool false))) := (kp_at (by kernel_rfl)).trans (by kernel_rfl)
/- oakum/oakumref02.code -/
theorem ref02_code_eq {E : Ext} [Core E] (k n : Nat) (a0 : Int) : kp E k (n + 1) ref02_code [(.int .u8 a0)] =
  ((toBytes [(.int .u8 (92 : Int)), (.int .u8 (IntKind.wrap .u8 ((48 : Int) + (IntKind.wrap .u8 (Int.tdiv a0 (64 : Int)))))), (.int .u8 (IntKind.wrap .u8 ((48 : Int) + (Int.tmod (IntKind.wrap .u8 (Int.tdiv a0 (8 : Int))) (8 : Int))))), (.int .u8 (IntKind.wrap .u8 ((48 : Int) + (Int.tmod a0 (8 : Int)))))]).bind fun vl1 => (some (.str (str vl1)))) := (kp_at (by kernel_rfl)).trans (by kernel_rfl)
/- oakum/oakumref08.Last -/
noncomputable def ref08_Last_bd : Code := Tryz.f103.body.getD .skip
noncomputable def ref08_Last_L0 (kap : FuncId → List AV → Option AV) (k : Nat) (k0 : Nat) (s0 : List AV) (s1 : ByteArray) (s6 : Int) : Option AV :=
  loop (fun fr K => code ((bs E0 k).cfg kap ref08_Last) (sel ref08_Last_bd [1, 0, 1, 0, 0]) fr K) (canon ((bs E0 k).cfg kap ref08_Last) (firstReg (sel ref08_Last_bd [1, 0, 1, 0, 0]))) k0 (mkFr 32 [(0, (.list 2 s0)), (1, (.str s1)), (6, (.int .i64 s6))] []) (plug ((bs E0 k).cfg kap ref08_Last) (retK ((bs E0 k).cfg kap ref08_Last) [] Tryz.f103 [] some) [.blk 0, .seqR (sel ref08_Last_bd [1, 1])])
theorem ref08_Last_L0_s (kap : FuncId → List AV → Option AV) (k : Nat) (k0 : Nat) (s0 : List AV) (s1 : ByteArray) (s6 : Int) : ref08_Last_L0 kap k (k0 + 1) s0 s1 s6 =
  (bif (decide (s6 ≥ (0 : Int))) then (bif ((decide ((0 : Int) ≤ s6)) && (decide (s6 < (((List.length s0) : Nat) : Int)))) then ((s0[(Int.toNat s6)]?).bind fun vy1 => (cellS (AV.cells vy1) 0 fun vs2 => (bif (decide (vs2 = s1)) then (bif ((decide ((0 : Int) ≤ s6)) && (decide (s6 < (((List.length s0) : Nat) : Int)))) then ((s0[(Int.toNat s6)]?).bind fun vy3 => (cellS (AV.cells vy3) 1 fun vs4 => (bif ((decide ((0 : Int) ≤ s6)) && (decide (s6 < (((List.length s0) : Nat) : Int)))) then ((s0[(Int.toNat s6)]?).bind fun vy5 => (cellS (AV.cells vy5) 1 fun vs6 => (some (.tup [(.str vs4), (.bool (!(decide (vs6 = (str [])))))])))) else none))) else none) else (ref08_Last_L0 kap k k0 s0 s1 (IntKind.wrap .i64 (s6 - (1 : Int))))))) else none) else (some (.tup [(.str (str [])), (.bool false)]))) := by kernel_rfl
theorem ref08_Last_eq {E : Ext} [Core E] (k n : Nat) (a0 : List AV) (a1 : ByteArray) : kp E k (n + 1) ref08_Last [(.list 2 a0), (.str a1)] =
  (ref08_Last_L0 (kp E k n) k k a0 a1 (IntKind.wrap .i64 ((((List.length a0) : Nat) : Int) - (1 : Int)))) := (kp_at (by kernel_rfl)).trans (by kernel_rfl)
/- oakum/oakumref05.size -/
noncomputable def ref05_size_bd : Code := Tryz.f110.body.getD .skip
noncomputable def ref05_size_L0 (kap : FuncId → List AV → Option AV) (k : Nat) (k0 : Nat) (s0 : ByteArray) (s1 : Int) (s6 : Int) (s7 : Int) (s8 : Int) : Option AV :=
  loop (fun fr K => code ((bs E0 k).cfg kap ref05_size) (sel ref05_size_bd [1, 1, 1, 1, 1, 1, 0, 1, 0, 0]) fr K) (canon ((bs E0 k).cfg kap ref05_size) (firstReg (sel ref05_size_bd [1, 1, 1, 1, 1, 1, 0, 1, 0, 0]))) k0 (mkFr 103 [(0, (.str s0)), (1, (.int .i64 s1)), (6, (.int .i64 s6)), (7, (.int .i64 s7)), (8, (.int .i64 s8))] []) (plug ((bs E0 k).cfg kap ref05_size) (retK ((bs E0 k).cfg kap ref05_size) [] Tryz.f110 [] some) [.blk 1, .seqR (sel ref05_size_bd [1, 1, 1, 1, 1, 1, 1])])
theorem ref05_size_L0_s (kap : FuncId → List AV → Option AV) (k : Nat) (k0 : Nat) (s0 : ByteArray) (s1 : Int) (s6 : Int) (s7 : Int) (s8 : Int) : ref05_size_L0 kap k (k0 + 1) s0 s1 s6 s7 s8 =
  (bif (decide (s8 < s6)) then (bif ((decide ((0 : Int) ≤ (IntKind.wrap .i64 (s1 + s8)))) && (decide ((IntKind.wrap .i64 (s1 + s8)) < (((ByteArray.size s0) : Nat) : Int)))) then (bif (decide ((byteAt s0 (Int.toNat (IntKind.wrap .i64 (s1 + s8)))) < (128 : Int))) then (some (.int .i64 (0 : Int))) else (bif ((decide ((0 : Int) ≤ (IntKind.wrap .i64 (s1 + s8)))) && (decide ((IntKind.wrap .i64 (s1 + s8)) < (((ByteArray.size s0) : Nat) : Int)))) then (bif (decide ((byteAt s0 (Int.toNat (IntKind.wrap .i64 (s1 + s8)))) ≥ (192 : Int))) then (some (.int .i64 (0 : Int))) else (bif ((decide ((0 : Int) ≤ (IntKind.wrap .i64 (s1 + s8)))) && (decide ((IntKind.wrap .i64 (s1 + s8)) < (((ByteArray.size s0) : Nat) : Int)))) then (ref05_size_L0 kap k k0 s0 s1 s6 (IntKind.wrap .i64 ((IntKind.wrap .i64 ((IntKind.wrap .i64 ((64 : Int) * s7)) + (IntKind.wrap .i64 (byteAt s0 (Int.toNat (IntKind.wrap .i64 (s1 + s8))))))) - (128 : Int))) (IntKind.wrap .i64 (s8 + (1 : Int)))) else none)) else none)) else none) else (bif ((decide ((0 : Int) ≤ s6)) && (decide (s6 < (5 : Int)))) then (([(.int .i64 (0 : Int)), (.int .i64 (0 : Int)), (.int .i64 (128 : Int)), (.int .i64 (2048 : Int)), (.int .i64 (65536 : Int))][(Int.toNat s6)]?).bind fun vy1 => (cellI .i64 (AV.cells vy1) 0 fun vn2 => (bif (decide (s7 < vn2)) then (some (.int .i64 (0 : Int))) else (bif (decide (s7 > (1114111 : Int))) then (some (.int .i64 (0 : Int))) else (bif (decide (s7 ≥ (55296 : Int))) then (bif (decide (s7 ≤ (57343 : Int))) then (some (.int .i64 (0 : Int))) else (some (.int .i64 s6))) else (some (.int .i64 s6))))))) else none)) := by kernel_rfl
theorem ref05_size_eq {E : Ext} [Core E] (k n : Nat) (a0 : ByteArray) (a1 : Int) : kp E k (n + 1) ref05_size [(.str a0), (.int .i64 a1)] =
  (bif ((decide ((0 : Int) ≤ a1)) && (decide (a1 < (((ByteArray.size a0) : Nat) : Int)))) then (bif (decide ((IntKind.wrap .i64 (byteAt a0 (Int.toNat a1))) < (128 : Int))) then (some (.int .i64 (1 : Int))) else (bif (decide ((IntKind.wrap .i64 (byteAt a0 (Int.toNat a1))) ≥ (192 : Int))) then (bif (decide ((IntKind.wrap .i64 (byteAt a0 (Int.toNat a1))) < (224 : Int))) then (bif (decide ((IntKind.wrap .i64 (a1 + (2 : Int))) > (((ByteArray.size a0) : Nat) : Int))) then (some (.int .i64 (0 : Int))) else (ref05_size_L0 (kp E k n) k k a0 a1 (2 : Int) (IntKind.wrap .i64 ((IntKind.wrap .i64 (byteAt a0 (Int.toNat a1))) - (192 : Int))) (1 : Int))) else (bif (decide ((IntKind.wrap .i64 (byteAt a0 (Int.toNat a1))) ≥ (224 : Int))) then (bif (decide ((IntKind.wrap .i64 (byteAt a0 (Int.toNat a1))) < (240 : Int))) then (bif (decide ((IntKind.wrap .i64 (a1 + (3 : Int))) > (((ByteArray.size a0) : Nat) : Int))) then (some (.int .i64 (0 : Int))) else (ref05_size_L0 (kp E k n) k k a0 a1 (3 : Int) (IntKind.wrap .i64 ((IntKind.wrap .i64 (byteAt a0 (Int.toNat a1))) - (224 : Int))) (1 : Int))) else (bif (decide ((IntKind.wrap .i64 (byteAt a0 (Int.toNat a1))) ≥ (240 : Int))) then (bif (decide ((IntKind.wrap .i64 (byteAt a0 (Int.toNat a1))) < (248 : Int))) then (bif (decide ((IntKind.wrap .i64 (a1 + (4 : Int))) > (((ByteArray.size a0) : Nat) : Int))) then (some (.int .i64 (0 : Int))) else (ref05_size_L0 (kp E k n) k k a0 a1 (4 : Int) (IntKind.wrap .i64 ((IntKind.wrap .i64 (byteAt a0 (Int.toNat a1))) - (240 : Int))) (1 : Int))) else (some (.int .i64 (0 : Int)))) else (some (.int .i64 (0 : Int))))) else (bif (decide ((IntKind.wrap .i64 (byteAt a0 (Int.toNat a1))) ≥ (240 : Int))) then (bif (decide ((IntKind.wrap .i64 (byteAt a0 (Int.toNat a1))) < (248 : Int))) then (bif (decide ((IntKind.wrap .i64 (a1 + (4 : Int))) > (((ByteArray.size a0) : Nat) : Int))) then (some (.int .i64 (0 : Int))) else (ref05_size_L0 (kp E k n) k k a0 a1 (4 : Int) (IntKind.wrap .i64 ((IntKind.wrap .i64 (byteAt a0 (Int.toNat a1))) - (240 : Int))) (1 : Int))) else (some (.int .i64 (0 : Int)))) else (some (.int .i64 (0 : Int)))))) else (bif (decide ((IntKind.wrap .i64 (byteAt a0 (Int.toNat a1))) ≥ (224 : Int))) then (bif (decide ((IntKind.wrap .i64 (byteAt a0 (Int.toNat a1))) < (240 : Int))) then (bif (decide ((IntKind.wrap .i64 (a1 + (3 : Int))) > (((ByteArray.size a0) : Nat) : Int))) then (some (.int .i64 (0 : Int))) else (ref05_size_L0 (kp E k n) k k a0 a1 (3 : Int) (IntKind.wrap .i64 ((IntKind.wrap .i64 (byteAt a0 (Int.toNat a1))) - (224 : Int))) (1 : Int))) else (bif (decide ((IntKind.wrap .i64 (byteAt a0 (Int.toNat a1))) ≥ (240 : Int))) then (bif (decide ((IntKind.wrap .i64 (byteAt a0 (Int.toNat a1))) < (248 : Int))) then (bif (decide ((IntKind.wrap .i64 (a1 + (4 : Int))) > (((ByteArray.size a0) : Nat) : Int))) then (some (.int .i64 (0 : Int))) else (ref05_size_L0 (kp E k n) k k a0 a1 (4 : Int) (IntKind.wrap .i64 ((IntKind.wrap .i64 (byteAt a0 (Int.toNat a1))) - (240 : Int))) (1 : Int))) else (some (.int .i64 (0 : Int)))) else (some (.int .i64 (0 : Int))))) else (bif (decide ((IntKind.wrap .i64 (byteAt a0 (Int.toNat a1))) ≥ (240 : Int))) then (bif (decide ((IntKind.wrap .i64 (byteAt a0 (Int.toNat a1))) < (248 : Int))) then (bif (decide ((IntKind.wrap .i64 (a1 + (4 : Int))) > (((ByteArray.size a0) : Nat) : Int))) then (some (.int .i64 (0 : Int))) else (ref05_size_L0 (kp E k n) k k a0 a1 (4 : Int) (IntKind.wrap .i64 ((IntKind.wrap .i64 (byteAt a0 (Int.toNat a1))) - (240 : Int))) (1 : Int))) else (some (.int .i64 (0 : Int)))) else (some (.int .i64 (0 : Int))))))) else none) := (kp_at (by kernel_rfl)).trans (by kernel_rfl)
end Go.Proofs.YtilbahgfjfcikaaGreatDoor.Eng.U

/- The Utf laws in plain words, part 1: how many bytes stand for a code point. -/
set_option linter.unusedVariables false
set_option linter.unusedSimpArgs false
namespace Go.Proofs.YtilbahgfjfcikaaGreatDoor.Eng.U
open Go Go.Proofs Go.Proofs.YtilbahgfjfcikaaGreatDoor.Eng Go.Lib
variable {kap : FuncId → List AV → Option AV} {E : Ext} [Core E] {n : Nat}
def goDec (s : ByteArray) : Nat × Nat := if s.size = 0 then (65533, 0) else Utf8.decode s 0

def by_ (s : ByteArray) (i : Nat) : Nat := (s.data.toList.getD i 0).toNat
theorem by_lt (s : ByteArray) (i : Nat) : by_ s i < 256 := UInt8.toNat_lt _
theorem get_by (s : ByteArray) (i : Nat) : (s.get! i).toNat = by_ s i := by
  unfold by_
  congr 1
  simp [ByteArray.get!, List.getD_eq_getElem?_getD, Array.getElem!_eq_getD, Array.getD_eq_getD_getElem?]
  rfl
/-- How many bytes from place i on are a code point's own; 0: none. -/
def szOf (p : Nat × Nat) : Nat := if p = (65533, 1) then 0 else p.2
def sizeS (s : ByteArray) (i : Nat) : Nat := szOf (Utf8.decode s i)
theorem i64w {x : Int} (h : -9223372036854775808 ≤ x ∧ x ≤ 9223372036854775807) : IntKind.wrap .i64 x = x := IntWalk.i64_in x h

theorem L51_step {K m : Nat} {s : ByteArray} {i n c j : Nat} (hs : s.size ≤ 1000000) (hj : j < n) (hb : i + j < s.size) (hc : c < 10000000) : ref05_size_L0 kap K (m + 1) s (i : Int) (n : Int) (c : Int) (j : Int) =
    if by_ s (i + j) < 128 then some (.int .i64 0) else if 192 ≤ by_ s (i + j) then some (.int .i64 0) else ref05_size_L0 kap K m s (i : Int) (n : Int) ((c * 64 + by_ s (i + j) - 128 : Nat) : Int) ((j + 1 : Nat) : Int) := by
  have hlt := by_lt s (i + j)
  rw [ref05_size_L0_s, i64w (x := (i : Int) + (j : Int)) (by omega), show ((i : Int) + (j : Int)).toNat = i + j from by omega]
  simp only [show byteAt s (i + j) = ((by_ s (i + j) : Nat) : Int) from rfl]
  generalize by_ s (i + j) = b at *
  rw [i64w (x := (64 : Int) * (c : Int)) (by omega), i64w (x := (b : Int)) (by omega), i64w (x := (64 : Int) * (c : Int) + (b : Int)) (by omega), i64w (x := (64 : Int) * (c : Int) + (b : Int) - 128) (by omega), i64w (x := (j : Int) + 1) (by omega)]
  rw [show decide ((j : Int) < (n : Int)) = true from by simp; omega, show (decide ((0 : Int) ≤ (i : Int) + (j : Int)) && decide ((i : Int) + (j : Int) < (s.size : Int))) = true from by simp; omega]
  simp only [cond_true]
  by_cases h1 : b < 128
  · rw [if_pos h1, show decide ((b : Int) < 128) = true from by simp; omega]; rfl
  · rw [if_neg h1, show decide ((b : Int) < 128) = false from by simp; omega]
    by_cases h2 : 192 ≤ b
    · rw [if_pos h2, show decide ((b : Int) ≥ 192) = true from by simp; omega]; rfl
    · rw [if_neg h2, show decide ((b : Int) ≥ 192) = false from by simp; omega]
      simp only [cond_false]
      rw [show ((c * 64 + b - 128 : Nat) : Int) = (64 : Int) * (c : Int) + (b : Int) - 128 from by omega, show ((j + 1 : Nat) : Int) = (j : Int) + 1 from by omega]
def minOf (n : Nat) : Nat := if n = 2 then 128 else if n = 3 then 2048 else 65536
theorem L51_end {K m : Nat} {s : ByteArray} {i n c : Nat} (hn : n = 2 ∨ n = 3 ∨ n = 4) : ref05_size_L0 kap K (m + 1) s (i : Int) (n : Int) (c : Int) (n : Int) =
    if c < minOf n then some (.int .i64 0) else if 1114111 < c then some (.int .i64 0) else if 55296 ≤ c ∧ c ≤ 57343 then some (.int .i64 0) else some (.int .i64 (n : Int)) := by
  rw [ref05_size_L0_s, show decide ((n : Int) < (n : Int)) = false from by simp, show (decide ((0 : Int) ≤ (n : Int)) && decide ((n : Int) < 5)) = true from by simp; omega]
  simp only [cond_true, cond_false, show ((n : Int)).toNat = n from by omega]
  have key : ∀ (v : Nat) (v' : Int), v' = (v : Int) → (bif decide ((c : Int) < v') then some (AV.int .i64 0) else bif decide ((c : Int) > 1114111) then some (.int .i64 0) else bif decide ((c : Int) ≥ 55296) then (bif decide ((c : Int) ≤ 57343) then some (.int .i64 0) else some (.int .i64 (n : Int))) else some (.int .i64 (n : Int))) =
      if c < v then some (.int .i64 0) else if 1114111 < c then some (.int .i64 0) else if 55296 ≤ c ∧ c ≤ 57343 then some (.int .i64 0) else some (.int .i64 (n : Int)) := by
    rintro v _ rfl
    by_cases h1 : c < v
    · rw [if_pos h1, show decide ((c : Int) < (v : Int)) = true from by simp; omega]; rfl
    rw [if_neg h1, show decide ((c : Int) < (v : Int)) = false from by simp; omega, cond_false]
    by_cases h2 : 1114111 < c
    · rw [if_pos h2, show decide ((c : Int) > 1114111) = true from by simp; omega]; rfl
    rw [if_neg h2, show decide ((c : Int) > 1114111) = false from by simp; omega, cond_false]
    by_cases h3 : 55296 ≤ c
    · rw [show decide ((c : Int) ≥ 55296) = true from by simp; omega, cond_true]
      by_cases h4 : c ≤ 57343
      · rw [if_pos ⟨h3, h4⟩, show decide ((c : Int) ≤ 57343) = true from by simp; omega]; rfl
      · rw [if_neg (fun h => h4 h.2), show decide ((c : Int) ≤ 57343) = false from by simp; omega]; rfl
    · rw [if_neg (fun h => h3 h.1), show decide ((c : Int) ≥ 55296) = false from by simp; omega]; rfl
  have e : ∀ (j : Nat) (v : Int) (K : Int → Option AV), ([(.int .i64 (0 : Int)), (.int .i64 (0 : Int)), (.int .i64 (128 : Int)), (.int .i64 (2048 : Int)), (.int .i64 (65536 : Int))] : List AV)[j]? = some (.int .i64 v) → (([(.int .i64 (0 : Int)), (.int .i64 (0 : Int)), (.int .i64 (128 : Int)), (.int .i64 (2048 : Int)), (.int .i64 (65536 : Int))] : List AV)[j]?).bind (fun vy1 => cellI .i64 (AV.cells vy1) 0 fun vn2 => K vn2) = K v := by
    intro j v K h
    rw [h]
    rfl
  rcases hn with rfl | rfl | rfl
  · rw [show minOf 2 = 128 from rfl, e 2 128 _ rfl]; exact key 128 128 (by omega)
  · rw [show minOf 3 = 2048 from rfl, e 3 2048 _ rfl]; exact key 2048 2048 (by omega)
  · rw [show minOf 4 = 65536 from rfl, e 4 65536 _ rfl]; exact key 65536 65536 (by omega)

theorem L51_two {K m : Nat} {s : ByteArray} {i c : Nat} (hs : s.size ≤ 1000000) (hb : i + 1 < s.size) (hc : c < 256) : ref05_size_L0 kap K (m + 2) s (i : Int) ((2 : Nat) : Int) (c : Int) ((1 : Nat) : Int) =
    if by_ s (i + 1) < 128 then some (.int .i64 0) else if 192 ≤ by_ s (i + 1) then some (.int .i64 0) else
    if c * 64 + by_ s (i + 1) - 128 < 128 then some (.int .i64 0) else if 1114111 < c * 64 + by_ s (i + 1) - 128 then some (.int .i64 0) else if 55296 ≤ c * 64 + by_ s (i + 1) - 128 ∧ c * 64 + by_ s (i + 1) - 128 ≤ 57343 then some (.int .i64 0) else some (.int .i64 2) := by
  rw [L51_step hs (by omega) hb (by omega)]
  split
  · rfl
  split
  · rfl
  exact L51_end (.inl rfl)
theorem L51_three {K m : Nat} {s : ByteArray} {i c : Nat} (hs : s.size ≤ 1000000) (hb : i + 2 < s.size) (hc : c < 256) : ref05_size_L0 kap K (m + 3) s (i : Int) ((3 : Nat) : Int) (c : Int) ((1 : Nat) : Int) =
    if by_ s (i + 1) < 128 then some (.int .i64 0) else if 192 ≤ by_ s (i + 1) then some (.int .i64 0) else
    if by_ s (i + 2) < 128 then some (.int .i64 0) else if 192 ≤ by_ s (i + 2) then some (.int .i64 0) else
    if (c * 64 + by_ s (i + 1) - 128) * 64 + by_ s (i + 2) - 128 < 2048 then some (.int .i64 0) else if 1114111 < (c * 64 + by_ s (i + 1) - 128) * 64 + by_ s (i + 2) - 128 then some (.int .i64 0) else if 55296 ≤ (c * 64 + by_ s (i + 1) - 128) * 64 + by_ s (i + 2) - 128 ∧ (c * 64 + by_ s (i + 1) - 128) * 64 + by_ s (i + 2) - 128 ≤ 57343 then some (.int .i64 0) else some (.int .i64 3) := by
  have h1 := by_lt s (i + 1)
  rw [L51_step hs (by omega) (by omega) (by omega)]
  split
  · rfl
  split
  · rfl
  rw [L51_step hs (by omega) (by omega) (by omega)]
  split
  · rfl
  split
  · rfl
  exact L51_end (.inr (.inl rfl))
theorem L51_four {K m : Nat} {s : ByteArray} {i c : Nat} (hs : s.size ≤ 1000000) (hb : i + 3 < s.size) (hc : c < 256) : ref05_size_L0 kap K (m + 4) s (i : Int) ((4 : Nat) : Int) (c : Int) ((1 : Nat) : Int) =
    if by_ s (i + 1) < 128 then some (.int .i64 0) else if 192 ≤ by_ s (i + 1) then some (.int .i64 0) else
    if by_ s (i + 2) < 128 then some (.int .i64 0) else if 192 ≤ by_ s (i + 2) then some (.int .i64 0) else
    if by_ s (i + 3) < 128 then some (.int .i64 0) else if 192 ≤ by_ s (i + 3) then some (.int .i64 0) else
    if ((c * 64 + by_ s (i + 1) - 128) * 64 + by_ s (i + 2) - 128) * 64 + by_ s (i + 3) - 128 < 65536 then some (.int .i64 0) else if 1114111 < ((c * 64 + by_ s (i + 1) - 128) * 64 + by_ s (i + 2) - 128) * 64 + by_ s (i + 3) - 128 then some (.int .i64 0) else if 55296 ≤ ((c * 64 + by_ s (i + 1) - 128) * 64 + by_ s (i + 2) - 128) * 64 + by_ s (i + 3) - 128 ∧ ((c * 64 + by_ s (i + 1) - 128) * 64 + by_ s (i + 2) - 128) * 64 + by_ s (i + 3) - 128 ≤ 57343 then some (.int .i64 0) else some (.int .i64 4) := by
  have h1 := by_lt s (i + 1)
  have h2 := by_lt s (i + 2)
  rw [L51_step hs (by omega) (by omega) (by omega)]
  split
  · rfl
  split
  · rfl
  rw [L51_step hs (by omega) (by omega) (by omega)]
  split
  · rfl
  split
  · rfl
  rw [L51_step hs (by omega) (by omega) (by omega)]
  split
  · rfl
  split
  · rfl
  exact L51_end (.inr (.inr rfl))

/-- How many bytes a code point takes, by numbers. -/
def sizeN (n b0 b1 b2 b3 : Nat) : Nat := szOf (decodeN n b0 b1 b2 b3)
theorem szOf_bad : szOf (65533, 1) = 0 := rfl
theorem szOf_ok {c w : Nat} (h : w ≠ 1 ∨ c ≠ 65533) : szOf (c, w) = w := by
  unfold szOf
  rw [if_neg (by simp only [Prod.mk.injEq]; omega)]
theorem sizeS_eq (s : ByteArray) (i : Nat) : sizeS s i = sizeN (s.size - i) (by_ s i) (by_ s (i + 1)) (by_ s (i + 2)) (by_ s (i + 3)) := by
  unfold sizeS sizeN
  rw [decode_at, get_by, get_by, get_by, get_by]
theorem size_num {K : Nat} {s : ByteArray} {i : Nat} (hs : s.size ≤ 1000000) (hi : i < s.size) : kp E (K + 5) (n + 1) ref05_size [.str s, .int .i64 (i : Int)] =
    if by_ s i < 128 then some (.int .i64 1) else if by_ s i < 192 then some (.int .i64 0) else
    if by_ s i < 224 then (if s.size < i + 2 then some (.int .i64 0) else ref05_size_L0 (kp E (K + 5) n) (K + 5) (K + 5) s (i : Int) ((2 : Nat) : Int) ((by_ s i - 192 : Nat) : Int) ((1 : Nat) : Int)) else
    if by_ s i < 240 then (if s.size < i + 3 then some (.int .i64 0) else ref05_size_L0 (kp E (K + 5) n) (K + 5) (K + 5) s (i : Int) ((3 : Nat) : Int) ((by_ s i - 224 : Nat) : Int) ((1 : Nat) : Int)) else
    if by_ s i < 248 then (if s.size < i + 4 then some (.int .i64 0) else ref05_size_L0 (kp E (K + 5) n) (K + 5) (K + 5) s (i : Int) ((4 : Nat) : Int) ((by_ s i - 240 : Nat) : Int) ((1 : Nat) : Int)) else some (.int .i64 0) := by
  have hlt := by_lt s i
  rw [ref05_size_eq, show ((i : Int)).toNat = i from by omega]
  simp only [show byteAt s i = ((by_ s i : Nat) : Int) from rfl]
  generalize by_ s i = b at *
  rw [i64w (x := (b : Int)) (by omega)]
  rw [show (decide ((0 : Int) ≤ (i : Int)) && decide ((i : Int) < (s.size : Int))) = true from by simp; omega]
  simp only [cond_true]
  rw [i64w (x := (i : Int) + 2) (by omega), i64w (x := (i : Int) + 3) (by omega), i64w (x := (i : Int) + 4) (by omega)]
  rw [i64w (x := (b : Int) - 192) (by omega), i64w (x := (b : Int) - 224) (by omega), i64w (x := (b : Int) - 240) (by omega)]
  have hd : ∀ (p q : Prop) [Decidable p] [Decidable q], (p ↔ q) → decide p = decide q := fun p q _ _ h => decide_eq_decide.2 h
  have bif_if : ∀ {α : Type} (p : Prop) [Decidable p] (x y : α), (bif decide p then x else y) = if p then x else y := fun p _ x y => by by_cases h : p <;> simp [h]
  simp only [bif_if]
  by_cases a1 : b < 128
  · rw [if_pos (by omega), if_pos a1]
  rw [if_neg (by omega), if_neg a1]
  by_cases a2 : b < 192
  · rw [if_pos a2, if_neg (by omega), if_neg (by omega), if_neg (by omega)]
  rw [if_neg a2, if_pos (by omega)]
  by_cases a3 : b < 224
  · rw [if_pos (by omega), if_pos a3]
    by_cases z : s.size < i + 2
    · rw [if_pos (by omega), if_pos z]
    · rw [if_neg (by omega), if_neg z, show ((b - 192 : Nat) : Int) = (b : Int) - 192 from by omega]; rfl
  rw [if_neg (by omega), if_neg a3, if_pos (by omega)]
  by_cases a4 : b < 240
  · rw [if_pos (by omega), if_pos a4]
    by_cases z : s.size < i + 3
    · rw [if_pos (by omega), if_pos z]
    · rw [if_neg (by omega), if_neg z, show ((b - 224 : Nat) : Int) = (b : Int) - 224 from by omega]; rfl
  rw [if_neg (by omega), if_neg a4, if_pos (by omega)]
  by_cases a5 : b < 248
  · rw [if_pos (by omega), if_pos a5]
    by_cases z : s.size < i + 4
    · rw [if_pos (by omega), if_pos z]
    · rw [if_neg (by omega), if_neg z, show ((b - 240 : Nat) : Int) = (b : Int) - 240 from by omega]; rfl
  rw [if_neg (by omega), if_neg a5]
end Go.Proofs.YtilbahgfjfcikaaGreatDoor.Eng.U

/- The Utf laws in plain words, part 2: the size of a code point is what the decoder says. -/
set_option linter.unusedVariables false
set_option linter.unusedSimpArgs false
namespace Go.Proofs.YtilbahgfjfcikaaGreatDoor.Eng.U
open Go Go.Proofs Go.Proofs.YtilbahgfjfcikaaGreatDoor.Eng Go.Lib
variable {kap : FuncId → List AV → Option AV} {E : Ext} [Core E] {n : Nat}

theorem sizeN_1 (n b0 b1 b2 b3 : Nat) (h : b0 < 128) : sizeN n b0 b1 b2 b3 = 1 := by
  unfold sizeN decodeN
  rw [if_pos h, szOf_ok (by omega)]
theorem sizeN_0 (n b0 b1 b2 b3 : Nat) (h : 128 ≤ b0 ∧ (b0 < 192 ∨ 248 ≤ b0)) (h0 : b0 < 256) : sizeN n b0 b1 b2 b3 = 0 := by
  unfold sizeN decodeN
  rw [if_neg (by omega), if_neg (by omega), if_neg (by omega), if_neg (by omega), szOf_bad]
theorem sizeN_2 (n b0 b1 b2 b3 : Nat) (h : 192 ≤ b0 ∧ b0 < 224) (h1 : b1 < 256) : sizeN n b0 b1 b2 b3 =
    if n < 2 then 0 else if b1 < 128 then 0 else if 192 ≤ b1 then 0 else if (b0 - 192) * 64 + b1 - 128 < 128 then 0 else if 1114111 < (b0 - 192) * 64 + b1 - 128 then 0 else if 55296 ≤ (b0 - 192) * 64 + b1 - 128 ∧ (b0 - 192) * 64 + b1 - 128 ≤ 57343 then 0 else 2 := by
  unfold sizeN decodeN
  rw [if_neg (by omega)]
  by_cases hc : 1 < n ∧ b1 / 64 = 2
  · rw [if_pos ⟨by omega, hc⟩, if_neg (show ¬ n < 2 by omega), if_neg (show ¬ b1 < 128 by omega), if_neg (show ¬ 192 ≤ b1 by omega)]
    by_cases hd : b0 % 32 * 64 + b1 % 64 ≥ 128
    · rw [if_pos hd, szOf_ok (by omega), if_neg (by omega), if_neg (by omega), if_neg (by omega)]
    · rw [if_neg hd, szOf_bad, if_pos (by omega)]
  · rw [if_neg (fun h => hc h.2), if_neg (by omega), if_neg (by omega), szOf_bad]
    by_cases g1 : n < 2
    · rw [if_pos g1]
    · rw [if_neg g1]
      by_cases g2 : b1 < 128
      · rw [if_pos g2]
      · rw [if_neg g2, if_pos (by omega)]
theorem sizeN_3 (n b0 b1 b2 b3 : Nat) (h : 224 ≤ b0 ∧ b0 < 240) (h1 : b1 < 256) (h2 : b2 < 256) : sizeN n b0 b1 b2 b3 =
    if n < 3 then 0 else if b1 < 128 then 0 else if 192 ≤ b1 then 0 else if b2 < 128 then 0 else if 192 ≤ b2 then 0 else if ((b0 - 224) * 64 + b1 - 128) * 64 + b2 - 128 < 2048 then 0 else if 1114111 < ((b0 - 224) * 64 + b1 - 128) * 64 + b2 - 128 then 0 else if 55296 ≤ ((b0 - 224) * 64 + b1 - 128) * 64 + b2 - 128 ∧ ((b0 - 224) * 64 + b1 - 128) * 64 + b2 - 128 ≤ 57343 then 0 else 3 := by
  unfold sizeN decodeN
  rw [if_neg (by omega), if_neg (show ¬ (b0 / 32 = 6 ∧ _) by omega)]
  by_cases hc : (1 < n ∧ b1 / 64 = 2) ∧ (2 < n ∧ b2 / 64 = 2)
  · rw [if_pos ⟨by omega, hc.1, hc.2⟩, if_neg (show ¬ n < 3 by omega), if_neg (show ¬ b1 < 128 by omega), if_neg (show ¬ 192 ≤ b1 by omega), if_neg (show ¬ b2 < 128 by omega), if_neg (show ¬ 192 ≤ b2 by omega)]
    have e : b0 % 16 * 4096 + b1 % 64 * 64 + b2 % 64 = ((b0 - 224) * 64 + b1 - 128) * 64 + b2 - 128 := by omega
    rw [e]
    generalize ((b0 - 224) * 64 + b1 - 128) * 64 + b2 - 128 = c at *
    by_cases hd : c ≥ 2048 ∧ (c < 55296 ∨ (57344 ≤ c ∧ c ≤ 1114111))
    · rw [if_pos hd, szOf_ok (by omega), if_neg (by omega), if_neg (by omega), if_neg (by omega)]
    · rw [if_neg hd, szOf_bad]
      by_cases g1 : c < 2048
      · rw [if_pos g1]
      · rw [if_neg g1]
        by_cases g2 : 1114111 < c
        · rw [if_pos g2]
        · rw [if_neg g2, if_pos (by omega)]
  · rw [if_neg (fun h => hc h.2), if_neg (by omega), szOf_bad]
    by_cases g1 : n < 3
    · rw [if_pos g1]
    · rw [if_neg g1]
      by_cases g2 : b1 < 128
      · rw [if_pos g2]
      · rw [if_neg g2]
        by_cases g3 : 192 ≤ b1
        · rw [if_pos g3]
        · rw [if_neg g3]
          by_cases g4 : b2 < 128
          · rw [if_pos g4]
          · rw [if_neg g4, if_pos (by omega)]
theorem sizeN_4 (n b0 b1 b2 b3 : Nat) (h : 240 ≤ b0 ∧ b0 < 248) (h1 : b1 < 256) (h2 : b2 < 256) (h3 : b3 < 256) : sizeN n b0 b1 b2 b3 =
    if n < 4 then 0 else if b1 < 128 then 0 else if 192 ≤ b1 then 0 else if b2 < 128 then 0 else if 192 ≤ b2 then 0 else if b3 < 128 then 0 else if 192 ≤ b3 then 0 else
    if (((b0 - 240) * 64 + b1 - 128) * 64 + b2 - 128) * 64 + b3 - 128 < 65536 then 0 else if 1114111 < (((b0 - 240) * 64 + b1 - 128) * 64 + b2 - 128) * 64 + b3 - 128 then 0 else if 55296 ≤ (((b0 - 240) * 64 + b1 - 128) * 64 + b2 - 128) * 64 + b3 - 128 ∧ (((b0 - 240) * 64 + b1 - 128) * 64 + b2 - 128) * 64 + b3 - 128 ≤ 57343 then 0 else 4 := by
  unfold sizeN decodeN
  rw [if_neg (by omega), if_neg (show ¬ (b0 / 32 = 6 ∧ _) by omega), if_neg (show ¬ (b0 / 16 = 14 ∧ _) by omega)]
  by_cases hc : (1 < n ∧ b1 / 64 = 2) ∧ (2 < n ∧ b2 / 64 = 2) ∧ (3 < n ∧ b3 / 64 = 2)
  · rw [if_pos ⟨by omega, hc.1, hc.2.1, hc.2.2⟩, if_neg (show ¬ n < 4 by omega), if_neg (show ¬ b1 < 128 by omega), if_neg (show ¬ 192 ≤ b1 by omega), if_neg (show ¬ b2 < 128 by omega), if_neg (show ¬ 192 ≤ b2 by omega), if_neg (show ¬ b3 < 128 by omega), if_neg (show ¬ 192 ≤ b3 by omega)]
    have e : b0 % 8 * 262144 + b1 % 64 * 4096 + b2 % 64 * 64 + b3 % 64 = (((b0 - 240) * 64 + b1 - 128) * 64 + b2 - 128) * 64 + b3 - 128 := by omega
    rw [e]
    generalize (((b0 - 240) * 64 + b1 - 128) * 64 + b2 - 128) * 64 + b3 - 128 = c at *
    by_cases hd : c ≥ 65536 ∧ (c < 55296 ∨ (57344 ≤ c ∧ c ≤ 1114111))
    · rw [if_pos hd, szOf_ok (by omega), if_neg (by omega), if_neg (by omega), if_neg (by omega)]
    · rw [if_neg hd, szOf_bad]
      by_cases g1 : c < 65536
      · rw [if_pos g1]
      · rw [if_neg g1]
        by_cases g2 : 1114111 < c
        · rw [if_pos g2]
        · rw [if_neg g2, if_pos (by omega)]
  · rw [if_neg (fun h => hc h.2), szOf_bad]
    by_cases g1 : n < 4
    · rw [if_pos g1]
    · rw [if_neg g1]
      by_cases g2 : b1 < 128
      · rw [if_pos g2]
      · rw [if_neg g2]
        by_cases g3 : 192 ≤ b1
        · rw [if_pos g3]
        · rw [if_neg g3]
          by_cases g4 : b2 < 128
          · rw [if_pos g4]
          · rw [if_neg g4]
            by_cases g5 : 192 ≤ b2
            · rw [if_pos g5]
            · rw [if_neg g5]
              by_cases g6 : b3 < 128
              · rw [if_pos g6]
              · rw [if_neg g6, if_pos (by omega)]
theorem some_if (p : Prop) [Decidable p] (a b : Nat) : (some (AV.int .i64 ((if p then a else b : Nat) : Int))) = if p then some (AV.int .i64 (a : Int)) else some (AV.int .i64 (b : Int)) := by by_cases h : p <;> simp [h]
theorem size_spec {K : Nat} {s : ByteArray} {i : Nat} (hs : s.size ≤ 1000000) (hi : i < s.size) : kp E (K + 5) (n + 1) ref05_size [.str s, .int .i64 (i : Int)] = some (.int .i64 (sizeS s i : Int)) := by
  have h0 := by_lt s i
  have h1 := by_lt s (i + 1)
  have h2 := by_lt s (i + 2)
  have h3 := by_lt s (i + 3)
  rw [size_num hs hi, sizeS_eq]
  by_cases a1 : by_ s i < 128
  · rw [if_pos a1, sizeN_1 _ _ _ _ _ a1]; rfl
  rw [if_neg a1]
  by_cases a2 : by_ s i < 192
  · rw [if_pos a2, sizeN_0 _ _ _ _ _ (by omega) h0]; rfl
  rw [if_neg a2]
  by_cases a3 : by_ s i < 224
  · rw [if_pos a3, sizeN_2 _ _ _ _ _ (by omega) h1]
    by_cases z : s.size < i + 2
    · rw [if_pos z, if_pos (by omega)]; rfl
    · rw [if_neg z, if_neg (by omega), L51_two hs (by omega) (by omega)]
      simp only [some_if]; rfl
  rw [if_neg a3]
  by_cases a4 : by_ s i < 240
  · rw [if_pos a4, sizeN_3 _ _ _ _ _ (by omega) h1 h2]
    by_cases z : s.size < i + 3
    · rw [if_pos z, if_pos (by omega)]; rfl
    · rw [if_neg z, if_neg (by omega), L51_three hs (by omega) (by omega)]
      simp only [some_if]; rfl
  rw [if_neg a4]
  by_cases a5 : by_ s i < 248
  · rw [if_pos a5, sizeN_4 _ _ _ _ _ (by omega) h1 h2 h3]
    by_cases z : s.size < i + 4
    · rw [if_pos z, if_pos (by omega)]; rfl
    · rw [if_neg z, if_neg (by omega), L51_four hs (by omega) (by omega)]
      simp only [some_if]; rfl
  · rw [if_neg a5, sizeN_0 _ _ _ _ _ (by omega) h0]; rfl
end Go.Proofs.YtilbahgfjfcikaaGreatDoor.Eng.U

/- The Utf laws in plain words, part 3: the functions that go through a text. -/
set_option linter.unusedVariables false
set_option linter.unusedSimpArgs false
namespace Go.Proofs.YtilbahgfjfcikaaGreatDoor.Eng.U
open Go Go.Proofs Go.Proofs.YtilbahgfjfcikaaGreatDoor.Eng Go.Lib
variable {kap : FuncId → List AV → Option AV} {E : Ext} [Core E] {n : Nat}

abbrev ai (n : Int) : AV := .int .i64 n
/-- Is the byte at a place no part of a code point? -/
def bad (s : ByteArray) (i : Nat) : Prop := Utf8.decode s i = (65533, 1)
instance (s : ByteArray) (i : Nat) : Decidable (bad s i) := inferInstanceAs (Decidable (_ = _))
/-- The place behind what stands at a place. -/
def nx (s : ByteArray) (i : Nat) : Nat := i + (Utf8.decode s i).2
theorem width_le (s : ByteArray) (i : Nat) : 1 ≤ (Utf8.decode s i).2 ∧ (Utf8.decode s i).2 ≤ 4 := by
  rw [decode_at]
  unfold decodeN
  repeat' split
  all_goals simp
theorem nx_gt (s : ByteArray) (i : Nat) : i < nx s i ∧ nx s i ≤ i + 4 := by have := width_le s i; unfold nx; omega
theorem decode_in (s : ByteArray) (i : Nat) (h : i < s.size) : nx s i ≤ s.size := by
  unfold nx
  rw [decode_at]
  unfold decodeN
  repeat' split
  all_goals (simp only; omega)
theorem sizeS_bad {s : ByteArray} {i : Nat} (h : bad s i) : sizeS s i = 0 := by unfold sizeS; rw [h]; rfl
theorem sizeS_good {s : ByteArray} {i : Nat} (h : ¬ bad s i) : sizeS s i = (Utf8.decode s i).2 ∧ sizeS s i ≠ 0 := by
  unfold sizeS szOf
  rw [if_neg (show ¬ Utf8.decode s i = (65533, 1) from h)]
  have := width_le s i
  exact ⟨rfl, by omega⟩
theorem nx_bad {s : ByteArray} {i : Nat} (h : bad s i) : nx s i = i + 1 := by unfold nx; rw [h]

/-- The ends of all that stands in a text, from a place on: below zero where a byte is no part of a code point. -/
def endsL (s : ByteArray) : Nat → Nat → List Int
  | 0, _ => []
  | n + 1, pos => if pos < s.size then (if bad s pos then -(nx s pos : Int) else (nx s pos : Int)) :: endsL s n (nx s pos) else []
def ends (s : ByteArray) : List Int := endsL s s.size 0
theorem L16 {K : Nat} {s : ByteArray} (hs : s.size ≤ 1000000) (h51 : ∀ i, i < s.size → kap ref05_size [.str s, .int .i64 (i : Int)] = some (.int .i64 (sizeS s i : Int))) :
    ∀ (n m pos : Nat) (xs : List AV), s.size ≤ pos + n → n < m → xs.length ≤ pos → pos ≤ s.size + 4 → ref05_Ends_L0 kap K m s (pos : Int) xs = some (.list 1 (xs ++ (endsL s n pos).map ai)) := by
  intro n
  induction n with
  | zero =>
    intro m pos xs hn hm hx hp
    obtain ⟨m, rfl⟩ : ∃ m', m = m' + 1 := ⟨m - 1, by omega⟩
    rw [ref05_Ends_L0_s, show decide ((pos : Int) < (s.size : Int)) = false from by simp; omega]
    simp [endsL]
  | succ n ih =>
    intro m pos xs hn hm hx hp
    obtain ⟨m, rfl⟩ : ∃ m', m = m' + 1 := ⟨m - 1, by omega⟩
    by_cases hlt : pos < s.size
    · have hw := nx_gt s pos
      rw [ref05_Ends_L0_s, show decide ((pos : Int) < (s.size : Int)) = true from by simp; omega, h51 pos hlt, cond_true, callI_ok]
      rw [show (decide ((xs.length + 1) * 8 ≤ 140737488355328) && decide (xs.length + 1 ≤ 9223372036854775807)) = true from by simp; omega]
      simp only [cond_true]
      unfold endsL
      rw [if_pos hlt]
      by_cases hb : bad s pos
      · rw [if_pos hb, sizeS_bad hb, show decide (((0 : Nat) : Int) = 0) = true from rfl, cond_true]
        have e := nx_bad hb
        rw [i64w (x := (pos : Int) + 1) (by omega), i64w (x := 0 - ((pos : Int) + 1)) (by omega), show (pos : Int) + 1 = ((nx s pos : Nat) : Int) from by omega,
          ih m (nx s pos) _ (by omega) (by omega) (by simp; omega) (by omega)]
        simp [ai]
      · obtain ⟨e1, e2⟩ := sizeS_good hb
        rw [if_neg hb, show decide (((sizeS s pos : Nat) : Int) = 0) = false from by simp; omega, cond_false]
        have e : nx s pos = pos + sizeS s pos := by rw [e1]; rfl
        rw [i64w (x := (pos : Int) + (sizeS s pos : Int)) (by omega), show (pos : Int) + (sizeS s pos : Int) = ((nx s pos : Nat) : Int) from by omega,
          ih m (nx s pos) _ (by omega) (by omega) (by simp; omega) (by omega)]
        simp [ai]
    · rw [ref05_Ends_L0_s, show decide ((pos : Int) < (s.size : Int)) = false from by simp; omega]
      unfold endsL
      rw [if_neg hlt]
      simp
theorem ref05_Ends_spec {K : Nat} {s : ByteArray} (hs : s.size ≤ 1000000) (hK : s.size < K) (h51 : ∀ i, i < s.size → kp E K n ref05_size [.str s, .int .i64 (i : Int)] = some (.int .i64 (sizeS s i : Int))) : kp E K (n + 1) ref05_Ends [.str s] = some (.list 1 ((ends s).map ai)) := by
  rw [ref05_Ends_eq]
  exact L16 hs h51 s.size K 0 [] (by omega) hK (by simp) (by omega)

/-- The place of the first byte that is no part of a code point; -1: there is none. -/
def firstL (s : ByteArray) : Nat → Nat → Int
  | 0, _ => -1
  | n + 1, pos => if pos < s.size then (if bad s pos then (pos : Int) else firstL s n (nx s pos)) else -1
def first (s : ByteArray) : Int := firstL s s.size 0
theorem utf_wrong_spec {K : Nat} {s : ByteArray} {i : Nat} (hi : i < s.size) (h69 : ∀ t, kp E K n unicode_utf8_DecodeRuneInString [.str t] = some (.tup [.int .i32 ((goDec t).1 : Int), .int .i64 ((goDec t).2 : Int)])) :
    kp E K (n + 1) utf_wrong [.str s, .int .i64 (i : Int), .int .i32 ((Utf8.decode s i).1 : Int)] = some (.bool (decide (bad s i))) := by
  rw [utf_wrong_eq]
  by_cases h : (Utf8.decode s i).1 = 65533
  · rw [show decide ((((Utf8.decode s i).1 : Nat) : Int) = 65533) = true from by simp; omega, show (decide ((0 : Int) ≤ (i : Int)) && decide ((i : Int) ≤ (s.size : Int))) = true from by simp; omega]
    simp only [Bool.not_true, cond_false, cond_true, h69, callT_ok, tupI_ok, atNil_ok]
    have e : goDec (s.extract ((i : Int)).toNat s.size) = Utf8.decode s i := by
      rw [show ((i : Int)).toNat = i from by omega]
      unfold goDec
      rw [if_neg (by rw [tail_size]; omega), decode_at, decode_at, tail_size, Nat.sub_zero]
      simp only [tail_get!, Nat.add_zero, Nat.zero_add]
    rw [e]
    congr 2
    refine decide_eq_decide.2 ?_
    unfold bad
    rw [Prod.ext_iff]
    simp only [h, true_and]
    omega
  · rw [show decide ((((Utf8.decode s i).1 : Nat) : Int) = 65533) = false from by simp; omega]
    simp only [Bool.not_false, cond_true]
    rw [show decide (bad s i) = false from by simp only [decide_eq_false_iff_not]; intro hb; exact h (by rw [show Utf8.decode s i = _ from hb])]
theorem L13 {K : Nat} {s : ByteArray} (h50 : ∀ i, i < s.size → kap utf_wrong [.str s, .int .i64 (i : Int), .int .i32 ((Utf8.decode s i).1 : Int)] = some (.bool (decide (bad s i)))) :
    ∀ (n m pos : Nat), s.size ≤ pos + n → n < m → utf_First_L0 kap K m s s pos = some (.int .i64 (firstL s n pos)) := by
  intro n
  induction n with
  | zero =>
    intro m pos hn hm
    obtain ⟨m, rfl⟩ : ∃ m', m = m' + 1 := ⟨m - 1, by omega⟩
    rw [utf_First_L0_s, show decide (pos < s.size) = false from by simp; omega]
    rfl
  | succ n ih =>
    intro m pos hn hm
    obtain ⟨m, rfl⟩ : ∃ m', m = m' + 1 := ⟨m - 1, by omega⟩
    unfold firstL
    by_cases hlt : pos < s.size
    · have hw := nx_gt s pos
      rw [utf_First_L0_s, show decide (pos < s.size) = true from by simpa using hlt, h50 pos hlt, if_pos hlt]
      simp only [cond_true, callB_ok]
      by_cases hb : bad s pos
      · rw [if_pos hb, decide_eq_true hb]; rfl
      · rw [if_neg hb, decide_eq_false hb]
        exact ih m (nx s pos) (by omega) (by omega)
    · rw [utf_First_L0_s, show decide (pos < s.size) = false from by simpa using hlt, if_neg hlt]
      rfl
theorem utf_First_spec {K : Nat} {s : ByteArray} (hK : s.size < K) (h50 : ∀ i, i < s.size → kp E K n utf_wrong [.str s, .int .i64 (i : Int), .int .i32 ((Utf8.decode s i).1 : Int)] = some (.bool (decide (bad s i)))) : kp E K (n + 1) utf_First [.str s] = some (.int .i64 (first s)) := by
  rw [utf_First_eq]
  exact L13 h50 s.size K 0 (by omega) hK
theorem utf_Right_spec {K : Nat} {s : ByteArray} (h13 : kp E K n utf_First [.str s] = some (.int .i64 (first s))) : kp E K (n + 1) utf_Right [.str s] = some (.bool (decide (first s < 0))) := by
  rw [utf_Right_eq, h13]
  rfl
/-- The first of the ends that is below zero. -/
def firstNeg : List Int → Int
  | [] => -1
  | e :: l => if e < 0 then -e - 1 else firstNeg l
theorem L12 {K : Nat} {es : List Int} (hes : ∀ e ∈ es, -1000010 ≤ e ∧ e ≤ 1000010) (hl : es.length ≤ 1000000) : ∀ (n m j : Nat), es.length ≤ j + n → n < m → ref05_First_L0 kap K m (es.map ai) (j : Int) = some (.int .i64 (firstNeg (es.drop j))) := by
  intro n
  induction n with
  | zero =>
    intro m j hn hm
    obtain ⟨m, rfl⟩ : ∃ m', m = m' + 1 := ⟨m - 1, by omega⟩
    rw [ref05_First_L0_s, show decide ((j : Int) < ((es.map ai).length : Int)) = false from by simp; omega, List.drop_eq_nil_of_le (by omega)]
    rfl
  | succ n ih =>
    intro m j hn hm
    obtain ⟨m, rfl⟩ : ∃ m', m = m' + 1 := ⟨m - 1, by omega⟩
    by_cases hlt : j < es.length
    · have he := hes es[j] (List.getElem_mem hlt)
      rw [ref05_First_L0_s, show decide ((j : Int) < ((es.map ai).length : Int)) = true from by simp; omega, show decide ((0 : Int) ≤ (j : Int)) = true from by simp, show ((j : Int)).toNat = j from by omega]
      rw [List.getElem?_map, List.getElem?_eq_getElem hlt, List.drop_eq_getElem_cons hlt]
      simp only [cond_true, Bool.and_self, Option.map_some, Option.bind_some, AV.cells, cellI_0, firstNeg, ai]
      by_cases h0 : es[j] < 0
      · rw [if_pos h0, show decide (es[j] < 0) = true from by simpa using h0, cond_true, i64w (x := 0 - es[j]) (by omega), i64w (x := 0 - es[j] - 1) (by omega)]
        congr 2
        omega
      · rw [if_neg h0, show decide (es[j] < 0) = false from by simpa using h0, cond_false, i64w (x := (j : Int) + 1) (by omega), show (j : Int) + 1 = ((j + 1 : Nat) : Int) from by omega]
        exact ih m (j + 1) (by omega) (by omega)
    · rw [ref05_First_L0_s, show decide ((j : Int) < ((es.map ai).length : Int)) = false from by simp; omega, List.drop_eq_nil_of_le (by omega)]
      rfl
theorem endsL_range (s : ByteArray) : ∀ (n pos : Nat), pos ≤ s.size + 4 → ∀ e ∈ endsL s n pos, -((s.size : Int) + 8) ≤ e ∧ e ≤ (s.size : Int) + 8
  | 0, pos, hp, e, he => by simp [endsL] at he
  | n + 1, pos, hp, e, he => by
    have hw := nx_gt s pos
    unfold endsL at he
    split at he
    · rename_i hlt
      rcases List.mem_cons.1 he with rfl | he
      · split <;> omega
      · exact endsL_range s n (nx s pos) (by omega) e he
    · simp at he
theorem endsL_length (s : ByteArray) : ∀ (n pos : Nat), (endsL s n pos).length ≤ n
  | 0, pos => by simp [endsL]
  | n + 1, pos => by
    unfold endsL
    split
    · have := endsL_length s n (nx s pos)
      simp; omega
    · simp
theorem ref05_First_spec {K : Nat} {s : ByteArray} (hs : s.size ≤ 1000000) (hK : s.size < K) (h16 : kp E K n ref05_Ends [.str s] = some (.list 1 ((ends s).map ai))) : kp E K (n + 1) ref05_First [.str s] = some (.int .i64 (firstNeg (ends s))) := by
  rw [ref05_First_eq, h16]
  have hl := endsL_length s s.size 0
  exact L12 (fun e he => by have := endsL_range s s.size 0 (by omega) e he; omega) (by unfold ends; omega) s.size K 0 (by unfold ends; omega) hK
theorem first_ends (s : ByteArray) : ∀ (n pos : Nat), firstNeg (endsL s n pos) = firstL s n pos
  | 0, pos => rfl
  | n + 1, pos => by
    have hw := nx_gt s pos
    unfold endsL firstL
    split
    · rename_i hlt
      simp only [firstNeg]
      by_cases hb : bad s pos
      · have := nx_bad hb
        rw [if_pos hb, if_pos hb, if_pos (by omega)]
        omega
      · rw [if_neg hb, if_neg hb, if_neg (by omega)]
        exact first_ends s n _
    · rfl
end Go.Proofs.YtilbahgfjfcikaaGreatDoor.Eng.U

/- Which texts hold = or a nought, told exactly. -/
set_option linter.unusedVariables false
set_option linter.unusedSectionVars false
set_option linter.unusedSimpArgs false
namespace Go.Proofs.YtilbahgfjfcikaaGreatDoor.Eng.U
open Go Go.Proofs Go.Proofs.YtilbahgfjfcikaaGreatDoor.Eng
variable {E : Ext} [Core E] {k n : Nat}

def noEq (s : List UInt8) : Bool := s.all fun c => decide (c ≠ 61) && decide (c ≠ 0)
theorem idx_rune (r : Nat) (h : r < 128) : (0 : Int) ≤ Lib.indexByte [61, 0] (IntKind.wrap .u8 (r : Int)).toNat.toUInt8 ↔ r = 61 ∨ r = 0 := by
  have : ∀ r : _root_.Fin 128, ((0 : Int) ≤ Lib.indexByte [61, 0] (IntKind.wrap .u8 ((r.1 : Nat) : Int)).toNat.toUInt8 ↔ r.1 = 61 ∨ r.1 = 0) := by decide +kernel
  exact this ⟨r, h⟩
theorem rune_V [HasIB E] (r : Nat) (hk : 10 < k) : ∃ i : Int, kp E k (n + 2) strings_IndexRune [.str (str [61, 0]), .int .i32 (r : Int)] = some (.int .i64 i) ∧ (0 ≤ i ↔ r = 61 ∨ r = 0) := by
  obtain ⟨k, rfl⟩ : ∃ j, k = j + 3 := ⟨k - 3, by omega⟩
  rw [strings_IndexRune_eq, bif_t (by omega)]
  by_cases h1 : r < 128
  · rw [bif_t (by omega), HasIB.indexB, callI_ok]; exact ⟨_, rfl, idx_rune r h1⟩
  · rw [bif_f (by omega)]
    by_cases h2 : (r : Int) = 65533
    · rw [bif_t h2]
      have d0 : Utf8.decode (str [61, 0]) 0 = (61, 1) := by decide +kernel
      have d1 : Utf8.decode (str [61, 0]) 1 = (0, 1) := by decide +kernel
      have sz : (str [61, 0]).size = 2 := rfl
      have z1 : 0 + ((61, 1) : Nat × Nat).2 = 1 := rfl
      have z2 : 1 + ((0, 1) : Nat × Nat).2 = 2 := rfl
      rw [strings_IndexRune_L0_s, sz, d0, z1, bif_t (by omega), bif_f (by decide), strings_IndexRune_L0_s, sz, d1, z2, bif_t (by omega), bif_f (by decide), strings_IndexRune_L0_s, sz, bif_f (by omega)]
      exact ⟨_, rfl, by omega⟩
    · rw [bif_f h2]
      obtain ⟨b, hb⟩ := valid_B (E := E) (k := k + 3) (n := n) (r : Int)
      rw [hb, callB_ok]
      cases b with
      | false => exact ⟨_, rfl, by omega⟩
      | true =>
        rw [Bool.not_true, cond_false]
        have sz : (str [61, 0]).size = 2 := rfl
        rcases enc_facts r (by omega) with ⟨e1, e2⟩ | e1 | e1
        · rw [e1, i64w (by omega), strings_IndexRune_L1_s, sz, e1]
          have hb1 : byteAt (str [61, 0]) 1 = 0 := rfl
          have e3 : Int.toNat (((2 : Nat) : Int) - 1) = 1 := rfl
          rw [bif_t (by omega), bif_a, bif_t (by omega), bif_t (by omega), bif_a, bif_t (by omega), bif_t (by omega), e3, hb1, decide_eq_false (by omega), Bool.not_false, cond_true, i64w (by omega), bif_a, bif_t (by omega), bif_t (by omega), bif_a, bif_t (by omega), bif_t (by omega)]
          have e4 : Int.toNat (((2 : Nat) : Int) - 1 + 1) = 2 := rfl
          have e5 : ByteArray.extract (str [61, 0]) 2 2 = str [] := by decide +kernel
          rw [e4, e5, HasIB.indexB, callI_ok]
          have e6 : Lib.indexByte [] (byteAt (Utf8.encode (r : Int)) 1).toNat.toUInt8 = -1 := rfl
          rw [e6, bif_t (by omega)]
          exact ⟨_, rfl, by omega⟩
        · rw [e1, i64w (by omega), strings_IndexRune_L1_s, sz, bif_f (by omega)]; exact ⟨_, rfl, by omega⟩
        · rw [e1, i64w (by omega), strings_IndexRune_L1_s, sz, bif_f (by omega)]; exact ⟨_, rfl, by omega⟩
theorem dec_low (s : ByteArray) (i : Nat) (h : by_ s i < 128) : Utf8.decode s i = (by_ s i, 1) := by
  rw [Lib.decode_at, get_by, get_by, get_by, get_by]
  unfold Lib.decodeN
  rw [if_pos h]
theorem dec_wide (s : ByteArray) (i : Nat) (h : 128 ≤ by_ s i) : 128 ≤ (Utf8.decode s i).1 ∧ ∀ j, j < (Utf8.decode s i).2 → 128 ≤ by_ s (i + j) := by
  rw [Lib.decode_at, get_by, get_by, get_by, get_by]
  unfold Lib.decodeN
  rw [if_neg (by omega)]
  have key : ∀ (c w : Nat), 128 ≤ c → (w ≤ 4) → (1 < w → 128 ≤ by_ s (i + 1)) → (2 < w → 128 ≤ by_ s (i + 2)) → (3 < w → 128 ≤ by_ s (i + 3)) → 128 ≤ ((c, w) : Nat × Nat).1 ∧ ∀ j, j < ((c, w) : Nat × Nat).2 → 128 ≤ by_ s (i + j) := by
    intro c w hc hw h1 h2 h3
    refine ⟨hc, fun j hj => ?_⟩
    have hj : j < w := hj
    have : j = 0 ∨ j = 1 ∨ j = 2 ∨ j = 3 := by omega
    rcases this with rfl | rfl | rfl | rfl
    · exact h
    · exact h1 (by omega)
    · exact h2 (by omega)
    · exact h3 (by omega)
  repeat' split
  all_goals exact key _ _ (by omega) (by omega) (by omega) (by omega) (by omega)
theorem any_lv [HasIB E] (hk : 10 < k) (s : List UInt8) : ∀ (m k0 i : Nat), s.length - i < m → m ≤ k0 → ∃ r : Int, strings_IndexAny_L0 (kp E k (n + 2)) k k0 (str [61, 0]) (str s) i = some (.int .i64 r) ∧ (0 ≤ r ↔ ∃ j, i ≤ j ∧ j < s.length ∧ (by_ (str s) j = 61 ∨ by_ (str s) j = 0))
  | 0, k0, i, h, _ => by omega
  | m + 1, k0 + 1, i, h, hkk => by
    rw [strings_IndexAny_L0_s, str_size]
    by_cases hi : i < s.length
    · rw [decide_eq_true hi, cond_true]
      obtain ⟨x, hx, hxi⟩ := rune_V (E := E) (k := k) (n := n) (Utf8.decode (str s) i).1 hk
      rw [hx, callI_ok]
      have hw := width_pos (str s) i
      by_cases h0 : x ≥ 0
      · rw [bif_t h0]
        refine ⟨_, rfl, by
          constructor
          · intro _
            refine ⟨i, by omega, hi, ?_⟩
            by_cases hb : by_ (str s) i < 128
            · have := dec_low (str s) i hb
              have h1 := hxi.1 h0
              rw [this] at h1
              exact h1
            · have := (dec_wide (str s) i (by omega)).1
              have h1 := hxi.1 h0
              omega
          · intro _; omega⟩
      · rw [bif_f h0]
        obtain ⟨r, hr, hri⟩ := any_lv hk s m k0 (i + (Utf8.decode (str s) i).2) (by omega) (by omega)
        refine ⟨r, hr, hri.trans ⟨fun ⟨j, a, b, c⟩ => ⟨j, by omega, b, c⟩, fun ⟨j, a, b, c⟩ => ⟨j, ?_, b, c⟩⟩⟩
        have hn : ¬ ((Utf8.decode (str s) i).1 = 61 ∨ (Utf8.decode (str s) i).1 = 0) := fun h => h0 (hxi.2 h)
        by_cases hb : by_ (str s) i < 128
        · rw [dec_low (str s) i hb] at hn ⊢
          have hn : ¬ (by_ (str s) i = 61 ∨ by_ (str s) i = 0) := hn
          show i + 1 ≤ j
          by_cases e : i = j
          · subst e; exact absurd c hn
          · omega
        · have hall := (dec_wide (str s) i (by omega)).2
          by_cases e : i + (Utf8.decode (str s) i).2 ≤ j
          · exact e
          · have := hall (j - i) (by omega)
            rw [show i + (j - i) = j by omega] at this
            omega
    · rw [decide_eq_false hi, cond_false]
      exact ⟨_, rfl, ⟨fun h => by omega, fun ⟨j, a, b, _⟩ => by omega⟩⟩
theorem noEq_iff (s : List UInt8) : noEq s = false ↔ ∃ j, 0 ≤ j ∧ j < s.length ∧ (by_ (str s) j = 61 ∨ by_ (str s) j = 0) := by
  rw [noEq, List.all_eq_false]
  constructor
  · rintro ⟨c, hc, h⟩
    obtain ⟨j, hj, rfl⟩ := List.mem_iff_getElem.1 hc
    refine ⟨j, by omega, hj, ?_⟩
    have e : by_ (str s) j = (s[j]).toNat := by
      show ((str s).data.toList.getD j 0).toNat = _
      rw [show (str s).data.toList = s from rfl, List.getD_eq_getElem?_getD, List.getElem?_eq_getElem hj]; rfl
    rw [e]
    simp only [ne_eq, Bool.and_eq_true, decide_eq_true_eq] at h
    by_cases h6 : s[j] = 61
    · left; rw [h6]; rfl
    · by_cases h7 : s[j] = 0
      · right; rw [h7]; rfl
      · exact absurd ⟨h6, h7⟩ h
  · rintro ⟨j, _, hj, h⟩
    refine ⟨s[j], List.getElem_mem hj, ?_⟩
    have e : by_ (str s) j = (s[j]).toNat := by
      show ((str s).data.toList.getD j 0).toNat = _
      rw [show (str s).data.toList = s from rfl, List.getD_eq_getElem?_getD, List.getElem?_eq_getElem hj]; rfl
    rw [e] at h
    simp only [ne_eq, Bool.and_eq_true, decide_eq_true_eq]
    rintro ⟨h6, h7⟩
    rcases h with h | h
    · exact h6 (UInt8.toNat_inj.1 h)
    · exact h7 (UInt8.toNat_inj.1 h)
theorem any_short_v [HasIB E] (hB : E.isBase strings_IndexAny = false) (hF : E.fs.contains strings_IndexAny = true) (hk : 10 < k) (s : List UInt8) (hs : s.length ≤ 8) : ∃ r : Int, kp E k (n + 3) strings_IndexAny [.str (str s), .str (str [61, 0])] = some (.int .i64 r) ∧ decide (r ≥ 0) = !noEq s := by
  have sz : (str [61, 0]).size = 2 := rfl
  rw [strings_IndexAny_eq hB hF, sz, str_size, bif_f (by decide), bif_f (by omega), strings_shouldUseASCIISet_eq, callB_ok, bif_f (by omega)]
  obtain ⟨r, hr, h⟩ := any_lv (E := E) (n := n) hk s k k 0 (by omega) (Nat.le_refl _)
  refine ⟨r, hr, ?_⟩
  rw [← noEq_iff] at h
  cases hq : noEq s with
  | true => rw [hq] at h; simp only [Bool.true_eq_false, iff_false] at h; rw [decide_eq_false h]; rfl
  | false => rw [hq] at h; simp only [iff_true] at h; rw [decide_eq_true h]; rfl
theorem any_long_v (s : List UInt8) : decide (Lib.indexAny s [61, 0] ≥ 0) = !noEq s := by
  induction s with
  | nil => rfl
  | cons b l ih =>
    have hg := Lib.indexAny_ge [61, 0] l
    unfold Lib.indexAny noEq
    rw [List.all_cons]
    by_cases hb : b = 61 ∨ b = 0
    · have e : List.contains [61, 0] b = true := by rcases hb with rfl | rfl <;> rfl
      rw [if_pos e]
      rcases hb with rfl | rfl <;> rfl
    · have e : List.contains [61, 0] b = false := by
        simp only [not_or] at hb
        simp [List.contains_cons, hb.1, hb.2]
      rw [e]
      simp only [not_or] at hb
      rw [decide_eq_true hb.1, decide_eq_true hb.2, Bool.and_self, Bool.true_and]
      rw [show (l.all fun c => decide (c ≠ 61) && decide (c ≠ 0)) = noEq l from rfl, ← ih]
      by_cases h1 : Lib.indexAny l [61, 0] = -1
      · rw [h1]; rfl
      · have h2 : (Lib.indexAny l [61, 0] == -1) = false := by simpa using h1
        rw [h2]
        simp only [Bool.false_eq_true, if_false]
        rw [decide_eq_decide]
        omega
class HasTextV (E : Ext) : Prop where
  dec : ∀ (k n : Nat) (s : ByteArray), kp E k n unicode_utf8_DecodeRuneInString [.str s] = some (.tup [.int .i32 ((goDec s).1 : Int), .int .i64 ((goDec s).2 : Int)])
  idx : ∀ (k n : Nat) (s : List UInt8), s.length ≤ 1000000 → ∃ i : Int, kp E k n strings_IndexAny [.str (str s), .str (str [61, 0])] = some (.int .i64 i) ∧ decide (i ≥ 0) = !noEq s
end Go.Proofs.YtilbahgfjfcikaaGreatDoor.Eng.U

/- The functions of the Dec laws in plain words, part 4: the document's own reading of a time. -/
set_option linter.unusedVariables false
set_option linter.unusedSectionVars false
set_option linter.unusedSimpArgs false
namespace Go.Proofs.YtilbahgfjfcikaaGreatDoor.Eng.U
open Go Go.Proofs Go.Proofs.YtilbahgfjfcikaaGreatDoor.Eng Go.Proofs.YtilbahgfjfcikaaGreatDoor.P04
variable {E : Ext} [Core E] {k n : Nat}

theorem byte46 (c : UInt8) : decide (((c.toNat : Nat) : Int) = (46 : Int)) = decide (c = 46) := byte_is c 46 (by omega)
theorem byte45 (c : UInt8) : decide (((c.toNat : Nat) : Int) = (45 : Int)) = decide (c = 45) := byte_is c 45 (by omega)
/-- The first point from a place on. -/
def dotAt (t : List UInt8) (i : Nat) : Nat := i + dot (t.drop i)
theorem dotAt_step (t : List UInt8) (i : Nat) (h : i < t.length) : dotAt t i = if t.getD i 0 = 46 then i else dotAt t (i + 1) := by
  unfold dotAt
  rw [List.drop_eq_getElem_cons h]
  have e : t.getD i 0 = t[i] := by simp [List.getD_eq_getElem?_getD, List.getElem?_eq_getElem h]
  rw [e]
  unfold dot
  rw [List.findIdx_cons]
  by_cases hc : t[i] = 46
  · rw [if_pos hc, hc]; rfl
  · rw [if_neg hc, beq_eq_false_iff_ne.2 hc, cond_false]; omega
theorem back_loop (kap : FuncId → List AV → Option AV) (t : List UInt8) (q : Bool) (ht : t.length < 100000000000) : ∀ (i k0 : Nat), i < k0 → i ≤ t.length → ref04_Time_L0 kap k k0 (str t) q (dotAt t i : Int) ((i : Int) - 1) 0 0 = ref04_Time_L0 kap k 1 (str t) q (dot t : Int) (-1) 0 0
  | 0, k0 + 1, _, _ => by
    have e : ((0 : Nat) : Int) - 1 = -1 := rfl
    have e' : dotAt t 0 = dot t := by simp [dotAt]
    rw [e, e', ref04_Time_L0_s, ref04_Time_L0_s kap k 0, bif_f (by omega), bif_f (by omega)]
  | i + 1, k0 + 1, h, hi => by
    have ih := back_loop kap t q ht i k0 (by omega) (by omega)
    rw [dotAt_step t i (by omega)] at ih
    have e : ((i + 1 : Nat) : Int) - 1 = (i : Int) := by omega
    rw [e, ref04_Time_L0_s, bif_t (by omega), str_size, bif_a, bif_t (by omega), bif_t (by omega), Int.toNat_natCast, str_byte, byte46, i64w (x := (i : Int) - 1) (by omega)]
    by_cases hc : t.getD i 0 = 46
    · rw [if_pos hc] at ih
      rw [decide_eq_true hc, cond_true, ih]
    · rw [if_neg hc] at ih
      rw [decide_eq_false hc, cond_false, ih]
theorem nano_step (b : List UInt8) (hb : b.length ≤ 9) (j : Nat) (hj : j < 9) : valA 0 ((b ++ List.replicate (9 - b.length) 48).take (j + 1)) = valA 0 ((b ++ List.replicate (9 - b.length) 48).take j) * 10 + (if j < b.length then (b.getD j 0).toNat - 48 else 0) := by
  have hl : (b ++ List.replicate (9 - b.length) (48 : UInt8)).length = 9 := by rw [List.length_append, List.length_replicate]; omega
  rw [List.take_succ_eq_append_getElem (by omega), valA_app]
  have e : ∀ (a : Nat) (c : UInt8), valA a [c] = a * 10 + (c.toNat - 48) := fun a c => rfl
  rw [e]
  congr 1
  by_cases h : j < b.length
  · rw [if_pos h, List.getElem_append_left h]
    simp [List.getD_eq_getElem?_getD, h]
  · rw [if_neg h, List.getElem_append_right (by omega), List.getElem_replicate]
    rfl
theorem nano_loop (kap : FuncId → List AV → Option AV) (q ok : Bool) (sec : Int) (b : List UInt8) (hb : b.length ≤ 9) (hd : digs b = true) : ∀ (r j k0 : Nat), r + j = 9 → r < k0 →
    ref04_Time_L1 kap k k0 q sec ok (valA 0 ((b ++ List.replicate (9 - b.length) 48).take j) : Int) (str b) (j : Int) 0 0 = ref04_Time_L1 kap k 1 q sec ok (valA 0 (b ++ List.replicate (9 - b.length) 48) : Int) (str b) 9 0 0
  | 0, j, k0 + 1, h, _ => by
    obtain rfl : j = 9 := by omega
    have hl : (b ++ List.replicate (9 - b.length) (48 : UInt8)).length = 9 := by rw [List.length_append, List.length_replicate]; omega
    rw [List.take_of_length_le (by omega)]
    have e : ((9 : Nat) : Int) = 9 := rfl
    rw [e, ref04_Time_L1_s, ref04_Time_L1_s kap k 0, bif_f (show ¬ (9 : Int) < 9 by omega), bif_f (show ¬ (9 : Int) < 9 by omega)]
  | r + 1, j, k0 + 1, h, hk => by
    have ih := nano_loop kap q ok sec b hb hd r (j + 1) k0 (by omega) (by omega)
    obtain ⟨q1, q2⟩ := nano_digs hd hb
    have hall := digs_all q1
    have hv : valA 0 ((b ++ List.replicate (9 - b.length) 48).take j) < 1000000000 := by
      have hlt := valA_lt ((b ++ List.replicate (9 - b.length) (48 : UInt8)).take j) 0 0 (List.all_eq_true.2 fun x hx => List.all_eq_true.1 hall x (List.mem_of_mem_take hx)) (by omega)
      have : 10 ^ (0 + ((b ++ List.replicate (9 - b.length) (48 : UInt8)).take j).length) ≤ 10 ^ 9 := Nat.pow_le_pow_right (by omega) (by rw [List.length_take]; omega)
      omega
    rw [nano_step b hb j (by omega)] at ih
    generalize valA 0 ((b ++ List.replicate (9 - b.length) 48).take j) = a at hv ih
    rw [ref04_Time_L1_s, bif_t (by omega), str_size, i64w (x := (10 : Int) * (a : Int)) (by omega), wrap1 (by omega)]
    by_cases hj : j < b.length
    · have hc : isDig (b.getD j 0) = true := by
        rw [List.getD_eq_getElem?_getD, List.getElem?_eq_getElem hj]
        exact List.all_eq_true.1 (digs_all hd) _ (List.getElem_mem hj)
      have hc := dig_iff.1 hc
      rw [if_pos hj] at ih
      rw [bif_t (by omega), bif_a, bif_t (by omega), bif_t (by omega), Int.toNat_natCast, str_byte, i64w (x := (((b.getD j 0).toNat : Nat) : Int)) (by omega), i64w (x := (10 : Int) * (a : Int) + (((b.getD j 0).toNat : Nat) : Int)) (by omega), i64w (x := (10 : Int) * (a : Int) + (((b.getD j 0).toNat : Nat) : Int) - 48) (by omega)]
      rw [← ih]
      congr 1
      omega
    · rw [if_neg hj] at ih
      rw [bif_f (by omega), ← ih]
      congr 1
      omega
def timeRV : Option (Int × Int) → AV
  | some (a, b) => .tup [.agg [.int .i64 a, .int .i64 b], .bool true]
  | none => .tup [.agg [.int .i64 0, .int .i64 0], .bool false]
def endT (q ok : Bool) (v w : Nat) : Option (Int × Int) :=
  if ok = false then none
  else if q = false then (if 9223372036854775807 < v then none else some ((v : Int), (w : Int)))
  else if w = 0 then some (-(v : Int), 0)
  else if 9223372036854775807 < v then none
  else some (-(v : Int) - 1, 1000000000 - (w : Int))
theorem nano_end (kap : FuncId → List AV → Option AV) (q ok : Bool) (v w : Nat) (s : ByteArray) (hv : v ≤ 9223372036854775808) (hw : w < 1000000000) : ref04_Time_L1 kap k 1 q (if ok then -(v : Int) else 0) ok (w : Int) s 9 0 0 = some (timeRV (endT q ok v w)) := by
  rw [ref04_Time_L1_s kap k 0, bif_f (show ¬ (9 : Int) < 9 by omega)]
  cases ok with
  | false => rfl
  | true =>
    simp only [if_true, Bool.not_true, Bool.not_false, cond_true, cond_false, endT, if_neg (show ¬ true = false by decide)]
    cases q with
    | false =>
      simp only [if_true, Bool.not_true, Bool.not_false, cond_true, cond_false]
      by_cases h : 9223372036854775807 < v
      · rw [bif_t (by omega), if_pos h]; rfl
      · rw [bif_f (by omega), if_neg h, i64w (by omega), show (0 : Int) - -(v : Int) = (v : Int) from by omega]; rfl
    | true =>
      simp only [if_true, Bool.not_true, Bool.not_false, cond_true, cond_false, if_neg (show ¬ true = false by decide)]
      by_cases h0 : w = 0
      · subst h0
        rw [if_pos rfl]
        by_cases h : 9223372036854775807 < v
        · rw [bif_t (by omega), bif_f (by omega), bif_t (by omega)]; rfl
        · rw [bif_f (by omega), bif_t (by omega)]; rfl
      · rw [if_neg h0]
        by_cases h : 9223372036854775807 < v
        · rw [bif_t (by omega), bif_t (by omega), if_pos h]; rfl
        · rw [bif_f (by omega), bif_f (by omega), if_neg h, i64w (x := -(v : Int) - 1) (by omega), i64w (by omega)]; rfl
theorem refBody (t : List UInt8) (q : Bool) (ht : t.length < 100000000000) (hk : t.length < k) (h9 : 10 < k) : ref04_Time_L0 (kp E k (n + 2)) k k (str t) q ((t.length : Nat) : Int) (((t.length : Nat) : Int) - 1) 0 0 = some (timeRV (timeB q t)) := by
  have e : dotAt t t.length = t.length := by simp [dotAt, dot]
  have hb := back_loop (k := k) (kp E k (n + 2)) t q ht t.length k hk (Nat.le_refl _)
  rw [e] at hb
  rw [hb, ref04_Time_L0_s]
  have hdl : dot t ≤ t.length := List.findIdx_le_length
  rw [bif_f (by omega), str_size, bif_a, bif_t (by omega), bif_t (by omega), Int.toNat_natCast, str_ext, List.drop_zero, below_k (n := n) (t.take (dot t)) (by rw [List.length_take]; omega) (by rw [List.length_take]; omega)]
  simp (disch := first | omega | (simp only [List.length_append, List.length_cons, List.length_nil, List.length_take, List.length_drop]; done) | (simp only [List.length_append, List.length_cons, List.length_nil, List.length_take, List.length_drop]; omega) | fail) only [bif_t, bif_f, bif_n, bif_a, callB_ok, callI_ok, callS_ok, callL_ok, callF_ok, callT_ok, tupB_ok, tupI_ok, tupS_ok, tupL_ok, tupF_ok, atNil_ok, wrap1, wrapM, wrapP, Int.toNat_natCast, svs_len, ivs_len, bvs_len, str_size, svs_mid, ivs_mid, str_dec, str_ext, str_byte, mid_byte, mid_cut, List.length_nil, List.length_singleton, svs_snoc, ivs_snoc, svs_take, svs_drop, str_app, List.take_length, List.drop_zero, List.nil_append, cond_true, cond_false, Option.bind_some, Bool.not_true, Bool.not_false, Bool.true_and, Bool.and_true]
  unfold timeB
  dsimp only
  have hv : natOk (t.take (dot t)) = true → valA 0 (t.take (dot t)) ≤ 9223372036854775808 := natOk_le
  generalize natOk (t.take (dot t)) = ok at hv
  generalize valA 0 (t.take (dot t)) = v at hv
  by_cases hp : dot t < t.length
  · rw [bif_t (by omega), bif_t (by omega)]
    have hbl : (t.drop (dot t + 1)).length ≤ t.length := by rw [List.length_drop]; omega
    generalize t.drop (dot t + 1) = b at hbl
    rw [only_k (n := n + 1) b (by omega) (by omega), callB_ok]
    cases hd : digs b with
    | false =>
      rw [cond_false]
      cases ok with
      | false => rfl
      | true => rw [if_neg (by simp), if_pos ⟨hp, by simp⟩]; rfl
    | true =>
      rw [cond_true]
      by_cases hl : b.length ≤ 9
      · obtain ⟨q1, q2⟩ := nano_digs hd hl
        obtain ⟨q3, q4⟩ := parseI_eq q1 (by omega)
        rw [bif_f (by omega)]
        have hn := nano_loop (k := k) (kp E k (n + 2)) q ok (if ok = true then -(v : Int) else 0) b hl hd 9 0 k rfl (by omega)
        rw [List.take_zero] at hn
        have e0 : ((valA 0 [] : Nat) : Int) = 0 := rfl
        have e1 : ((0 : Nat) : Int) = 0 := rfl
        rw [e0, e1] at hn
        rw [hn]
        generalize valA 0 (b ++ List.replicate (9 - b.length) 48) = w at q4
        cases ok with
        | false =>
          exact nano_end _ q false 0 w _ (by omega) q4
        | true =>
          rw [nano_end _ q true v w _ (hv rfl) q4]
          unfold endT
          have t1 : ¬ (true = false) := by decide
          have t2 : ¬ (dot t < t.length ∧ ¬ (true = true ∧ b.length ≤ 9)) := fun h => h.2 ⟨rfl, hl⟩
          rw [if_neg t1, if_neg t1, if_neg t2, if_pos hp]
      · rw [bif_t (by omega)]
        cases ok with
        | false => rfl
        | true => rw [if_neg (by simp), if_pos ⟨hp, fun h => hl h.2⟩]; rfl
  · rw [bif_f (by omega)]
    cases ok with
    | false => rfl
    | true =>
      have hv := hv rfl
      have t1 : ¬ (true = false) := by decide
      have t2 : ¬ (dot t < t.length ∧ ¬ (digs (t.drop (dot t + 1)) = true ∧ (t.drop (dot t + 1)).length ≤ 9)) := fun h => hp h.1
      have t3 : (if true = true then -(v : Int) else 0) = -(v : Int) := if_pos rfl
      rw [if_neg t1, if_neg t2, if_neg hp, t3]
      simp only [if_true, Bool.not_true, Bool.not_false, cond_true, cond_false]
      cases q with
      | false =>
        simp only [if_true, Bool.not_true, Bool.not_false, cond_true, cond_false]
        by_cases h : 9223372036854775807 < v
        · rw [bif_t (by omega), if_pos h]; rfl
        · rw [bif_f (by omega), if_neg h, i64w (by omega), show (0 : Int) - -(v : Int) = (v : Int) from by omega]; rfl
      | true =>
        simp only [if_true, Bool.not_true, Bool.not_false, cond_true, cond_false, if_neg (show ¬ true = false by decide)]
        by_cases h : 9223372036854775807 < v
        · rw [bif_t (by omega)]; rfl
        · rw [bif_f (by omega)]; rfl
theorem refTime_k (s : List UInt8) (hs : s.length < 100000000000) (hk : s.length < k) (h9 : 10 < k) : kp E k (n + 3) ref04_Time [.str (str s)] = some (timeRV (timeL s)) := by
  rw [ref04_Time_eq, str_size]
  unfold timeL
  cases s with
  | nil =>
    rw [bif_f (by simp), i64w (by simp)]
    exact refBody (n := n) [] false hs hk h9
  | cons c s =>
    have hl : (c :: s).length = s.length + 1 := rfl
    rw [bif_t (by omega), bif_t (by omega), str_byte, byte45]
    have hg : (c :: s).getD 0 0 = c := rfl
    rw [hg]
    by_cases hc : c = 45
    · subst hc
      have e : ByteArray.extract (str (45 :: s)) 1 (45 :: s).length = str s := ext_one 45 s
      rw [bif_t rfl, bif_t (by omega), e, str_size, i64w (by omega)]
      have := refBody (E := E) (k := k) (n := n) s true (by omega) (by omega) h9
      exact this
    · rw [bif_f hc, i64w (by omega), decide_eq_false hc]
      have := refBody (E := E) (k := k) (n := n) (c :: s) false hs hk h9
      rw [this]
      have hh : ¬ (c :: s).head? = some 45 := by simpa using hc
      rw [decide_eq_false hh, if_neg hh]
end Go.Proofs.YtilbahgfjfcikaaGreatDoor.Eng.U
