/- Several texts of this proof in one file: RS, U09c, U09e, R7, Z05a, Z05b, Z05c, U09f, U04d, U07, Q08, U08, Q08b, U08c, B08, B08b, Q08c, S08g, B08g, U09d, U09g, U09h, U09i, U09j, V09, B09, X08, V00, U08d, V08. -/
import Derived.Test.YtogfcfgfkggmlaaGreatDoorMOverAgain0
import Derived.Lib.DecodeN
import Derived.IntWalk
import Derived.Lib.RuneCountTail
import Derived.Lib.IndexAny
import Derived.Lib.Bytealg
import Derived.WalkKit
import Derived.BigCall
import Derived.WalkSmall
/- What functions answer, as the engine evaluates their code. Printed by gen2.py. -/
set_option linter.unusedVariables false
namespace Go.Proofs.YtogfcfgfkggmlaaGreatDoor.Eng.U
open Go Go.Proofs Go.Proofs.YtogfcfgfkggmlaaGreatDoor.Eng
/- strings.ContainsAny -/
theorem strings_ContainsAny_eq {E : Ext} [Core E] (k n : Nat) (a0 : ByteArray) (a1 : ByteArray) : kp E k (n + 1) strings_ContainsAny [(.str a0), (.str a1)] =
  (callI .i64 (kp E k n strings_IndexAny [(.str a0), (.str a1)]) fun vn2 => (some (.bool (decide (vn2 ≥ (0 : Int)))))) := (kp_at (by kernel_rfl)).trans (by kernel_rfl)
/- strings.IndexAny -/
noncomputable def strings_IndexAny_bd : Code := Tryz.f210.body.getD .skip
noncomputable def strings_IndexAny_L0 (kap : FuncId → List AV → Option AV) (k : Nat) (k0 : Nat) (s1 : ByteArray) (i45s : ByteArray) (i45p : Nat) : Option AV :=
  loop (fun fr K => code ((bs E0 k).cfg kap strings_IndexAny) (sel strings_IndexAny_bd [1, 1, 1, 1, 0, 1, 0, 0]) fr K) (canon ((bs E0 k).cfg kap strings_IndexAny) (firstReg (sel strings_IndexAny_bd [1, 1, 1, 1, 0, 1, 0, 0]))) k0 (mkFr 55 [(1, (.str s1)), (45, (.itr 45))] [(45, (.it i45s i45p))]) (plug ((bs E0 k).cfg kap strings_IndexAny) (retK ((bs E0 k).cfg kap strings_IndexAny) [] Tryz.f210 [] some) [.blk 2, .seqR (sel strings_IndexAny_bd [1, 1, 1, 1, 1])])
theorem strings_IndexAny_L0_s (kap : FuncId → List AV → Option AV) (k : Nat) (k0 : Nat) (s1 : ByteArray) (i45s : ByteArray) (i45p : Nat) : strings_IndexAny_L0 kap k (k0 + 1) s1 i45s i45p =
  (bif (decide (i45p < (ByteArray.size i45s))) then (callI .i64 (kap strings_IndexRune [(.str s1), (.int .i32 (((Utf8.decode i45s i45p).1 : Nat) : Int))]) fun vn8 => (bif (decide (vn8 ≥ (0 : Int))) then (some (.int .i64 ((i45p : Nat) : Int))) else (strings_IndexAny_L0 kap k k0 s1 i45s (i45p + (Utf8.decode i45s i45p).2)))) else (some (.int .i64 (-1 : Int)))) := by kernel_rfl
theorem strings_IndexAny_eq {E : Ext} [Core E] (hB : E.isBase strings_IndexAny = false) (hF : E.fs.contains strings_IndexAny = true) (k n : Nat) (a0 : ByteArray) (a1 : ByteArray) : kp E k (n + 1) strings_IndexAny [(.str a0), (.str a1)] =
  (bif (decide (a1 = (str []))) then (some (.int .i64 (-1 : Int))) else (bif (decide ((((ByteArray.size a1) : Nat) : Int) = (1 : Int))) then (bif (decide ((0 : Int) < (((ByteArray.size a1) : Nat) : Int))) then (bif (decide ((IntKind.wrap .i32 (byteAt a1 0)) ≥ (128 : Int))) then (callI .i64 (kp E k n strings_IndexRune [(.str a0), (.int .i32 (65533 : Int))]) fun vn2 => (some (.int .i64 vn2))) else (callI .i64 (kp E k n strings_IndexRune [(.str a0), (.int .i32 (IntKind.wrap .i32 (byteAt a1 0)))]) fun vn4 => (some (.int .i64 vn4)))) else none) else (callB (kp E k n strings_shouldUseASCIISet [(.int .i64 (((ByteArray.size a0) : Nat) : Int))]) fun vq6 => (bif vq6 then (code ((bs E0 k).cfg (kp E k n) strings_IndexAny) (sel strings_IndexAny_bd [1, 1, 1, 0, 1, 0]) (mkFr 55 [(0, (.str a0)), (1, (.str a1)), (4, (.int .i64 (0 : Int))), (11, (.str a1)), (12, (.bool (decide (a1 = (str []))))), (13, (.str a1)), (14, (.int .i64 (((ByteArray.size a1) : Nat) : Int))), (15, (.bool (decide ((((ByteArray.size a1) : Nat) : Int) = (1 : Int))))), (24, (.str a0)), (25, (.int .i64 (((ByteArray.size a0) : Nat) : Int))), (26, (.bool vq6))] []) (plug ((bs E0 k).cfg (kp E k n) strings_IndexAny) (retK ((bs E0 k).cfg (kp E k n) strings_IndexAny) [] Tryz.f210 [] some) [.seqR (sel strings_IndexAny_bd [1, 1, 1, 1])])) else (strings_IndexAny_L0 (kp E k n) k k a1 a0 0))))) := (Base.kap_at (B := bs E k) hB hF _).trans (by kernel_rfl)
/- strings.IndexRune -/
noncomputable def strings_IndexRune_bd : Code := Tryz.f255.body.getD .skip
noncomputable def strings_IndexRune_L0 (kap : FuncId → List AV → Option AV) (k : Nat) (k0 : Nat) (i175s : ByteArray) (i175p : Nat) : Option AV :=
  loop (fun fr K => code ((bs E0 k).cfg kap strings_IndexRune) (sel strings_IndexRune_bd [1, 0, 1, 1, 1, 0, 0, 1, 0, 0]) fr K) (canon ((bs E0 k).cfg kap strings_IndexRune) (firstReg (sel strings_IndexRune_bd [1, 0, 1, 1, 1, 0, 0, 1, 0, 0]))) k0 (mkFr 187 [(175, (.itr 175))] [(175, (.it i175s i175p))]) (plug ((bs E0 k).cfg kap strings_IndexRune) (retK ((bs E0 k).cfg kap strings_IndexRune) [] Tryz.f255 [] some) [.blk 9, .seqR (sel strings_IndexRune_bd [1, 0, 1, 1, 1, 0, 1]), .blk 0])
noncomputable def strings_IndexRune_L1 (kap : FuncId → List AV → Option AV) (k : Nat) (k1 : Nat) (s0 : ByteArray) (s7 : ByteArray) (s8 : Int) (s9 : Int) : Option AV :=
  loop (fun fr K => code ((bs E0 k).cfg kap strings_IndexRune) (sel strings_IndexRune_bd [1, 0, 1, 1, 1, 1, 1, 1, 0, 1, 1, 1, 1, 0, 0, 0]) fr K) (canon ((bs E0 k).cfg kap strings_IndexRune) (firstReg (sel strings_IndexRune_bd [1, 0, 1, 1, 1, 1, 1, 1, 0, 1, 1, 1, 1, 0, 0, 0]))) k1 (mkFr 187 [(0, (.str s0)), (7, (.str s7)), (8, (.int .i64 s8)), (9, (.int .i64 s9))] []) (plug ((bs E0 k).cfg kap strings_IndexRune) (retK ((bs E0 k).cfg kap strings_IndexRune) [] Tryz.f255 [] some) [.blk 1, .seqR (sel strings_IndexRune_bd [1, 0, 1, 1, 1, 1, 1, 1, 0, 1, 1, 1, 1, 1]), .blk 0])
noncomputable def strings_IndexRune_L2 (kap : FuncId → List AV → Option AV) (k : Nat) (k1 : Nat) (k2 : Nat) (s0 : ByteArray) (s7 : ByteArray) (s8 : Int) (s9 : Int) (s12 : Int) : Option AV :=
  loop (fun fr K => code ((bs E0 k).cfg kap strings_IndexRune) (sel strings_IndexRune_bd [1, 0, 1, 1, 1, 1, 1, 1, 0, 1, 1, 1, 1, 0, 0, 0, 1, 0, 0, 1, 0, 1, 0, 0]) fr K) (canon ((bs E0 k).cfg kap strings_IndexRune) (firstReg (sel strings_IndexRune_bd [1, 0, 1, 1, 1, 1, 1, 1, 0, 1, 1, 1, 1, 0, 0, 0, 1, 0, 0, 1, 0, 1, 0, 0]))) k2 (mkFr 187 [(0, (.str s0)), (7, (.str s7)), (8, (.int .i64 s8)), (9, (.int .i64 s9)), (12, (.int .i64 s12))] []) (plug ((bs E0 k).cfg kap strings_IndexRune) (retK ((bs E0 k).cfg kap strings_IndexRune) [] Tryz.f255 [] some) [.blk 3, .seqR (sel strings_IndexRune_bd [1, 0, 1, 1, 1, 1, 1, 1, 0, 1, 1, 1, 1, 0, 0, 0, 1, 0, 0, 1, 1]), .blk 2, .lp (sel strings_IndexRune_bd [1, 0, 1, 1, 1, 1, 1, 1, 0, 1, 1, 1, 1, 0, 0, 0]) k1, .blk 1, .seqR (sel strings_IndexRune_bd [1, 0, 1, 1, 1, 1, 1, 1, 0, 1, 1, 1, 1, 1]), .blk 0])
theorem strings_IndexRune_L0_s (kap : FuncId → List AV → Option AV) (k : Nat) (k0 : Nat) (i175s : ByteArray) (i175p : Nat) : strings_IndexRune_L0 kap k (k0 + 1) i175s i175p =
  (bif (decide (i175p < (ByteArray.size i175s))) then (bif (decide ((((Utf8.decode i175s i175p).1 : Nat) : Int) = (65533 : Int))) then (some (.int .i64 ((i175p : Nat) : Int))) else (strings_IndexRune_L0 kap k k0 i175s (i175p + (Utf8.decode i175s i175p).2))) else (some (.int .i64 (-1 : Int)))) := by kernel_rfl
theorem strings_IndexRune_L1_s (kap : FuncId → List AV → Option AV) (k : Nat) (k1 : Nat) (s0 : ByteArray) (s7 : ByteArray) (s8 : Int) (s9 : Int) : strings_IndexRune_L1 kap k (k1 + 1) s0 s7 s8 s9 =
  (bif (decide (s9 < (((ByteArray.size s0) : Nat) : Int))) then (bif ((decide ((0 : Int) ≤ s9)) && (decide (s9 < (((ByteArray.size s0) : Nat) : Int)))) then (bif ((decide ((0 : Int) ≤ s8)) && (decide (s8 < (((ByteArray.size s7) : Nat) : Int)))) then (bif (!(decide ((byteAt s0 (Int.toNat s9)) = (byteAt s7 (Int.toNat s8))))) then (bif ((decide ((0 : Int) ≤ (IntKind.wrap .i64 (s9 + (1 : Int))))) && (decide ((IntKind.wrap .i64 (s9 + (1 : Int))) ≤ (((ByteArray.size s0) : Nat) : Int)))) then (bif ((decide ((0 : Int) ≤ s8)) && (decide (s8 < (((ByteArray.size s7) : Nat) : Int)))) then (callI .i64 (kap strings_IndexByte [(.str (ByteArray.extract s0 (Int.toNat (IntKind.wrap .i64 (s9 + (1 : Int)))) (ByteArray.size s0))), (.int .u8 (byteAt s7 (Int.toNat s8)))]) fun vn6 => (bif (decide (vn6 < (0 : Int))) then (some (.int .i64 (-1 : Int))) else (strings_IndexRune_L2 kap k k1 k s0 s7 s8 (IntKind.wrap .i64 (s9 + (IntKind.wrap .i64 (vn6 + (1 : Int))))) (1 : Int)))) else none) else none) else (strings_IndexRune_L2 kap k k1 k s0 s7 s8 s9 (1 : Int))) else none) else none) else (some (.int .i64 (-1 : Int)))) := by kernel_rfl
theorem strings_IndexRune_eq {E : Ext} [Core E] (k n : Nat) (a0 : ByteArray) (a1 : Int) : kp E k (n + 1) strings_IndexRune [(.str a0), (.int .i32 a1)] =
  (bif (decide ((0 : Int) ≤ a1)) then (bif (decide (a1 < (128 : Int))) then (callI .i64 (kp E k n strings_IndexByte [(.str a0), (.int .u8 (IntKind.wrap .u8 a1))]) fun vn2 => (some (.int .i64 vn2))) else (bif (decide (a1 = (65533 : Int))) then (strings_IndexRune_L0 (kp E k n) k k a0 0) else (callB (kp E k n unicode_utf8_ValidRune [(.int .i32 a1)]) fun vq4 => (bif (!vq4) then (some (.int .i64 (-1 : Int))) else (strings_IndexRune_L1 (kp E k n) k k a0 (Utf8.encode a1) (IntKind.wrap .i64 ((((ByteArray.size (Utf8.encode a1)) : Nat) : Int) - (1 : Int))) (IntKind.wrap .i64 ((((ByteArray.size (Utf8.encode a1)) : Nat) : Int) - (1 : Int)))))))) else (bif (decide (a1 = (65533 : Int))) then (strings_IndexRune_L0 (kp E k n) k k a0 0) else (callB (kp E k n unicode_utf8_ValidRune [(.int .i32 a1)]) fun vq8 => (bif (!vq8) then (some (.int .i64 (-1 : Int))) else (strings_IndexRune_L1 (kp E k n) k k a0 (Utf8.encode a1) (IntKind.wrap .i64 ((((ByteArray.size (Utf8.encode a1)) : Nat) : Int) - (1 : Int))) (IntKind.wrap .i64 ((((ByteArray.size (Utf8.encode a1)) : Nat) : Int) - (1 : Int)))))))) := (kp_at (by kernel_rfl)).trans (by kernel_rfl)
/- strings.shouldUseASCIISet -/
theorem strings_shouldUseASCIISet_eq {E : Ext} [Core E] (k n : Nat) (a0 : Int) : kp E k (n + 1) strings_shouldUseASCIISet [(.int .i64 a0)] =
  (some (.bool (decide (a0 > (8 : Int))))) := (kp_at (by kernel_rfl)).trans (by kernel_rfl)
/- unicode/utf8.ValidRune -/
theorem unicode_utf8_ValidRune_eq {E : Ext} [Core E] (k n : Nat) (a0 : Int) : kp E k (n + 1) unicode_utf8_ValidRune [(.int .i32 a0)] =
  (bif (decide ((0 : Int) ≤ a0)) then (bif (decide (a0 < (55296 : Int))) then (some (.bool true)) else (bif (decide ((57343 : Int) < a0)) then (bif (decide (a0 ≤ (1114111 : Int))) then (some (.bool true)) else (some (.bool false))) else (some (.bool false)))) else (bif (decide ((57343 : Int) < a0)) then (bif (decide (a0 ≤ (1114111 : Int))) then (some (.bool true)) else (some (.bool false))) else (some (.bool false)))) := (kp_at (by kernel_rfl)).trans (by kernel_rfl)
end Go.Proofs.YtogfcfgfkggmlaaGreatDoor.Eng.U


/- Is any field of a head wrong: some number answers, and 0 says what ItemFulls wants. -/
set_option linter.unusedVariables false
set_option linter.unusedSectionVars false
set_option linter.unusedSimpArgs false
namespace Go.Proofs.YtogfcfgfkggmlaaGreatDoor.Eng.U
open Go Go.Proofs Go.Proofs.YtogfcfgfkggmlaaGreatDoor.Eng Go.Proofs.YtogfcfgfkggmlaaGreatDoor.P04
variable {E : Ext} [Core E] [HasNum E] {k n : Nat}

class HasText (E : Ext) : Prop where
  dec : ∀ (k n : Nat) (s : List UInt8), ∃ r w : Int, kp E k n unicode_utf8_DecodeRuneInString [.str (str s)] = some (.tup [.int .i32 r, .int .i64 w])
  idx : ∀ (k n : Nat) (s : List UInt8), s.length ≤ 1000000 → ∃ i : Int, kp E k n strings_IndexAny [.str (str s), .str (str [61, 0])] = some (.int .i64 i)
theorem snoc_pairs (s : List Pair) : s = [] ∨ ∃ l c, s = l ++ [c] := by
  induction s with
  | nil => exact .inl rfl
  | cons x s ih =>
    rcases ih with rfl | ⟨l, c, rfl⟩
    · exact .inr ⟨[], x, rfl⟩
    · exact .inr ⟨x :: l, c, rfl⟩
def IsB (x : Option AV) : Prop := ∃ b : Bool, x = some (.bool b)
theorem isB_some (b : Bool) : IsB (some (.bool b)) := ⟨b, rfl⟩
theorem isB_bif {c : Bool} {a b : Option AV} (h1 : IsB a) (h2 : IsB b) : IsB (bif c then a else b) := by cases c <;> assumption
section
variable [HasText E]
theorem width_pos (s : ByteArray) (i : Nat) : 1 ≤ (Utf8.decode s i).2 := by
  rw [Lib.decode_at]
  unfold Lib.decodeN
  (repeat' split) <;> simp
end
end Go.Proofs.YtogfcfgfkggmlaaGreatDoor.Eng.U


/- strings.IndexAny at "=\x00" and a text of at most 8 bytes: some place. -/
set_option linter.unusedVariables false
set_option linter.unusedSectionVars false
set_option linter.unusedSimpArgs false
namespace Go.Proofs.YtogfcfgfkggmlaaGreatDoor.Eng.U
open Go Go.Proofs Go.Proofs.YtogfcfgfkggmlaaGreatDoor.Eng
variable {E : Ext} [Core E] {k n : Nat}

class HasIB (E : Ext) : Prop where
  indexB : ∀ (k n : Nat) (s : List UInt8) (c : Int), kp E k n strings_IndexByte [.str (str s), .int .u8 c] = some (.int .i64 (Lib.indexByte s c.toNat.toUInt8))
theorem valid_B (r : Int) : IsB (kp E k (n + 1) unicode_utf8_ValidRune [.int .i32 r]) := by
  rw [unicode_utf8_ValidRune_eq]
  repeat' first | exact isB_some _ | refine isB_bif ?_ ?_
theorem enc_facts (r : Nat) (h : 128 ≤ r) : (Utf8.encode (r : Int)).size = 2 ∧ 128 ≤ byteAt (Utf8.encode (r : Int)) 1 ∨ (Utf8.encode (r : Int)).size = 3 ∨ (Utf8.encode (r : Int)).size = 4 := by
  unfold Utf8.encode
  dsimp only
  have hc : 128 ≤ (if Utf8.valid (r : Int) = true then Int.toNat (r : Int) else Utf8.runeError) := by
    split
    · omega
    · decide
  generalize (if Utf8.valid (r : Int) = true then Int.toNat (r : Int) else Utf8.runeError) = c at hc
  rw [if_neg (show ¬ c < 128 by omega)]
  split
  · refine .inl ⟨rfl, ?_⟩
    show (128 : Int) ≤ (((UInt8.ofNat (128 + c % 64)).toNat : Nat) : Int)
    rw [UInt8.toNat_ofNat']
    omega
  · split
    · exact .inr (.inl rfl)
    · exact .inr (.inr rfl)
theorem rune_I [HasIB E] (r : Nat) (hk : 10 < k) : ∃ i : Int, kp E k (n + 2) strings_IndexRune [.str (str [61, 0]), .int .i32 (r : Int)] = some (.int .i64 i) := by
  obtain ⟨k, rfl⟩ : ∃ j, k = j + 3 := ⟨k - 3, by omega⟩
  rw [strings_IndexRune_eq, bif_t (by omega)]
  by_cases h1 : r < 128
  · rw [bif_t (by omega), HasIB.indexB, callI_ok]; exact ⟨_, rfl⟩
  · rw [bif_f (by omega)]
    by_cases h2 : (r : Int) = 65533
    · rw [bif_t h2]
      have d0 : Utf8.decode (str [61, 0]) 0 = (61, 1) := by decide +kernel
      have d1 : Utf8.decode (str [61, 0]) 1 = (0, 1) := by decide +kernel
      have sz : (str [61, 0]).size = 2 := rfl
      have z1 : 0 + ((61, 1) : Nat × Nat).2 = 1 := rfl
      have z2 : 1 + ((0, 1) : Nat × Nat).2 = 2 := rfl
      rw [strings_IndexRune_L0_s, sz, d0, z1, bif_t (by omega), bif_f (by decide), strings_IndexRune_L0_s, sz, d1, z2, bif_t (by omega), bif_f (by decide), strings_IndexRune_L0_s, sz, bif_f (by omega)]
      exact ⟨_, rfl⟩
    · rw [bif_f h2]
      obtain ⟨b, hb⟩ := valid_B (E := E) (k := k + 3) (n := n) (r : Int)
      rw [hb, callB_ok]
      cases b with
      | false => exact ⟨_, rfl⟩
      | true =>
        rw [Bool.not_true, cond_false]
        have sz : (str [61, 0]).size = 2 := rfl
        rcases enc_facts r (by omega) with ⟨e1, e2⟩ | e1 | e1
        · rw [e1, i64w (by omega), strings_IndexRune_L1_s, sz, e1]
          have hb1 : byteAt (str [61, 0]) 1 = 0 := rfl
          have e3 : Int.toNat (((2 : Nat) : Int) - 1) = 1 := rfl
          rw [bif_t (by omega), bif_a, bif_t (by omega), bif_t (by omega), bif_a, bif_t (by omega), bif_t (by omega), e3, hb1, decide_eq_false (by omega), Bool.not_false, cond_true, i64w (by omega), bif_a, bif_t (by omega), bif_t (by omega), bif_a, bif_t (by omega), bif_t (by omega)]
          have e4 : Int.toNat (((2 : Nat) : Int) - 1 + 1) = 2 := rfl
          have e5 : ByteArray.extract (str [61, 0]) 2 2 = str [] := by decide +kernel
          rw [e4, e5, HasIB.indexB, callI_ok]
          have e6 : Lib.indexByte [] (byteAt (Utf8.encode (r : Int)) 1).toNat.toUInt8 = -1 := rfl
          rw [e6, bif_t (by omega)]
          exact ⟨_, rfl⟩
        · rw [e1, i64w (by omega), strings_IndexRune_L1_s, sz, bif_f (by omega)]; exact ⟨_, rfl⟩
        · rw [e1, i64w (by omega), strings_IndexRune_L1_s, sz, bif_f (by omega)]; exact ⟨_, rfl⟩
theorem any_loop [HasIB E] (hk : 10 < k) (s : List UInt8) : ∀ (m k0 i : Nat), s.length - i < m → m ≤ k0 → ∃ r : Int, strings_IndexAny_L0 (kp E k (n + 2)) k k0 (str [61, 0]) (str s) i = some (.int .i64 r)
  | 0, k0, i, h, _ => by omega
  | m + 1, k0 + 1, i, h, hkk => by
    rw [strings_IndexAny_L0_s, str_size]
    by_cases hi : i < s.length
    · rw [decide_eq_true hi, cond_true]
      obtain ⟨x, hx⟩ := rune_I (E := E) (k := k) (n := n) (Utf8.decode (str s) i).1 hk
      rw [hx, callI_ok]
      by_cases h0 : x ≥ 0
      · rw [bif_t h0]; exact ⟨_, rfl⟩
      · rw [bif_f h0]
        have hw := width_pos (str s) i
        exact any_loop hk s m k0 (i + (Utf8.decode (str s) i).2) (by omega) (by omega)
    · rw [decide_eq_false hi, cond_false]
      exact ⟨_, rfl⟩
theorem any_short [HasIB E] (hB : E.isBase strings_IndexAny = false) (hF : E.fs.contains strings_IndexAny = true) (hk : 10 < k) (s : List UInt8) (hs : s.length ≤ 8) : ∃ r : Int, kp E k (n + 3) strings_IndexAny [.str (str s), .str (str [61, 0])] = some (.int .i64 r) := by
  have sz : (str [61, 0]).size = 2 := rfl
  rw [strings_IndexAny_eq hB hF, sz, str_size, bif_f (by decide), bif_f (by omega), strings_shouldUseASCIISet_eq, callB_ok, bif_f (by omega)]
  exact any_loop hk s k k 0 (by omega) (Nat.le_refl _)
end Go.Proofs.YtogfcfgfkggmlaaGreatDoor.Eng.U


/- What functions answer, as the engine evaluates their code. Printed by gen2.py. -/
set_option linter.unusedVariables false
namespace Go.Proofs.YtogfcfgfkggmlaaGreatDoor.Eng.U
open Go Go.Proofs Go.Proofs.YtogfcfgfkggmlaaGreatDoor.Eng
/- oakum/oakumlaw08.OverAgain -/
noncomputable def law08_OverAgain_bd : Code := Tryz.f3.body.getD .skip
noncomputable def law08_OverAgain_L0 (kap : FuncId → List AV → Option AV) (k : Nat) (k0 : Nat) (s0 : List AV) (s1 : List AV) (s6 : List AV) (s8 : Bool) (s9 : Int) : Option AV :=
  loop (fun fr K => code ((bs E0 k).cfg kap law08_OverAgain) (sel law08_OverAgain_bd [1, 1, 1, 1, 1, 1, 1, 1, 0, 1, 0, 0]) fr K) (canon ((bs E0 k).cfg kap law08_OverAgain) (firstReg (sel law08_OverAgain_bd [1, 1, 1, 1, 1, 1, 1, 1, 0, 1, 0, 0]))) k0 (mkFr 127 [(0, (.list 2 s0)), (1, (.list 2 s1)), (6, (.list 2 s6)), (8, (.bool s8)), (9, (.int .i64 s9))] []) (plug ((bs E0 k).cfg kap law08_OverAgain) (retK ((bs E0 k).cfg kap law08_OverAgain) [] Tryz.f3 [] some) [.blk 0, .seqR (sel law08_OverAgain_bd [1, 1, 1, 1, 1, 1, 1, 1, 1])])
noncomputable def law08_OverAgain_L1 (kap : FuncId → List AV → Option AV) (k : Nat) (k1 : Nat) (s0 : List AV) (s1 : List AV) (s6 : List AV) (s8 : Bool) (s10 : Int) : Option AV :=
  loop (fun fr K => code ((bs E0 k).cfg kap law08_OverAgain) (sel law08_OverAgain_bd [1, 1, 1, 1, 1, 1, 1, 1, 1, 0, 1, 0, 0]) fr K) (canon ((bs E0 k).cfg kap law08_OverAgain) (firstReg (sel law08_OverAgain_bd [1, 1, 1, 1, 1, 1, 1, 1, 1, 0, 1, 0, 0]))) k1 (mkFr 127 [(0, (.list 2 s0)), (1, (.list 2 s1)), (6, (.list 2 s6)), (8, (.bool s8)), (10, (.int .i64 s10))] []) (plug ((bs E0 k).cfg kap law08_OverAgain) (retK ((bs E0 k).cfg kap law08_OverAgain) [] Tryz.f3 [] some) [.blk 2, .seqR (sel law08_OverAgain_bd [1, 1, 1, 1, 1, 1, 1, 1, 1, 1])])
noncomputable def law08_OverAgain_L2 (kap : FuncId → List AV → Option AV) (k : Nat) (k2 : Nat) (s1 : List AV) (s6 : List AV) (s11 : List AV) (s12 : Int) : Option AV :=
  loop (fun fr K => code ((bs E0 k).cfg kap law08_OverAgain) (sel law08_OverAgain_bd [1, 1, 1, 1, 1, 1, 1, 1, 1, 1, 1, 1, 0, 1, 0, 0]) fr K) (canon ((bs E0 k).cfg kap law08_OverAgain) (firstReg (sel law08_OverAgain_bd [1, 1, 1, 1, 1, 1, 1, 1, 1, 1, 1, 1, 0, 1, 0, 0]))) k2 (mkFr 127 [(1, (.list 2 s1)), (6, (.list 2 s6)), (11, (.list 2 s11)), (12, (.int .i64 s12))] []) (plug ((bs E0 k).cfg kap law08_OverAgain) (retK ((bs E0 k).cfg kap law08_OverAgain) [] Tryz.f3 [] some) [.blk 4, .seqR (sel law08_OverAgain_bd [1, 1, 1, 1, 1, 1, 1, 1, 1, 1, 1, 1, 1])])
theorem law08_OverAgain_L0_s (kap : FuncId → List AV → Option AV) (k : Nat) (k0 : Nat) (s0 : List AV) (s1 : List AV) (s6 : List AV) (s8 : Bool) (s9 : Int) : law08_OverAgain_L0 kap k (k0 + 1) s0 s1 s6 s8 s9 =
  (bif (decide (s9 < (((List.length s0) : Nat) : Int))) then (bif s8 then (bif ((decide ((0 : Int) ≤ s9)) && (decide (s9 < (((List.length s0) : Nat) : Int)))) then ((s0[(Int.toNat s9)]?).bind fun vy19 => (cellS (AV.cells vy19) 0 fun vs20 => (cellS (AV.cells vy19) 1 fun vs21 => (callB (kap ref07_Right [(.agg [(.str vs20), (.str vs21)])]) fun vq23 => (law08_OverAgain_L0 kap k k0 s0 s1 s6 vq23 (IntKind.wrap .i64 (s9 + (1 : Int)))))))) else none) else (law08_OverAgain_L0 kap k k0 s0 s1 s6 false (IntKind.wrap .i64 (s9 + (1 : Int))))) else (law08_OverAgain_L1 kap k k s0 s1 s6 s8 (0 : Int))) := by kernel_rfl
theorem law08_OverAgain_L1_s (kap : FuncId → List AV → Option AV) (k : Nat) (k1 : Nat) (s0 : List AV) (s1 : List AV) (s6 : List AV) (s8 : Bool) (s10 : Int) : law08_OverAgain_L1 kap k (k1 + 1) s0 s1 s6 s8 s10 =
  (bif (decide (s10 < (((List.length s1) : Nat) : Int))) then (bif s8 then (bif ((decide ((0 : Int) ≤ s10)) && (decide (s10 < (((List.length s1) : Nat) : Int)))) then ((s1[(Int.toNat s10)]?).bind fun vy24 => (cellS (AV.cells vy24) 0 fun vs25 => (cellS (AV.cells vy24) 1 fun vs26 => (callB (kap ref07_Right [(.agg [(.str vs25), (.str vs26)])]) fun vq28 => (law08_OverAgain_L1 kap k k1 s0 s1 s6 vq28 (IntKind.wrap .i64 (s10 + (1 : Int)))))))) else none) else (law08_OverAgain_L1 kap k k1 s0 s1 s6 false (IntKind.wrap .i64 (s10 + (1 : Int))))) else (bif s8 then (callB (kap over_Right [(.list 2 s6)]) fun vq30 => (bif (!vq30) then (some (.bool false)) else (callL 2 (kap over_Lay [(.list 2 s0), (.list 2 [])]) fun vl32 => (law08_OverAgain_L2 kap k k s1 s6 vl32 (0 : Int))))) else (callL 2 (kap over_Lay [(.list 2 s0), (.list 2 [])]) fun vl52 => (law08_OverAgain_L2 kap k k s1 s6 vl52 (0 : Int))))) := by kernel_rfl
theorem law08_OverAgain_L2_s (kap : FuncId → List AV → Option AV) (k : Nat) (k2 : Nat) (s1 : List AV) (s6 : List AV) (s11 : List AV) (s12 : Int) : law08_OverAgain_L2 kap k (k2 + 1) s1 s6 s11 s12 =
  (bif (decide (s12 < (((List.length s11) : Nat) : Int))) then (bif ((decide ((0 : Int) ≤ s12)) && (decide (s12 < (((List.length s11) : Nat) : Int)))) then ((s11[(Int.toNat s12)]?).bind fun vy33 => (cellS (AV.cells vy33) 0 fun vs34 => (callT (kap over_Get [(.list 2 s1), (.str vs34)]) fun vt36 => (tupS vt36 fun vs37 vt38 => (tupB vt38 fun vq39 vt40 => (atNil vt40 (bif vq39 then (law08_OverAgain_L2 kap k k2 s1 s6 s11 (IntKind.wrap .i64 (s12 + (1 : Int)))) else (bif ((decide ((0 : Int) ≤ s12)) && (decide (s12 < (((List.length s11) : Nat) : Int)))) then ((s11[(Int.toNat s12)]?).bind fun vy41 => (cellS (AV.cells vy41) 0 fun vs42 => (callT (kap over_Get [(.list 2 s6), (.str vs42)]) fun vt44 => (tupS vt44 fun vs45 vt46 => (tupB vt46 fun vq47 vt48 => (atNil vt48 (bif (!vq47) then (some (.bool false)) else (bif ((decide ((0 : Int) ≤ s12)) && (decide (s12 < (((List.length s11) : Nat) : Int)))) then ((s11[(Int.toNat s12)]?).bind fun vy49 => (cellS (AV.cells vy49) 1 fun vs50 => (bif (!(decide (vs45 = vs50))) then (some (.bool false)) else (law08_OverAgain_L2 kap k k2 s1 s6 s11 (IntKind.wrap .i64 (s12 + (1 : Int))))))) else none)))))))) else none)))))))) else none) else (some (.bool true))) := by kernel_rfl
theorem law08_OverAgain_eq {E : Ext} [Core E] (k n : Nat) (a0 : List AV) (a1 : List AV) : kp E k (n + 1) law08_OverAgain [(.list 2 a0), (.list 2 a1)] =
  (callB (kp E k n law08_alive []) fun vq2 => (bif (!vq2) then (some (.bool false)) else (callB (kp E k n law08_few [(.list 2 a0)]) fun vq4 => (bif (!vq4) then (some (.bool true)) else (callB (kp E k n law08_few [(.list 2 a1)]) fun vq6 => (bif (!vq6) then (some (.bool true)) else (bif (decide ((0 + (List.length a0)) * 32 ≤ 140737488355328) && decide ((0 + (List.length a0)) ≤ 9223372036854775807)) then (callL 2 (kp E k n over_Lay [(.list 2 a0), (.list 2 a1)]) fun vl8 => (callL 2 (kp E k n over_Lay [(.list 2 vl8), (.list 2 a1)]) fun vl10 => (callB (kp E k n ref07_Same [(.list 2 vl8), (.list 2 vl10)]) fun vq12 => (bif (!vq12) then (some (.bool false)) else (callL 2 (kp E k n over_Lay [(.list 2 vl8), (.list 2 [])]) fun vl14 => (callB (kp E k n ref07_Same [(.list 2 vl14), (.list 2 vl8)]) fun vq16 => (bif (!vq16) then (some (.bool false)) else (callB (kp E k n ref07_Same [(.list 2 ([] ++ a0)), (.list 2 a0)]) fun vq18 => (bif (!vq18) then (some (.bool false)) else (law08_OverAgain_L0 (kp E k n) k k a0 a1 vl8 true (0 : Int))))))))))) else none))))))) := (kp_at (by kernel_rfl)).trans (by kernel_rfl)
/- oakum/oakumlaw08.OverLays -/
/- oakum/oakumlaw08.alive -/
theorem law08_alive_eq {E : Ext} [Core E] (k n : Nat)  : kp E k (n + 1) law08_alive [] =
  (callT (kp E k n over_Apply [(.agg [(.int .i64 (0 : Int)), (.str (str [98])), (.str (str [])), (.int .i64 (0 : Int)), (.int .i64 (0 : Int)), (.int .i64 (0 : Int)), (.int .i64 (0 : Int)), (.int .i64 (0 : Int)), (.int .i64 (0 : Int)), (.str (str [])), (.str (str [])), (.int .i64 (0 : Int)), (.int .i64 (0 : Int)), (.list 2 [])]), (.list 2 [(.agg [(.str (str [112, 97, 116, 104])), (.str (str [97]))])])]) fun vt2 => (tupG 14 vt2 fun vg3 vt4 => (cellI .i64 vg3 0 fun vn5 => (cellS vg3 1 fun vs6 => (cellS vg3 2 fun vs7 => (cellI .i64 vg3 3 fun vn8 => (cellI .i64 vg3 4 fun vn9 => (cellI .i64 vg3 5 fun vn10 => (cellI .i64 vg3 6 fun vn11 => (cellI .i64 vg3 7 fun vn12 => (cellI .i64 vg3 8 fun vn13 => (cellS vg3 9 fun vs14 => (cellS vg3 10 fun vs15 => (cellI .i64 vg3 11 fun vn16 => (cellI .i64 vg3 12 fun vn17 => (cellL 2 vg3 13 fun vl18 => (tupI .u8 vt4 fun vn19 vt20 => (atNil vt20 (callL 2 (kp E k n over_Lay [(.list 2 [(.agg [(.str (str [112, 97, 116, 104])), (.str (str [97]))])]), (.list 2 [(.agg [(.str (str [112, 97, 116, 104])), (.str (str []))])])]) fun vl22 => (bif (decide ((((List.length vl22) : Nat) : Int) = (0 : Int))) then (bif (decide ((IntKind.wrap .i64 vn19) = (0 : Int))) then (some (.bool (decide (vs6 = (str [97]))))) else (some (.bool false))) else (some (.bool false)))))))))))))))))))))) := (kp_at (by kernel_rfl)).trans (by kernel_rfl)
/- oakum/oakumlaw08.few -/
noncomputable def law08_few_bd : Code := Tryz.f16.body.getD .skip
noncomputable def law08_few_L0 (kap : FuncId → List AV → Option AV) (k : Nat) (k0 : Nat) (s0 : List AV) (s3 : Int) (s4 : Int) : Option AV :=
  loop (fun fr K => code ((bs E0 k).cfg kap law08_few) (sel law08_few_bd [1, 1, 0, 1, 0, 0]) fr K) (canon ((bs E0 k).cfg kap law08_few) (firstReg (sel law08_few_bd [1, 1, 0, 1, 0, 0]))) k0 (mkFr 33 [(0, (.list 2 s0)), (3, (.int .i64 s3)), (4, (.int .i64 s4))] []) (plug ((bs E0 k).cfg kap law08_few) (retK ((bs E0 k).cfg kap law08_few) [] Tryz.f16 [] some) [.blk 0, .seqR (sel law08_few_bd [1, 1, 1])])
theorem law08_few_L0_s (kap : FuncId → List AV → Option AV) (k : Nat) (k0 : Nat) (s0 : List AV) (s3 : Int) (s4 : Int) : law08_few_L0 kap k (k0 + 1) s0 s3 s4 =
  (bif (decide (s4 < (((List.length s0) : Nat) : Int))) then (bif ((decide ((0 : Int) ≤ s4)) && (decide (s4 < (((List.length s0) : Nat) : Int)))) then ((s0[(Int.toNat s4)]?).bind fun vy1 => (cellS (AV.cells vy1) 0 fun vs2 => (bif ((decide ((0 : Int) ≤ s4)) && (decide (s4 < (((List.length s0) : Nat) : Int)))) then ((s0[(Int.toNat s4)]?).bind fun vy3 => (cellS (AV.cells vy3) 1 fun vs4 => (law08_few_L0 kap k k0 s0 (IntKind.wrap .i64 ((IntKind.wrap .i64 (s3 + (((ByteArray.size vs2) : Nat) : Int))) + (((ByteArray.size vs4) : Nat) : Int))) (IntKind.wrap .i64 (s4 + (1 : Int)))))) else none))) else none) else (bif (decide ((((List.length s0) : Nat) : Int) ≤ (40 : Int))) then (some (.bool (decide (s3 ≤ (3000 : Int))))) else (some (.bool false)))) := by kernel_rfl
theorem law08_few_eq {E : Ext} [Core E] (k n : Nat) (a0 : List AV) : kp E k (n + 1) law08_few [(.list 2 a0)] =
  (law08_few_L0 (kp E k n) k k a0 (0 : Int) (0 : Int)) := (kp_at (by kernel_rfl)).trans (by kernel_rfl)
/- oakum/oakumref07.Same -/
noncomputable def ref07_Same_bd : Code := Tryz.f18.body.getD .skip
noncomputable def ref07_Same_L0 (kap : FuncId → List AV → Option AV) (k : Nat) (k0 : Nat) (s0 : List AV) (s1 : List AV) (s5 : Int) : Option AV :=
  loop (fun fr K => code ((bs E0 k).cfg kap ref07_Same) (sel ref07_Same_bd [1, 1, 0, 1, 0, 0]) fr K) (canon ((bs E0 k).cfg kap ref07_Same) (firstReg (sel ref07_Same_bd [1, 1, 0, 1, 0, 0]))) k0 (mkFr 26 [(0, (.list 2 s0)), (1, (.list 2 s1)), (5, (.int .i64 s5))] []) (plug ((bs E0 k).cfg kap ref07_Same) (retK ((bs E0 k).cfg kap ref07_Same) [] Tryz.f18 [] some) [.blk 0, .seqR (sel ref07_Same_bd [1, 1, 1])])
theorem ref07_Same_L0_s (kap : FuncId → List AV → Option AV) (k : Nat) (k0 : Nat) (s0 : List AV) (s1 : List AV) (s5 : Int) : ref07_Same_L0 kap k (k0 + 1) s0 s1 s5 =
  (bif (decide (s5 < (((List.length s0) : Nat) : Int))) then (bif ((decide ((0 : Int) ≤ s5)) && (decide (s5 < (((List.length s0) : Nat) : Int)))) then ((s0[(Int.toNat s5)]?).bind fun vy1 => (cellS (AV.cells vy1) 0 fun vs2 => (cellS (AV.cells vy1) 1 fun vs3 => (bif ((decide ((0 : Int) ≤ s5)) && (decide (s5 < (((List.length s1) : Nat) : Int)))) then ((s1[(Int.toNat s5)]?).bind fun vy4 => (cellS (AV.cells vy4) 0 fun vs5 => (cellS (AV.cells vy4) 1 fun vs6 => (bif (!((decide (vs2 = vs5)) && ((decide (vs3 = vs6)) && true))) then (some (.bool false)) else (ref07_Same_L0 kap k k0 s0 s1 (IntKind.wrap .i64 (s5 + (1 : Int)))))))) else none)))) else none) else (some (.bool true))) := by kernel_rfl
theorem ref07_Same_eq {E : Ext} [Core E] (k n : Nat) (a0 : List AV) (a1 : List AV) : kp E k (n + 1) ref07_Same [(.list 2 a0), (.list 2 a1)] =
  (bif (!(decide ((((List.length a0) : Nat) : Int) = (((List.length a1) : Nat) : Int)))) then (some (.bool false)) else (ref07_Same_L0 (kp E k n) k k a0 a1 (0 : Int))) := (kp_at (by kernel_rfl)).trans (by kernel_rfl)
/- oakum/oakumref07.Right -/
noncomputable def ref07_Right_bd : Code := Tryz.f19.body.getD .skip
noncomputable def ref07_Right_L0 (kap : FuncId → List AV → Option AV) (k : Nat) (k0 : Nat) (s3 : Int) (b1_0 : ByteArray) (b1_1 : ByteArray) : Option AV :=
  loop (fun fr K => code ((bs E0 k).cfg kap ref07_Right) (sel ref07_Right_bd [1, 1, 0, 1, 0, 0]) fr K) (canon ((bs E0 k).cfg kap ref07_Right) (firstReg (sel ref07_Right_bd [1, 1, 0, 1, 0, 0]))) k0 (mkFr 73 [(1, (.loc 1 0)), (3, (.int .i64 s3))] [(1, (.box [(.str b1_0), (.str b1_1)]))]) (plug ((bs E0 k).cfg kap ref07_Right) (retK ((bs E0 k).cfg kap ref07_Right) [] Tryz.f19 [] some) [.blk 0, .seqR (sel ref07_Right_bd [1, 1, 1])])
theorem ref07_Right_L0_s (kap : FuncId → List AV → Option AV) (k : Nat) (k0 : Nat) (s3 : Int) (b1_0 : ByteArray) (b1_1 : ByteArray) : ref07_Right_L0 kap k (k0 + 1) s3 b1_0 b1_1 =
  (bif (decide (s3 < (((ByteArray.size b1_0) : Nat) : Int))) then (bif ((decide ((0 : Int) ≤ s3)) && (decide (s3 < (((ByteArray.size b1_0) : Nat) : Int)))) then (bif (decide ((byteAt b1_0 (Int.toNat s3)) = (61 : Int))) then (some (.bool false)) else (ref07_Right_L0 kap k k0 (IntKind.wrap .i64 (s3 + (1 : Int))) b1_0 b1_1)) else none) else (callI .i64 (kap ref07_Which [(.str b1_0)]) fun vn8 => (bif (decide (b1_1 = (str []))) then (some (.bool true)) else (bif (decide (vn8 < (0 : Int))) then (some (.bool true)) else (bif (decide (vn8 < (4 : Int))) then (callB (kap ref02_Clean [(.str b1_1)]) fun vq10 => (some (.bool vq10))) else (bif (decide (vn8 < (7 : Int))) then (callT (kap ref04_Number [(.str b1_1)]) fun vt12 => (tupI .i64 vt12 fun vn13 vt14 => (tupB vt14 fun vq15 vt16 => (atNil vt16 (some (.bool vq15)))))) else (callT (kap ref04_Time [(.str b1_1)]) fun vt18 => (tupG 2 vt18 fun vg19 vt20 => (cellI .i64 vg19 0 fun vn21 => (cellI .i64 vg19 1 fun vn22 => (tupB vt20 fun vq23 vt24 => (atNil vt24 (some (.bool vq23)))))))))))))) := by kernel_rfl
theorem ref07_Right_eq {E : Ext} [Core E] (k n : Nat) (a0_0 : ByteArray) (a0_1 : ByteArray) : kp E k (n + 1) ref07_Right [(.agg [(.str a0_0), (.str a0_1)])] =
  (bif (decide (a0_0 = (str []))) then (some (.bool false)) else (callI .i64 (kp E k n ref05_First [(.str a0_0)]) fun vn2 => (bif (decide (vn2 ≥ (0 : Int))) then (some (.bool false)) else (callI .i64 (kp E k n ref05_First [(.str a0_1)]) fun vn4 => (bif (decide (vn4 ≥ (0 : Int))) then (some (.bool false)) else (callB (kp E k n ref02_Clean [(.str a0_0)]) fun vq6 => (bif (!vq6) then (some (.bool false)) else (ref07_Right_L0 (kp E k n) k k (0 : Int) a0_0 a0_1)))))))) := (kp_at (by kernel_rfl)).trans (by kernel_rfl)
/- oakum/oakumref08.Lay -/
/- oakum/oakumref08.Right -/
/- oakum/oakumref09.Right -/
/- oakum/oakumref08.SameHead -/
/- oakum/oakumref09.Wrong -/
/- oakum/oakumref02.Blocks -/
/- oakum/oakumref09.Same -/
/- oakum/oakumref05.First -/
noncomputable def ref05_First_bd : Code := Tryz.f63.body.getD .skip
noncomputable def ref05_First_L0 (kap : FuncId → List AV → Option AV) (k : Nat) (k0 : Nat) (s3 : List AV) (s4 : Int) : Option AV :=
  loop (fun fr K => code ((bs E0 k).cfg kap ref05_First) (sel ref05_First_bd [1, 1, 0, 1, 0, 0]) fr K) (canon ((bs E0 k).cfg kap ref05_First) (firstReg (sel ref05_First_bd [1, 1, 0, 1, 0, 0]))) k0 (mkFr 24 [(3, (.list 1 s3)), (4, (.int .i64 s4))] []) (plug ((bs E0 k).cfg kap ref05_First) (retK ((bs E0 k).cfg kap ref05_First) [] Tryz.f63 [] some) [.blk 0, .seqR (sel ref05_First_bd [1, 1, 1])])
theorem ref05_First_L0_s (kap : FuncId → List AV → Option AV) (k : Nat) (k0 : Nat) (s3 : List AV) (s4 : Int) : ref05_First_L0 kap k (k0 + 1) s3 s4 =
  (bif (decide (s4 < (((List.length s3) : Nat) : Int))) then (bif ((decide ((0 : Int) ≤ s4)) && (decide (s4 < (((List.length s3) : Nat) : Int)))) then ((s3[(Int.toNat s4)]?).bind fun vy3 => (cellI .i64 (AV.cells vy3) 0 fun vn4 => (bif (decide (vn4 < (0 : Int))) then (bif ((decide ((0 : Int) ≤ s4)) && (decide (s4 < (((List.length s3) : Nat) : Int)))) then ((s3[(Int.toNat s4)]?).bind fun vy5 => (cellI .i64 (AV.cells vy5) 0 fun vn6 => (some (.int .i64 (IntKind.wrap .i64 ((IntKind.wrap .i64 (0 - vn6)) - (1 : Int))))))) else none) else (ref05_First_L0 kap k k0 s3 (IntKind.wrap .i64 (s4 + (1 : Int))))))) else none) else (some (.int .i64 (-1 : Int)))) := by kernel_rfl
theorem ref05_First_eq {E : Ext} [Core E] (k n : Nat) (a0 : ByteArray) : kp E k (n + 1) ref05_First [(.str a0)] =
  (callL 1 (kp E k n ref05_Ends [(.str a0)]) fun vl2 => (ref05_First_L0 (kp E k n) k k vl2 (0 : Int))) := (kp_at (by kernel_rfl)).trans (by kernel_rfl)
/- oakum/oakumref02.Clean -/
theorem ref02_Clean_eq {E : Ext} [Core E] (k n : Nat) (a0 : ByteArray) : kp E k (n + 1) ref02_Clean [(.str a0)] =
  (callS (kp E k n ref02_Get [(.list 1 (bytesAV a0))]) fun vs2 => (some (.bool (decide (vs2 = a0))))) := (kp_at (by kernel_rfl)).trans (by kernel_rfl)
/- oakum/oakumref07.Which -/
noncomputable def ref07_Which_bd : Code := Tryz.f65.body.getD .skip
noncomputable def ref07_Which_L0 (kap : FuncId → List AV → Option AV) (k : Nat) (k0 : Nat) (s0 : ByteArray) (s3 : List AV) (s4 : Int) : Option AV :=
  loop (fun fr K => code ((bs E0 k).cfg kap ref07_Which) (sel ref07_Which_bd [1, 1, 0, 1, 0, 0]) fr K) (canon ((bs E0 k).cfg kap ref07_Which) (firstReg (sel ref07_Which_bd [1, 1, 0, 1, 0, 0]))) k0 (mkFr 19 [(0, (.str s0)), (3, (.list 1 s3)), (4, (.int .i64 s4))] []) (plug ((bs E0 k).cfg kap ref07_Which) (retK ((bs E0 k).cfg kap ref07_Which) [] Tryz.f65 [] some) [.blk 0, .seqR (sel ref07_Which_bd [1, 1, 1])])
theorem ref07_Which_L0_s (kap : FuncId → List AV → Option AV) (k : Nat) (k0 : Nat) (s0 : ByteArray) (s3 : List AV) (s4 : Int) : ref07_Which_L0 kap k (k0 + 1) s0 s3 s4 =
  (bif (decide (s4 < (((List.length s3) : Nat) : Int))) then (bif ((decide ((0 : Int) ≤ s4)) && (decide (s4 < (((List.length s3) : Nat) : Int)))) then ((s3[(Int.toNat s4)]?).bind fun vy3 => (cellS (AV.cells vy3) 0 fun vs4 => (bif (decide (vs4 = s0)) then (some (.int .i64 s4)) else (ref07_Which_L0 kap k k0 s0 s3 (IntKind.wrap .i64 (s4 + (1 : Int))))))) else none) else (some (.int .i64 (-1 : Int)))) := by kernel_rfl
theorem ref07_Which_eq {E : Ext} [Core E] (k n : Nat) (a0 : ByteArray) : kp E k (n + 1) ref07_Which [(.str a0)] =
  (callL 1 (kp E k n ref07_Keys []) fun vl2 => (ref07_Which_L0 (kp E k n) k k a0 vl2 (0 : Int))) := (kp_at (by kernel_rfl)).trans (by kernel_rfl)
/- oakum/oakumref08.Last -/
/- oakum/oakumref09.fields -/
/- oakum/oakumref02.Quote -/
/- oakum/oakumref02.Rest -/
/- oakum/oakumref01.Same -/
/- oakum/oakumref05.Ends -/
noncomputable def ref05_Ends_bd : Code := Tryz.f134.body.getD .skip
noncomputable def ref05_Ends_L0 (kap : FuncId → List AV → Option AV) (k : Nat) (k0 : Nat) (s0 : ByteArray) (s4 : Int) (x3 : List AV) : Option AV :=
  loop (fun fr K => code ((bs E0 k).cfg kap ref05_Ends) (sel ref05_Ends_bd [1, 1, 0, 1, 0, 0]) fr K) (canon ((bs E0 k).cfg kap ref05_Ends) (firstReg (sel ref05_Ends_bd [1, 1, 0, 1, 0, 0]))) k0 (mkFr 30 [(0, (.str s0)), (3, (.own 3)), (4, (.int .i64 s4))] [(3, (.row 3 x3 false))]) (plug ((bs E0 k).cfg kap ref05_Ends) (retK ((bs E0 k).cfg kap ref05_Ends) [] Tryz.f134 [] some) [.blk 0, .seqR (sel ref05_Ends_bd [1, 1, 1])])
theorem ref05_Ends_L0_s (kap : FuncId → List AV → Option AV) (k : Nat) (k0 : Nat) (s0 : ByteArray) (s4 : Int) (x3 : List AV) : ref05_Ends_L0 kap k (k0 + 1) s0 s4 x3 =
  (bif (decide (s4 < (((ByteArray.size s0) : Nat) : Int))) then (callI .i64 (kap ref05_size [(.str s0), (.int .i64 s4)]) fun vn2 => (bif (decide (vn2 = (0 : Int))) then (bif (decide (((List.length x3) + 1) * 8 ≤ 140737488355328) && decide (((List.length x3) + 1) ≤ 9223372036854775807)) then (ref05_Ends_L0 kap k k0 s0 (IntKind.wrap .i64 (s4 + (1 : Int))) (x3 ++ [(.int .i64 (IntKind.wrap .i64 (0 - (IntKind.wrap .i64 (s4 + (1 : Int))))))])) else none) else (bif (decide (((List.length x3) + 1) * 8 ≤ 140737488355328) && decide (((List.length x3) + 1) ≤ 9223372036854775807)) then (ref05_Ends_L0 kap k k0 s0 (IntKind.wrap .i64 (s4 + vn2)) (x3 ++ [(.int .i64 (IntKind.wrap .i64 (s4 + vn2)))])) else none))) else (some (.list 1 x3))) := by kernel_rfl
theorem ref05_Ends_eq {E : Ext} [Core E] (k n : Nat) (a0 : ByteArray) : kp E k (n + 1) ref05_Ends [(.str a0)] =
  (ref05_Ends_L0 (kp E k n) k k a0 (0 : Int) []) := (kp_at (by kernel_rfl)).trans (by kernel_rfl)
/- oakum/oakumref02.Get -/
noncomputable def ref02_Get_bd : Code := Tryz.f135.body.getD .skip
noncomputable def ref02_Get_L0 (kap : FuncId → List AV → Option AV) (k : Nat) (k0 : Nat) (s0 : List AV) (s4 : Int) (x3 : List AV) : Option AV :=
  loop (fun fr K => code ((bs E0 k).cfg kap ref02_Get) (sel ref02_Get_bd [1, 1, 0, 1, 0, 0]) fr K) (canon ((bs E0 k).cfg kap ref02_Get) (firstReg (sel ref02_Get_bd [1, 1, 0, 1, 0, 0]))) k0 (mkFr 28 [(0, (.list 1 s0)), (3, (.own 3)), (4, (.int .i64 s4))] [(3, (.row 5 x3 false))]) (plug ((bs E0 k).cfg kap ref02_Get) (retK ((bs E0 k).cfg kap ref02_Get) [] Tryz.f135 [] some) [.blk 0, .seqR (sel ref02_Get_bd [1, 1, 1])])
theorem ref02_Get_L0_s (kap : FuncId → List AV → Option AV) (k : Nat) (k0 : Nat) (s0 : List AV) (s4 : Int) (x3 : List AV) : ref02_Get_L0 kap k (k0 + 1) s0 s4 x3 =
  (bif (decide (s4 < (((List.length s0) : Nat) : Int))) then (bif ((decide ((0 : Int) ≤ s4)) && (decide (s4 < (((List.length s0) : Nat) : Int)))) then ((s0[(Int.toNat s4)]?).bind fun vy1 => (cellI .u8 (AV.cells vy1) 0 fun vn2 => (bif (!(decide (vn2 = (0 : Int)))) then (bif ((decide ((0 : Int) ≤ s4)) && (decide (s4 < (((List.length s0) : Nat) : Int)))) then ((s0[(Int.toNat s4)]?).bind fun vy3 => (cellI .u8 (AV.cells vy3) 0 fun vn4 => (bif (decide (((List.length x3) + 1) * 1 ≤ 140737488355328) && decide (((List.length x3) + 1) ≤ 9223372036854775807)) then (ref02_Get_L0 kap k k0 s0 (IntKind.wrap .i64 (s4 + (1 : Int))) (x3 ++ [(.int .u8 vn4)])) else none))) else none) else ((toBytes x3).bind fun vl5 => (some (.str (str vl5))))))) else none) else ((toBytes x3).bind fun vl6 => (some (.str (str vl6))))) := by kernel_rfl
theorem ref02_Get_eq {E : Ext} [Core E] (k n : Nat) (a0 : List AV) : kp E k (n + 1) ref02_Get [(.list 1 a0)] =
  (ref02_Get_L0 (kp E k n) k k a0 (0 : Int) []) := (kp_at (by kernel_rfl)).trans (by kernel_rfl)
/- oakum/oakumref07.Keys -/
theorem ref07_Keys_eq {E : Ext} [Core E] (k n : Nat)  : kp E k (n + 1) ref07_Keys [] =
  (some (.list 1 [(.str (str [112, 97, 116, 104])), (.str (str [108, 105, 110, 107, 112, 97, 116, 104])), (.str (str [117, 110, 97, 109, 101])), (.str (str [103, 110, 97, 109, 101])), (.str (str [117, 105, 100])), (.str (str [103, 105, 100])), (.str (str [115, 105, 122, 101])), (.str (str [109, 116, 105, 109, 101]))])) := (kp_at (by kernel_rfl)).trans (by kernel_rfl)
/- oakum/oakumref02.Unquote -/
/- oakum/oakumref09.name -/
/- oakum/oakumref09.Slash -/
/- oakum/oakumref02.open -/
/- oakum/oakumref02.code -/
/- oakum/oakumref02.Blank -/
/- oakum/oakumref05.size -/
noncomputable def ref05_size_bd : Code := Tryz.f208.body.getD .skip
noncomputable def ref05_size_L0 (kap : FuncId → List AV → Option AV) (k : Nat) (k0 : Nat) (s0 : ByteArray) (s1 : Int) (s6 : Int) (s7 : Int) (s8 : Int) : Option AV :=
  loop (fun fr K => code ((bs E0 k).cfg kap ref05_size) (sel ref05_size_bd [1, 1, 1, 1, 1, 1, 0, 1, 0, 0]) fr K) (canon ((bs E0 k).cfg kap ref05_size) (firstReg (sel ref05_size_bd [1, 1, 1, 1, 1, 1, 0, 1, 0, 0]))) k0 (mkFr 103 [(0, (.str s0)), (1, (.int .i64 s1)), (6, (.int .i64 s6)), (7, (.int .i64 s7)), (8, (.int .i64 s8))] []) (plug ((bs E0 k).cfg kap ref05_size) (retK ((bs E0 k).cfg kap ref05_size) [] Tryz.f208 [] some) [.blk 1, .seqR (sel ref05_size_bd [1, 1, 1, 1, 1, 1, 1])])
theorem ref05_size_L0_s (kap : FuncId → List AV → Option AV) (k : Nat) (k0 : Nat) (s0 : ByteArray) (s1 : Int) (s6 : Int) (s7 : Int) (s8 : Int) : ref05_size_L0 kap k (k0 + 1) s0 s1 s6 s7 s8 =
  (bif (decide (s8 < s6)) then (bif ((decide ((0 : Int) ≤ (IntKind.wrap .i64 (s1 + s8)))) && (decide ((IntKind.wrap .i64 (s1 + s8)) < (((ByteArray.size s0) : Nat) : Int)))) then (bif (decide ((byteAt s0 (Int.toNat (IntKind.wrap .i64 (s1 + s8)))) < (128 : Int))) then (some (.int .i64 (0 : Int))) else (bif ((decide ((0 : Int) ≤ (IntKind.wrap .i64 (s1 + s8)))) && (decide ((IntKind.wrap .i64 (s1 + s8)) < (((ByteArray.size s0) : Nat) : Int)))) then (bif (decide ((byteAt s0 (Int.toNat (IntKind.wrap .i64 (s1 + s8)))) ≥ (192 : Int))) then (some (.int .i64 (0 : Int))) else (bif ((decide ((0 : Int) ≤ (IntKind.wrap .i64 (s1 + s8)))) && (decide ((IntKind.wrap .i64 (s1 + s8)) < (((ByteArray.size s0) : Nat) : Int)))) then (ref05_size_L0 kap k k0 s0 s1 s6 (IntKind.wrap .i64 ((IntKind.wrap .i64 ((IntKind.wrap .i64 ((64 : Int) * s7)) + (IntKind.wrap .i64 (byteAt s0 (Int.toNat (IntKind.wrap .i64 (s1 + s8))))))) - (128 : Int))) (IntKind.wrap .i64 (s8 + (1 : Int)))) else none)) else none)) else none) else (bif ((decide ((0 : Int) ≤ s6)) && (decide (s6 < (5 : Int)))) then (([(.int .i64 (0 : Int)), (.int .i64 (0 : Int)), (.int .i64 (128 : Int)), (.int .i64 (2048 : Int)), (.int .i64 (65536 : Int))][(Int.toNat s6)]?).bind fun vy1 => (cellI .i64 (AV.cells vy1) 0 fun vn2 => (bif (decide (s7 < vn2)) then (some (.int .i64 (0 : Int))) else (bif (decide (s7 > (1114111 : Int))) then (some (.int .i64 (0 : Int))) else (bif (decide (s7 ≥ (55296 : Int))) then (bif (decide (s7 ≤ (57343 : Int))) then (some (.int .i64 (0 : Int))) else (some (.int .i64 s6))) else (some (.int .i64 s6))))))) else none)) := by kernel_rfl
theorem ref05_size_eq {E : Ext} [Core E] (k n : Nat) (a0 : ByteArray) (a1 : Int) : kp E k (n + 1) ref05_size [(.str a0), (.int .i64 a1)] =
  (bif ((decide ((0 : Int) ≤ a1)) && (decide (a1 < (((ByteArray.size a0) : Nat) : Int)))) then (bif (decide ((IntKind.wrap .i64 (byteAt a0 (Int.toNat a1))) < (128 : Int))) then (some (.int .i64 (1 : Int))) else (bif (decide ((IntKind.wrap .i64 (byteAt a0 (Int.toNat a1))) ≥ (192 : Int))) then (bif (decide ((IntKind.wrap .i64 (byteAt a0 (Int.toNat a1))) < (224 : Int))) then (bif (decide ((IntKind.wrap .i64 (a1 + (2 : Int))) > (((ByteArray.size a0) : Nat) : Int))) then (some (.int .i64 (0 : Int))) else (ref05_size_L0 (kp E k n) k k a0 a1 (2 : Int) (IntKind.wrap .i64 ((IntKind.wrap .i64 (byteAt a0 (Int.toNat a1))) - (192 : Int))) (1 : Int))) else (bif (decide ((IntKind.wrap .i64 (byteAt a0 (Int.toNat a1))) ≥ (224 : Int))) then (bif (decide ((IntKind.wrap .i64 (byteAt a0 (Int.toNat a1))) < (240 : Int))) then (bif (decide ((IntKind.wrap .i64 (a1 + (3 : Int))) > (((ByteArray.size a0) : Nat) : Int))) then (some (.int .i64 (0 : Int))) else (ref05_size_L0 (kp E k n) k k a0 a1 (3 : Int) (IntKind.wrap .i64 ((IntKind.wrap .i64 (byteAt a0 (Int.toNat a1))) - (224 : Int))) (1 : Int))) else (bif (decide ((IntKind.wrap .i64 (byteAt a0 (Int.toNat a1))) ≥ (240 : Int))) then (bif (decide ((IntKind.wrap .i64 (byteAt a0 (Int.toNat a1))) < (248 : Int))) then (bif (decide ((IntKind.wrap .i64 (a1 + (4 : Int))) > (((ByteArray.size a0) : Nat) : Int))) then (some (.int .i64 (0 : Int))) else (ref05_size_L0 (kp E k n) k k a0 a1 (4 : Int) (IntKind.wrap .i64 ((IntKind.wrap .i64 (byteAt a0 (Int.toNat a1))) - (240 : Int))) (1 : Int))) else (some (.int .i64 (0 : Int)))) else (some (.int .i64 (0 : Int))))) else (bif (decide ((IntKind.wrap .i64 (byteAt a0 (Int.toNat a1))) ≥ (240 : Int))) then (bif (decide ((IntKind.wrap .i64 (byteAt a0 (Int.toNat a1))) < (248 : Int))) then (bif (decide ((IntKind.wrap .i64 (a1 + (4 : Int))) > (((ByteArray.size a0) : Nat) : Int))) then (some (.int .i64 (0 : Int))) else (ref05_size_L0 (kp E k n) k k a0 a1 (4 : Int) (IntKind.wrap .i64 ((IntKind.wrap .i64 (byteAt a0 (Int.toNat a1))) - (240 : Int))) (1 : Int))) else (some (.int .i64 (0 : Int)))) else (some (.int .i64 (0 : Int)))))) else (bif (decide ((IntKind.wrap .i64 (byteAt a0 (Int.toNat a1))) ≥ (224 : Int))) then (bif (decide ((IntKind.wrap .i64 (byteAt a0 (Int.toNat a1))) < (240 : Int))) then (bif (decide ((IntKind.wrap .i64 (a1 + (3 : Int))) > (((ByteArray.size a0) : Nat) : Int))) then (some (.int .i64 (0 : Int))) else (ref05_size_L0 (kp E k n) k k a0 a1 (3 : Int) (IntKind.wrap .i64 ((IntKind.wrap .i64 (byteAt a0 (Int.toNat a1))) - (224 : Int))) (1 : Int))) else (bif (decide ((IntKind.wrap .i64 (byteAt a0 (Int.toNat a1))) ≥ (240 : Int))) then (bif (decide ((IntKind.wrap .i64 (byteAt a0 (Int.toNat a1))) < (248 : Int))) then (bif (decide ((IntKind.wrap .i64 (a1 + (4 : Int))) > (((ByteArray.size a0) : Nat) : Int))) then (some (.int .i64 (0 : Int))) else (ref05_size_L0 (kp E k n) k k a0 a1 (4 : Int) (IntKind.wrap .i64 ((IntKind.wrap .i64 (byteAt a0 (Int.toNat a1))) - (240 : Int))) (1 : Int))) else (some (.int .i64 (0 : Int)))) else (some (.int .i64 (0 : Int))))) else (bif (decide ((IntKind.wrap .i64 (byteAt a0 (Int.toNat a1))) ≥ (240 : Int))) then (bif (decide ((IntKind.wrap .i64 (byteAt a0 (Int.toNat a1))) < (248 : Int))) then (bif (decide ((IntKind.wrap .i64 (a1 + (4 : Int))) > (((ByteArray.size a0) : Nat) : Int))) then (some (.int .i64 (0 : Int))) else (ref05_size_L0 (kp E k n) k k a0 a1 (4 : Int) (IntKind.wrap .i64 ((IntKind.wrap .i64 (byteAt a0 (Int.toNat a1))) - (240 : Int))) (1 : Int))) else (some (.int .i64 (0 : Int)))) else (some (.int .i64 (0 : Int))))))) else none) := (kp_at (by kernel_rfl)).trans (by kernel_rfl)
end Go.Proofs.YtogfcfgfkggmlaaGreatDoor.Eng.U


/- The Utf laws in plain words, part 1: how many bytes stand for a code point. -/
set_option linter.unusedVariables false
set_option linter.unusedSimpArgs false
namespace Go.Proofs.YtogfcfgfkggmlaaGreatDoor.Eng.U
open Go Go.Proofs Go.Proofs.YtogfcfgfkggmlaaGreatDoor.Eng Go.Lib
variable {kap : FuncId → List AV → Option AV} {E : Ext} [Core E] {n : Nat}
def goDec (s : ByteArray) : Nat × Nat := if s.size = 0 then (65533, 0) else Utf8.decode s 0

def by_ (s : ByteArray) (i : Nat) : Nat := (s.data.toList.getD i 0).toNat
theorem by_lt (s : ByteArray) (i : Nat) : by_ s i < 256 := UInt8.toNat_lt _
theorem get_by (s : ByteArray) (i : Nat) : (s.get! i).toNat = by_ s i := by
  unfold by_
  congr 1
  simp [ByteArray.get!, List.getD_eq_getElem?_getD, Array.getElem!_eq_getD, Array.getD_eq_getD_getElem?]
  rfl
/-- How many bytes from place i on are a code point's own; 0: none. -/
def szOf (p : Nat × Nat) : Nat := if p = (65533, 1) then 0 else p.2
def sizeS (s : ByteArray) (i : Nat) : Nat := szOf (Utf8.decode s i)
theorem i64w {x : Int} (h : -9223372036854775808 ≤ x ∧ x ≤ 9223372036854775807) : IntKind.wrap .i64 x = x := IntWalk.i64_in x h

theorem L51_step {K m : Nat} {s : ByteArray} {i n c j : Nat} (hs : s.size ≤ 1000000) (hj : j < n) (hb : i + j < s.size) (hc : c < 10000000) : ref05_size_L0 kap K (m + 1) s (i : Int) (n : Int) (c : Int) (j : Int) =
    if by_ s (i + j) < 128 then some (.int .i64 0) else if 192 ≤ by_ s (i + j) then some (.int .i64 0) else ref05_size_L0 kap K m s (i : Int) (n : Int) ((c * 64 + by_ s (i + j) - 128 : Nat) : Int) ((j + 1 : Nat) : Int) := by
  have hlt := by_lt s (i + j)
  rw [ref05_size_L0_s, i64w (x := (i : Int) + (j : Int)) (by omega), show ((i : Int) + (j : Int)).toNat = i + j from by omega]
  simp only [show byteAt s (i + j) = ((by_ s (i + j) : Nat) : Int) from rfl]
  generalize by_ s (i + j) = b at *
  rw [i64w (x := (64 : Int) * (c : Int)) (by omega), i64w (x := (b : Int)) (by omega), i64w (x := (64 : Int) * (c : Int) + (b : Int)) (by omega), i64w (x := (64 : Int) * (c : Int) + (b : Int) - 128) (by omega), i64w (x := (j : Int) + 1) (by omega)]
  rw [show decide ((j : Int) < (n : Int)) = true from by simp; omega, show (decide ((0 : Int) ≤ (i : Int) + (j : Int)) && decide ((i : Int) + (j : Int) < (s.size : Int))) = true from by simp; omega]
  simp only [cond_true]
  by_cases h1 : b < 128
  · rw [if_pos h1, show decide ((b : Int) < 128) = true from by simp; omega]; rfl
  · rw [if_neg h1, show decide ((b : Int) < 128) = false from by simp; omega]
    by_cases h2 : 192 ≤ b
    · rw [if_pos h2, show decide ((b : Int) ≥ 192) = true from by simp; omega]; rfl
    · rw [if_neg h2, show decide ((b : Int) ≥ 192) = false from by simp; omega]
      simp only [cond_false]
      rw [show ((c * 64 + b - 128 : Nat) : Int) = (64 : Int) * (c : Int) + (b : Int) - 128 from by omega, show ((j + 1 : Nat) : Int) = (j : Int) + 1 from by omega]
def minOf (n : Nat) : Nat := if n = 2 then 128 else if n = 3 then 2048 else 65536
theorem L51_end {K m : Nat} {s : ByteArray} {i n c : Nat} (hn : n = 2 ∨ n = 3 ∨ n = 4) : ref05_size_L0 kap K (m + 1) s (i : Int) (n : Int) (c : Int) (n : Int) =
    if c < minOf n then some (.int .i64 0) else if 1114111 < c then some (.int .i64 0) else if 55296 ≤ c ∧ c ≤ 57343 then some (.int .i64 0) else some (.int .i64 (n : Int)) := by
  rw [ref05_size_L0_s, show decide ((n : Int) < (n : Int)) = false from by simp, show (decide ((0 : Int) ≤ (n : Int)) && decide ((n : Int) < 5)) = true from by simp; omega]
  simp only [cond_true, cond_false, show ((n : Int)).toNat = n from by omega]
  have key : ∀ (v : Nat) (v' : Int), v' = (v : Int) → (bif decide ((c : Int) < v') then some (AV.int .i64 0) else bif decide ((c : Int) > 1114111) then some (.int .i64 0) else bif decide ((c : Int) ≥ 55296) then (bif decide ((c : Int) ≤ 57343) then some (.int .i64 0) else some (.int .i64 (n : Int))) else some (.int .i64 (n : Int))) =
      if c < v then some (.int .i64 0) else if 1114111 < c then some (.int .i64 0) else if 55296 ≤ c ∧ c ≤ 57343 then some (.int .i64 0) else some (.int .i64 (n : Int)) := by
    rintro v _ rfl
    by_cases h1 : c < v
    · rw [if_pos h1, show decide ((c : Int) < (v : Int)) = true from by simp; omega]; rfl
    rw [if_neg h1, show decide ((c : Int) < (v : Int)) = false from by simp; omega, cond_false]
    by_cases h2 : 1114111 < c
    · rw [if_pos h2, show decide ((c : Int) > 1114111) = true from by simp; omega]; rfl
    rw [if_neg h2, show decide ((c : Int) > 1114111) = false from by simp; omega, cond_false]
    by_cases h3 : 55296 ≤ c
    · rw [show decide ((c : Int) ≥ 55296) = true from by simp; omega, cond_true]
      by_cases h4 : c ≤ 57343
      · rw [if_pos ⟨h3, h4⟩, show decide ((c : Int) ≤ 57343) = true from by simp; omega]; rfl
      · rw [if_neg (fun h => h4 h.2), show decide ((c : Int) ≤ 57343) = false from by simp; omega]; rfl
    · rw [if_neg (fun h => h3 h.1), show decide ((c : Int) ≥ 55296) = false from by simp; omega]; rfl
  have e : ∀ (j : Nat) (v : Int) (K : Int → Option AV), ([(.int .i64 (0 : Int)), (.int .i64 (0 : Int)), (.int .i64 (128 : Int)), (.int .i64 (2048 : Int)), (.int .i64 (65536 : Int))] : List AV)[j]? = some (.int .i64 v) → (([(.int .i64 (0 : Int)), (.int .i64 (0 : Int)), (.int .i64 (128 : Int)), (.int .i64 (2048 : Int)), (.int .i64 (65536 : Int))] : List AV)[j]?).bind (fun vy1 => cellI .i64 (AV.cells vy1) 0 fun vn2 => K vn2) = K v := by
    intro j v K h
    rw [h]
    rfl
  rcases hn with rfl | rfl | rfl
  · rw [show minOf 2 = 128 from rfl, e 2 128 _ rfl]; exact key 128 128 (by omega)
  · rw [show minOf 3 = 2048 from rfl, e 3 2048 _ rfl]; exact key 2048 2048 (by omega)
  · rw [show minOf 4 = 65536 from rfl, e 4 65536 _ rfl]; exact key 65536 65536 (by omega)

theorem L51_two {K m : Nat} {s : ByteArray} {i c : Nat} (hs : s.size ≤ 1000000) (hb : i + 1 < s.size) (hc : c < 256) : ref05_size_L0 kap K (m + 2) s (i : Int) ((2 : Nat) : Int) (c : Int) ((1 : Nat) : Int) =
    if by_ s (i + 1) < 128 then some (.int .i64 0) else if 192 ≤ by_ s (i + 1) then some (.int .i64 0) else
    if c * 64 + by_ s (i + 1) - 128 < 128 then some (.int .i64 0) else if 1114111 < c * 64 + by_ s (i + 1) - 128 then some (.int .i64 0) else if 55296 ≤ c * 64 + by_ s (i + 1) - 128 ∧ c * 64 + by_ s (i + 1) - 128 ≤ 57343 then some (.int .i64 0) else some (.int .i64 2) := by
  rw [L51_step hs (by omega) hb (by omega)]
  split
  · rfl
  split
  · rfl
  exact L51_end (.inl rfl)
theorem L51_three {K m : Nat} {s : ByteArray} {i c : Nat} (hs : s.size ≤ 1000000) (hb : i + 2 < s.size) (hc : c < 256) : ref05_size_L0 kap K (m + 3) s (i : Int) ((3 : Nat) : Int) (c : Int) ((1 : Nat) : Int) =
    if by_ s (i + 1) < 128 then some (.int .i64 0) else if 192 ≤ by_ s (i + 1) then some (.int .i64 0) else
    if by_ s (i + 2) < 128 then some (.int .i64 0) else if 192 ≤ by_ s (i + 2) then some (.int .i64 0) else
    if (c * 64 + by_ s (i + 1) - 128) * 64 + by_ s (i + 2) - 128 < 2048 then some (.int .i64 0) else if 1114111 < (c * 64 + by_ s (i + 1) - 128) * 64 + by_ s (i + 2) - 128 then some (.int .i64 0) else if 55296 ≤ (c * 64 + by_ s (i + 1) - 128) * 64 + by_ s (i + 2) - 128 ∧ (c * 64 + by_ s (i + 1) - 128) * 64 + by_ s (i + 2) - 128 ≤ 57343 then some (.int .i64 0) else some (.int .i64 3) := by
  have h1 := by_lt s (i + 1)
  rw [L51_step hs (by omega) (by omega) (by omega)]
  split
  · rfl
  split
  · rfl
  rw [L51_step hs (by omega) (by omega) (by omega)]
  split
  · rfl
  split
  · rfl
  exact L51_end (.inr (.inl rfl))
theorem L51_four {K m : Nat} {s : ByteArray} {i c : Nat} (hs : s.size ≤ 1000000) (hb : i + 3 < s.size) (hc : c < 256) : ref05_size_L0 kap K (m + 4) s (i : Int) ((4 : Nat) : Int) (c : Int) ((1 : Nat) : Int) =
    if by_ s (i + 1) < 128 then some (.int .i64 0) else if 192 ≤ by_ s (i + 1) then some (.int .i64 0) else
    if by_ s (i + 2) < 128 then some (.int .i64 0) else if 192 ≤ by_ s (i + 2) then some (.int .i64 0) else
    if by_ s (i + 3) < 128 then some (.int .i64 0) else if 192 ≤ by_ s (i + 3) then some (.int .i64 0) else
    if ((c * 64 + by_ s (i + 1) - 128) * 64 + by_ s (i + 2) - 128) * 64 + by_ s (i + 3) - 128 < 65536 then some (.int .i64 0) else if 1114111 < ((c * 64 + by_ s (i + 1) - 128) * 64 + by_ s (i + 2) - 128) * 64 + by_ s (i + 3) - 128 then some (.int .i64 0) else if 55296 ≤ ((c * 64 + by_ s (i + 1) - 128) * 64 + by_ s (i + 2) - 128) * 64 + by_ s (i + 3) - 128 ∧ ((c * 64 + by_ s (i + 1) - 128) * 64 + by_ s (i + 2) - 128) * 64 + by_ s (i + 3) - 128 ≤ 57343 then some (.int .i64 0) else some (.int .i64 4) := by
  have h1 := by_lt s (i + 1)
  have h2 := by_lt s (i + 2)
  rw [L51_step hs (by omega) (by omega) (by omega)]
  split
  · rfl
  split
  · rfl
  rw [L51_step hs (by omega) (by omega) (by omega)]
  split
  · rfl
  split
  · rfl
  rw [L51_step hs (by omega) (by omega) (by omega)]
  split
  · rfl
  split
  · rfl
  exact L51_end (.inr (.inr rfl))

/-- How many bytes a code point takes, by numbers. -/
def sizeN (n b0 b1 b2 b3 : Nat) : Nat := szOf (decodeN n b0 b1 b2 b3)
theorem szOf_bad : szOf (65533, 1) = 0 := rfl
theorem szOf_ok {c w : Nat} (h : w ≠ 1 ∨ c ≠ 65533) : szOf (c, w) = w := by
  unfold szOf
  rw [if_neg (by simp only [Prod.mk.injEq]; omega)]
theorem sizeS_eq (s : ByteArray) (i : Nat) : sizeS s i = sizeN (s.size - i) (by_ s i) (by_ s (i + 1)) (by_ s (i + 2)) (by_ s (i + 3)) := by
  unfold sizeS sizeN
  rw [decode_at, get_by, get_by, get_by, get_by]
theorem size_num {K : Nat} {s : ByteArray} {i : Nat} (hs : s.size ≤ 1000000) (hi : i < s.size) : kp E (K + 5) (n + 1) ref05_size [.str s, .int .i64 (i : Int)] =
    if by_ s i < 128 then some (.int .i64 1) else if by_ s i < 192 then some (.int .i64 0) else
    if by_ s i < 224 then (if s.size < i + 2 then some (.int .i64 0) else ref05_size_L0 (kp E (K + 5) n) (K + 5) (K + 5) s (i : Int) ((2 : Nat) : Int) ((by_ s i - 192 : Nat) : Int) ((1 : Nat) : Int)) else
    if by_ s i < 240 then (if s.size < i + 3 then some (.int .i64 0) else ref05_size_L0 (kp E (K + 5) n) (K + 5) (K + 5) s (i : Int) ((3 : Nat) : Int) ((by_ s i - 224 : Nat) : Int) ((1 : Nat) : Int)) else
    if by_ s i < 248 then (if s.size < i + 4 then some (.int .i64 0) else ref05_size_L0 (kp E (K + 5) n) (K + 5) (K + 5) s (i : Int) ((4 : Nat) : Int) ((by_ s i - 240 : Nat) : Int) ((1 : Nat) : Int)) else some (.int .i64 0) := by
  have hlt := by_lt s i
  rw [ref05_size_eq, show ((i : Int)).toNat = i from by omega]
  simp only [show byteAt s i = ((by_ s i : Nat) : Int) from rfl]
  generalize by_ s i = b at *
  rw [i64w (x := (b : Int)) (by omega)]
  rw [show (decide ((0 : Int) ≤ (i : Int)) && decide ((i : Int) < (s.size : Int))) = true from by simp; omega]
  simp only [cond_true]
  rw [i64w (x := (i : Int) + 2) (by omega), i64w (x := (i : Int) + 3) (by omega), i64w (x := (i : Int) + 4) (by omega)]
  rw [i64w (x := (b : Int) - 192) (by omega), i64w (x := (b : Int) - 224) (by omega), i64w (x := (b : Int) - 240) (by omega)]
  have hd : ∀ (p q : Prop) [Decidable p] [Decidable q], (p ↔ q) → decide p = decide q := fun p q _ _ h => decide_eq_decide.2 h
  have bif_if : ∀ {α : Type} (p : Prop) [Decidable p] (x y : α), (bif decide p then x else y) = if p then x else y := fun p _ x y => by by_cases h : p <;> simp [h]
  simp only [bif_if]
  by_cases a1 : b < 128
  · rw [if_pos (by omega), if_pos a1]
  rw [if_neg (by omega), if_neg a1]
  by_cases a2 : b < 192
  · rw [if_pos a2, if_neg (by omega), if_neg (by omega), if_neg (by omega)]
  rw [if_neg a2, if_pos (by omega)]
  by_cases a3 : b < 224
  · rw [if_pos (by omega), if_pos a3]
    by_cases z : s.size < i + 2
    · rw [if_pos (by omega), if_pos z]
    · rw [if_neg (by omega), if_neg z, show ((b - 192 : Nat) : Int) = (b : Int) - 192 from by omega]; rfl
  rw [if_neg (by omega), if_neg a3, if_pos (by omega)]
  by_cases a4 : b < 240
  · rw [if_pos (by omega), if_pos a4]
    by_cases z : s.size < i + 3
    · rw [if_pos (by omega), if_pos z]
    · rw [if_neg (by omega), if_neg z, show ((b - 224 : Nat) : Int) = (b : Int) - 224 from by omega]; rfl
  rw [if_neg (by omega), if_neg a4, if_pos (by omega)]
  by_cases a5 : b < 248
  · rw [if_pos (by omega), if_pos a5]
    by_cases z : s.size < i + 4
    · rw [if_pos (by omega), if_pos z]
    · rw [if_neg (by omega), if_neg z, show ((b - 240 : Nat) : Int) = (b : Int) - 240 from by omega]; rfl
  rw [if_neg (by omega), if_neg a5]
end Go.Proofs.YtogfcfgfkggmlaaGreatDoor.Eng.U


/- The Utf laws in plain words, part 2: the size of a code point is what the decoder says. -/
set_option linter.unusedVariables false
set_option linter.unusedSimpArgs false
namespace Go.Proofs.YtogfcfgfkggmlaaGreatDoor.Eng.U
open Go Go.Proofs Go.Proofs.YtogfcfgfkggmlaaGreatDoor.Eng Go.Lib
variable {kap : FuncId → List AV → Option AV} {E : Ext} [Core E] {n : Nat}

theorem sizeN_1 (n b0 b1 b2 b3 : Nat) (h : b0 < 128) : sizeN n b0 b1 b2 b3 = 1 := by
  unfold sizeN decodeN
  rw [if_pos h, szOf_ok (by omega)]
theorem sizeN_0 (n b0 b1 b2 b3 : Nat) (h : 128 ≤ b0 ∧ (b0 < 192 ∨ 248 ≤ b0)) (h0 : b0 < 256) : sizeN n b0 b1 b2 b3 = 0 := by
  unfold sizeN decodeN
  rw [if_neg (by omega), if_neg (by omega), if_neg (by omega), if_neg (by omega), szOf_bad]
theorem sizeN_2 (n b0 b1 b2 b3 : Nat) (h : 192 ≤ b0 ∧ b0 < 224) (h1 : b1 < 256) : sizeN n b0 b1 b2 b3 =
    if n < 2 then 0 else if b1 < 128 then 0 else if 192 ≤ b1 then 0 else if (b0 - 192) * 64 + b1 - 128 < 128 then 0 else if 1114111 < (b0 - 192) * 64 + b1 - 128 then 0 else if 55296 ≤ (b0 - 192) * 64 + b1 - 128 ∧ (b0 - 192) * 64 + b1 - 128 ≤ 57343 then 0 else 2 := by
  unfold sizeN decodeN
  rw [if_neg (by omega)]
  by_cases hc : 1 < n ∧ b1 / 64 = 2
  · rw [if_pos ⟨by omega, hc⟩, if_neg (show ¬ n < 2 by omega), if_neg (show ¬ b1 < 128 by omega), if_neg (show ¬ 192 ≤ b1 by omega)]
    by_cases hd : b0 % 32 * 64 + b1 % 64 ≥ 128
    · rw [if_pos hd, szOf_ok (by omega), if_neg (by omega), if_neg (by omega), if_neg (by omega)]
    · rw [if_neg hd, szOf_bad, if_pos (by omega)]
  · rw [if_neg (fun h => hc h.2), if_neg (by omega), if_neg (by omega), szOf_bad]
    by_cases g1 : n < 2
    · rw [if_pos g1]
    · rw [if_neg g1]
      by_cases g2 : b1 < 128
      · rw [if_pos g2]
      · rw [if_neg g2, if_pos (by omega)]
theorem sizeN_3 (n b0 b1 b2 b3 : Nat) (h : 224 ≤ b0 ∧ b0 < 240) (h1 : b1 < 256) (h2 : b2 < 256) : sizeN n b0 b1 b2 b3 =
    if n < 3 then 0 else if b1 < 128 then 0 else if 192 ≤ b1 then 0 else if b2 < 128 then 0 else if 192 ≤ b2 then 0 else if ((b0 - 224) * 64 + b1 - 128) * 64 + b2 - 128 < 2048 then 0 else if 1114111 < ((b0 - 224) * 64 + b1 - 128) * 64 + b2 - 128 then 0 else if 55296 ≤ ((b0 - 224) * 64 + b1 - 128) * 64 + b2 - 128 ∧ ((b0 - 224) * 64 + b1 - 128) * 64 + b2 - 128 ≤ 57343 then 0 else 3 := by
  unfold sizeN decodeN
  rw [if_neg (by omega), if_neg (show ¬ (b0 / 32 = 6 ∧ _) by omega)]
  by_cases hc : (1 < n ∧ b1 / 64 = 2) ∧ (2 < n ∧ b2 / 64 = 2)
  · rw [if_pos ⟨by omega, hc.1, hc.2⟩, if_neg (show ¬ n < 3 by omega), if_neg (show ¬ b1 < 128 by omega), if_neg (show ¬ 192 ≤ b1 by omega), if_neg (show ¬ b2 < 128 by omega), if_neg (show ¬ 192 ≤ b2 by omega)]
    have e : b0 % 16 * 4096 + b1 % 64 * 64 + b2 % 64 = ((b0 - 224) * 64 + b1 - 128) * 64 + b2 - 128 := by omega
    rw [e]
    generalize ((b0 - 224) * 64 + b1 - 128) * 64 + b2 - 128 = c at *
    by_cases hd : c ≥ 2048 ∧ (c < 55296 ∨ (57344 ≤ c ∧ c ≤ 1114111))
    · rw [if_pos hd, szOf_ok (by omega), if_neg (by omega), if_neg (by omega), if_neg (by omega)]
    · rw [if_neg hd, szOf_bad]
      by_cases g1 : c < 2048
      · rw [if_pos g1]
      · rw [if_neg g1]
        by_cases g2 : 1114111 < c
        · rw [if_pos g2]
        · rw [if_neg g2, if_pos (by omega)]
  · rw [if_neg (fun h => hc h.2), if_neg (by omega), szOf_bad]
    by_cases g1 : n < 3
    · rw [if_pos g1]
    · rw [if_neg g1]
      by_cases g2 : b1 < 128
      · rw [if_pos g2]
      · rw [if_neg g2]
        by_cases g3 : 192 ≤ b1
        · rw [if_pos g3]
        · rw [if_neg g3]
          by_cases g4 : b2 < 128
          · rw [if_pos g4]
          · rw [if_neg g4, if_pos (by omega)]
theorem sizeN_4 (n b0 b1 b2 b3 : Nat) (h : 240 ≤ b0 ∧ b0 < 248) (h1 : b1 < 256) (h2 : b2 < 256) (h3 : b3 < 256) : sizeN n b0 b1 b2 b3 =
    if n < 4 then 0 else if b1 < 128 then 0 else if 192 ≤ b1 then 0 else if b2 < 128 then 0 else if 192 ≤ b2 then 0 else if b3 < 128 then 0 else if 192 ≤ b3 then 0 else
    if (((b0 - 240) * 64 + b1 - 128) * 64 + b2 - 128) * 64 + b3 - 128 < 65536 then 0 else if 1114111 < (((b0 - 240) * 64 + b1 - 128) * 64 + b2 - 128) * 64 + b3 - 128 then 0 else if 55296 ≤ (((b0 - 240) * 64 + b1 - 128) * 64 + b2 - 128) * 64 + b3 - 128 ∧ (((b0 - 240) * 64 + b1 - 128) * 64 + b2 - 128) * 64 + b3 - 128 ≤ 57343 then 0 else 4 := by
  unfold sizeN decodeN
  rw [if_neg (by omega), if_neg (show ¬ (b0 / 32 = 6 ∧ _) by omega), if_neg (show ¬ (b0 / 16 = 14 ∧ _) by omega)]
  by_cases hc : (1 < n ∧ b1 / 64 = 2) ∧ (2 < n ∧ b2 / 64 = 2) ∧ (3 < n ∧ b3 / 64 = 2)
  · rw [if_pos ⟨by omega, hc.1, hc.2.1, hc.2.2⟩, if_neg (show ¬ n < 4 by omega), if_neg (show ¬ b1 < 128 by omega), if_neg (show ¬ 192 ≤ b1 by omega), if_neg (show ¬ b2 < 128 by omega), if_neg (show ¬ 192 ≤ b2 by omega), if_neg (show ¬ b3 < 128 by omega), if_neg (show ¬ 192 ≤ b3 by omega)]
    have e : b0 % 8 * 262144 + b1 % 64 * 4096 + b2 % 64 * 64 + b3 % 64 = (((b0 - 240) * 64 + b1 - 128) * 64 + b2 - 128) * 64 + b3 - 128 := by omega
    rw [e]
    generalize (((b0 - 240) * 64 + b1 - 128) * 64 + b2 - 128) * 64 + b3 - 128 = c at *
    by_cases hd : c ≥ 65536 ∧ (c < 55296 ∨ (57344 ≤ c ∧ c ≤ 1114111))
    · rw [if_pos hd, szOf_ok (by omega), if_neg (by omega), if_neg (by omega), if_neg (by omega)]
    · rw [if_neg hd, szOf_bad]
      by_cases g1 : c < 65536
      · rw [if_pos g1]
      · rw [if_neg g1]
        by_cases g2 : 1114111 < c
        · rw [if_pos g2]
        · rw [if_neg g2, if_pos (by omega)]
  · rw [if_neg (fun h => hc h.2), szOf_bad]
    by_cases g1 : n < 4
    · rw [if_pos g1]
    · rw [if_neg g1]
      by_cases g2 : b1 < 128
      · rw [if_pos g2]
      · rw [if_neg g2]
        by_cases g3 : 192 ≤ b1
        · rw [if_pos g3]
        · rw [if_neg g3]
          by_cases g4 : b2 < 128
          · rw [if_pos g4]
          · rw [if_neg g4]
            by_cases g5 : 192 ≤ b2
            · rw [if_pos g5]
            · rw [if_neg g5]
              by_cases g6 : b3 < 128
              · rw [if_pos g6]
              · rw [if_neg g6, if_pos (by omega)]
theorem some_if (p : Prop) [Decidable p] (a b : Nat) : (some (AV.int .i64 ((if p then a else b : Nat) : Int))) = if p then some (AV.int .i64 (a : Int)) else some (AV.int .i64 (b : Int)) := by by_cases h : p <;> simp [h]
theorem size_spec {K : Nat} {s : ByteArray} {i : Nat} (hs : s.size ≤ 1000000) (hi : i < s.size) : kp E (K + 5) (n + 1) ref05_size [.str s, .int .i64 (i : Int)] = some (.int .i64 (sizeS s i : Int)) := by
  have h0 := by_lt s i
  have h1 := by_lt s (i + 1)
  have h2 := by_lt s (i + 2)
  have h3 := by_lt s (i + 3)
  rw [size_num hs hi, sizeS_eq]
  by_cases a1 : by_ s i < 128
  · rw [if_pos a1, sizeN_1 _ _ _ _ _ a1]; rfl
  rw [if_neg a1]
  by_cases a2 : by_ s i < 192
  · rw [if_pos a2, sizeN_0 _ _ _ _ _ (by omega) h0]; rfl
  rw [if_neg a2]
  by_cases a3 : by_ s i < 224
  · rw [if_pos a3, sizeN_2 _ _ _ _ _ (by omega) h1]
    by_cases z : s.size < i + 2
    · rw [if_pos z, if_pos (by omega)]; rfl
    · rw [if_neg z, if_neg (by omega), L51_two hs (by omega) (by omega)]
      simp only [some_if]; rfl
  rw [if_neg a3]
  by_cases a4 : by_ s i < 240
  · rw [if_pos a4, sizeN_3 _ _ _ _ _ (by omega) h1 h2]
    by_cases z : s.size < i + 3
    · rw [if_pos z, if_pos (by omega)]; rfl
    · rw [if_neg z, if_neg (by omega), L51_three hs (by omega) (by omega)]
      simp only [some_if]; rfl
  rw [if_neg a4]
  by_cases a5 : by_ s i < 248
  · rw [if_pos a5, sizeN_4 _ _ _ _ _ (by omega) h1 h2 h3]
    by_cases z : s.size < i + 4
    · rw [if_pos z, if_pos (by omega)]; rfl
    · rw [if_neg z, if_neg (by omega), L51_four hs (by omega) (by omega)]
      simp only [some_if]; rfl
  · rw [if_neg a5, sizeN_0 _ _ _ _ _ (by omega) h0]; rfl
end Go.Proofs.YtogfcfgfkggmlaaGreatDoor.Eng.U


/- The Utf laws in plain words, part 3: the functions that go through a text. -/
set_option linter.unusedVariables false
set_option linter.unusedSimpArgs false
namespace Go.Proofs.YtogfcfgfkggmlaaGreatDoor.Eng.U
open Go Go.Proofs Go.Proofs.YtogfcfgfkggmlaaGreatDoor.Eng Go.Lib
variable {kap : FuncId → List AV → Option AV} {E : Ext} [Core E] {n : Nat}

abbrev ai (n : Int) : AV := .int .i64 n
/-- Is the byte at a place no part of a code point? -/
def bad (s : ByteArray) (i : Nat) : Prop := Utf8.decode s i = (65533, 1)
instance (s : ByteArray) (i : Nat) : Decidable (bad s i) := inferInstanceAs (Decidable (_ = _))
/-- The place behind what stands at a place. -/
def nx (s : ByteArray) (i : Nat) : Nat := i + (Utf8.decode s i).2
theorem width_le (s : ByteArray) (i : Nat) : 1 ≤ (Utf8.decode s i).2 ∧ (Utf8.decode s i).2 ≤ 4 := by
  rw [decode_at]
  unfold decodeN
  repeat' split
  all_goals simp
theorem nx_gt (s : ByteArray) (i : Nat) : i < nx s i ∧ nx s i ≤ i + 4 := by have := width_le s i; unfold nx; omega
theorem sizeS_bad {s : ByteArray} {i : Nat} (h : bad s i) : sizeS s i = 0 := by unfold sizeS; rw [h]; rfl
theorem sizeS_good {s : ByteArray} {i : Nat} (h : ¬ bad s i) : sizeS s i = (Utf8.decode s i).2 ∧ sizeS s i ≠ 0 := by
  unfold sizeS szOf
  rw [if_neg (show ¬ Utf8.decode s i = (65533, 1) from h)]
  have := width_le s i
  exact ⟨rfl, by omega⟩
theorem nx_bad {s : ByteArray} {i : Nat} (h : bad s i) : nx s i = i + 1 := by unfold nx; rw [h]

/-- The ends of all that stands in a text, from a place on: below zero where a byte is no part of a code point. -/
def endsL (s : ByteArray) : Nat → Nat → List Int
  | 0, _ => []
  | n + 1, pos => if pos < s.size then (if bad s pos then -(nx s pos : Int) else (nx s pos : Int)) :: endsL s n (nx s pos) else []
def ends (s : ByteArray) : List Int := endsL s s.size 0
theorem L16 {K : Nat} {s : ByteArray} (hs : s.size ≤ 1000000) (h51 : ∀ i, i < s.size → kap ref05_size [.str s, .int .i64 (i : Int)] = some (.int .i64 (sizeS s i : Int))) :
    ∀ (n m pos : Nat) (xs : List AV), s.size ≤ pos + n → n < m → xs.length ≤ pos → pos ≤ s.size + 4 → ref05_Ends_L0 kap K m s (pos : Int) xs = some (.list 1 (xs ++ (endsL s n pos).map ai)) := by
  intro n
  induction n with
  | zero =>
    intro m pos xs hn hm hx hp
    obtain ⟨m, rfl⟩ : ∃ m', m = m' + 1 := ⟨m - 1, by omega⟩
    rw [ref05_Ends_L0_s, show decide ((pos : Int) < (s.size : Int)) = false from by simp; omega]
    simp [endsL]
  | succ n ih =>
    intro m pos xs hn hm hx hp
    obtain ⟨m, rfl⟩ : ∃ m', m = m' + 1 := ⟨m - 1, by omega⟩
    by_cases hlt : pos < s.size
    · have hw := nx_gt s pos
      rw [ref05_Ends_L0_s, show decide ((pos : Int) < (s.size : Int)) = true from by simp; omega, h51 pos hlt, cond_true, callI_ok]
      rw [show (decide ((xs.length + 1) * 8 ≤ 140737488355328) && decide (xs.length + 1 ≤ 9223372036854775807)) = true from by simp; omega]
      simp only [cond_true]
      unfold endsL
      rw [if_pos hlt]
      by_cases hb : bad s pos
      · rw [if_pos hb, sizeS_bad hb, show decide (((0 : Nat) : Int) = 0) = true from rfl, cond_true]
        have e := nx_bad hb
        rw [i64w (x := (pos : Int) + 1) (by omega), i64w (x := 0 - ((pos : Int) + 1)) (by omega), show (pos : Int) + 1 = ((nx s pos : Nat) : Int) from by omega,
          ih m (nx s pos) _ (by omega) (by omega) (by simp; omega) (by omega)]
        simp [ai]
      · obtain ⟨e1, e2⟩ := sizeS_good hb
        rw [if_neg hb, show decide (((sizeS s pos : Nat) : Int) = 0) = false from by simp; omega, cond_false]
        have e : nx s pos = pos + sizeS s pos := by rw [e1]; rfl
        rw [i64w (x := (pos : Int) + (sizeS s pos : Int)) (by omega), show (pos : Int) + (sizeS s pos : Int) = ((nx s pos : Nat) : Int) from by omega,
          ih m (nx s pos) _ (by omega) (by omega) (by simp; omega) (by omega)]
        simp [ai]
    · rw [ref05_Ends_L0_s, show decide ((pos : Int) < (s.size : Int)) = false from by simp; omega]
      unfold endsL
      rw [if_neg hlt]
      simp
theorem ref05_Ends_spec {K : Nat} {s : ByteArray} (hs : s.size ≤ 1000000) (hK : s.size < K) (h51 : ∀ i, i < s.size → kp E K n ref05_size [.str s, .int .i64 (i : Int)] = some (.int .i64 (sizeS s i : Int))) : kp E K (n + 1) ref05_Ends [.str s] = some (.list 1 ((ends s).map ai)) := by
  rw [ref05_Ends_eq]
  exact L16 hs h51 s.size K 0 [] (by omega) hK (by simp) (by omega)

/-- The place of the first byte that is no part of a code point; -1: there is none. -/
def firstL (s : ByteArray) : Nat → Nat → Int
  | 0, _ => -1
  | n + 1, pos => if pos < s.size then (if bad s pos then (pos : Int) else firstL s n (nx s pos)) else -1
def first (s : ByteArray) : Int := firstL s s.size 0
theorem utf_wrong_spec {K : Nat} {s : ByteArray} {i : Nat} (hi : i < s.size) (h69 : ∀ t, kp E K n unicode_utf8_DecodeRuneInString [.str t] = some (.tup [.int .i32 ((goDec t).1 : Int), .int .i64 ((goDec t).2 : Int)])) :
    kp E K (n + 1) utf_wrong [.str s, .int .i64 (i : Int), .int .i32 ((Utf8.decode s i).1 : Int)] = some (.bool (decide (bad s i))) := by
  rw [utf_wrong_eq]
  by_cases h : (Utf8.decode s i).1 = 65533
  · rw [show decide ((((Utf8.decode s i).1 : Nat) : Int) = 65533) = true from by simp; omega, show (decide ((0 : Int) ≤ (i : Int)) && decide ((i : Int) ≤ (s.size : Int))) = true from by simp; omega]
    simp only [Bool.not_true, cond_false, cond_true, h69, callT_ok, tupI_ok, atNil_ok]
    have e : goDec (s.extract ((i : Int)).toNat s.size) = Utf8.decode s i := by
      rw [show ((i : Int)).toNat = i from by omega]
      unfold goDec
      rw [if_neg (by rw [tail_size]; omega), decode_at, decode_at, tail_size, Nat.sub_zero]
      simp only [tail_get!, Nat.add_zero, Nat.zero_add]
    rw [e]
    congr 2
    refine decide_eq_decide.2 ?_
    unfold bad
    rw [Prod.ext_iff]
    simp only [h, true_and]
    omega
  · rw [show decide ((((Utf8.decode s i).1 : Nat) : Int) = 65533) = false from by simp; omega]
    simp only [Bool.not_false, cond_true]
    rw [show decide (bad s i) = false from by simp only [decide_eq_false_iff_not]; intro hb; exact h (by rw [show Utf8.decode s i = _ from hb])]
theorem L13 {K : Nat} {s : ByteArray} (h50 : ∀ i, i < s.size → kap utf_wrong [.str s, .int .i64 (i : Int), .int .i32 ((Utf8.decode s i).1 : Int)] = some (.bool (decide (bad s i)))) :
    ∀ (n m pos : Nat), s.size ≤ pos + n → n < m → utf_First_L0 kap K m s s pos = some (.int .i64 (firstL s n pos)) := by
  intro n
  induction n with
  | zero =>
    intro m pos hn hm
    obtain ⟨m, rfl⟩ : ∃ m', m = m' + 1 := ⟨m - 1, by omega⟩
    rw [utf_First_L0_s, show decide (pos < s.size) = false from by simp; omega]
    rfl
  | succ n ih =>
    intro m pos hn hm
    obtain ⟨m, rfl⟩ : ∃ m', m = m' + 1 := ⟨m - 1, by omega⟩
    unfold firstL
    by_cases hlt : pos < s.size
    · have hw := nx_gt s pos
      rw [utf_First_L0_s, show decide (pos < s.size) = true from by simpa using hlt, h50 pos hlt, if_pos hlt]
      simp only [cond_true, callB_ok]
      by_cases hb : bad s pos
      · rw [if_pos hb, decide_eq_true hb]; rfl
      · rw [if_neg hb, decide_eq_false hb]
        exact ih m (nx s pos) (by omega) (by omega)
    · rw [utf_First_L0_s, show decide (pos < s.size) = false from by simpa using hlt, if_neg hlt]
      rfl
theorem utf_First_spec {K : Nat} {s : ByteArray} (hK : s.size < K) (h50 : ∀ i, i < s.size → kp E K n utf_wrong [.str s, .int .i64 (i : Int), .int .i32 ((Utf8.decode s i).1 : Int)] = some (.bool (decide (bad s i)))) : kp E K (n + 1) utf_First [.str s] = some (.int .i64 (first s)) := by
  rw [utf_First_eq]
  exact L13 h50 s.size K 0 (by omega) hK
theorem utf_Right_spec {K : Nat} {s : ByteArray} (h13 : kp E K n utf_First [.str s] = some (.int .i64 (first s))) : kp E K (n + 1) utf_Right [.str s] = some (.bool (decide (first s < 0))) := by
  rw [utf_Right_eq, h13]
  rfl
/-- The first of the ends that is below zero. -/
def firstNeg : List Int → Int
  | [] => -1
  | e :: l => if e < 0 then -e - 1 else firstNeg l
theorem L12 {K : Nat} {es : List Int} (hes : ∀ e ∈ es, -1000010 ≤ e ∧ e ≤ 1000010) (hl : es.length ≤ 1000000) : ∀ (n m j : Nat), es.length ≤ j + n → n < m → ref05_First_L0 kap K m (es.map ai) (j : Int) = some (.int .i64 (firstNeg (es.drop j))) := by
  intro n
  induction n with
  | zero =>
    intro m j hn hm
    obtain ⟨m, rfl⟩ : ∃ m', m = m' + 1 := ⟨m - 1, by omega⟩
    rw [ref05_First_L0_s, show decide ((j : Int) < ((es.map ai).length : Int)) = false from by simp; omega, List.drop_eq_nil_of_le (by omega)]
    rfl
  | succ n ih =>
    intro m j hn hm
    obtain ⟨m, rfl⟩ : ∃ m', m = m' + 1 := ⟨m - 1, by omega⟩
    by_cases hlt : j < es.length
    · have he := hes es[j] (List.getElem_mem hlt)
      rw [ref05_First_L0_s, show decide ((j : Int) < ((es.map ai).length : Int)) = true from by simp; omega, show decide ((0 : Int) ≤ (j : Int)) = true from by simp, show ((j : Int)).toNat = j from by omega]
      rw [List.getElem?_map, List.getElem?_eq_getElem hlt, List.drop_eq_getElem_cons hlt]
      simp only [cond_true, Bool.and_self, Option.map_some, Option.bind_some, AV.cells, cellI_0, firstNeg, ai]
      by_cases h0 : es[j] < 0
      · rw [if_pos h0, show decide (es[j] < 0) = true from by simpa using h0, cond_true, i64w (x := 0 - es[j]) (by omega), i64w (x := 0 - es[j] - 1) (by omega)]
        congr 2
        omega
      · rw [if_neg h0, show decide (es[j] < 0) = false from by simpa using h0, cond_false, i64w (x := (j : Int) + 1) (by omega), show (j : Int) + 1 = ((j + 1 : Nat) : Int) from by omega]
        exact ih m (j + 1) (by omega) (by omega)
    · rw [ref05_First_L0_s, show decide ((j : Int) < ((es.map ai).length : Int)) = false from by simp; omega, List.drop_eq_nil_of_le (by omega)]
      rfl
theorem endsL_range (s : ByteArray) : ∀ (n pos : Nat), pos ≤ s.size + 4 → ∀ e ∈ endsL s n pos, -((s.size : Int) + 8) ≤ e ∧ e ≤ (s.size : Int) + 8
  | 0, pos, hp, e, he => by simp [endsL] at he
  | n + 1, pos, hp, e, he => by
    have hw := nx_gt s pos
    unfold endsL at he
    split at he
    · rename_i hlt
      rcases List.mem_cons.1 he with rfl | he
      · split <;> omega
      · exact endsL_range s n (nx s pos) (by omega) e he
    · simp at he
theorem endsL_length (s : ByteArray) : ∀ (n pos : Nat), (endsL s n pos).length ≤ n
  | 0, pos => by simp [endsL]
  | n + 1, pos => by
    unfold endsL
    split
    · have := endsL_length s n (nx s pos)
      simp; omega
    · simp
theorem ref05_First_spec {K : Nat} {s : ByteArray} (hs : s.size ≤ 1000000) (hK : s.size < K) (h16 : kp E K n ref05_Ends [.str s] = some (.list 1 ((ends s).map ai))) : kp E K (n + 1) ref05_First [.str s] = some (.int .i64 (firstNeg (ends s))) := by
  rw [ref05_First_eq, h16]
  have hl := endsL_length s s.size 0
  exact L12 (fun e he => by have := endsL_range s s.size 0 (by omega) e he; omega) (by unfold ends; omega) s.size K 0 (by unfold ends; omega) hK
theorem first_ends (s : ByteArray) : ∀ (n pos : Nat), firstNeg (endsL s n pos) = firstL s n pos
  | 0, pos => rfl
  | n + 1, pos => by
    have hw := nx_gt s pos
    unfold endsL firstL
    split
    · rename_i hlt
      simp only [firstNeg]
      by_cases hb : bad s pos
      · have := nx_bad hb
        rw [if_pos hb, if_pos hb, if_pos (by omega)]
        omega
      · rw [if_neg hb, if_neg hb, if_neg (by omega)]
        exact first_ends s n _
    · rfl
end Go.Proofs.YtogfcfgfkggmlaaGreatDoor.Eng.U


/- Which texts hold = or a nought, told exactly. -/
set_option linter.unusedVariables false
set_option linter.unusedSectionVars false
set_option linter.unusedSimpArgs false
namespace Go.Proofs.YtogfcfgfkggmlaaGreatDoor.Eng.U
open Go Go.Proofs Go.Proofs.YtogfcfgfkggmlaaGreatDoor.Eng
variable {E : Ext} [Core E] {k n : Nat}

def noEq (s : List UInt8) : Bool := s.all fun c => decide (c ≠ 61) && decide (c ≠ 0)
theorem idx_rune (r : Nat) (h : r < 128) : (0 : Int) ≤ Lib.indexByte [61, 0] (IntKind.wrap .u8 (r : Int)).toNat.toUInt8 ↔ r = 61 ∨ r = 0 := by
  have : ∀ r : _root_.Fin 128, ((0 : Int) ≤ Lib.indexByte [61, 0] (IntKind.wrap .u8 ((r.1 : Nat) : Int)).toNat.toUInt8 ↔ r.1 = 61 ∨ r.1 = 0) := by decide +kernel
  exact this ⟨r, h⟩
theorem rune_V [HasIB E] (r : Nat) (hk : 10 < k) : ∃ i : Int, kp E k (n + 2) strings_IndexRune [.str (str [61, 0]), .int .i32 (r : Int)] = some (.int .i64 i) ∧ (0 ≤ i ↔ r = 61 ∨ r = 0) := by
  obtain ⟨k, rfl⟩ : ∃ j, k = j + 3 := ⟨k - 3, by omega⟩
  rw [strings_IndexRune_eq, bif_t (by omega)]
  by_cases h1 : r < 128
  · rw [bif_t (by omega), HasIB.indexB, callI_ok]; exact ⟨_, rfl, idx_rune r h1⟩
  · rw [bif_f (by omega)]
    by_cases h2 : (r : Int) = 65533
    · rw [bif_t h2]
      have d0 : Utf8.decode (str [61, 0]) 0 = (61, 1) := by decide +kernel
      have d1 : Utf8.decode (str [61, 0]) 1 = (0, 1) := by decide +kernel
      have sz : (str [61, 0]).size = 2 := rfl
      have z1 : 0 + ((61, 1) : Nat × Nat).2 = 1 := rfl
      have z2 : 1 + ((0, 1) : Nat × Nat).2 = 2 := rfl
      rw [strings_IndexRune_L0_s, sz, d0, z1, bif_t (by omega), bif_f (by decide), strings_IndexRune_L0_s, sz, d1, z2, bif_t (by omega), bif_f (by decide), strings_IndexRune_L0_s, sz, bif_f (by omega)]
      exact ⟨_, rfl, by omega⟩
    · rw [bif_f h2]
      obtain ⟨b, hb⟩ := valid_B (E := E) (k := k + 3) (n := n) (r : Int)
      rw [hb, callB_ok]
      cases b with
      | false => exact ⟨_, rfl, by omega⟩
      | true =>
        rw [Bool.not_true, cond_false]
        have sz : (str [61, 0]).size = 2 := rfl
        rcases enc_facts r (by omega) with ⟨e1, e2⟩ | e1 | e1
        · rw [e1, i64w (by omega), strings_IndexRune_L1_s, sz, e1]
          have hb1 : byteAt (str [61, 0]) 1 = 0 := rfl
          have e3 : Int.toNat (((2 : Nat) : Int) - 1) = 1 := rfl
          rw [bif_t (by omega), bif_a, bif_t (by omega), bif_t (by omega), bif_a, bif_t (by omega), bif_t (by omega), e3, hb1, decide_eq_false (by omega), Bool.not_false, cond_true, i64w (by omega), bif_a, bif_t (by omega), bif_t (by omega), bif_a, bif_t (by omega), bif_t (by omega)]
          have e4 : Int.toNat (((2 : Nat) : Int) - 1 + 1) = 2 := rfl
          have e5 : ByteArray.extract (str [61, 0]) 2 2 = str [] := by decide +kernel
          rw [e4, e5, HasIB.indexB, callI_ok]
          have e6 : Lib.indexByte [] (byteAt (Utf8.encode (r : Int)) 1).toNat.toUInt8 = -1 := rfl
          rw [e6, bif_t (by omega)]
          exact ⟨_, rfl, by omega⟩
        · rw [e1, i64w (by omega), strings_IndexRune_L1_s, sz, bif_f (by omega)]; exact ⟨_, rfl, by omega⟩
        · rw [e1, i64w (by omega), strings_IndexRune_L1_s, sz, bif_f (by omega)]; exact ⟨_, rfl, by omega⟩
theorem dec_low (s : ByteArray) (i : Nat) (h : by_ s i < 128) : Utf8.decode s i = (by_ s i, 1) := by
  rw [Lib.decode_at, get_by, get_by, get_by, get_by]
  unfold Lib.decodeN
  rw [if_pos h]
theorem dec_wide (s : ByteArray) (i : Nat) (h : 128 ≤ by_ s i) : 128 ≤ (Utf8.decode s i).1 ∧ ∀ j, j < (Utf8.decode s i).2 → 128 ≤ by_ s (i + j) := by
  rw [Lib.decode_at, get_by, get_by, get_by, get_by]
  unfold Lib.decodeN
  rw [if_neg (by omega)]
  have key : ∀ (c w : Nat), 128 ≤ c → (w ≤ 4) → (1 < w → 128 ≤ by_ s (i + 1)) → (2 < w → 128 ≤ by_ s (i + 2)) → (3 < w → 128 ≤ by_ s (i + 3)) → 128 ≤ ((c, w) : Nat × Nat).1 ∧ ∀ j, j < ((c, w) : Nat × Nat).2 → 128 ≤ by_ s (i + j) := by
    intro c w hc hw h1 h2 h3
    refine ⟨hc, fun j hj => ?_⟩
    have hj : j < w := hj
    have : j = 0 ∨ j = 1 ∨ j = 2 ∨ j = 3 := by omega
    rcases this with rfl | rfl | rfl | rfl
    · exact h
    · exact h1 (by omega)
    · exact h2 (by omega)
    · exact h3 (by omega)
  repeat' split
  all_goals exact key _ _ (by omega) (by omega) (by omega) (by omega) (by omega)
theorem any_lv [HasIB E] (hk : 10 < k) (s : List UInt8) : ∀ (m k0 i : Nat), s.length - i < m → m ≤ k0 → ∃ r : Int, strings_IndexAny_L0 (kp E k (n + 2)) k k0 (str [61, 0]) (str s) i = some (.int .i64 r) ∧ (0 ≤ r ↔ ∃ j, i ≤ j ∧ j < s.length ∧ (by_ (str s) j = 61 ∨ by_ (str s) j = 0))
  | 0, k0, i, h, _ => by omega
  | m + 1, k0 + 1, i, h, hkk => by
    rw [strings_IndexAny_L0_s, str_size]
    by_cases hi : i < s.length
    · rw [decide_eq_true hi, cond_true]
      obtain ⟨x, hx, hxi⟩ := rune_V (E := E) (k := k) (n := n) (Utf8.decode (str s) i).1 hk
      rw [hx, callI_ok]
      have hw := width_pos (str s) i
      by_cases h0 : x ≥ 0
      · rw [bif_t h0]
        refine ⟨_, rfl, by
          constructor
          · intro _
            refine ⟨i, by omega, hi, ?_⟩
            by_cases hb : by_ (str s) i < 128
            · have := dec_low (str s) i hb
              have h1 := hxi.1 h0
              rw [this] at h1
              exact h1
            · have := (dec_wide (str s) i (by omega)).1
              have h1 := hxi.1 h0
              omega
          · intro _; omega⟩
      · rw [bif_f h0]
        obtain ⟨r, hr, hri⟩ := any_lv hk s m k0 (i + (Utf8.decode (str s) i).2) (by omega) (by omega)
        refine ⟨r, hr, hri.trans ⟨fun ⟨j, a, b, c⟩ => ⟨j, by omega, b, c⟩, fun ⟨j, a, b, c⟩ => ⟨j, ?_, b, c⟩⟩⟩
        have hn : ¬ ((Utf8.decode (str s) i).1 = 61 ∨ (Utf8.decode (str s) i).1 = 0) := fun h => h0 (hxi.2 h)
        by_cases hb : by_ (str s) i < 128
        · rw [dec_low (str s) i hb] at hn ⊢
          have hn : ¬ (by_ (str s) i = 61 ∨ by_ (str s) i = 0) := hn
          show i + 1 ≤ j
          by_cases e : i = j
          · subst e; exact absurd c hn
          · omega
        · have hall := (dec_wide (str s) i (by omega)).2
          by_cases e : i + (Utf8.decode (str s) i).2 ≤ j
          · exact e
          · have := hall (j - i) (by omega)
            rw [show i + (j - i) = j by omega] at this
            omega
    · rw [decide_eq_false hi, cond_false]
      exact ⟨_, rfl, ⟨fun h => by omega, fun ⟨j, a, b, _⟩ => by omega⟩⟩
theorem noEq_iff (s : List UInt8) : noEq s = false ↔ ∃ j, 0 ≤ j ∧ j < s.length ∧ (by_ (str s) j = 61 ∨ by_ (str s) j = 0) := by
  rw [noEq, List.all_eq_false]
  constructor
  · rintro ⟨c, hc, h⟩
    obtain ⟨j, hj, rfl⟩ := List.mem_iff_getElem.1 hc
    refine ⟨j, by omega, hj, ?_⟩
    have e : by_ (str s) j = (s[j]).toNat := by
      show ((str s).data.toList.getD j 0).toNat = _
      rw [show (str s).data.toList = s from rfl, List.getD_eq_getElem?_getD, List.getElem?_eq_getElem hj]; rfl
    rw [e]
    simp only [ne_eq, Bool.and_eq_true, decide_eq_true_eq] at h
    by_cases h6 : s[j] = 61
    · left; rw [h6]; rfl
    · by_cases h7 : s[j] = 0
      · right; rw [h7]; rfl
      · exact absurd ⟨h6, h7⟩ h
  · rintro ⟨j, _, hj, h⟩
    refine ⟨s[j], List.getElem_mem hj, ?_⟩
    have e : by_ (str s) j = (s[j]).toNat := by
      show ((str s).data.toList.getD j 0).toNat = _
      rw [show (str s).data.toList = s from rfl, List.getD_eq_getElem?_getD, List.getElem?_eq_getElem hj]; rfl
    rw [e] at h
    simp only [ne_eq, Bool.and_eq_true, decide_eq_true_eq]
    rintro ⟨h6, h7⟩
    rcases h with h | h
    · exact h6 (UInt8.toNat_inj.1 h)
    · exact h7 (UInt8.toNat_inj.1 h)
theorem any_short_v [HasIB E] (hB : E.isBase strings_IndexAny = false) (hF : E.fs.contains strings_IndexAny = true) (hk : 10 < k) (s : List UInt8) (hs : s.length ≤ 8) : ∃ r : Int, kp E k (n + 3) strings_IndexAny [.str (str s), .str (str [61, 0])] = some (.int .i64 r) ∧ decide (r ≥ 0) = !noEq s := by
  have sz : (str [61, 0]).size = 2 := rfl
  rw [strings_IndexAny_eq hB hF, sz, str_size, bif_f (by decide), bif_f (by omega), strings_shouldUseASCIISet_eq, callB_ok, bif_f (by omega)]
  obtain ⟨r, hr, h⟩ := any_lv (E := E) (n := n) hk s k k 0 (by omega) (Nat.le_refl _)
  refine ⟨r, hr, ?_⟩
  rw [← noEq_iff] at h
  cases hq : noEq s with
  | true => rw [hq] at h; simp only [Bool.true_eq_false, iff_false] at h; rw [decide_eq_false h]; rfl
  | false => rw [hq] at h; simp only [iff_true] at h; rw [decide_eq_true h]; rfl
theorem any_long_v (s : List UInt8) : decide (Lib.indexAny s [61, 0] ≥ 0) = !noEq s := by
  induction s with
  | nil => rfl
  | cons b l ih =>
    have hg := Lib.indexAny_ge [61, 0] l
    unfold Lib.indexAny noEq
    rw [List.all_cons]
    by_cases hb : b = 61 ∨ b = 0
    · have e : List.contains [61, 0] b = true := by rcases hb with rfl | rfl <;> rfl
      rw [if_pos e]
      rcases hb with rfl | rfl <;> rfl
    · have e : List.contains [61, 0] b = false := by
        simp only [not_or] at hb
        simp [List.contains_cons, hb.1, hb.2]
      rw [e]
      simp only [not_or] at hb
      rw [decide_eq_true hb.1, decide_eq_true hb.2, Bool.and_self, Bool.true_and]
      rw [show (l.all fun c => decide (c ≠ 61) && decide (c ≠ 0)) = noEq l from rfl, ← ih]
      by_cases h1 : Lib.indexAny l [61, 0] = -1
      · rw [h1]; rfl
      · have h2 : (Lib.indexAny l [61, 0] == -1) = false := by simpa using h1
        rw [h2]
        simp only [Bool.false_eq_true, if_false]
        rw [decide_eq_decide]
        omega
class HasTextV (E : Ext) : Prop where
  dec : ∀ (k n : Nat) (s : ByteArray), kp E k n unicode_utf8_DecodeRuneInString [.str s] = some (.tup [.int .i32 ((goDec s).1 : Int), .int .i64 ((goDec s).2 : Int)])
  idx : ∀ (k n : Nat) (s : List UInt8), s.length ≤ 1000000 → ∃ i : Int, kp E k n strings_IndexAny [.str (str s), .str (str [61, 0])] = some (.int .i64 i) ∧ decide (i ≥ 0) = !noEq s
end Go.Proofs.YtogfcfgfkggmlaaGreatDoor.Eng.U


/- The functions of the Dec laws in plain words, part 4: the document's own reading of a time. -/
set_option linter.unusedVariables false
set_option linter.unusedSectionVars false
set_option linter.unusedSimpArgs false
namespace Go.Proofs.YtogfcfgfkggmlaaGreatDoor.Eng.U
open Go Go.Proofs Go.Proofs.YtogfcfgfkggmlaaGreatDoor.Eng Go.Proofs.YtogfcfgfkggmlaaGreatDoor.P04
variable {E : Ext} [Core E] {k n : Nat}

theorem byte46 (c : UInt8) : decide (((c.toNat : Nat) : Int) = (46 : Int)) = decide (c = 46) := byte_is c 46 (by omega)
theorem byte45 (c : UInt8) : decide (((c.toNat : Nat) : Int) = (45 : Int)) = decide (c = 45) := byte_is c 45 (by omega)
/-- The first point from a place on. -/
def dotAt (t : List UInt8) (i : Nat) : Nat := i + dot (t.drop i)
theorem dotAt_step (t : List UInt8) (i : Nat) (h : i < t.length) : dotAt t i = if t.getD i 0 = 46 then i else dotAt t (i + 1) := by
  unfold dotAt
  rw [List.drop_eq_getElem_cons h]
  have e : t.getD i 0 = t[i] := by simp [List.getD_eq_getElem?_getD, List.getElem?_eq_getElem h]
  rw [e]
  unfold dot
  rw [List.findIdx_cons]
  by_cases hc : t[i] = 46
  · rw [if_pos hc, hc]; rfl
  · rw [if_neg hc, beq_eq_false_iff_ne.2 hc, cond_false]; omega
theorem back_loop (kap : FuncId → List AV → Option AV) (t : List UInt8) (q : Bool) (ht : t.length < 100000000000) : ∀ (i k0 : Nat), i < k0 → i ≤ t.length → ref04_Time_L0 kap k k0 (str t) q (dotAt t i : Int) ((i : Int) - 1) 0 0 = ref04_Time_L0 kap k 1 (str t) q (dot t : Int) (-1) 0 0
  | 0, k0 + 1, _, _ => by
    have e : ((0 : Nat) : Int) - 1 = -1 := rfl
    have e' : dotAt t 0 = dot t := by simp [dotAt]
    rw [e, e', ref04_Time_L0_s, ref04_Time_L0_s kap k 0, bif_f (by omega), bif_f (by omega)]
  | i + 1, k0 + 1, h, hi => by
    have ih := back_loop kap t q ht i k0 (by omega) (by omega)
    rw [dotAt_step t i (by omega)] at ih
    have e : ((i + 1 : Nat) : Int) - 1 = (i : Int) := by omega
    rw [e, ref04_Time_L0_s, bif_t (by omega), str_size, bif_a, bif_t (by omega), bif_t (by omega), Int.toNat_natCast, str_byte, byte46, i64w (x := (i : Int) - 1) (by omega)]
    by_cases hc : t.getD i 0 = 46
    · rw [if_pos hc] at ih
      rw [decide_eq_true hc, cond_true, ih]
    · rw [if_neg hc] at ih
      rw [decide_eq_false hc, cond_false, ih]
theorem nano_step (b : List UInt8) (hb : b.length ≤ 9) (j : Nat) (hj : j < 9) : valA 0 ((b ++ List.replicate (9 - b.length) 48).take (j + 1)) = valA 0 ((b ++ List.replicate (9 - b.length) 48).take j) * 10 + (if j < b.length then (b.getD j 0).toNat - 48 else 0) := by
  have hl : (b ++ List.replicate (9 - b.length) (48 : UInt8)).length = 9 := by rw [List.length_append, List.length_replicate]; omega
  rw [List.take_succ_eq_append_getElem (by omega), valA_app]
  have e : ∀ (a : Nat) (c : UInt8), valA a [c] = a * 10 + (c.toNat - 48) := fun a c => rfl
  rw [e]
  congr 1
  by_cases h : j < b.length
  · rw [if_pos h, List.getElem_append_left h]
    simp [List.getD_eq_getElem?_getD, h]
  · rw [if_neg h, List.getElem_append_right (by omega), List.getElem_replicate]
    rfl
theorem nano_loop (kap : FuncId → List AV → Option AV) (q ok : Bool) (sec : Int) (b : List UInt8) (hb : b.length ≤ 9) (hd : digs b = true) : ∀ (r j k0 : Nat), r + j = 9 → r < k0 →
    ref04_Time_L1 kap k k0 q sec ok (valA 0 ((b ++ List.replicate (9 - b.length) 48).take j) : Int) (str b) (j : Int) 0 0 = ref04_Time_L1 kap k 1 q sec ok (valA 0 (b ++ List.replicate (9 - b.length) 48) : Int) (str b) 9 0 0
  | 0, j, k0 + 1, h, _ => by
    obtain rfl : j = 9 := by omega
    have hl : (b ++ List.replicate (9 - b.length) (48 : UInt8)).length = 9 := by rw [List.length_append, List.length_replicate]; omega
    rw [List.take_of_length_le (by omega)]
    have e : ((9 : Nat) : Int) = 9 := rfl
    rw [e, ref04_Time_L1_s, ref04_Time_L1_s kap k 0, bif_f (show ¬ (9 : Int) < 9 by omega), bif_f (show ¬ (9 : Int) < 9 by omega)]
  | r + 1, j, k0 + 1, h, hk => by
    have ih := nano_loop kap q ok sec b hb hd r (j + 1) k0 (by omega) (by omega)
    obtain ⟨q1, q2⟩ := nano_digs hd hb
    have hall := digs_all q1
    have hv : valA 0 ((b ++ List.replicate (9 - b.length) 48).take j) < 1000000000 := by
      have hlt := valA_lt ((b ++ List.replicate (9 - b.length) (48 : UInt8)).take j) 0 0 (List.all_eq_true.2 fun x hx => List.all_eq_true.1 hall x (List.mem_of_mem_take hx)) (by omega)
      have : 10 ^ (0 + ((b ++ List.replicate (9 - b.length) (48 : UInt8)).take j).length) ≤ 10 ^ 9 := Nat.pow_le_pow_right (by omega) (by rw [List.length_take]; omega)
      omega
    rw [nano_step b hb j (by omega)] at ih
    generalize valA 0 ((b ++ List.replicate (9 - b.length) 48).take j) = a at hv ih
    rw [ref04_Time_L1_s, bif_t (by omega), str_size, i64w (x := (10 : Int) * (a : Int)) (by omega), wrap1 (by omega)]
    by_cases hj : j < b.length
    · have hc : isDig (b.getD j 0) = true := by
        rw [List.getD_eq_getElem?_getD, List.getElem?_eq_getElem hj]
        exact List.all_eq_true.1 (digs_all hd) _ (List.getElem_mem hj)
      have hc := dig_iff.1 hc
      rw [if_pos hj] at ih
      rw [bif_t (by omega), bif_a, bif_t (by omega), bif_t (by omega), Int.toNat_natCast, str_byte, i64w (x := (((b.getD j 0).toNat : Nat) : Int)) (by omega), i64w (x := (10 : Int) * (a : Int) + (((b.getD j 0).toNat : Nat) : Int)) (by omega), i64w (x := (10 : Int) * (a : Int) + (((b.getD j 0).toNat : Nat) : Int) - 48) (by omega)]
      rw [← ih]
      congr 1
      omega
    · rw [if_neg hj] at ih
      rw [bif_f (by omega), ← ih]
      congr 1
      omega
def timeRV : Option (Int × Int) → AV
  | some (a, b) => .tup [.agg [.int .i64 a, .int .i64 b], .bool true]
  | none => .tup [.agg [.int .i64 0, .int .i64 0], .bool false]
def endT (q ok : Bool) (v w : Nat) : Option (Int × Int) :=
  if ok = false then none
  else if q = false then (if 9223372036854775807 < v then none else some ((v : Int), (w : Int)))
  else if w = 0 then some (-(v : Int), 0)
  else if 9223372036854775807 < v then none
  else some (-(v : Int) - 1, 1000000000 - (w : Int))
theorem nano_end (kap : FuncId → List AV → Option AV) (q ok : Bool) (v w : Nat) (s : ByteArray) (hv : v ≤ 9223372036854775808) (hw : w < 1000000000) : ref04_Time_L1 kap k 1 q (if ok then -(v : Int) else 0) ok (w : Int) s 9 0 0 = some (timeRV (endT q ok v w)) := by
  rw [ref04_Time_L1_s kap k 0, bif_f (show ¬ (9 : Int) < 9 by omega)]
  cases ok with
  | false => rfl
  | true =>
    simp only [if_true, Bool.not_true, Bool.not_false, cond_true, cond_false, endT, if_neg (show ¬ true = false by decide)]
    cases q with
    | false =>
      simp only [if_true, Bool.not_true, Bool.not_false, cond_true, cond_false]
      by_cases h : 9223372036854775807 < v
      · rw [bif_t (by omega), if_pos h]; rfl
      · rw [bif_f (by omega), if_neg h, i64w (by omega), show (0 : Int) - -(v : Int) = (v : Int) from by omega]; rfl
    | true =>
      simp only [if_true, Bool.not_true, Bool.not_false, cond_true, cond_false, if_neg (show ¬ true = false by decide)]
      by_cases h0 : w = 0
      · subst h0
        rw [if_pos rfl]
        by_cases h : 9223372036854775807 < v
        · rw [bif_t (by omega), bif_f (by omega), bif_t (by omega)]; rfl
        · rw [bif_f (by omega), bif_t (by omega)]; rfl
      · rw [if_neg h0]
        by_cases h : 9223372036854775807 < v
        · rw [bif_t (by omega), bif_t (by omega), if_pos h]; rfl
        · rw [bif_f (by omega), bif_f (by omega), if_neg h, i64w (x := -(v : Int) - 1) (by omega), i64w (by omega)]; rfl
theorem refBody (t : List UInt8) (q : Bool) (ht : t.length < 100000000000) (hk : t.length < k) (h9 : 10 < k) : ref04_Time_L0 (kp E k (n + 2)) k k (str t) q ((t.length : Nat) : Int) (((t.length : Nat) : Int) - 1) 0 0 = some (timeRV (timeB q t)) := by
  have e : dotAt t t.length = t.length := by simp [dotAt, dot]
  have hb := back_loop (k := k) (kp E k (n + 2)) t q ht t.length k hk (Nat.le_refl _)
  rw [e] at hb
  rw [hb, ref04_Time_L0_s]
  have hdl : dot t ≤ t.length := List.findIdx_le_length
  rw [bif_f (by omega), str_size, bif_a, bif_t (by omega), bif_t (by omega), Int.toNat_natCast, str_ext, List.drop_zero, below_k (n := n) (t.take (dot t)) (by rw [List.length_take]; omega) (by rw [List.length_take]; omega)]
  simp (disch := first | omega | (simp only [List.length_append, List.length_cons, List.length_nil, List.length_take, List.length_drop]; done) | (simp only [List.length_append, List.length_cons, List.length_nil, List.length_take, List.length_drop]; omega) | fail) only [bif_t, bif_f, bif_n, bif_a, callB_ok, callI_ok, callS_ok, callL_ok, callF_ok, callT_ok, tupB_ok, tupI_ok, tupS_ok, tupL_ok, tupF_ok, atNil_ok, wrap1, wrapM, wrapP, Int.toNat_natCast, svs_len, ivs_len, bvs_len, str_size, svs_mid, ivs_mid, str_dec, str_ext, str_byte, mid_byte, mid_cut, List.length_nil, List.length_singleton, svs_snoc, ivs_snoc, svs_take, svs_drop, str_app, List.take_length, List.drop_zero, List.nil_append, cond_true, cond_false, Option.bind_some, Bool.not_true, Bool.not_false, Bool.true_and, Bool.and_true]
  unfold timeB
  dsimp only
  have hv : natOk (t.take (dot t)) = true → valA 0 (t.take (dot t)) ≤ 9223372036854775808 := natOk_le
  generalize natOk (t.take (dot t)) = ok at hv
  generalize valA 0 (t.take (dot t)) = v at hv
  by_cases hp : dot t < t.length
  · rw [bif_t (by omega), bif_t (by omega)]
    have hbl : (t.drop (dot t + 1)).length ≤ t.length := by rw [List.length_drop]; omega
    generalize t.drop (dot t + 1) = b at hbl
    rw [only_k (n := n + 1) b (by omega) (by omega), callB_ok]
    cases hd : digs b with
    | false =>
      rw [cond_false]
      cases ok with
      | false => rfl
      | true => rw [if_neg (by simp), if_pos ⟨hp, by simp⟩]; rfl
    | true =>
      rw [cond_true]
      by_cases hl : b.length ≤ 9
      · obtain ⟨q1, q2⟩ := nano_digs hd hl
        obtain ⟨q3, q4⟩ := parseI_eq q1 (by omega)
        rw [bif_f (by omega)]
        have hn := nano_loop (k := k) (kp E k (n + 2)) q ok (if ok = true then -(v : Int) else 0) b hl hd 9 0 k rfl (by omega)
        rw [List.take_zero] at hn
        have e0 : ((valA 0 [] : Nat) : Int) = 0 := rfl
        have e1 : ((0 : Nat) : Int) = 0 := rfl
        rw [e0, e1] at hn
        rw [hn]
        generalize valA 0 (b ++ List.replicate (9 - b.length) 48) = w at q4
        cases ok with
        | false =>
          exact nano_end _ q false 0 w _ (by omega) q4
        | true =>
          rw [nano_end _ q true v w _ (hv rfl) q4]
          unfold endT
          have t1 : ¬ (true = false) := by decide
          have t2 : ¬ (dot t < t.length ∧ ¬ (true = true ∧ b.length ≤ 9)) := fun h => h.2 ⟨rfl, hl⟩
          rw [if_neg t1, if_neg t1, if_neg t2, if_pos hp]
      · rw [bif_t (by omega)]
        cases ok with
        | false => rfl
        | true => rw [if_neg (by simp), if_pos ⟨hp, fun h => hl h.2⟩]; rfl
  · rw [bif_f (by omega)]
    cases ok with
    | false => rfl
    | true =>
      have hv := hv rfl
      have t1 : ¬ (true = false) := by decide
      have t2 : ¬ (dot t < t.length ∧ ¬ (digs (t.drop (dot t + 1)) = true ∧ (t.drop (dot t + 1)).length ≤ 9)) := fun h => hp h.1
      have t3 : (if true = true then -(v : Int) else 0) = -(v : Int) := if_pos rfl
      rw [if_neg t1, if_neg t2, if_neg hp, t3]
      simp only [if_true, Bool.not_true, Bool.not_false, cond_true, cond_false]
      cases q with
      | false =>
        simp only [if_true, Bool.not_true, Bool.not_false, cond_true, cond_false]
        by_cases h : 9223372036854775807 < v
        · rw [bif_t (by omega), if_pos h]; rfl
        · rw [bif_f (by omega), if_neg h, i64w (by omega), show (0 : Int) - -(v : Int) = (v : Int) from by omega]; rfl
      | true =>
        simp only [if_true, Bool.not_true, Bool.not_false, cond_true, cond_false, if_neg (show ¬ true = false by decide)]
        by_cases h : 9223372036854775807 < v
        · rw [bif_t (by omega)]; rfl
        · rw [bif_f (by omega)]; rfl
theorem refTime_k (s : List UInt8) (hs : s.length < 100000000000) (hk : s.length < k) (h9 : 10 < k) : kp E k (n + 3) ref04_Time [.str (str s)] = some (timeRV (timeL s)) := by
  rw [ref04_Time_eq, str_size]
  unfold timeL
  cases s with
  | nil =>
    rw [bif_f (by simp), i64w (by simp)]
    exact refBody (n := n) [] false hs hk h9
  | cons c s =>
    have hl : (c :: s).length = s.length + 1 := rfl
    rw [bif_t (by omega), bif_t (by omega), str_byte, byte45]
    have hg : (c :: s).getD 0 0 = c := rfl
    rw [hg]
    by_cases hc : c = 45
    · subst hc
      have e : ByteArray.extract (str (45 :: s)) 1 (45 :: s).length = str s := ext_one 45 s
      rw [bif_t rfl, bif_t (by omega), e, str_size, i64w (by omega)]
      have := refBody (E := E) (k := k) (n := n) s true (by omega) (by omega) h9
      exact this
    · rw [bif_f hc, i64w (by omega), decide_eq_false hc]
      have := refBody (E := E) (k := k) (n := n) (c :: s) false hs hk h9
      rw [this]
      have hh : ¬ (c :: s).head? = some 45 := by simpa using hc
      rw [decide_eq_false hh, if_neg hh]
end Go.Proofs.YtogfcfgfkggmlaaGreatDoor.Eng.U


/- What a pair of a record is: both sides in plain words. -/
set_option linter.unusedVariables false
set_option linter.unusedSectionVars false
set_option linter.unusedSimpArgs false
namespace Go.Proofs.YtogfcfgfkggmlaaGreatDoor.Eng.U
open Go Go.Proofs Go.Proofs.YtogfcfgfkggmlaaGreatDoor.Eng Go.Proofs.YtogfcfgfkggmlaaGreatDoor.P04
variable {E : Ext} [Core E] [HasNum E] {k n : Nat}

def utfOk (l : List UInt8) : Bool := decide (first (str l) < 0)
theorem refFirst_k (l : List UInt8) (hl : l.length ≤ 1000000) (hk : l.length + 5 < k) : kp E k (n + 3) ref05_First [.str (str l)] = some (.int .i64 (first (str l))) := by
  obtain ⟨K, rfl⟩ : ∃ K, k = K + 5 := ⟨k - 5, by omega⟩
  have hs : (str l).size ≤ 1000000 := by rw [str_size]; exact hl
  have h1 : ∀ i, i < (str l).size → kp E (K + 5) (n + 1) ref05_size [.str (str l), .int .i64 (i : Int)] = some (.int .i64 (sizeS (str l) i : Int)) := fun i hi => size_spec hs hi
  have h2 := ref05_Ends_spec (E := E) (K := K + 5) (n := n + 1) hs (by rw [str_size]; omega) h1
  rw [ref05_First_spec hs (by rw [str_size]; omega) h2, ends, first_ends, first]
section
variable [HasTextV E]
theorem utf_k (l : List UInt8) (hk : l.length < k) : kp E k (n + 3) utf_Right [.str (str l)] = some (.bool (utfOk l)) := by
  have h1 : ∀ i, i < (str l).size → kp E k (n + 1) utf_wrong [.str (str l), .int .i64 (i : Int), .int .i32 ((Utf8.decode (str l) i).1 : Int)] = some (.bool (decide (bad (str l) i))) := fun i hi => utf_wrong_spec hi (HasTextV.dec k n)
  exact utf_Right_spec (utf_First_spec (by rw [str_size]; omega) h1)
theorem contains_k (s : List UInt8) (hs : s.length ≤ 1000000) : kp E k (n + 1) strings_ContainsAny [.str (str s), .str (str [61, 0])] = some (.bool (!noEq s)) := by
  obtain ⟨i, hi, h⟩ := HasTextV.idx (E := E) k n s hs
  rw [strings_ContainsAny_eq, hi, callI_ok, h]
end
def clean (s : List UInt8) : Bool := s.all fun c => decide (c ≠ 0)
theorem index0 (s : List UInt8) : decide (Lib.indexByte s 0 < 0) = clean s := by
  induction s with
  | nil => rfl
  | cons b l ih =>
    have hg := Lib.indexByte_ge l 0
    unfold Lib.indexByte clean
    rw [List.all_cons]
    by_cases hb : b = 0
    · subst hb; rfl
    · have h1 : (b == 0) = false := by simpa using hb
      rw [h1, decide_eq_true hb, Bool.true_and, show (l.all fun c => decide (c ≠ 0)) = clean l from rfl, ← ih]
      simp only [Bool.false_eq_true, if_false, beq_iff_eq]
      split
      · rename_i h; rw [h]
      · rename_i h
        rw [decide_eq_decide]
        omega
theorem index0_k (s : List UInt8) : kp E k n strings_IndexByte [.str (str s), .int .u8 0] = some (.int .i64 (Lib.indexByte s 0)) := HasNum.indexB k n s 0
theorem paxClean_k (s : List UInt8) : kp E k (n + 1) pax_clean [.str (str s)] = some (.bool (clean s)) := by
  rw [pax_clean_eq, index0_k, callI_ok, index0]
theorem get_loop (kap : FuncId → List AV → Option AV) : ∀ (suf pre acc : List UInt8) (k0 : Nat), suf.length < k0 → (pre ++ suf).length < 1000000000 → acc.length ≤ pre.length →
    ref02_Get_L0 kap k k0 (bys (pre ++ suf)) ((pre.length : Nat) : Int) (bys acc) = some (.str (str (acc ++ suf.takeWhile fun c => decide (c ≠ 0))))
  | [], pre, acc, k0 + 1, h, hb, ha => by
    have e : toBytes (bys acc) = some acc := toBytes_map acc
    rw [ref02_Get_L0_s, bys_len, bif_f (by simp), e]
    simp
  | c :: suf, pre, acc, k0 + 1, h, hb, ha => by
    have h' : suf.length < k0 := by simp only [List.length_cons] at h; omega
    have hb' : pre.length + (suf.length + 1) < 1000000000 := by simp only [List.length_append, List.length_cons] at hb; exact hb
    have e : toBytes (bys acc) = some acc := toBytes_map acc
    rw [ref02_Get_L0_s, bys_len, mid_len, bif_t (by omega), bif_a, bif_t (by omega), bif_t (by omega), Int.toNat_natCast, bys_mid, byte_c, bys_len]
    by_cases hc : c = 0
    · subst hc
      rw [show (!decide (((UInt8.toNat 0 : Nat) : Int) = 0)) = false from rfl, cond_false, e]
      simp
    · have h0 : ¬ ((c.toNat : Nat) : Int) = 0 := fun h => hc (UInt8.toNat_inj.1 (by show c.toNat = 0; omega))
      rw [decide_eq_false h0, Bool.not_false, cond_true, bif_a, bif_t (by omega), bif_t (by omega), bys_mid, byte_c, bif_a, bif_t (by omega), bif_t (by omega), i64w (by omega)]
      have e1 : bys acc ++ [AV.int .u8 ((c.toNat : Nat) : Int)] = bys (acc ++ [c]) := by unfold bys; rw [List.map_append]; rfl
      have e2 : ((pre.length : Nat) : Int) + 1 = (((pre ++ [c]).length : Nat) : Int) := by simp
      have e3 : pre ++ c :: suf = (pre ++ [c]) ++ suf := by simp
      rw [e1, e2, e3, get_loop kap suf (pre ++ [c]) (acc ++ [c]) k0 h' (by simp only [List.length_append, List.length_cons, List.length_nil]; omega) (by simp only [List.length_append, List.length_cons, List.length_nil]; omega)]
      rw [List.takeWhile_cons, decide_eq_true hc]
      simp
theorem takeWhile_all (p : UInt8 → Bool) : ∀ s : List UInt8, decide (s.takeWhile p = s) = s.all p
  | [] => rfl
  | c :: l => by
    rw [List.takeWhile_cons, List.all_cons]
    cases h : p c with
    | true => simp only [Bool.true_and, if_true, List.cons.injEq, true_and]; exact takeWhile_all p l
    | false => simp
theorem refClean_k (s : List UInt8) (hs : s.length < 1000000000) (hk : s.length < k) : kp E k (n + 2) ref02_Clean [.str (str s)] = some (.bool (clean s)) := by
  have h := get_loop (k := k) (kp E k n) s [] [] k hk (by simpa using hs) (by simp)
  rw [ref02_Clean_eq, str_bytes, ref02_Get_eq]
  have h' : ref02_Get_L0 (kp E k n) k k (s.map byteAV) (0 : Int) [] = some (.str (str (s.takeWhile fun c => decide (c ≠ 0)))) := by simpa [bys] using h
  rw [h', callS_ok, str_dec, takeWhile_all, clean]

def whichL (key : List UInt8) : Int :=
  if key = [112, 97, 116, 104] then 0 else if key = [108, 105, 110, 107, 112, 97, 116, 104] then 1 else if key = [117, 110, 97, 109, 101] then 2 else if key = [103, 110, 97, 109, 101] then 3 else if key = [117, 105, 100] then 4 else if key = [103, 105, 100] then 5 else if key = [115, 105, 122, 101] then 6 else if key = [109, 116, 105, 109, 101] then 7 else -1
theorem is_path (key : List UInt8) : decide (str key = str [112, 97, 116, 104]) = decide (whichL key = 0) := by
  rw [str_dec, decide_eq_decide]
  constructor
  · rintro rfl; rfl
  · intro h
    unfold whichL at h
    repeat' split at h
    all_goals first | assumption | (exfalso; revert h; decide)
theorem is_linkpath (key : List UInt8) : decide (str key = str [108, 105, 110, 107, 112, 97, 116, 104]) = decide (whichL key = 1) := by
  rw [str_dec, decide_eq_decide]
  constructor
  · rintro rfl; rfl
  · intro h
    unfold whichL at h
    repeat' split at h
    all_goals first | assumption | (exfalso; revert h; decide)
theorem is_uname (key : List UInt8) : decide (str key = str [117, 110, 97, 109, 101]) = decide (whichL key = 2) := by
  rw [str_dec, decide_eq_decide]
  constructor
  · rintro rfl; rfl
  · intro h
    unfold whichL at h
    repeat' split at h
    all_goals first | assumption | (exfalso; revert h; decide)
theorem is_gname (key : List UInt8) : decide (str key = str [103, 110, 97, 109, 101]) = decide (whichL key = 3) := by
  rw [str_dec, decide_eq_decide]
  constructor
  · rintro rfl; rfl
  · intro h
    unfold whichL at h
    repeat' split at h
    all_goals first | assumption | (exfalso; revert h; decide)
theorem is_uid (key : List UInt8) : decide (str key = str [117, 105, 100]) = decide (whichL key = 4) := by
  rw [str_dec, decide_eq_decide]
  constructor
  · rintro rfl; rfl
  · intro h
    unfold whichL at h
    repeat' split at h
    all_goals first | assumption | (exfalso; revert h; decide)
theorem is_gid (key : List UInt8) : decide (str key = str [103, 105, 100]) = decide (whichL key = 5) := by
  rw [str_dec, decide_eq_decide]
  constructor
  · rintro rfl; rfl
  · intro h
    unfold whichL at h
    repeat' split at h
    all_goals first | assumption | (exfalso; revert h; decide)
theorem is_size (key : List UInt8) : decide (str key = str [115, 105, 122, 101]) = decide (whichL key = 6) := by
  rw [str_dec, decide_eq_decide]
  constructor
  · rintro rfl; rfl
  · intro h
    unfold whichL at h
    repeat' split at h
    all_goals first | assumption | (exfalso; revert h; decide)
theorem is_mtime (key : List UInt8) : decide (str key = str [109, 116, 105, 109, 101]) = decide (whichL key = 7) := by
  rw [str_dec, decide_eq_decide]
  constructor
  · rintro rfl; rfl
  · intro h
    unfold whichL at h
    repeat' split at h
    all_goals first | assumption | (exfalso; revert h; decide)
theorem which_lt (key : List UInt8) : -1 ≤ whichL key ∧ whichL key ≤ 7 := by
  unfold whichL
  repeat' split
  all_goals decide
theorem known_k (key : List UInt8) : kp E k (n + 1) pax_Known [.str (str key)] = some (.bool (decide (0 ≤ whichL key))) := by
  have hw := which_lt key
  rw [pax_Known_eq, is_path, is_linkpath, is_uname, is_gname, is_uid, is_gid, is_size, is_mtime]
  generalize whichL key = w at hw
  have : w = -1 ∨ w = 0 ∨ w = 1 ∨ w = 2 ∨ w = 3 ∨ w = 4 ∨ w = 5 ∨ w = 6 ∨ w = 7 := by omega
  rcases this with rfl | rfl | rfl | rfl | rfl | rfl | rfl | rfl | rfl <;> rfl
theorem which_k (key : List UInt8) (hk : 10 < k) : kp E k (n + 2) ref07_Which [.str (str key)] = some (.int .i64 (whichL key)) := by
  obtain ⟨K, rfl⟩ : ∃ K, k = K + 9 := ⟨k - 9, by omega⟩
  rw [ref07_Which_eq, ref07_Keys_eq, callL_ok]
  have hw := which_lt key
  have st : ∀ (j : Nat) (s : List UInt8) (m : Nat), j < 8 → ([(.str (str [112, 97, 116, 104])), (.str (str [108, 105, 110, 107, 112, 97, 116, 104])), (.str (str [117, 110, 97, 109, 101])), (.str (str [103, 110, 97, 109, 101])), (.str (str [117, 105, 100])), (.str (str [103, 105, 100])), (.str (str [115, 105, 122, 101])), (.str (str [109, 116, 105, 109, 101]))] : List AV)[j]? = some (.str (str s)) →
      ref07_Which_L0 (kp E (K + 9) (n + 1)) (K + 9) (m + 1) (str key) [(.str (str [112, 97, 116, 104])), (.str (str [108, 105, 110, 107, 112, 97, 116, 104])), (.str (str [117, 110, 97, 109, 101])), (.str (str [103, 110, 97, 109, 101])), (.str (str [117, 105, 100])), (.str (str [103, 105, 100])), (.str (str [115, 105, 122, 101])), (.str (str [109, 116, 105, 109, 101]))] ((j : Nat) : Int) = bif decide (str key = str s) then some (.int .i64 ((j : Nat) : Int)) else ref07_Which_L0 (kp E (K + 9) (n + 1)) (K + 9) m (str key) [(.str (str [112, 97, 116, 104])), (.str (str [108, 105, 110, 107, 112, 97, 116, 104])), (.str (str [117, 110, 97, 109, 101])), (.str (str [103, 110, 97, 109, 101])), (.str (str [117, 105, 100])), (.str (str [103, 105, 100])), (.str (str [115, 105, 122, 101])), (.str (str [109, 116, 105, 109, 101]))] (((j + 1 : Nat) : Nat) : Int) := by
    intro j s m hj hs
    rw [ref07_Which_L0_s, Int.toNat_natCast, hs, Option.bind_some, i64w (by omega), show ((j : Nat) : Int) + 1 = ((j + 1 : Nat) : Int) by omega]
    rw [bif_t (by simp only [List.length_cons, List.length_nil]; omega), bif_a, bif_t (by omega), bif_t (by simp only [List.length_cons, List.length_nil]; omega)]
    show (bif decide (str s = str key) then _ else _) = _
    rw [show decide (str s = str key) = decide (str key = str s) from decide_eq_decide.2 eq_comm]
  refine (st 0 [112, 97, 116, 104] (K + 8) (by omega) rfl).trans ?_
  rw [is_path]
  rw [st 1 [108, 105, 110, 107, 112, 97, 116, 104] (K + 7) (by omega) rfl, is_linkpath]
  rw [st 2 [117, 110, 97, 109, 101] (K + 6) (by omega) rfl, is_uname]
  rw [st 3 [103, 110, 97, 109, 101] (K + 5) (by omega) rfl, is_gname]
  rw [st 4 [117, 105, 100] (K + 4) (by omega) rfl, is_uid]
  rw [st 5 [103, 105, 100] (K + 3) (by omega) rfl, is_gid]
  rw [st 6 [115, 105, 122, 101] (K + 2) (by omega) rfl, is_size]
  rw [st 7 [109, 116, 105, 109, 101] (K + 1) (by omega) rfl, is_mtime]
  have en : ∀ m (l : List AV), l.length = 8 → ref07_Which_L0 (kp E (K + 9) (n + 1)) (K + 9) (m + 1) (str key) l (((7 + 1 : Nat) : Nat) : Int) = some (.int .i64 (-1)) := by
    intro m l hl
    rw [ref07_Which_L0_s, hl, bif_f (by omega)]
  rw [en _ _ rfl]
  generalize whichL key = w at hw
  have : w = -1 ∨ w = 0 ∨ w = 1 ∨ w = 2 ∨ w = 3 ∨ w = 4 ∨ w = 5 ∨ w = 6 ∨ w = 7 := by omega
  rcases this with rfl | rfl | rfl | rfl | rfl | rfl | rfl | rfl | rfl <;> rfl
def numOk (s : List UInt8) : Bool := natOk s && decide (valA 0 s ≤ 9223372036854775807)
def valR (key s : List UInt8) : Bool :=
  if s = [] then true else if whichL key < 0 then true else if whichL key < 4 then clean s else if whichL key < 7 then numOk s else (timeL s).isSome
theorem value_k [HasTextV E] (key s : List UInt8) (hs : s.length ≤ 1000000) (hk : s.length < k) : kp E k (n + 4) pax_value [.str (str key), .str (str s)] = some (.bool (utfOk s && valR key s)) := by
  have hN : (callT (kp E k (n + 3) dec_Number [(.str (str s))]) fun vt6 => (tupI .i64 vt6 fun vn7 vt8 => (tupI .u8 vt8 fun vn9 vt10 => (atNil vt10 (some (.bool (decide (vn9 = (0 : Int)))))))) : Option AV) = some (.bool (numOk s)) := by
    rw [number_k s (by omega) hk]
    unfold numOk
    cases natOk s && decide (valA 0 s ≤ 9223372036854775807) <;> rfl
  have hT : (callT (kp E k (n + 3) dec_Time [(.str (str s))]) fun vt12 => (tupG 2 vt12 fun vg13 vt14 => (cellI .i64 vg13 0 fun vn15 => (cellI .i64 vg13 1 fun vn16 => (tupI .u8 vt14 fun vn17 vt18 => (atNil vt18 (some (.bool (decide (vn17 = (0 : Int)))))))))) : Option AV) = some (.bool (timeL s).isSome) := by
    rw [time_k s (by omega) hk]
    cases timeL s <;> rfl
  have hC : (callB (kp E k (n + 3) pax_clean [(.str (str s))]) fun vq4 => (some (.bool vq4)) : Option AV) = some (.bool (clean s)) := by rw [paxClean_k, callB_ok]
  rw [pax_value_eq, utf_k s hk, callB_ok, is_path, is_linkpath, is_uname, is_gname, is_uid, is_gid, is_size, is_mtime]
  simp only [hN, hT, hC]
  unfold valR
  have hw := which_lt key
  generalize whichL key = w at hw
  cases utfOk s with
  | false => rfl
  | true =>
    rw [Bool.not_true, cond_false, Bool.true_and, show (str [] : ByteArray) = str [] from rfl, str_dec]
    by_cases h0 : s = []
    · rw [decide_eq_true h0, if_pos h0]; rfl
    · rw [decide_eq_false h0, if_neg h0, cond_false]
      have : w = -1 ∨ w = 0 ∨ w = 1 ∨ w = 2 ∨ w = 3 ∨ w = 4 ∨ w = 5 ∨ w = 6 ∨ w = 7 := by omega
      rcases this with rfl | rfl | rfl | rfl | rfl | rfl | rfl | rfl | rfl <;> rfl
def pairOk (p : Pair) : Bool := decide (p.key ≠ []) && (utfOk p.key && (noEq p.key && (utfOk p.val && valR p.key p.val)))
theorem paxRight_k [HasTextV E] (p : Pair) (h1 : p.key.length ≤ 1000000) (h2 : p.val.length ≤ 1000000) (hk : 1000000 < k) : kp E k (n + 5) pax_Right [.agg [.str (str p.key), .str (str p.val)]] = some (.bool (pairOk p)) := by
  rw [pax_Right_eq, utf_k p.key (by omega), contains_k p.key h1, value_k p.key p.val h2 (by omega), str_dec]
  simp only [callB_ok]
  unfold pairOk
  by_cases h : p.key = []
  · rw [decide_eq_true h]
    simp [h]
  · rw [decide_eq_false h, decide_eq_true h]
    cases utfOk p.key <;> cases noEq p.key <;> cases utfOk p.val <;> rfl
theorem eq_loop (kap : FuncId → List AV → Option AV) (val : ByteArray) (R : Option AV) (suf : List UInt8) : ∀ (pre : List UInt8) (k0 : Nat), suf.length < k0 → (pre ++ suf).length < 1000000000 →
    (∀ m, ref07_Right_L0 kap k (m + 1) (((pre ++ suf).length : Nat) : Int) (str (pre ++ suf)) val = R) →
    ref07_Right_L0 kap k k0 ((pre.length : Nat) : Int) (str (pre ++ suf)) val = bif suf.all (fun c => decide (c ≠ 61)) then R else some (.bool false) := by
  induction suf with
  | nil =>
    intro pre k0 h hb hR
    obtain ⟨m, rfl⟩ : ∃ m, k0 = m + 1 := ⟨k0 - 1, by simp only [List.length_nil] at h; omega⟩
    have := hR m
    rw [List.append_nil] at this ⊢
    rw [this]; rfl
  | cons c suf ih =>
    intro pre k0 h hb hR
    obtain ⟨m, rfl⟩ : ∃ m, k0 = m + 1 := ⟨k0 - 1, by simp only [List.length_cons] at h; omega⟩
    have h' : suf.length < m := by simp only [List.length_cons] at h; omega
    have hb' : pre.length + (suf.length + 1) < 1000000000 := by simp only [List.length_append, List.length_cons] at hb; exact hb
    rw [ref07_Right_L0_s, str_size, mid_len, bif_t (by omega), bif_a, bif_t (by omega), bif_t (by omega), Int.toNat_natCast, str_byte, mid_byte]
    rw [show decide (((c.toNat : Nat) : Int) = 61) = decide (c = 61) from byte_is c 61 (by omega), List.all_cons]
    by_cases hc : c = 61
    · rw [decide_eq_true hc, hc]; rfl
    · rw [decide_eq_false hc, cond_false, decide_eq_true hc, Bool.true_and, i64w (by omega)]
      have e2 : ((pre.length : Nat) : Int) + 1 = (((pre ++ [c]).length : Nat) : Int) := by simp
      have e3 : pre ++ c :: suf = (pre ++ [c]) ++ suf := by simp
      rw [e2, e3]
      rw [e3] at hR
      exact ih (pre ++ [c]) m h' (by simp only [List.length_append, List.length_cons, List.length_nil]; omega) hR
theorem noEq_split (s : List UInt8) : noEq s = (clean s && s.all fun c => decide (c ≠ 61)) := by
  unfold noEq clean
  induction s with
  | nil => rfl
  | cons c l ih =>
    simp only [List.all_cons, ih]
    cases decide (c ≠ 61) <;> cases decide (c ≠ 0) <;> simp
theorem refPair_k (p : Pair) (h1 : p.key.length ≤ 1000000) (h2 : p.val.length ≤ 1000000) (hk : 2000000 < k) : kp E k (n + 4) ref07_Right [.agg [.str (str p.key), .str (str p.val)]] = some (.bool (pairOk p)) := by
  have hend : ∀ m, ref07_Right_L0 (kp E k (n + 3)) k (m + 1) (((([] : List UInt8) ++ p.key).length : Nat) : Int) (str ([] ++ p.key)) (str p.val) = some (.bool (valR p.key p.val)) := by
    intro m
    rw [List.nil_append, ref07_Right_L0_s, str_size, bif_f (by omega), which_k p.key (by omega), callI_ok, refClean_k p.val (by omega) (by omega), callB_ok, refNumber_k p.val (by omega) (by omega), refTime_k p.val (by omega) (by omega) (by omega), str_dec]
    unfold valR numOk
    have hw := which_lt p.key
    generalize whichL p.key = w at hw
    by_cases h0 : p.val = []
    · rw [decide_eq_true h0, if_pos h0]; rfl
    · rw [decide_eq_false h0, if_neg h0, cond_false]
      by_cases a1 : w < 0
      · rw [decide_eq_true a1, if_pos a1]; rfl
      rw [decide_eq_false a1, if_neg a1, cond_false]
      by_cases a2 : w < 4
      · rw [decide_eq_true a2, if_pos a2]; rfl
      rw [decide_eq_false a2, if_neg a2, cond_false]
      by_cases a3 : w < 7
      · rw [decide_eq_true a3, if_pos a3, cond_true]
        cases natOk p.val && decide (valA 0 p.val ≤ 9223372036854775807) <;> rfl
      rw [decide_eq_false a3, if_neg a3, cond_false]
      cases timeL p.val <;> rfl
  have hl := eq_loop (k := k) (kp E k (n + 3)) (str p.val) _ p.key [] k (by omega) (by simp; omega) hend
  simp only [List.nil_append, List.length_nil] at hl
  rw [ref07_Right_eq, refFirst_k p.key (by omega) (by omega), callI_ok, refFirst_k p.val (by omega) (by omega), callI_ok, refClean_k p.key (by omega) (by omega), callB_ok, str_dec]
  rw [show ((0 : Nat) : Int) = 0 from rfl] at hl
  rw [hl]
  unfold pairOk
  rw [noEq_split]
  have g1 : decide (first (str p.key) ≥ 0) = !utfOk p.key := by unfold utfOk; rw [← decide_not, decide_eq_decide]; omega
  have g2 : decide (first (str p.val) ≥ 0) = !utfOk p.val := by unfold utfOk; rw [← decide_not, decide_eq_decide]; omega
  rw [g1, g2]
  by_cases h : p.key = []
  · rw [decide_eq_true h]
    simp [h]
  · rw [decide_eq_false h, decide_eq_true h]
    cases utfOk p.key <;> cases utfOk p.val <;> cases clean p.key <;> cases (p.key.all fun c => decide (c ≠ 61)) <;> rfl
end Go.Proofs.YtogfcfgfkggmlaaGreatDoor.Eng.U


/- Overlays in plain words: the order of keys, what is laid. No program. -/
set_option linter.unusedVariables false
set_option linter.unusedSimpArgs false
namespace Go.Proofs.YtogfcfgfkggmlaaGreatDoor.Eng.U
open Go Go.Proofs Go.Proofs.YtogfcfgfkggmlaaGreatDoor.Eng

theorem u8_lt_irrefl (a : UInt8) : ¬ a < a := fun h => by rw [UInt8.lt_iff_toNat_lt] at h; omega
theorem lt_irr : ∀ a : Tx, Op.bytesLess a a = false
  | [] => rfl
  | a :: x => by
    unfold Op.bytesLess
    rw [lt_irr x, decide_eq_false (u8_lt_irrefl a), Bool.and_false, Bool.or_false]
theorem lt_cons (a b : UInt8) (x y : Tx) : Op.bytesLess (a :: x) (b :: y) = true ↔ a.toNat < b.toNat ∨ a = b ∧ Op.bytesLess x y = true := by
  rw [Op.bytesLess, Bool.or_eq_true, Bool.and_eq_true, decide_eq_true_eq, beq_iff_eq, UInt8.lt_iff_toNat_lt]
theorem lt_tr : ∀ {a b c : Tx}, Op.bytesLess a b = true → Op.bytesLess b c = true → Op.bytesLess a c = true
  | _, _, [], _, h => by cases ‹Tx› <;> simp [Op.bytesLess] at h
  | [], _, _ :: _, _, _ => rfl
  | a :: x, [], c :: z, h, _ => by simp [Op.bytesLess] at h
  | a :: x, b :: y, c :: z, h1, h2 => by
    rw [lt_cons] at *
    rcases h1 with h1 | ⟨rfl, h1⟩
    · rcases h2 with h2 | ⟨rfl, h2⟩
      · left; omega
      · left; exact h1
    · rcases h2 with h2 | ⟨rfl, h2⟩
      · left; exact h2
      · right; exact ⟨rfl, lt_tr h1 h2⟩
theorem lt_tot : ∀ {a b : Tx}, Op.bytesLess a b = false → a ≠ b → Op.bytesLess b a = true
  | [], [], _, h => absurd rfl h
  | [], _ :: _, h, _ => by simp [Op.bytesLess] at h
  | _ :: _, [], _, _ => rfl
  | a :: x, b :: y, h, hn => by
    rw [lt_cons]
    have h' : ¬ (a.toNat < b.toNat ∨ a = b ∧ Op.bytesLess x y = true) := by rw [← lt_cons, h]; simp
    by_cases e : a = b
    · subst e
      right
      refine ⟨rfl, lt_tot ?_ fun e => hn (by rw [e])⟩
      cases hq : Op.bytesLess x y with
      | false => rfl
      | true => exact absurd (.inr ⟨rfl, hq⟩) h'
    · left
      have : a.toNat ≠ b.toNat := fun h => e (UInt8.toNat_inj.1 h)
      omega
theorem lt_asym {a b : Tx} (h : Op.bytesLess a b = true) : Op.bytesLess b a = false := by
  cases hq : Op.bytesLess b a with
  | false => rfl
  | true => have := lt_tr h hq; rw [lt_irr] at this; cases this
theorem not_le (a b : Tx) : (!(Op.bytesLess a b || decide (a = b))) = Op.bytesLess b a := by
  by_cases e : a = b
  · subst e; rw [decide_eq_true rfl, Bool.or_true, lt_irr]; rfl
  · rw [decide_eq_false e, Bool.or_false]
    cases h : Op.bytesLess a b with
    | true => rw [lt_asym h]; rfl
    | false => rw [lt_tot h e]; rfl

/-- Above what was ahead. -/
def gtO (a : Option Tx) (x : Tx) : Bool := match a with | none => true | some y => Op.bytesLess y x
def ltO (x : Tx) (m : Option Tx) : Bool := match m with | none => true | some y => Op.bytesLess x y
def leastL (a : Option Tx) : List Pair → Option Tx → Option Tx
  | [], m => m
  | p :: l, m => leastL a l (if (gtO a p.key && ltO p.key m) = true then some p.key else m)
def lastL (l : List Pair) (key : Tx) : Tx := l.foldl (fun v p => if p.key = key then p.val else v) []
def layF (l : List Pair) : Nat → Option Tx → List Pair
  | 0, _ => []
  | m + 1, a => match leastL a l none with
    | none => []
    | some k => if lastL l k = [] then layF l m (some k) else ⟨k, lastL l k⟩ :: layF l m (some k)
def okSt : Option Tx → List Pair → Bool
  | _, [] => true
  | a, p :: l => gtO a p.key && decide (p.val ≠ []) && okSt (some p.key) l
def cnt (a : Option Tx) (l : List Pair) : Nat := (l.filter fun p => gtO a p.key).length

theorem least_none (a : Option Tx) : ∀ (l : List Pair) (m : Option Tx), leastL a l m = none → m = none ∧ ∀ q ∈ l, gtO a q.key = false
  | [], m, h => ⟨h, fun q hq => by cases hq⟩
  | p :: l, m, h => by
    obtain ⟨h1, h2⟩ := least_none a l _ h
    by_cases hc : (gtO a p.key && ltO p.key m) = true
    · rw [if_pos hc] at h1; cases h1
    · rw [if_neg hc] at h1
      subst h1
      refine ⟨rfl, fun q hq => ?_⟩
      rcases List.mem_cons.1 hq with rfl | hq
      · cases hg : gtO a q.key with
        | false => rfl
        | true => exact absurd (by rw [hg]; rfl) hc
      · exact h2 q hq
theorem least_some (a : Option Tx) : ∀ (l : List Pair) (m : Option Tx) (k : Tx), leastL a l m = some k →
    (m = some k ∨ ∃ p ∈ l, p.key = k ∧ gtO a k = true) ∧ (∀ q ∈ l, gtO a q.key = true → Op.bytesLess q.key k = false) ∧ (∀ y, m = some y → Op.bytesLess y k = false)
  | [], m, k, h => ⟨.inl h, fun q hq => (by cases hq), fun y hy => by rw [show leastL a [] m = m from rfl] at h; rw [h] at hy; cases hy; exact lt_irr _⟩
  | p :: l, m, k, h => by
    obtain ⟨h1, h2, h3⟩ := least_some a l _ k h
    by_cases hc : (gtO a p.key && ltO p.key m) = true
    · rw [if_pos hc] at h1 h3
      rw [Bool.and_eq_true] at hc
      have hpk := h3 _ rfl
      refine ⟨?_, fun q hq hg => ?_, fun y hy => ?_⟩
      · rcases h1 with h1 | ⟨q, hq, e, g⟩
        · cases h1; exact .inr ⟨p, .head _, rfl, hc.1⟩
        · exact .inr ⟨q, .tail _ hq, e, g⟩
      · rcases List.mem_cons.1 hq with rfl | hq
        · exact hpk
        · exact h2 q hq hg
      · subst hy
        have hlt : Op.bytesLess p.key y = true := hc.2
        cases hq : Op.bytesLess y k with
        | false => rfl
        | true => rw [lt_tr hlt hq] at hpk; cases hpk
    · rw [if_neg hc] at h1 h3
      refine ⟨?_, fun q hq hg => ?_, h3⟩
      · rcases h1 with h1 | ⟨q, hq, e, g⟩
        · exact .inl h1
        · exact .inr ⟨q, .tail _ hq, e, g⟩
      · rcases List.mem_cons.1 hq with rfl | hq
        · have hn : ltO q.key m = false := by
            cases hx : ltO q.key m with
            | false => rfl
            | true => exact absurd (by rw [hg, hx]; rfl) hc
          cases m with
          | none => cases hn
          | some y =>
            have hn : Op.bytesLess q.key y = false := hn
            have h4 := h3 y rfl
            cases hx : Op.bytesLess q.key k with
            | false => rfl
            | true =>
              by_cases e : q.key = y
              · rw [e] at hx; rw [hx] at h4; cases h4
              · have := lt_tr (lt_tot hn e) hx
                rw [this] at h4; cases h4
        · exact h2 q hq hg
theorem gtO_tr {a : Option Tx} {k x : Tx} (h1 : gtO a k = true) (h2 : Op.bytesLess k x = true) : gtO a x = true := by
  cases a with
  | none => rfl
  | some y => exact lt_tr h1 h2
theorem cnt_lt {a : Option Tx} {l : List Pair} {k : Tx} (h : leastL a l none = some k) : cnt (some k) l < cnt a l := by
  have h1 := (least_some a l none k h).1
  rcases h1 with h1 | ⟨p, hp, rfl, hg⟩
  · cases h1
  have sub : ∀ q : Pair, gtO (some p.key) q.key = true → gtO a q.key = true := fun q hq => gtO_tr hg hq
  have irr : gtO (some p.key) p.key = false := lt_irr _
  unfold cnt
  clear h
  induction l with
  | nil => cases hp
  | cons q l ih =>
    have hle : ∀ l : List Pair, (l.filter fun r => gtO (some p.key) r.key).length ≤ (l.filter fun r => gtO a r.key).length := by
      intro l
      induction l with
      | nil => exact Nat.le_refl _
      | cons r l ih =>
        rw [List.filter_cons, List.filter_cons]
        by_cases hr : gtO (some p.key) r.key = true
        · rw [if_pos hr, if_pos (sub r hr), List.length_cons, List.length_cons]; omega
        · rw [if_neg hr]; split <;> (try rw [List.length_cons]) <;> omega
    rw [List.filter_cons, List.filter_cons]
    rcases List.mem_cons.1 hp with rfl | hp
    · rw [if_neg (by rw [irr]; simp), if_pos hg, List.length_cons]
      have := hle l
      omega
    · have hi := ih hp
      by_cases hr : gtO (some p.key) q.key = true
      · rw [if_pos hr, if_pos (sub q hr), List.length_cons, List.length_cons]; exact Nat.succ_lt_succ hi
      · rw [if_neg hr]
        split
        · rw [List.length_cons]; exact Nat.lt_succ_of_lt hi
        · exact hi
theorem okSt_mono {a : Option Tx} {k : Tx} (h : gtO a k = true) : ∀ {l : List Pair}, okSt (some k) l = true → okSt a l = true
  | [], _ => rfl
  | p :: l, h2 => by
    simp only [okSt, Bool.and_eq_true] at h2 ⊢
    exact ⟨⟨gtO_tr h h2.1.1, h2.1.2⟩, h2.2⟩
theorem lay_ok (l : List Pair) : ∀ (m : Nat) (a : Option Tx), okSt a (layF l m a) = true
  | 0, a => rfl
  | m + 1, a => by
    unfold layF
    cases h : leastL a l none with
    | none => rfl
    | some k =>
      have hg : gtO a k = true := by
        obtain ⟨h1, _, _⟩ := least_some a l none k h
        rcases h1 with h1 | ⟨p, hp, e, g⟩
        · cases h1
        · exact g
      have ih := lay_ok l m (some k)
      dsimp only
      split
      · exact okSt_mono hg ih
      · rename_i hv
        simp only [okSt, hg, ih, decide_eq_true hv, Bool.and_self]
theorem okSt_facts : ∀ (l : List Pair) (a : Option Tx), okSt a l = true → (∀ p ∈ l, gtO a p.key = true ∧ p.val ≠ []) ∧ l.Pairwise fun p q => Op.bytesLess p.key q.key = true
  | [], a, h => ⟨fun p hp => (by cases hp), .nil⟩
  | p :: l, a, h => by
    simp only [okSt, Bool.and_eq_true, decide_eq_true_eq] at h
    obtain ⟨i1, i2⟩ := okSt_facts l _ h.2
    refine ⟨fun q hq => ?_, .cons (fun q hq => (i1 q hq).1) i2⟩
    rcases List.mem_cons.1 hq with rfl | hq
    · exact h.1
    · exact ⟨gtO_tr h.1.1 (i1 q hq).1, (i1 q hq).2⟩
theorem last_skip (key : Tx) : ∀ (l : List Pair) (v : Tx), (∀ q ∈ l, q.key ≠ key) → l.foldl (fun v p => if p.key = key then p.val else v) v = v
  | [], v, h => rfl
  | q :: l, v, h => by rw [List.foldl_cons, if_neg (h q (.head _))]; exact last_skip key l v fun r hr => h r (.tail _ hr)
theorem last_mid (pre suf : List Pair) (p : Pair) (h : ∀ q ∈ suf, q.key ≠ p.key) : lastL (pre ++ p :: suf) p.key = p.val := by
  unfold lastL
  rw [List.foldl_append, List.foldl_cons, if_pos rfl, last_skip _ _ _ h]
theorem lay_same : ∀ (suf pre : List Pair) (a : Option Tx) (m : Nat), suf.length ≤ m → okSt a suf = true → (∀ q ∈ pre, gtO a q.key = false) → layF (pre ++ suf) m a = suf
  | [], pre, a, m, hm, ho, hp => by
    cases m with
    | zero => rfl
    | succ m =>
      unfold layF
      cases h : leastL a (pre ++ []) none with
      | none => rfl
      | some k =>
        obtain ⟨h1, _, _⟩ := least_some a _ none k h
        rcases h1 with h1 | ⟨q, hq, e, g⟩
        · cases h1
        · rw [List.append_nil] at hq
          have := hp q hq
          rw [e, g] at this; cases this
  | p :: suf, pre, a, m, hm, ho, hp => by
    obtain ⟨m, rfl⟩ : ∃ j, m = j + 1 := ⟨m - 1, by rw [List.length_cons] at hm; omega⟩
    have hf := okSt_facts _ _ ho
    have ho' := ho
    simp only [okSt, Bool.and_eq_true, decide_eq_true_eq] at ho'
    have hpw := hf.2
    rw [List.pairwise_cons] at hpw
    have hk : leastL a (pre ++ p :: suf) none = some p.key := by
      cases h : leastL a (pre ++ p :: suf) none with
      | none =>
        have := (least_none a _ none h).2 p (by simp)
        rw [ho'.1.1] at this; cases this
      | some k =>
        obtain ⟨h1, h2, _⟩ := least_some a _ none k h
        have hpk := h2 p (by simp) ho'.1.1
        rcases h1 with h1 | ⟨q, hq, rfl, g⟩
        · cases h1
        rcases List.mem_append.1 hq with hq | hq
        · have := hp q hq
          rw [g] at this; cases this
        · rcases List.mem_cons.1 hq with rfl | hq
          · rfl
          · rw [hpw.1 q hq] at hpk; cases hpk
    have hl : lastL (pre ++ p :: suf) p.key = p.val := last_mid pre suf p fun q hq e => by
      have := hpw.1 q hq
      rw [e, lt_irr] at this; cases this
    unfold layF
    rw [hk]
    dsimp only
    rw [hl, if_neg ho'.1.2]
    have hnext := lay_same suf (pre ++ [p]) (some p.key) m (by rw [List.length_cons] at hm; omega) ho'.2 fun q hq => by
      rcases List.mem_append.1 hq with hq | hq
      · have h1 := hp q hq
        cases hx : gtO (some p.key) q.key with
        | false => rfl
        | true => rw [gtO_tr ho'.1.1 hx] at h1; cases h1
      · rw [List.mem_singleton.1 hq]; exact lt_irr _
    rw [List.append_assoc, List.singleton_append] at hnext
    rw [hnext]
theorem lay_iff (l : List Pair) (m : Nat) (hm : l.length ≤ m) : decide (layF l m none = l) = okSt none l := by
  cases h : okSt none l with
  | true => exact decide_eq_true (lay_same l [] none m hm h fun q hq => by cases hq)
  | false =>
    refine decide_eq_false fun e => ?_
    have := lay_ok l m none
    rw [e, h] at this; cases this
theorem cnt_le (a : Option Tx) (l : List Pair) : cnt a l ≤ l.length := List.length_filter_le _ _
end Go.Proofs.YtogfcfgfkggmlaaGreatDoor.Eng.U


/- Overlays: what both sides answer, in plain words. -/
set_option linter.unusedVariables false
set_option linter.unusedSectionVars false
set_option linter.unusedSimpArgs false
namespace Go.Proofs.YtogfcfgfkggmlaaGreatDoor.Eng.U
open Go Go.Proofs Go.Proofs.YtogfcfgfkggmlaaGreatDoor.Eng Go.Proofs.YtogfcfgfkggmlaaGreatDoor.P04
variable {E : Ext} [Core E] [HasNum E] {k n : Nat}

theorem snoc_len (pre : List Pair) (p : Pair) : ((pre.length : Nat) : Int) + 1 = (((pre ++ [p]).length : Nat) : Int) := by simp
theorem str_tl (l : Tx) : ByteArray.toList (str l) = l := str_list l
theorem overRight_loop (kap : FuncId → List AV → Option AV) (hR : ∀ p : Pair, p.key.length ≤ 1000000 → p.val.length ≤ 1000000 → kap pax_Right [.agg [.str (str p.key), .str (str p.val)]] = some (.bool (pairOk p))) (suf : List Pair) :
    ∀ (pre : List Pair) (k0 : Nat), suf.length < k0 → (pre ++ suf).length < 1000000000 → (∀ p ∈ suf, p.key.length ≤ 1000000 ∧ p.val.length ≤ 1000000) →
    over_Right_L0 kap k k0 (prs (pre ++ suf)) (prs (pre ++ suf)) (((pre ++ suf).length : Nat) : Int) ((pre.length : Nat) : Int) = some (.bool (okSt (pre.getLast?.map (·.key)) suf && suf.all pairOk)) := by
  induction suf with
  | nil =>
    intro pre k0 h hb hs
    obtain ⟨m, rfl⟩ : ∃ m, k0 = m + 1 := ⟨k0 - 1, by simp only [List.length_nil] at h; omega⟩
    rw [over_Right_L0_s, bif_f (by simp)]
    rfl
  | cons p suf ih =>
    intro pre k0 h hb hs
    obtain ⟨m, rfl⟩ : ∃ m, k0 = m + 1 := ⟨k0 - 1, by simp only [List.length_cons] at h; omega⟩
    have h' : suf.length < m := by simp only [List.length_cons] at h; omega
    have hb' : pre.length + (suf.length + 1) < 1000000000 := by simp only [List.length_append, List.length_cons] at hb; exact hb
    obtain ⟨g1, g2⟩ := hs p (.head _)
    have ih' := ih (pre ++ [p]) m h' (by simp only [List.length_append, List.length_cons, List.length_nil]; omega) fun q hq => hs q (.tail _ hq)
    rw [List.append_assoc, List.singleton_append, ← snoc_len] at ih'
    rw [over_Right_L0_s, prs_len, mid_len, bif_t (by omega), bif_a, bif_t (by omega), bif_t (by omega), Int.toNat_natCast, prs_mid, cells_pair, p_0, p_1, hR p g1 g2, callB_ok, str_dec]
    rw [mid_len] at ih'
    simp only [okSt, List.all_cons]
    by_cases hv : p.val = []
    · rw [decide_eq_true hv, cond_true, decide_eq_false (by simp [hv])]
      simp
    rw [decide_eq_false hv, cond_false, decide_eq_true hv]
    cases hq : pairOk p with
    | false => simp
    | true =>
      rw [Bool.not_true, cond_false, i64w (by omega), i64w (by omega), ih', List.getLast?_append, List.getLast?_singleton]
      rcases snoc_pairs pre with rfl | ⟨l, q, rfl⟩
      · rw [bif_f (by simp)]
        simp [gtO]
      · have hl1 : (l ++ [q]).length = l.length + 1 := by simp
        rw [bif_t (by omega), bif_a, bif_t (by omega), bif_t (by omega)]
        have e : Int.toNat ((((l ++ [q]).length : Nat) : Int) - 1) = l.length := by simp
        rw [e, show l ++ [q] ++ p :: suf = l ++ q :: (p :: suf) by simp, prs_mid, cells_pair, p_0, str_tl, str_tl, List.getLast?_append, List.getLast?_singleton]
        show (bif !Op.bytesLess q.key p.key then _ else _) = some (AV.bool ((Op.bytesLess q.key p.key && true && okSt (some p.key) suf) && (true && suf.all pairOk)))
        cases Op.bytesLess q.key p.key <;> simp
def overOk (l : List Pair) : Bool := okSt none l && l.all pairOk
theorem overRight_k [HasTextV E] (l : List Pair) (hl : l.length ≤ 1000000) (hp : ∀ p ∈ l, p.key.length ≤ 1000000 ∧ p.val.length ≤ 1000000) (hk : 1000000 < k) : kp E k (n + 6) over_Right [.list 2 (prs l)] = some (.bool (overOk l)) := by
  have h := overRight_loop (k := k) (kp E k (n + 5)) (fun p h1 h2 => paxRight_k p h1 h2 hk) l [] k (by omega) (by simp; omega) hp
  rw [List.nil_append] at h
  rw [over_Right_eq, prs_len]
  exact h
theorem same_loop (kap : FuncId → List AV → Option AV) (suf : List Pair) : ∀ (pre suf' pre' : List Pair) (k0 : Nat), suf.length < k0 → pre.length = pre'.length → suf.length = suf'.length → (pre ++ suf).length ≤ 1000000 →
    ref07_Same_L0 kap k k0 (prs (pre ++ suf)) (prs (pre' ++ suf')) ((pre.length : Nat) : Int) = some (.bool (decide (suf = suf'))) := by
  induction suf with
  | nil =>
    intro pre suf' pre' k0 h hp hs hb
    obtain ⟨m, rfl⟩ : ∃ m, k0 = m + 1 := ⟨k0 - 1, by simp only [List.length_nil] at h; omega⟩
    obtain rfl : suf' = [] := List.length_eq_zero_iff.1 hs.symm
    rw [ref07_Same_L0_s, prs_len, bif_f (by simp)]
    rfl
  | cons p suf ih =>
    intro pre suf' pre' k0 h hp hs hb
    obtain ⟨m, rfl⟩ : ∃ m, k0 = m + 1 := ⟨k0 - 1, by simp only [List.length_cons] at h; omega⟩
    cases suf' with
    | nil => cases hs
    | cons q suf' =>
      have h' : suf.length < m := by simp only [List.length_cons] at h; omega
      have hb' : pre.length + (suf.length + 1) ≤ 1000000 := by simp only [List.length_append, List.length_cons] at hb; exact hb
      have hs' : suf.length = suf'.length := by simp only [List.length_cons] at hs; omega
      have hi := ih (pre ++ [p]) suf' (pre' ++ [q]) m h' (by simp [hp]) hs' (by simp only [List.length_append, List.length_cons, List.length_nil]; omega)
      rw [← snoc_len, List.append_assoc, List.append_assoc, List.singleton_append, List.singleton_append] at hi
      have key : ∀ {β : Type} (F : AV → Option β), ((prs (pre' ++ q :: suf'))[pre.length]?).bind F = F (elPair q) := by
        intro β F; rw [hp, prs_mid]
      rw [ref07_Same_L0_s, prs_len, prs_len, mid_len, mid_len, bif_t (by omega), bif_a, bif_t (by omega), bif_t (by omega), Int.toNat_natCast, prs_mid, cells_pair, p_0, p_1, bif_a, bif_t (by omega), bif_t (by omega), key, cells_pair, p_0, p_1, str_dec, str_dec, i64w (by omega), hi]
      have e : decide (p :: suf = q :: suf') = ((decide (p.key = q.key) && (decide (p.val = q.val) && true)) && decide (suf = suf')) := by
        have e0 : (p :: suf = q :: suf') ↔ (p.key = q.key ∧ p.val = q.val) ∧ suf = suf' := by
          rw [List.cons.injEq]; cases p; cases q; simp
        have e1 : decide (p :: suf = q :: suf') = decide ((p.key = q.key ∧ p.val = q.val) ∧ suf = suf') := decide_eq_decide.2 e0
        rw [e1]
        by_cases a1 : p.key = q.key <;> by_cases a2 : p.val = q.val <;> by_cases a3 : suf = suf' <;> simp [a1, a2, a3]
      rw [e]
      cases decide (p.key = q.key) && (decide (p.val = q.val) && true) <;> rfl
theorem pSame_k (a b : List Pair) (ha : a.length ≤ 1000000) (hk : a.length < k) : kp E k (n + 1) ref07_Same [.list 2 (prs a), .list 2 (prs b)] = some (.bool (decide (a = b))) := by
  rw [ref07_Same_eq, prs_len, prs_len]
  by_cases h : a.length = b.length
  · rw [decide_eq_true (by omega), Bool.not_true, cond_false]
    have := same_loop (k := k) (kp E k n) a [] b [] k hk rfl h (by simpa using ha)
    exact this
  · rw [decide_eq_false (by omega), Bool.not_false, cond_true, decide_eq_false (fun e => h (by rw [e]))]
end Go.Proofs.YtogfcfgfkggmlaaGreatDoor.Eng.U


/- Overlays in plain words, part 2: laid one by one. No program. -/
set_option linter.unusedVariables false
set_option linter.unusedSimpArgs false
namespace Go.Proofs.YtogfcfgfkggmlaaGreatDoor.Eng.U
open Go Go.Proofs Go.Proofs.YtogfcfgfkggmlaaGreatDoor.Eng

/-- A pair laid over an overlay. -/
def layOne : List Pair → Pair → List Pair
  | [], p => if p.val = [] then [] else [p]
  | q :: r, p => if q.key = p.key then (if p.val = [] then r else p :: r) else if Op.bytesLess q.key p.key = true then q :: layOne r p else (if p.val = [] then q :: r else p :: q :: r)
/-- The value of a key; empty, if it has none. -/
def valOf : List Pair → Tx → Tx
  | [], _ => []
  | p :: l, k => if p.key = k then p.val else valOf l k
theorem gtO_irr (k : Tx) : gtO (some k) k = false := lt_irr k
theorem valOf_out : ∀ {l : List Pair} {a : Option Tx} {k : Tx}, okSt a l = true → gtO a k = false → valOf l k = []
  | [], a, k, _, _ => rfl
  | p :: l, a, k, ho, hk => by
    have hf := okSt_facts _ _ ho
    have hp := (hf.1 p (.head _)).1
    have ho2 : okSt (some p.key) l = true := by simp only [okSt, Bool.and_eq_true] at ho; exact ho.2
    unfold valOf
    have hne : p.key ≠ k := by rintro rfl; rw [hp] at hk; cases hk
    rw [if_neg hne]
    refine valOf_out (a := a) ?_ hk
    exact okSt_mono hp ho2
theorem valOf_ne {l : List Pair} {a : Option Tx} (ho : okSt a l = true) : ∀ p ∈ l, valOf l p.key = p.val := by
  induction l generalizing a with
  | nil => intro p hp; cases hp
  | cons q l ih =>
    intro p hp
    have hf := okSt_facts _ _ ho
    have ho2 : okSt (some q.key) l = true := by simp only [okSt, Bool.and_eq_true] at ho; exact ho.2
    unfold valOf
    rcases List.mem_cons.1 hp with rfl | hp
    · rw [if_pos rfl]
    · have hlt := List.rel_of_pairwise_cons hf.2 hp
      rw [if_neg (by intro e; rw [e, lt_irr] at hlt; cases hlt)]
      exact ih ho2 p hp
/-- Overlays that have the same values are the same. -/
theorem over_ext : ∀ {x y : List Pair} {a : Option Tx}, okSt a x = true → okSt a y = true → (∀ k, valOf x k = valOf y k) → x = y
  | [], [], _, _, _, _ => rfl
  | [], q :: y, a, hx, hy, h => by
    have hf := (okSt_facts _ _ hy).1 q (.head _)
    have := h q.key
    unfold valOf at this
    rw [if_pos rfl] at this
    exact absurd this.symm hf.2
  | p :: x, [], a, hx, hy, h => by
    have hf := (okSt_facts _ _ hx).1 p (.head _)
    have := h p.key
    unfold valOf at this
    rw [if_pos rfl] at this
    exact absurd this hf.2
  | p :: x, q :: y, a, hx, hy, h => by
    have fp := okSt_facts _ _ hx
    have fq := okSt_facts _ _ hy
    have hx2 : okSt (some p.key) x = true := by simp only [okSt, Bool.and_eq_true] at hx; exact hx.2
    have hy2 : okSt (some q.key) y = true := by simp only [okSt, Bool.and_eq_true] at hy; exact hy.2
    have hpv := (fp.1 p (.head _)).2
    have hqv := (fq.1 q (.head _)).2
    have hk : p.key = q.key := by
      by_cases e : p.key = q.key
      · exact e
      · exfalso
        cases hl : Op.bytesLess p.key q.key with
        | true =>
          have h1 := h p.key
          have h2 : valOf (q :: y) p.key = [] := by
            unfold valOf
            rw [if_neg (fun h => e h.symm)]
            exact valOf_out hy2 (lt_asym hl)
          rw [h2] at h1
          unfold valOf at h1
          rw [if_pos rfl] at h1
          exact hpv h1
        | false =>
          have hl2 := lt_tot hl e
          have h1 := h q.key
          have h2 : valOf (p :: x) q.key = [] := by
            unfold valOf
            rw [if_neg e]
            exact valOf_out hx2 (lt_asym hl2)
          rw [h2] at h1
          unfold valOf at h1
          rw [if_pos rfl] at h1
          exact hqv h1.symm
    have hv : p.val = q.val := by
      have h1 := h p.key
      unfold valOf at h1
      rw [if_pos rfl, if_pos hk.symm] at h1
      exact h1
    have hpq : p = q := by cases p; cases q; simp_all
    subst hpq
    congr 1
    refine over_ext hx2 hy2 fun k => ?_
    by_cases e : p.key = k
    · subst e
      rw [valOf_out hx2 (gtO_irr _), valOf_out hy2 (gtO_irr _)]
    · have h1 := h k
      unfold valOf at h1
      rw [if_neg e, if_neg e] at h1
      exact h1
theorem layOne_ok : ∀ {l : List Pair} {a : Option Tx} (p : Pair), okSt a l = true → gtO a p.key = true → okSt a (layOne l p) = true
  | [], a, p, _, hg => by
    unfold layOne
    split
    · rfl
    · rename_i h; simp only [okSt, hg, decide_eq_true h, Bool.and_self]
  | q :: l, a, p, ho, hg => by
    have hq := (okSt_facts _ _ ho).1 q (.head _)
    have ho2 : okSt (some q.key) l = true := by simp only [okSt, Bool.and_eq_true] at ho; exact ho.2
    unfold layOne
    by_cases e : q.key = p.key
    · rw [if_pos e]
      split
      · exact okSt_mono hq.1 ho2
      · rename_i h
        simp only [okSt, ← e, hq.1, decide_eq_true h, ho2, Bool.and_self]
    · rw [if_neg e]
      by_cases hl : Op.bytesLess q.key p.key = true
      · rw [if_pos hl]
        have := layOne_ok p ho2 hl
        simp only [okSt, hq.1, decide_eq_true hq.2, this, Bool.and_self]
      · rw [if_neg hl]
        split
        · exact ho
        · rename_i h
          have h2 : Op.bytesLess p.key q.key = true := lt_tot (by simpa using hl) e
          have : gtO (some p.key) q.key = true := h2
          simp only [okSt, hg, decide_eq_true h, this, decide_eq_true hq.2, ho2, Bool.and_self]
theorem layOne_val : ∀ {l : List Pair} {a : Option Tx} (p : Pair) (k : Tx), okSt a l = true → valOf (layOne l p) k = if p.key = k then p.val else valOf l k
  | [], a, p, k, _ => by
    unfold layOne
    by_cases h : p.val = []
    · rw [if_pos h, h]; simp [valOf]
    · rw [if_neg h]; rfl
  | q :: l, a, p, k, ho => by
    have ho2 : okSt (some q.key) l = true := by simp only [okSt, Bool.and_eq_true] at ho; exact ho.2
    unfold layOne
    by_cases e : q.key = p.key
    · rw [if_pos e]
      by_cases h : p.val = []
      · rw [if_pos h]
        by_cases ek : p.key = k
        · rw [if_pos ek, h, ← ek, ← e]
          exact valOf_out ho2 (gtO_irr _)
        · rw [if_neg ek]
          conv => rhs; unfold valOf
          rw [if_neg (by rw [e]; exact ek)]
      · rw [if_neg h]
        unfold valOf
        by_cases ek : p.key = k
        · rw [if_pos ek, if_pos ek]
        · rw [if_neg ek, if_neg ek, if_neg (by rw [e]; exact ek)]
    · rw [if_neg e]
      by_cases hl : Op.bytesLess q.key p.key = true
      · rw [if_pos hl]
        unfold valOf
        rw [layOne_val p k ho2]
        by_cases ek : p.key = k
        · rw [if_pos ek, if_neg (by rw [← ek]; exact e), if_pos ek]
        · rw [if_neg ek, if_neg ek]
      · rw [if_neg hl]
        by_cases h : p.val = []
        · rw [if_pos h]
          by_cases ek : p.key = k
          · rw [if_pos ek, h]
            have h2 : Op.bytesLess p.key q.key = true := lt_tot (by simpa using hl) e
            unfold valOf
            rw [if_neg (by rw [← ek]; exact e)]
            exact valOf_out ho2 (by rw [← ek]; exact lt_asym h2)
          · rw [if_neg ek]
        · rw [if_neg h]
          conv => lhs; unfold valOf
theorem last_none (key : Tx) (l : List Pair) (h : ∀ q ∈ l, q.key ≠ key) : lastL l key = [] := last_skip key l [] h
theorem layF_val (l : List Pair) : ∀ (m : Nat) (a : Option Tx) (k : Tx), cnt a l ≤ m → valOf (layF l m a) k = if gtO a k = true then lastL l k else []
  | 0, a, k, h => by
    rw [show layF l 0 a = [] from rfl]
    by_cases hg : gtO a k = true
    · rw [if_pos hg, last_none]
      · rfl
      · intro q hq e
        have hm : q ∈ l.filter fun p => gtO a p.key := List.mem_filter.2 ⟨hq, by rw [e]; exact hg⟩
        have := List.length_pos_of_mem hm
        unfold cnt at h
        omega
    · rw [if_neg hg]; rfl
  | m + 1, a, k, h => by
    unfold layF
    cases hL : leastL a l none with
    | none =>
      have hn := (least_none a l none hL).2
      dsimp only
      by_cases hg : gtO a k = true
      · rw [if_pos hg, last_none]
        · rfl
        · intro q hq e
          have := hn q hq
          rw [e, hg] at this; cases this
      · rw [if_neg hg]; rfl
    | some kk =>
      obtain ⟨h1, h2, _⟩ := least_some a l none kk hL
      have hgk : gtO a kk = true := by
        rcases h1 with h1 | ⟨p, hp, e, g⟩
        · cases h1
        · exact g
      have hc := cnt_lt hL
      have ih := fun k => layF_val l m (some kk) k (by omega)
      dsimp only
      have step : valOf (if lastL l kk = [] then layF l m (some kk) else ⟨kk, lastL l kk⟩ :: layF l m (some kk)) k = if kk = k then lastL l k else valOf (layF l m (some kk)) k := by
        by_cases e : kk = k
        · subst e
          rw [if_pos rfl]
          split
          · rename_i h0; rw [ih, if_neg (by rw [gtO_irr]; simp), h0]
          · unfold valOf; rw [if_pos rfl]
        · rw [if_neg e]
          split
          · rfl
          · conv => lhs; unfold valOf
            rw [if_neg e]
      rw [step, ih]
      by_cases e : kk = k
      · subst e; rw [if_pos rfl, if_pos hgk]
      · rw [if_neg e]
        by_cases hk : gtO (some kk) k = true
        · rw [if_pos hk, if_pos (gtO_tr hgk hk)]
        · rw [if_neg hk]
          by_cases hg : gtO a k = true
          · rw [if_pos hg, last_none]
            intro q hq eq
            have h3 := h2 q hq (by rw [eq]; exact hg)
            have h4 : Op.bytesLess k kk = true := lt_tot (by simpa [gtO] using hk) e
            rw [eq, h4] at h3; cases h3
          · rw [if_neg hg]
def layAll (l : List Pair) : List Pair := l.foldl layOne []
theorem layAll_ok (l : List Pair) : ∀ (x : List Pair), okSt none x = true → okSt none (l.foldl layOne x) = true := by
  induction l with
  | nil => intro x h; exact h
  | cons p l ih => intro x h; rw [List.foldl_cons]; exact ih _ (layOne_ok p h rfl)
theorem layAll_val (l : List Pair) : ∀ (x : List Pair), okSt none x = true → ∀ k, valOf (l.foldl layOne x) k = l.foldl (fun v p => if p.key = k then p.val else v) (valOf x k) := by
  induction l with
  | nil => intro x h k; rfl
  | cons p l ih => intro x h k; rw [List.foldl_cons, List.foldl_cons, ih _ (layOne_ok p h rfl), layOne_val p k h]
/-- One by one, or least by least: the same. -/
theorem lay_both (l : List Pair) (m : Nat) (hm : l.length ≤ m) : layAll l = layF l m none := by
  refine over_ext (a := none) (layAll_ok l [] rfl) (lay_ok l m none) fun k => ?_
  rw [layF_val l m none k (Nat.le_trans (cnt_le none l) hm), if_pos (show gtO none k = true from rfl)]
  exact layAll_val l [] rfl k
/-- How many keys are less. -/
def posL (x : List Pair) (k : Tx) : Nat := (x.takeWhile fun p => Op.bytesLess p.key k).length
theorem posL_le (x : List Pair) (k : Tx) : posL x k ≤ x.length := by
  unfold posL
  induction x with
  | nil => exact Nat.le_refl _
  | cons p x ih => rw [List.takeWhile_cons]; split <;> simp <;> omega
theorem posL_lt : ∀ {x : List Pair} {a : Option Tx} (k : Tx), okSt a x = true → ∀ (i : Nat) (p : Pair), x[i]? = some p → (Op.bytesLess p.key k = true ↔ i < posL x k)
  | [], a, k, _, i, p, h => by simp at h
  | q :: x, a, k, ho, i, p, h => by
    have ho2 : okSt (some q.key) x = true := by simp only [okSt, Bool.and_eq_true] at ho; exact ho.2
    unfold posL
    rw [List.takeWhile_cons]
    cases i with
    | zero =>
      simp only [List.getElem?_cons_zero, Option.some.injEq] at h
      subst h
      split
      · rename_i h; simp [h]
      · rename_i h; simp [h]
    | succ i =>
      have hp : x[i]? = some p := by simpa using h
      by_cases hq : Op.bytesLess q.key k = true
      · rw [if_pos hq]
        have := posL_lt k ho2 i p hp
        unfold posL at this
        rw [this, List.length_cons]
        omega
      · rw [if_neg hq]
        have hlt : Op.bytesLess q.key p.key = true := (okSt_facts _ _ ho2).1 p (List.mem_of_getElem? hp) |>.1
        constructor
        · intro h2; exact absurd (lt_tr hlt h2) hq
        · intro h2; simp at h2
/-- A pair laid, by its place. -/
theorem layOne_pos : ∀ {x : List Pair} {a : Option Tx} (p : Pair), okSt a x = true → layOne x p =
    if (x[posL x p.key]?).map (·.key) = some p.key then (if p.val = [] then x.take (posL x p.key) ++ x.drop (posL x p.key + 1) else x.set (posL x p.key) p)
    else (if p.val = [] then x else x.take (posL x p.key) ++ p :: x.drop (posL x p.key))
  | [], a, p, _ => by unfold layOne posL; simp
  | q :: x, a, p, ho => by
    have ho2 : okSt (some q.key) x = true := by simp only [okSt, Bool.and_eq_true] at ho; exact ho.2
    unfold layOne
    by_cases e : q.key = p.key
    · have h0 : posL (q :: x) p.key = 0 := by unfold posL; rw [List.takeWhile_cons, e, lt_irr]; rfl
      rw [if_pos e, h0, if_pos (show ((q :: x)[0]?).map (·.key) = some p.key by simp [e])]
      split <;> simp
    · rw [if_neg e]
      by_cases hl : Op.bytesLess q.key p.key = true
      · have h0 : posL (q :: x) p.key = posL x p.key + 1 := by unfold posL; rw [List.takeWhile_cons, if_pos hl]; rfl
        rw [if_pos hl, h0, layOne_pos p ho2]
        simp only [List.getElem?_cons_succ, List.take_succ_cons, List.drop_succ_cons, List.set_cons_succ, List.cons_append]
        split <;> split <;> rfl
      · have h0 : posL (q :: x) p.key = 0 := by unfold posL; rw [List.takeWhile_cons, if_neg hl]; rfl
        rw [if_neg hl, h0, if_neg (show ¬ ((q :: x)[0]?).map (·.key) = some p.key by simp [e])]
        split <;> simp
theorem layOne_len (p : Pair) : ∀ x : List Pair, (layOne x p).length ≤ x.length + 1
  | [] => by unfold layOne; split <;> simp
  | q :: x => by
    have ih := layOne_len p x
    unfold layOne
    repeat' split
    all_goals simp only [List.length_cons]; omega
/-- The order that strings.Compare tells. -/
theorem compare_lt : ∀ a b : Tx, Lib.compareBytes a b < 0 ↔ Op.bytesLess a b = true
  | [], [] => by simp [Lib.compareBytes, Op.bytesLess]
  | [], _ :: _ => by simp [Lib.compareBytes, Op.bytesLess]
  | _ :: _, [] => by simp [Lib.compareBytes, Op.bytesLess]
  | a :: x, b :: y => by
    have ih := compare_lt x y
    rw [lt_cons]
    unfold Lib.compareBytes
    by_cases h1 : a < b
    · rw [if_pos h1]
      rw [UInt8.lt_iff_toNat_lt] at h1
      simp [h1]
    · rw [if_neg h1]
      by_cases h2 : b < a
      · rw [if_pos h2]
        rw [UInt8.lt_iff_toNat_lt] at h1 h2
        constructor
        · intro h; omega
        · rintro (h | ⟨rfl, _⟩)
          · exact absurd h h1
          · omega
      · rw [if_neg h2, ih]
        rw [UInt8.lt_iff_toNat_lt] at h1 h2
        have e : a = b := UInt8.toNat_inj.1 (by omega)
        subst e
        simp
theorem compare_eq : ∀ a b : Tx, Lib.compareBytes a b = 0 ↔ a = b
  | [], [] => by simp [Lib.compareBytes]
  | [], _ :: _ => by simp [Lib.compareBytes]
  | _ :: _, [] => by simp [Lib.compareBytes]
  | a :: x, b :: y => by
    have ih := compare_eq x y
    unfold Lib.compareBytes
    by_cases h1 : a < b
    · rw [if_pos h1]
      constructor
      · intro h; omega
      · intro h; cases h; exact absurd h1 (u8_lt_irrefl _)
    · rw [if_neg h1]
      by_cases h2 : b < a
      · rw [if_pos h2]
        constructor
        · intro h; omega
        · intro h; cases h; exact absurd h2 (u8_lt_irrefl _)
      · rw [if_neg h2, ih]
        rw [UInt8.lt_iff_toNat_lt] at h1 h2
        have e : a = b := UInt8.toNat_inj.1 (by omega)
        subst e
        simp
end Go.Proofs.YtogfcfgfkggmlaaGreatDoor.Eng.U


/- Overlays, the program's side: laid one by one; what is said of a head, both sides. -/
set_option linter.unusedVariables false
set_option linter.unusedSectionVars false
set_option linter.unusedSimpArgs false
namespace Go.Proofs.YtogfcfgfkggmlaaGreatDoor.Eng.U
open Go Go.Proofs Go.Proofs.YtogfcfgfkggmlaaGreatDoor.Eng Go.Proofs.YtogfcfgfkggmlaaGreatDoor.P04
variable {E : Ext} [Core E] {k n : Nat}

class HasIns (E : Ext) : Prop where
  ins : ∀ (k n : Nat) (xs : List Pair) (i : Nat) (p : Pair), i ≤ xs.length → xs.length ≤ 1000000 → kp E k n slices_Insert_api_Pair [.fresh 29 (prs xs), .int .i64 (i : Int), .fresh 29 [elPair p]] = some (.lback (.fresh 29 (prs (xs.take i ++ p :: xs.drop i))) [])
  del : ∀ (k n : Nat) (xs : List Pair) (i : Nat), i < xs.length → xs.length ≤ 1000000 → kp E k n slices_Delete_api_Pair [.fresh 29 (prs xs), .int .i64 (i : Int), .int .i64 ((i + 1 : Nat) : Int)] = some (.lback (.fresh 29 (prs (xs.take i ++ xs.drop (i + 1)))) [])
  cmp : ∀ (k n : Nat) (a b : Tx), kp E k n strings_Compare [.str (str a), .str (str b)] = some (.int .i64 (Lib.compareBytes a b))
theorem half_k {i j : Nat} (h : i + j ≤ 1000000000) : IntKind.wrap .i64 (Int.fdiv (IntKind.wrap .u64 (IntKind.wrap .i64 (((i : Nat) : Int) + ((j : Nat) : Int)))) (2 ^ (min (Int.toNat (1 : Int)) (IntKind.bits .u64)))) = (((i + j) / 2 : Nat) : Int) := by
  rw [i64w (x := ((i : Nat) : Int) + ((j : Nat) : Int)) (by omega), IntWalk.u64_in _ (by omega)]
  have e : (2 : Int) ^ (min (Int.toNat (1 : Int)) (IntKind.bits .u64)) = 2 := by decide
  rw [e, Int.fdiv_eq_ediv_of_nonneg _ (by omega), i64w (by omega)]
  omega
def foundL (x : List Pair) (key : Tx) : Bool := decide ((x[posL x key]?).map (·.key) = some key)
theorem bs_loop (kap : FuncId → List AV → Option AV) (x : List Pair) (key : Tx) (hx : okSt none x = true) (hl : x.length ≤ 1000000) (hC : ∀ p ∈ x, kap over_byKey_1 [.agg [.str (str p.key), .str (str p.val)], .str (str key)] = some (.int .i64 (Lib.compareBytes p.key key))) :
    ∀ (d i j k0 : Nat), j - i ≤ d → d < k0 → i ≤ posL x key → posL x key ≤ j → j ≤ x.length →
    slices_BinarySearchFunc_string_L0 kap k k0 (str key) ((x.length : Nat) : Int) ((i : Nat) : Int) ((j : Nat) : Int) (prs x) = some (.lback (.tup [.int .i64 (posL x key : Nat), .bool (foundL x key)]) [.lrow 29 (prs x)]) := by
  intro d
  induction d with
  | zero =>
    intro i j k0 hd hk h1 h2 h3
    obtain ⟨k0, rfl⟩ : ∃ m, k0 = m + 1 := ⟨k0 - 1, by omega⟩
    obtain rfl : i = posL x key := by omega
    rw [slices_BinarySearchFunc_string_L0_s, bif_f (by omega)]
    unfold foundL
    by_cases hp : posL x key < x.length
    · have hm : ∀ F : AV → Option AV, ((prs x)[posL x key]?).bind F = F (elPair x[posL x key]) := fun F => prs_at x _ hp F
      rw [bif_t (by omega), prs_len, bif_a, bif_t (by omega), bif_t (by omega), Int.toNat_natCast, hm, cells_pair, p_0, p_1, hC _ (List.getElem_mem hp), callI_ok, List.getElem?_eq_getElem hp]
      have e : decide (Lib.compareBytes x[posL x key].key key = 0) = decide (Option.map (·.key) (some x[posL x key]) = some key) := by
        rw [decide_eq_decide, compare_eq]; simp
      rw [e]
    · rw [bif_f (by omega), List.getElem?_eq_none (by omega)]
      rfl
  | succ d ih =>
    intro i j k0 hd hk h1 h2 h3
    obtain ⟨k0, rfl⟩ : ∃ m, k0 = m + 1 := ⟨k0 - 1, by omega⟩
    by_cases hij : i < j
    · have hh : (i + j) / 2 < x.length := by omega
      have hm : ∀ F : AV → Option AV, ((prs x)[(i + j) / 2]?).bind F = F (elPair x[(i + j) / 2]) := fun F => prs_at x _ hh F
      have hlt := posL_lt key hx ((i + j) / 2) x[(i + j) / 2] (List.getElem?_eq_getElem hh)
      rw [slices_BinarySearchFunc_string_L0_s, bif_t (by omega), half_k (by omega), prs_len, bif_a, bif_t (by omega), bif_t (by omega), Int.toNat_natCast, hm, cells_pair, p_0, p_1, hC _ (List.getElem_mem hh), callI_ok]
      by_cases hc : (i + j) / 2 < posL x key
      · rw [bif_t ((compare_lt _ _).2 (hlt.2 hc)), wrap1 (by omega)]
        exact ih _ _ _ (by omega) (by omega) (by omega) h2 h3
      · rw [bif_f (fun h => hc (hlt.1 ((compare_lt _ _).1 h)))]
        exact ih _ _ _ (by omega) (by omega) h1 (by omega) (by omega)
    · obtain rfl : i = j := by omega
      exact ih i i (k0 + 1) (by omega) (by omega) h1 h2 h3
section
variable [HasIns E]
theorem byKey1_k (p : Pair) (key : Tx) : kp E k (n + 1) over_byKey_1 [.agg [.str (str p.key), .str (str p.val)], .str (str key)] = some (.int .i64 (Lib.compareBytes p.key key)) := by
  rw [over_byKey_1_eq, HasIns.cmp, callI_ok]
theorem byKey_k (x : List Pair) (key : Tx) (hx : okSt none x = true) (hl : x.length ≤ 1000000) (hk : x.length < k) : kp E k (n + 3) over_byKey [.lrow 29 (prs x), .str (str key)] = some (.lback (.tup [.int .i64 (posL x key : Nat), .bool (foundL x key)]) [.lrow 29 (prs x)]) := by
  have h := bs_loop (k := k) (kp E k (n + 1)) x key hx hl (fun p _ => byKey1_k p key) x.length 0 x.length k (by omega) hk (by omega) (posL_le x key) (Nat.le_refl _)
  rw [over_byKey_eq, slices_BinarySearchFunc_string_eq, prs_len]
  have h' : slices_BinarySearchFunc_string_L0 (kp E k (n + 1)) k k (str key) ((x.length : Nat) : Int) (0 : Int) ((x.length : Nat) : Int) (prs x) = _ := h
  rw [h', callX_ok, nxR_ok, prs_len, beq_self_eq_true, cond_true, atNil_ok, callT_ok, tupI_ok, tupB_ok, atNil_ok]
theorem set_prs (x : List Pair) (i : Nat) (p : Pair) : List.set (prs x) i (elPair p) = prs (x.set i p) := by simp [prs]
theorem lay1_k (x : List Pair) (p : Pair) (hx : okSt none x = true) (hl : x.length ≤ 100000) (hk : x.length < k) : kp E k (n + 4) over_lay [.fresh 29 (prs x), .agg [.str (str p.key), .str (str p.val)]] = some (.lback (.fresh 29 (prs (layOne x p))) []) := by
  have hpos := posL_le x p.key
  have hfold : AV.agg [.str (str p.key), .str (str p.val)] = elPair p := rfl
  rw [over_lay_eq, byKey_k x p.key hx (by omega) hk, callX_ok, nxR_ok, prs_len, beq_self_eq_true, cond_true, atNil_ok, callT_ok, tupI_ok, tupB_ok, atNil_ok, str_dec, layOne_pos p hx, hfold]
  by_cases hf : (x[posL x p.key]?).map (·.key) = some p.key
  · have hlt : posL x p.key < x.length := by
      rcases Nat.lt_or_ge (posL x p.key) x.length with h | h
      · exact h
      · rw [List.getElem?_eq_none h] at hf; cases hf
    have hfb : foundL x p.key = true := by unfold foundL; exact decide_eq_true hf
    rw [if_pos hf, hfb]
    by_cases hv : p.val = []
    · rw [decide_eq_true hv, if_pos hv, cond_true, cond_true, wrap1 (by omega), HasIns.del (E := E) k (n + 3) x _ hlt (by omega), callX_ok, atNil_ok, callF_ok]
    · have hm : ∀ F : AV → Option AV, ((prs x)[posL x p.key]?).bind F = F (elPair x[posL x p.key]) := fun F => prs_at x _ hlt F
      rw [decide_eq_false hv, if_neg hv, cond_false, cond_false, cond_true, bif_a, bif_t (by omega), bif_t (by omega), Int.toNat_natCast, hm]
      rw [← set_prs]
      rfl
  · have hfb : foundL x p.key = false := by unfold foundL; exact decide_eq_false hf
    rw [if_neg hf, hfb]
    by_cases hv : p.val = []
    · rw [decide_eq_true hv, if_pos hv, cond_true, cond_false, cond_true]
    · rw [decide_eq_false hv, if_neg hv, cond_false, cond_false, cond_false, HasIns.ins (E := E) k (n + 3) x _ p hpos (by omega), callX_ok, atNil_ok, callF_ok]
theorem lay_loop1 (kap : FuncId → List AV → Option AV) (l : List Pair) (hl : l.length ≤ 1000) (hL : ∀ (x : List Pair) (p : Pair), okSt none x = true → x.length ≤ 100000 → kap over_lay [.fresh 29 (prs x), .agg [.str (str p.key), .str (str p.val)]] = some (.lback (.fresh 29 (prs (layOne x p))) [])) :
    ∀ (suf pre x : List Pair) (k0 : Nat), suf.length < k0 → pre ++ suf = l → okSt none x = true → x.length + suf.length ≤ 10000 → over_Lay_L1 kap k k0 (prs l) ((l.length : Nat) : Int) ((pre.length : Nat) : Int) (prs x) = some (.list 2 (prs (suf.foldl layOne x)))
  | [], pre, x, k0 + 1, h, he, ho, hx => by
    rw [List.append_nil] at he
    subst he
    rw [over_Lay_L1_s, bif_f (by omega)]
    rfl
  | p :: suf, pre, x, k0 + 1, h, he, ho, hx => by
    have hi : pre.length < l.length := by rw [← he]; simp
    have hm : ∀ F : AV → Option AV, ((prs l)[pre.length]?).bind F = F (elPair p) := fun F => by rw [← he]; exact prs_mid pre suf p F
    rw [List.length_cons] at h hx
    have hln := layOne_len p x
    have ih := lay_loop1 kap l hl hL suf (pre ++ [p]) (layOne x p) k0 (by omega) (by rw [← he]; simp) (layOne_ok p ho rfl) (by omega)
    rw [List.length_append, List.length_singleton] at ih
    rw [over_Lay_L1_s, bif_t (by omega), prs_len, bif_a, bif_t (by omega), bif_t (by omega), Int.toNat_natCast, hm, cells_pair, p_0, p_1, hL x p ho (by omega), callX_ok, atNil_ok, callF_ok, wrap1 (by omega), ih]
    rfl
theorem lay_loop0 (kap : FuncId → List AV → Option AV) (l more : List Pair) (hl : l.length ≤ 1000) (hm : more.length ≤ 1000) (hk : 1000 < k) (hL : ∀ (x : List Pair) (p : Pair), okSt none x = true → x.length ≤ 100000 → kap over_lay [.fresh 29 (prs x), .agg [.str (str p.key), .str (str p.val)]] = some (.lback (.fresh 29 (prs (layOne x p))) [])) :
    ∀ (suf pre x : List Pair) (k0 : Nat), suf.length < k0 → pre ++ suf = l → okSt none x = true → x.length + suf.length ≤ 5000 → over_Lay_L0 kap k k0 (prs more) (prs l) ((l.length : Nat) : Int) ((pre.length : Nat) : Int) (prs x) = some (.list 2 (prs ((suf ++ more).foldl layOne x)))
  | [], pre, x, k0 + 1, h, he, ho, hx => by
    rw [List.append_nil] at he
    subst he
    have := lay_loop1 (k := k) kap more hm hL more [] x k (by omega) rfl ho (by simp at hx; omega)
    rw [over_Lay_L0_s, bif_f (by omega), prs_len]
    exact this
  | p :: suf, pre, x, k0 + 1, h, he, ho, hx => by
    have hi : pre.length < l.length := by rw [← he]; simp
    have hmm : ∀ F : AV → Option AV, ((prs l)[pre.length]?).bind F = F (elPair p) := fun F => by rw [← he]; exact prs_mid pre suf p F
    rw [List.length_cons] at h hx
    have hln := layOne_len p x
    have ih := lay_loop0 kap l more hl hm hk hL suf (pre ++ [p]) (layOne x p) k0 (by omega) (by rw [← he]; simp) (layOne_ok p ho rfl) (by omega)
    rw [List.length_append, List.length_singleton] at ih
    rw [over_Lay_L0_s, bif_t (by omega), prs_len, bif_a, bif_t (by omega), bif_t (by omega), Int.toNat_natCast, hmm, cells_pair, p_0, p_1, hL x p ho (by omega), callX_ok, atNil_ok, callF_ok, wrap1 (by omega), ih]
    rfl
theorem overLay_k (l more : List Pair) (hl : l.length ≤ 1000) (hm : more.length ≤ 1000) (hk : 1000000 < k) : kp E k (n + 5) over_Lay [.list 2 (prs l), .list 2 (prs more)] = some (.list 2 (prs (layAll (l ++ more)))) := by
  rw [over_Lay_eq, prs_len]
  exact lay_loop0 (k := k) (kp E k (n + 4)) l more hl hm (by omega) (fun x p h1 h2 => lay1_k (n := n) x p h1 h2 (by omega)) l [] [] k (by omega) rfl rfl (by simp; omega)
end
/-! What pairs say of a head. -/
def numV (s : Tx) : Int := if (natOk s && decide (valA 0 s ≤ 9223372036854775807)) = true then (valA 0 s : Int) else 0
def timV (s : Tx) : Int × Int := (timeL s).getD (0, 0)
def sayH (h : Head) (p : Pair) : Head :=
  if whichL p.key = 0 then { h with name := p.val } else if whichL p.key = 1 then { h with link := p.val } else if whichL p.key = 2 then { h with user := p.val } else if whichL p.key = 3 then { h with group := p.val }
  else if whichL p.key = 4 then { h with uid := numV p.val } else if whichL p.key = 5 then { h with gid := numV p.val } else if whichL p.key = 6 then { h with size := numV p.val }
  else if whichL p.key = 7 then { h with sec := (timV p.val).1, nano := (timV p.val).2 } else { h with extra := h.extra ++ [p] }
def applyL (h : Head) (l : List Pair) : Head := l.foldl sayH { h with extra := [] }
theorem say_k [HasNum E] (h : Head) (p : Pair) (hp : p.val.length ≤ 1000000) (hk : 1000000 < k) (hw : 0 ≤ whichL p.key) :
    kp E k (n + 4) over_say [.lent [.int .i64 h.kind, .str (str h.name), .str (str h.link), .int .i64 h.mode, .int .i64 h.uid, .int .i64 h.gid, .int .i64 h.size, .int .i64 h.sec, .int .i64 h.nano, .str (str h.user), .str (str h.group), .int .i64 h.major, .int .i64 h.minor, .hold], .agg [.str (str p.key), .str (str p.val)]] =
      some (.lback (.tup []) [.lent [.int .i64 (sayH h p).kind, .str (str (sayH h p).name), .str (str (sayH h p).link), .int .i64 (sayH h p).mode, .int .i64 (sayH h p).uid, .int .i64 (sayH h p).gid, .int .i64 (sayH h p).size, .int .i64 (sayH h p).sec, .int .i64 (sayH h p).nano, .str (str (sayH h p).user), .str (str (sayH h p).group), .int .i64 (sayH h p).major, .int .i64 (sayH h p).minor, .hold]]) := by
  have hN : ∀ K : List AV → Option AV, callT (kp E k (n + 3) dec_Number [.str (str p.val)]) K = K [.int .i64 (numV p.val), .int .u8 (if (natOk p.val && decide (valA 0 p.val ≤ 9223372036854775807)) = true then 0 else 15)] := fun K => by
    rw [number_k p.val (by omega) (by omega)]
    unfold numV
    cases natOk p.val && decide (valA 0 p.val ≤ 9223372036854775807) <;> rfl
  have hT : ∀ K : List AV → Option AV, ∃ z : Int, callT (kp E k (n + 3) dec_Time [.str (str p.val)]) K = K [.agg [.int .i64 (timV p.val).1, .int .i64 (timV p.val).2], .int .u8 z] := fun K => by
    rw [time_k p.val (by omega) (by omega)]
    unfold timV
    cases timeL p.val with
    | none => exact ⟨15, rfl⟩
    | some x => exact ⟨0, rfl⟩
  rw [over_say_eq, is_path, is_linkpath, is_uname, is_gname, is_uid, is_gid, is_size, is_mtime]
  have hlt := which_lt p.key
  unfold sayH
  generalize whichL p.key = w at hw hlt
  have : w = 0 ∨ w = 1 ∨ w = 2 ∨ w = 3 ∨ w = 4 ∨ w = 5 ∨ w = 6 ∨ w = 7 := by omega
  rcases this with rfl | rfl | rfl | rfl | rfl | rfl | rfl | rfl
  · rfl
  · rfl
  · rfl
  · rfl
  · simp only [hN]; rfl
  · simp only [hN]; rfl
  · simp only [hN]; rfl
  · obtain ⟨z, hz⟩ := hT (fun vt20 => (tupG 2 vt20 fun vg21 vt22 => (cellI .i64 vg21 0 fun vn23 => (cellI .i64 vg21 1 fun vn24 => (tupI .u8 vt22 fun vn25 vt26 => (atNil vt26 (some (.lback (.tup []) [(.lent [(.int .i64 h.kind), (.str (str h.name)), (.str (str h.link)), (.int .i64 h.mode), (.int .i64 h.uid), (.int .i64 h.gid), (.int .i64 h.size), (.int .i64 vn23), (.int .i64 vn24), (.str (str h.user)), (.str (str h.group)), (.int .i64 h.major), (.int .i64 h.minor), .hold])]))))))))
    exact hz
theorem prs_sn (a : List Pair) (p : Pair) : prs a ++ [.agg [.str (str p.key), .str (str p.val)]] = prs (a ++ [p]) := by simp [prs, elPair, encPair]
theorem apply_loop (kap : FuncId → List AV → Option AV) (l : List Pair) (hl : l.length ≤ 100000) (hK : ∀ s : Tx, kap pax_Known [.str (str s)] = some (.bool (decide (0 ≤ whichL s))))
    (hS : ∀ (h : Head) (p : Pair), p ∈ l → 0 ≤ whichL p.key → kap over_say [.lent [.int .i64 h.kind, .str (str h.name), .str (str h.link), .int .i64 h.mode, .int .i64 h.uid, .int .i64 h.gid, .int .i64 h.size, .int .i64 h.sec, .int .i64 h.nano, .str (str h.user), .str (str h.group), .int .i64 h.major, .int .i64 h.minor, .hold], .agg [.str (str p.key), .str (str p.val)]] =
      some (.lback (.tup []) [.lent [.int .i64 (sayH h p).kind, .str (str (sayH h p).name), .str (str (sayH h p).link), .int .i64 (sayH h p).mode, .int .i64 (sayH h p).uid, .int .i64 (sayH h p).gid, .int .i64 (sayH h p).size, .int .i64 (sayH h p).sec, .int .i64 (sayH h p).nano, .str (str (sayH h p).user), .str (str (sayH h p).group), .int .i64 (sayH h p).major, .int .i64 (sayH h p).minor, .hold]]))
    (c0 c3 c4 c5 c6 c7 c8 c11 c12 : Int) (c1 c2 c9 c10 : ByteArray) (y : List AV) : ∀ (suf pre : List Pair) (h : Head) (k0 : Nat), suf.length < k0 → pre ++ suf = l → h.extra.length + suf.length ≤ 100000 →
    over_Apply_L0 kap k k0 (prs l) ((l.length : Nat) : Int) ((pre.length : Nat) : Int) h.kind (str h.name) (str h.link) h.mode h.uid h.gid h.size h.sec h.nano (str h.user) (str h.group) h.major h.minor c0 c1 c2 c3 c4 c5 c6 c7 c8 c9 c10 c11 c12 (prs h.extra) y = some (.tup [.agg (encHead (suf.foldl sayH h)), .int .u8 0])
  | [], pre, h, k0 + 1, hk, he, hx => by
    rw [List.append_nil] at he
    subst he
    rw [over_Apply_L0_s, bif_f (by omega)]
    rfl
  | p :: suf, pre, h, k0 + 1, hk, he, hx => by
    have hi : pre.length < l.length := by rw [← he]; simp
    have hmm : ∀ F : AV → Option AV, ((prs l)[pre.length]?).bind F = F (elPair p) := fun F => by rw [← he]; exact prs_mid pre suf p F
    rw [List.length_cons] at hk hx
    have ih := fun (g : Head) (hg : g.extra.length ≤ h.extra.length + 1) => apply_loop kap l hl hK hS c0 c3 c4 c5 c6 c7 c8 c11 c12 c1 c2 c9 c10 y suf (pre ++ [p]) g k0 (by omega) (by rw [← he]; simp) (by omega)
    rw [List.length_append, List.length_singleton] at ih
    rw [over_Apply_L0_s, bif_t (by omega), prs_len, bif_a, bif_t (by omega), bif_t (by omega), Int.toNat_natCast, hmm, cells_pair, p_0, p_1, hK, callB_ok, List.foldl_cons, wrap1 (by omega)]
    by_cases hw : 0 ≤ whichL p.key
    · have hex : (sayH h p).extra = h.extra := by
        have hlt := which_lt p.key
        unfold sayH
        generalize whichL p.key = w at hw hlt
        have : w = 0 ∨ w = 1 ∨ w = 2 ∨ w = 3 ∨ w = 4 ∨ w = 5 ∨ w = 6 ∨ w = 7 := by omega
        rcases this with rfl | rfl | rfl | rfl | rfl | rfl | rfl | rfl <;> rfl
      rw [bif_t hw, hS h p (by rw [← he]; simp) hw, callX_ok, nxX_ok, nxI_ok, nxS_ok, nxS_ok, nxI_ok, nxI_ok, nxI_ok, nxI_ok, nxI_ok, nxI_ok, nxS_ok, nxS_ok, nxI_ok, nxI_ok, nxH_ok, atNil_ok, atNil_ok, callT_ok, atNil_ok]
      rw [← hex]
      exact ih (sayH h p) (by rw [hex]; omega)
    · have hs : sayH h p = { h with extra := h.extra ++ [p] } := by
        unfold sayH
        rw [if_neg (by omega), if_neg (by omega), if_neg (by omega), if_neg (by omega), if_neg (by omega), if_neg (by omega), if_neg (by omega), if_neg (by omega)]
      rw [bif_f hw, prs_len, show (decide ((h.extra.length + 1) * 32 ≤ 140737488355328) && decide (h.extra.length + 1 ≤ 9223372036854775807)) = true by simp; omega, cond_true, prs_sn, hs]
      exact ih { h with extra := h.extra ++ [p] } (by simp)
end Go.Proofs.YtogfcfgfkggmlaaGreatDoor.Eng.U


/- slices.Insert and slices.Delete at pairs, strings.Compare: as given functions. -/
set_option linter.unusedVariables false
set_option linter.unusedSectionVars false
set_option linter.unusedSimpArgs false
namespace Go.Proofs.YtogfcfgfkggmlaaGreatDoor.Eng.U
open Go Go.RowKit Go.Proofs Go.Proofs.YtogfcfgfkggmlaaGreatDoor.Eng Go.Proofs.YtogfcfgfkggmlaaGreatDoor.Eng.Rdv Go.Proofs.YtogfcfgfkggmlaaGreatDoor.S08

def flatV (l : List Pair) : List Value := l.flatMap fun p => [.string (str p.key), .string (str p.val)]
theorem flatV_len : ∀ l : List Pair, (flatV l).length = l.length * 2
  | [] => rfl
  | p :: l => by
    have e : flatV (p :: l) = .string (str p.key) :: .string (str p.val) :: flatV l := rfl
    rw [e, List.length_cons, List.length_cons, flatV_len l, List.length_cons]; omega
theorem flatV_app (a b : List Pair) : flatV (a ++ b) = flatV a ++ flatV b := by simp [flatV]
theorem flatV_take (l : List Pair) (i : Nat) (h : i ≤ l.length) : (flatV l).take (i * 2) = flatV (l.take i) := by
  conv => lhs; rw [← List.take_append_drop i l, flatV_app]
  rw [List.take_append_of_le_length (by rw [flatV_len, List.length_take]; omega), List.take_of_length_le (by rw [flatV_len, List.length_take]; omega)]
theorem flatV_drop (l : List Pair) (i : Nat) (h : i ≤ l.length) : (flatV l).drop (i * 2) = flatV (l.drop i) := by
  conv => lhs; rw [← List.take_append_drop i l, flatV_app]
  rw [List.drop_append, List.drop_of_length_le (by rw [flatV_len, List.length_take]; omega), List.nil_append, flatV_len, List.length_take, show i * 2 - min i l.length * 2 = 0 by omega, List.drop_zero]
theorem flatV_one : ∀ (l : List Pair), ∀ u ∈ flatV l, u.oneCell' = true
  | [], u, h => by cases h
  | p :: l, u, h => by
    have e : flatV (p :: l) = .string (str p.key) :: .string (str p.val) :: flatV l := rfl
    rw [e] at h
    rcases List.mem_cons.1 h with rfl | h
    · rfl
    · rcases List.mem_cons.1 h with rfl | h
      · rfl
      · exact flatV_one l u h
theorem cells2 : Tryz.prog.cellsOf 29 = 2 := by kernel_rfl
theorem els_flat {S : Stab} : ∀ (l : List Pair) (us : List Value), Els Tryz.prog S 29 (prs l) us → us = flatV l
  | [], us, h => by
    have := h.1
    rw [show (prs ([] : List Pair)).length = 0 from rfl, Nat.zero_mul] at this
    exact List.eq_nil_of_length_eq_zero this
  | p :: l, us, h => by
    obtain ⟨h1, h2, h3⟩ := h
    rw [cells2] at h1 h3
    rw [prs_len, List.length_cons] at h1
    match us, h1 with
    | [], h1 => simp at h1
    | [_], h1 => simp at h1; omega
    | u :: v :: us, h1 =>
      have h0 := (h3 0 (elPair p) rfl).2
      have hu := V_str ((h0 0 (.str (str p.key)) rfl).2 u rfl)
      have hv := V_str ((h0 1 (.str (str p.val)) rfl).2 v rfl)
      have ih := els_flat l us ⟨by rw [cells2, prs_len]; simp only [List.length_cons] at h1; omega, fun x hx => h2 x (by simp [hx]), fun i y hy => by
        obtain ⟨q1, q2⟩ := h3 (i + 1) y (by simpa [prs] using hy)
        refine ⟨by rw [cells2]; exact q1, fun j c hc => ⟨(q2 j c hc).1, fun w hw => (q2 j c hc).2 w ?_⟩⟩
        rw [cells2] at hw
        rw [show (i + 1) * 2 + j = i * 2 + j + 1 + 1 by omega, List.getElem?_cons_succ, List.getElem?_cons_succ]
        exact hw⟩
      rw [hu, hv, ih]
      rfl
theorem flat_at : ∀ (l : List Pair) (i : Nat) (p : Pair), l[i]? = some p → (flatV l)[i * 2]? = some (.string (str p.key)) ∧ (flatV l)[i * 2 + 1]? = some (.string (str p.val))
  | [], i, p, h => by simp at h
  | q :: l, 0, p, h => by
    simp only [List.getElem?_cons_zero, Option.some.injEq] at h
    subst h
    exact ⟨rfl, rfl⟩
  | q :: l, i + 1, p, h => by
    have := flat_at l i p (by simpa using h)
    have e : flatV (q :: l) = .string (str q.key) :: .string (str q.val) :: flatV l := rfl
    rw [e, show (i + 1) * 2 = i * 2 + 1 + 1 by omega]
    simpa using this
theorem flat_els (S : Stab) (l : List Pair) : Els Tryz.prog S 29 (prs l) (flatV l) := by
  refine ⟨by rw [flatV_len, prs_len, cells2], flatV_one l, fun i y hy => ?_⟩
  unfold prs at hy
  rw [List.getElem?_map] at hy
  obtain ⟨p, hp, rfl⟩ := Option.map_eq_some_iff.1 hy
  obtain ⟨f1, f2⟩ := flat_at l i p hp
  rw [cells2]
  refine ⟨rfl, fun j c hc => ?_⟩
  match j, hc with
  | 0, hc =>
    cases hc
    refine ⟨rfl, fun v hv => ?_⟩
    rw [Nat.add_zero, f1] at hv
    cases hv; exact V.str _
  | 1, hc =>
    cases hc
    refine ⟨rfl, fun v hv => ?_⟩
    rw [f2] at hv
    cases hv; exact V.str _
theorem splice_in (cur us vs : List Value) (i n : Nat) (h1 : cur.take (n * 2) = us) (h2 : us.length = n * 2) (h3 : vs.length = 2) (hi : i ≤ n) (h4 : (n + 1) * 2 ≤ cur.length) :
    (((cur.take ((i + 1) * 2) ++ us.drop (i * 2) ++ cur.drop ((i + 1) * 2 + (us.drop (i * 2)).length)).take (i * 2) ++ vs ++ (cur.take ((i + 1) * 2) ++ us.drop (i * 2) ++ cur.drop ((i + 1) * 2 + (us.drop (i * 2)).length)).drop (i * 2 + vs.length)).take ((n + 1) * 2)) = us.take (i * 2) ++ vs ++ us.drop (i * 2) := by
  have hd : (us.drop (i * 2)).length = n * 2 - i * 2 := by rw [List.length_drop, h2]
  have ht : (cur.take ((i + 1) * 2)).length = (i + 1) * 2 := by rw [List.length_take]; omega
  have e1 : (cur.take ((i + 1) * 2) ++ us.drop (i * 2) ++ cur.drop ((i + 1) * 2 + (us.drop (i * 2)).length)).take (i * 2) = us.take (i * 2) := by
    rw [List.append_assoc, List.take_append_of_le_length (by omega), List.take_take, ← h1, List.take_take]
    congr 1
    omega
  have e2 : (cur.take ((i + 1) * 2) ++ us.drop (i * 2) ++ cur.drop ((i + 1) * 2 + (us.drop (i * 2)).length)).drop (i * 2 + vs.length) = us.drop (i * 2) ++ cur.drop ((i + 1) * 2 + (us.drop (i * 2)).length) := by
    rw [List.append_assoc, List.drop_append, List.drop_of_length_le (by omega), List.nil_append, ht, h3, show i * 2 + 2 - (i + 1) * 2 = 0 by omega, List.drop_zero]
  rw [e1, e2, ← List.append_assoc, List.take_append_of_le_length (by simp only [List.length_append, List.length_take, hd, h2, h3]; omega), List.take_of_length_le (by simp only [List.length_append, List.length_take, hd, h2, h3]; omega)]
theorem splice_new (row us vs : List Value) (i n : Nat) (h1 : row.take (i * 2) = us.take (i * 2)) (h2 : us.length = n * 2) (h3 : vs.length = 2) (hi : i ≤ n) (h4 : (n + 1) * 2 ≤ row.length) :
    ((row.take (i * 2) ++ vs ++ row.drop (i * 2 + vs.length)).take ((i + 1) * 2) ++ us.drop (i * 2) ++ (row.take (i * 2) ++ vs ++ row.drop (i * 2 + vs.length)).drop ((i + 1) * 2 + (us.drop (i * 2)).length)).take ((n + 1) * 2) = us.take (i * 2) ++ vs ++ us.drop (i * 2) := by
  have hd : (us.drop (i * 2)).length = n * 2 - i * 2 := by rw [List.length_drop, h2]
  have ht : (row.take (i * 2) ++ vs).length = (i + 1) * 2 := by rw [List.length_append, List.length_take, h3]; omega
  have e1 : (row.take (i * 2) ++ vs ++ row.drop (i * 2 + vs.length)).take ((i + 1) * 2) = us.take (i * 2) ++ vs := by
    rw [List.take_append_of_le_length (by omega), List.take_of_length_le (by omega), h1]
  rw [e1, List.take_append_of_le_length (by simp only [List.length_append, List.length_take, hd, h2, h3]; omega), List.take_of_length_le (by simp only [List.length_append, List.length_take, hd, h2, h3]; omega)]
theorem splice_out (cur us zs : List Value) (i n : Nat) (h1 : cur.take (n * 2) = us) (h2 : us.length = n * 2) (hi : i < n) (h4 : n * 2 ≤ cur.length) (h3 : zs.length = 2) :
    ((cur.take (i * 2) ++ us.drop ((i + 1) * 2) ++ cur.drop (i * 2 + (us.drop ((i + 1) * 2)).length)).take ((n - 1) * 2) ++ zs ++ (cur.take (i * 2) ++ us.drop ((i + 1) * 2) ++ cur.drop (i * 2 + (us.drop ((i + 1) * 2)).length)).drop ((n - 1) * 2 + zs.length)).take ((n - 1) * 2) = us.take (i * 2) ++ us.drop ((i + 1) * 2) := by
  have hd : (us.drop ((i + 1) * 2)).length = n * 2 - (i + 1) * 2 := by rw [List.length_drop, h2]
  have ht : (cur.take (i * 2)).length = i * 2 := by rw [List.length_take]; omega
  have e1 : (cur.take (i * 2) ++ us.drop ((i + 1) * 2) ++ cur.drop (i * 2 + (us.drop ((i + 1) * 2)).length)).take ((n - 1) * 2) = us.take (i * 2) ++ us.drop ((i + 1) * 2) := by
    rw [List.take_append_of_le_length (by rw [List.length_append]; omega), List.take_of_length_le (by rw [List.length_append]; omega)]
    congr 1
    rw [← h1, List.take_take]
    congr 1
    omega
  rw [e1, List.append_assoc, List.take_append_of_le_length (by simp only [List.length_append, List.length_take, hd, h2]; omega), List.take_of_length_le (by simp only [List.length_append, List.length_take, hd, h2]; omega)]
theorem lback_none {S : Stab} {w w' : World} : ∀ (args : List AV) (vals : List Value), (∀ c ∈ args, c.isLent = false) → args.length = vals.length → LBack Tryz.prog S w w' args vals []
  | [], vals, _, _ => rfl
  | a :: args, [], _, h => by cases h
  | a :: args, u :: vals, hl, h => by
    have ih := lback_none (S := S) (w := w) (w' := w') args vals (fun c hc => hl c (.tail _ hc)) (by simpa using h)
    have ha := hl a (.head _)
    cases a <;> first | exact ⟨u, vals, rfl, ih⟩ | cases ha
theorem lentB_none : ∀ (args : List AV) (vals : List Value), (∀ c ∈ args, c.isLent = false) → lentB args vals = []
  | [], vals, _ => by simp [lentB]
  | a :: args, [], _ => by simp [lentB]
  | a :: args, u :: vals, hl => by
    have ih := lentB_none args vals fun c hc => hl c (.tail _ hc)
    simp only [lentB, hl a (.head _), cond_false, List.nil_append, ih]
/-- What is answered out of rows that were handed in: one row, that is new or lies where one of these lay. -/
theorem ok_given {f : FuncId} {args : List AV} {xs : List Pair} (hlent : ∀ c ∈ args, c.isLent = false)
    (h : ∀ (S : Stab) (w : World) (vals : List Value), Agree S w → LArgs Tryz.prog S w args vals → (resB args vals).Nodup → Calls Tryz.prog f vals.toArray w fun e w' => ∃ v, e = .returned v ∧ w'.ownsRow 0 29 2 v xs.length (flatV xs) ∧ BelX { w := w, x := resB args vals, held := fun _ => none } w' ∧ (∀ g, hblk v = some g → w.heap.size ≤ g ∨ g ∈ resB args vals))
    (hS : ∀ (S : Stab) (w : World) (vals : List Value), LArgs Tryz.prog S w args vals → ∀ g ∈ resB args vals, ∀ x z, S x = some z → x.block ≠ g) : Ok Tryz.prog glob f args (.lback (.fresh 29 (prs xs)) []) := by
  intro S w vals hag hG hL hnd hoff
  refine (h S w vals hag hL hnd).mono ?_
  rintro e w' ⟨v, rfl, hown, hb, hblk⟩
  have hne := hS S w vals hL
  have hag' : Agree S w' := fun x u hx => by
    have hc := hag x u hx
    have hlt := World.block_lt_of_cell? w x hc
    exact (World.cell?_of_block (hb.block _ hlt fun hm => hne _ hm x u hx rfl)).trans hc
  refine ⟨v, S, rfl, fun _ _ h => h, hag', fun x u hx => .inl hx, hb, ?_, ?_, ?_⟩
  · refine ⟨flatV xs, by rw [prs_len, cells2]; exact hown, by rw [cells2]; decide, flat_els S xs, fun g hg => ⟨hblk g hg, fun x u hx e => ?_⟩⟩
    rcases hblk g hg with hn | hm
    · have hlt := World.block_lt_of_cell? w x (hag x u hx)
      omega
    · exact hne g hm x u hx e
  · exact lback_none args vals hlent hL.1
  · intro g _
    rw [lentB_none args vals hlent]
    simp
end Go.Proofs.YtogfcfgfkggmlaaGreatDoor.Eng.U


/- slices.Insert and slices.Delete at pairs, strings.Compare: the pieces. -/
set_option linter.unusedVariables false
set_option linter.unusedSectionVars false
set_option linter.unusedSimpArgs false
namespace Go.Proofs.YtogfcfgfkggmlaaGreatDoor.Eng.U
open Go Go.RowKit Go.Proofs Go.Proofs.YtogfcfgfkggmlaaGreatDoor.Eng Go.Proofs.YtogfcfgfkggmlaaGreatDoor.Eng.Rdv Go.Proofs.YtogfcfgfkggmlaaGreatDoor.S08

noncomputable def pIns : Piece := { f := slices_Insert_api_Pair, ans := fun args => match args with
  | [.fresh e xs, .int .i64 i, .fresh e' ys] => (toPrs xs).bind fun l => (toPrs ys).bind fun m => bif decide (m.length = 1) && decide (e = 29) && decide (e' = 29) && decide (0 ≤ i) && decide (i.toNat ≤ l.length) && decide (l.length ≤ 1000000) then some (.lback (.fresh 29 (prs (l.take i.toNat ++ m ++ l.drop i.toNat))) []) else none
  | _ => none }
noncomputable def pDel : Piece := { f := slices_Delete_api_Pair, ans := fun args => match args with
  | [.fresh e xs, .int .i64 i, .int .i64 j] => (toPrs xs).bind fun l => bif decide (e = 29) && decide (0 ≤ i) && decide (j = i + 1) && decide (i.toNat < l.length) && decide (l.length ≤ 1000000) then some (.lback (.fresh 29 (prs (l.take i.toNat ++ l.drop (i.toNat + 1)))) []) else none
  | _ => none }
noncomputable def pCmp : Piece := { f := strings_Compare, ans := fun args => match args with
  | [.str a, .str b] => some (.int .i64 (Lib.compareBytes a.data.toList b.data.toList))
  | _ => none }
theorem cmp_right : pCmp.Right := by
  refine ⟨⟨Tryz.f205, Tryz.func205, by kernel_rfl, by kernel_rfl⟩, fun args res h => ?_⟩
  unfold pCmp at h
  dsimp only at h
  split at h
  · rename_i a b
    obtain rfl := Option.some.inj h
    refine ok_pure ⟨rfl, rfl⟩ fun S w vals hag hG hV => ?_
    obtain ⟨v, u, rfl, h1, h2⟩ := VL_2 hV
    obtain rfl := V_str h1
    obtain rfl := V_str h2
    refine (Tryz.strings_Compare a b w).mono ?_
    rintro e w' ⟨rfl, hw⟩
    first
      | (subst hw; exact ⟨_, rfl, fun S' => V.int _ _, Below.refl _ _⟩)
      | (obtain ⟨m, rfl⟩ := hw; exact ⟨_, rfl, fun S' => V.int _ _, (Below.refl _ w).ahead _⟩)
  · cases h
theorem largs3 {S : Stab} {w : World} {a b c : AV} {vals : List Value} (h : LArgs Tryz.prog S w [a, b, c] vals) : ∃ v u x, vals = [v, u, x] ∧ LR Tryz.prog S w a v ∧ LR Tryz.prog S w b u ∧ LR Tryz.prog S w c x := by
  obtain ⟨h1, h2⟩ := h
  match vals, h1 with
  | [v, u, x], _ => exact ⟨v, u, x, rfl, h2 0 _ _ rfl rfl, h2 1 _ _ rfl rfl, h2 2 _ _ rfl rfl⟩
theorem lr_fresh {S : Stab} {w : World} {l : List Pair} {v : Value} (h : LR Tryz.prog S w (.fresh 29 (prs l)) v) : w.ownsRow 0 29 2 v l.length (flatV l) ∧ ∀ g, hblk v = some g → ∀ x z, S x = some z → x.block ≠ g := by
  obtain ⟨us, h1, _, h3, h4⟩ := h
  rw [cells2, prs_len] at h1
  have := els_flat l us h3
  subst this
  exact ⟨h1, h4⟩
theorem own_hblk {w : World} {B e sz n : Nat} {v : Value} {us : List Value} (h : w.ownsRow B e sz v n us) : v.ownBlock = hblk v := by
  rcases h.2 with ⟨rfl, _⟩ | ⟨g, cap, cur, rfl, _⟩ <;> rfl
theorem shape_of {w : World} {g t : Nat} {cur : Array Value} {fz : Nat × Nat} (h : w.heap[g]? = some (.cells cur t fz)) : w.shape? g = some (t, cur.size) := by
  simp [World.shape?, h]
theorem frozen_of {w : World} {g t k : Nat} {cur : Array Value} (h : w.heap[g]? = some (.cells cur t (0, 0))) : w.frozen? ⟨g, k, none⟩ = false := by
  simp [World.frozen?, h]
set_option maxHeartbeats 1000000 in
theorem ins_calls (w : World) (l : List Pair) (p : Pair) (i : Nat) (v x : Value) (hi : i ≤ l.length) (hl : l.length ≤ 1000000) (hv : w.ownsRow 0 29 2 v l.length (flatV l)) (hx : w.ownsRow 0 29 2 x 1 (flatV [p])) (hd : ∀ g, hblk v = some g → hblk x ≠ some g) :
    Calls Tryz.prog slices_Insert_api_Pair #[v, .int .i64 (i : Int), x] w fun e w' => ∃ r, e = .returned r ∧ w'.ownsRow 0 29 2 r (l.take i ++ [p] ++ l.drop i).length (flatV (l.take i ++ [p] ++ l.drop i)) ∧
      w'.os = w.os ∧ w'.tape = w.tape ∧ w'.output = w.output ∧ w.heap.size ≤ w'.heap.size ∧ (∀ k, k < w.heap.size → hblk v ≠ some k → w'.heap[k]? = w.heap[k]?) ∧ (∀ g, hblk r = some g → w.heap.size ≤ g ∨ hblk v = some g) := by
  have hlen : (l.take i ++ [p] ++ l.drop i).length = l.length + 1 := by simp only [List.length_append, List.length_take, List.length_drop, List.length_singleton]; omega
  have hfl : flatV (l.take i ++ [p] ++ l.drop i) = (flatV l).take (i * 2) ++ flatV [p] ++ (flatV l).drop (i * 2) := by rw [flatV_app, flatV_app, flatV_take l i hi, flatV_drop l i hi]
  have hfll : (flatV l).length = l.length * 2 := flatV_len l
  have hfp : (flatV [p]).length = 2 := rfl
  rw [hlen, hfl]
  rcases hx.2 with ⟨rfl, h0⟩ | ⟨vb, vc, curx, rfl, _, hgx, hnx, _, hsx, htx⟩
  · cases h0
  have hvs : ∀ j u, (flatV [p])[j]? = some u → w.cell? ((⟨vb, 0, none⟩ : Addr).add j) = some u := hx.cells rfl
  have hvs' : ∀ j u, (flatV [p])[j]? = some u → w.cell? ⟨vb, j, none⟩ = some u := fun j u h => by have := hvs j u h; rwa [Addr.add_lit, Nat.zero_add] at this
  by_cases he : i = l.length
  · subst he
    have hee : (flatV l).take (l.length * 2) ++ flatV [p] ++ (flatV l).drop (l.length * 2) = flatV l ++ flatV [p] := by rw [← hfll, List.take_length, List.drop_length, List.append_nil]
    rw [hee]
    refine (insert_end v l.length 0 vb vc (flatV l) (flatV [p]) w hv hfp hvs (flatV_one _) (by omega) (Nat.zero_le _)).mono ?_
    rintro e w' ⟨r, rfl, h2, h3, h5⟩
    rw [own_hblk hv] at h3 h5
    rw [own_hblk h2] at h5
    refine ⟨r, rfl, h2, h3.os, h3.tape, h3.output, h3.size, fun k hk hne => h3.block k hk (fun e => hne e.symm), fun g hg => ?_⟩
    rw [hg] at h5
    rcases h5 with h5 | h5
    · exact .inr h5.symm
    · cases h5; exact .inl (Nat.le_refl _)
  · have hlt : i < l.length := by omega
    rcases hv.2 with ⟨rfl, h0⟩ | ⟨b, c, cur, rfl, _, hg, hnc, hcm, hcs, htk⟩
    · rw [h0] at hlt; omega
    have hvb : vb ≠ b := fun e => hd b rfl (by rw [e]; rfl)
    have hcell : ∀ j u, (flatV l)[j]? = some u → w.cell? ⟨b, j, none⟩ = some u := fun j u h => by have := hv.cells (g := b) rfl j u h; rwa [Addr.add_lit, Nat.zero_add] at this
    have hc63 : c ≤ 9223372036854775807 := by simp only [maxLen] at hcm; omega
    have hcsl : cur.toList.length = c * 2 := by rw [Array.length_toList, hcs]
    by_cases hr : l.length + 1 ≤ c
    · have hsp : ∀ j, j < (l.length + 1) * 2 → (w.cell? ⟨b, j, none⟩).isSome = true := fun j hj => by
        have : j < cur.size := by omega
        simp [World.cell?, hg, this]
      refine (insert_shift b l.length c i vb vc (flatV l) (flatV [p]) w hlt hr hc63 hvb hfll hfp hcell hsp (fun j _ => frozen_of hg) hvs' (flatV_one _) (flatV_one _) _ _ _ _ (shape_of hgx) (shape_of hg) (by omega) (frozen_of hgx) (frozen_of hgx)).mono ?_
      rintro e w' ⟨rfl, hw⟩
      have hdl : ((flatV l).drop (i * 2)).length = l.length * 2 - i * 2 := by rw [List.length_drop, hfll]
      have r1 := setCells_row b 29 ((flatV l).drop (i * 2)) ((i + 1) * 2) w.drew cur hg (by omega)
      have r2 := setCells_row b 29 (flatV [p]) (i * 2) _ _ r1 (by simp only [List.size_toArray, List.length_append, List.length_take, List.length_drop, hcsl, hdl, hfp]; omega)
      obtain ⟨a1, a2, a3, a4, a5⟩ := setCells_frame b ((flatV l).drop (i * 2)) ((i + 1) * 2) w.drew
      obtain ⟨b1, b2, b3, b4, b5⟩ := setCells_frame b (flatV [p]) (i * 2) (w.drew.setCells b ((i + 1) * 2) ((flatV l).drop (i * 2)))
      rw [← hw] at r2 b1 b2 b3 b4 b5
      refine ⟨_, rfl, ⟨?_, .inr ⟨b, c, _, rfl, Nat.zero_le _, r2, hr, hcm, ?_, ?_⟩⟩, b1.trans a1, b2.trans a2, b3.trans a3, by rw [b4, a4]; exact Nat.le_refl _, fun k hk hne => (b5 k (fun e => hne (by rw [e]; rfl))).trans (a5 k (fun e => hne (by rw [e]; rfl))), fun g hg => .inr hg⟩
      · simp only [List.length_append, List.length_take, hdl, hfll, hfp]; omega
      · simp only [List.size_toArray, List.length_append, List.length_take, List.length_drop, hcsl, hdl, hfp, hfll]; omega
      · exact splice_in cur.toList (flatV l) (flatV [p]) i l.length htk hfll hfp hi (by omega)
    · refine (insert_grow b l.length c i vb vc (flatV l) (flatV [p]) w hlt hnc (by omega) (by omega) hfll hfp hcell hvs' (flatV_one _) (flatV_one _)).mono ?_
      rintro e w' ⟨rfl, hw⟩
      have hGn := grownCap_ge w (l.length + 1) c 29
      have hGm := grownCap_le_maxLen w (l.length + 1) c 29 (by unfold maxLen; omega)
      generalize hG : grownCap w (l.length + 1) c 29 = G at *
      have hzl : ∀ m, (Builtin.zeroCells (Value.agg #[.string ⟨#[]⟩, .string ⟨#[]⟩]).cells m).size = m * 2 := fun m => by simp [Builtin.zeroCells, Value.cells]
      obtain ⟨ROW, hROW⟩ : ∃ ROW : Array Value, ROW = ((flatV l).take (i * 2)).toArray ++ Builtin.zeroCells (Value.agg #[.string ⟨#[]⟩, .string ⟨#[]⟩]).cells (l.length + 1 - i) ++ Builtin.zeroCells (Value.agg #[.string ⟨#[]⟩, .string ⟨#[]⟩]).cells (G - (l.length + 1)) := ⟨_, rfl⟩
      rw [← hROW] at hw
      have hRs : ROW.size = G * 2 := by rw [hROW]; simp only [Array.size_append, hzl, List.size_toArray, List.length_take, hfll]; omega
      have hRt : ROW.toList.take (i * 2) = (flatV l).take (i * 2) := by
        rw [hROW]
        simp only [Array.toList_append]
        rw [List.append_assoc, List.take_append_of_le_length (by simp [hfll]; omega), List.take_of_length_le (by simp [hfll]; omega)]
      have hRl : ROW.toList.length = G * 2 := by rw [Array.length_toList, hRs]
      have hdl : ((flatV l).drop (i * 2)).length = l.length * 2 - i * 2 := by rw [List.length_drop, hfll]
      have r0 : ((w.alloc (.cells ROW 29)).drew).heap[w.heap.size]? = some (.cells ROW 29 (0, 0)) := heap_alloc_new w _
      have r1 := setCells_row w.heap.size 29 (flatV [p]) (i * 2) _ ROW r0 (by omega)
      have r1' : (((w.alloc (.cells ROW 29)).drew.setCells w.heap.size (i * 2) (flatV [p])).drew).heap[w.heap.size]? = _ := r1
      have r2 := setCells_row w.heap.size 29 ((flatV l).drop (i * 2)) ((i + 1) * 2) _ _ r1' (by simp only [List.size_toArray, List.length_append, List.length_take, List.length_drop, hRl, hdl, hfp]; omega)
      obtain ⟨a1, a2, a3, a4, a5⟩ := setCells_frame w.heap.size (flatV [p]) (i * 2) (w.alloc (.cells ROW 29)).drew
      obtain ⟨b1, b2, b3, b4, b5⟩ := setCells_frame w.heap.size ((flatV l).drop (i * 2)) ((i + 1) * 2) ((w.alloc (.cells ROW 29)).drew.setCells w.heap.size (i * 2) (flatV [p])).drew
      rw [← hw] at r2 b1 b2 b3 b4 b5
      have hsz : ((w.alloc (.cells ROW 29)).drew).heap.size = w.heap.size + 1 := World.size_alloc w _
      refine ⟨_, rfl, ⟨?_, .inr ⟨w.heap.size, G, _, rfl, Nat.zero_le _, r2, hGn, hGm, ?_, ?_⟩⟩, b1.trans a1, b2.trans a2, b3.trans a3, ?_, fun k hk hne => (b5 k (by omega)).trans ((a5 k (by omega)).trans (Below.heap_alloc w _ k hk)), fun g hg => ?_⟩
      · simp only [List.length_append, List.length_take, hdl, hfll, hfp]; omega
      · simp only [List.size_toArray, List.length_append, List.length_take, List.length_drop, hRl, hdl, hfp, hfll]; omega
      · exact splice_new ROW.toList (flatV l) (flatV [p]) i l.length hRt hfll hfp hi (by omega)
      · have b4' : w'.heap.size = ((w.alloc (.cells ROW 29)).drew.setCells w.heap.size (i * 2) (flatV [p])).heap.size := b4
        rw [b4', a4, hsz]; omega
      · have : some w.heap.size = some g := hg
        cases this; exact .inl (Nat.le_refl _)
theorem del_calls (w : World) (l : List Pair) (i : Nat) (v : Value) (hi : i < l.length) (hl : l.length ≤ 1000000) (hv : w.ownsRow 0 29 2 v l.length (flatV l)) :
    Calls Tryz.prog slices_Delete_api_Pair #[v, .int .i64 (i : Int), .int .i64 ((i + 1 : Nat) : Int)] w fun e w' => ∃ r, e = .returned r ∧ w'.ownsRow 0 29 2 r (l.take i ++ l.drop (i + 1)).length (flatV (l.take i ++ l.drop (i + 1))) ∧
      w'.os = w.os ∧ w'.tape = w.tape ∧ w'.output = w.output ∧ w.heap.size ≤ w'.heap.size ∧ (∀ k, k < w.heap.size → hblk v ≠ some k → w'.heap[k]? = w.heap[k]?) ∧ (∀ g, hblk r = some g → hblk v = some g) := by
  have hlen : (l.take i ++ l.drop (i + 1)).length = l.length - 1 := by simp only [List.length_append, List.length_take, List.length_drop]; omega
  have hfl : flatV (l.take i ++ l.drop (i + 1)) = (flatV l).take (i * 2) ++ (flatV l).drop ((i + 1) * 2) := by rw [flatV_app, flatV_take l i (by omega), flatV_drop l (i + 1) (by omega)]
  have hfll : (flatV l).length = l.length * 2 := flatV_len l
  rw [hlen, hfl]
  rcases hv.2 with ⟨rfl, h0⟩ | ⟨b, c, cur, rfl, _, hg, hnc, hcm, hcs, htk⟩
  · rw [h0] at hi; omega
  have hcell : ∀ j u, (flatV l)[j]? = some u → w.cell? ⟨b, j, none⟩ = some u := fun j u h => by have := hv.cells (g := b) rfl j u h; rwa [Addr.add_lit, Nat.zero_add] at this
  have hc63 : c ≤ 9223372036854775807 := by simp only [maxLen] at hcm; omega
  have hcsl : cur.toList.length = c * 2 := by rw [Array.length_toList, hcs]
  refine (delete_one b l.length c i (i + 1) (flatV l) w rfl hi hnc hc63 hfll hcell (fun j _ => frozen_of hg) (flatV_one _)).mono ?_
  rintro e w' ⟨rfl, hw⟩
  have hdl : ((flatV l).drop ((i + 1) * 2)).length = l.length * 2 - (i + 1) * 2 := by rw [List.length_drop, hfll]
  have r1 := setCells_row b 29 ((flatV l).drop ((i + 1) * 2)) (i * 2) w.drew cur hg (by omega)
  have hz : ([.string ⟨#[]⟩, .string ⟨#[]⟩] : List Value).length = 2 := rfl
  have r2 := setCells_row b 29 [.string ⟨#[]⟩, .string ⟨#[]⟩] ((l.length - 1) * 2) _ _ r1 (by simp only [List.size_toArray, List.length_append, List.length_take, List.length_drop, hcsl, hdl, hz]; omega)
  obtain ⟨a1, a2, a3, a4, a5⟩ := setCells_frame b ((flatV l).drop ((i + 1) * 2)) (i * 2) w.drew
  obtain ⟨b1, b2, b3, b4, b5⟩ := setCells_frame b [.string ⟨#[]⟩, .string ⟨#[]⟩] ((l.length - 1) * 2) (w.drew.setCells b (i * 2) ((flatV l).drop ((i + 1) * 2)))
  rw [← hw] at r2 b1 b2 b3 b4 b5
  refine ⟨_, rfl, ⟨?_, .inr ⟨b, c, _, rfl, Nat.zero_le _, r2, by omega, hcm, ?_, ?_⟩⟩, b1.trans a1, b2.trans a2, b3.trans a3, by rw [b4, a4]; exact Nat.le_refl _, fun k hk hne => (b5 k (fun e => hne (by rw [e]; rfl))).trans (a5 k (fun e => hne (by rw [e]; rfl))), fun g hg => hg⟩
  · simp only [List.length_append, List.length_take, hdl, hfll]; omega
  · simp only [List.size_toArray, List.length_append, List.length_take, List.length_drop, hcsl, hdl, hfll, hz]; omega
  · exact splice_out cur.toList (flatV l) [.string ⟨#[]⟩, .string ⟨#[]⟩] i l.length htk hfll hi (by omega) rfl
theorem ins_right : pIns.Right := by
  refine ⟨⟨Tryz.f133, Tryz.func133, by kernel_rfl, by kernel_rfl⟩, fun args res h => ?_⟩
  unfold pIns at h
  dsimp only at h
  split at h
  · rename_i e xs i e' ys
    obtain ⟨l, hl, h2⟩ := Option.bind_eq_some_iff.1 h
    obtain ⟨m, hm, h3⟩ := Option.bind_eq_some_iff.1 h2
    clear h h2
    obtain rfl := toPrs_some hl
    obtain rfl := toPrs_some hm
    obtain ⟨hc, h4⟩ := some_of_bif h3
    clear h3
    obtain rfl := Option.some.inj h4
    clear h4
    simp only [Bool.and_eq_true, decide_eq_true_eq] at hc
    obtain ⟨⟨⟨⟨⟨c1, rfl⟩, rfl⟩, c4⟩, c5⟩, c6⟩ := hc
    obtain ⟨p, rfl⟩ : ∃ p, m = [p] := by
      match m, c1 with
      | [p], _ => exact ⟨p, rfl⟩
    obtain ⟨i, rfl⟩ := Int.eq_ofNat_of_zero_le c4
    rw [Int.toNat_natCast] at *
    have hres : ∀ v x : Value, resB [.fresh 29 (prs l), .int .i64 (i : Int), .fresh 29 (prs [p])] [v, .int .i64 (i : Int), x] = (hblk v).toList ++ (hblk x).toList := fun v x => by simp [resB, AV.isRes]
    refine ok_given (by intro c hc; simp at hc; rcases hc with rfl | rfl | rfl <;> rfl) (fun S w vals hag hL hnd => ?_) (fun S w vals hL g hg => ?_)
    · obtain ⟨v, u, x, rfl, r1, r2, r3⟩ := largs3 hL
      obtain rfl := V_int (show V S (.int .i64 (i : Int)) u from r2)
      obtain ⟨o1, n1⟩ := lr_fresh r1
      obtain ⟨o2, n2⟩ := lr_fresh r3
      rw [hres] at hnd ⊢
      refine (ins_calls w l p i v x c5 c6 o1 o2 (fun g h1 h2 => ?_)).mono ?_
      · rw [h1, h2] at hnd
        simp at hnd
      · rintro e w' ⟨r, rfl, h1, h2, h3, h4, h5, h6, h7⟩
        refine ⟨r, rfl, h1, ⟨h2, h3, h4, h5, fun k hk hx => h6 k hk fun e => hx (by rw [e]; simp)⟩, fun g hg => (h7 g hg).imp id fun e => by rw [e]; simp⟩
    · obtain ⟨v, u, x, rfl, r1, r2, r3⟩ := largs3 hL
      obtain rfl := V_int (show V S (.int .i64 (i : Int)) u from r2)
      rw [hres] at hg
      rcases List.mem_append.1 hg with hg | hg
      · exact (lr_fresh r1).2 g (by simpa using hg)
      · exact (lr_fresh r3).2 g (by simpa using hg)
  · cases h
theorem del_right : pDel.Right := by
  refine ⟨⟨Tryz.f132, Tryz.func132, by kernel_rfl, by kernel_rfl⟩, fun args res h => ?_⟩
  unfold pDel at h
  dsimp only at h
  split at h
  · rename_i e xs i j
    obtain ⟨l, hl, h2⟩ := Option.bind_eq_some_iff.1 h
    clear h
    obtain rfl := toPrs_some hl
    obtain ⟨hc, h4⟩ := some_of_bif h2
    clear h2
    obtain rfl := Option.some.inj h4
    clear h4
    simp only [Bool.and_eq_true, decide_eq_true_eq] at hc
    obtain ⟨⟨⟨⟨rfl, c4⟩, rfl⟩, c5⟩, c6⟩ := hc
    obtain ⟨i, rfl⟩ := Int.eq_ofNat_of_zero_le c4
    rw [Int.toNat_natCast] at *
    have hres : ∀ v : Value, resB [.fresh 29 (prs l), .int .i64 (i : Int), .int .i64 ((i : Int) + 1)] [v, .int .i64 (i : Int), .int .i64 ((i : Int) + 1)] = (hblk v).toList := fun v => by simp [resB, AV.isRes]
    refine ok_given (by intro c hc; simp at hc; rcases hc with rfl | rfl | rfl <;> rfl) (fun S w vals hag hL hnd => ?_) (fun S w vals hL g hg => ?_)
    · obtain ⟨v, u, x, rfl, r1, r2, r3⟩ := largs3 hL
      obtain rfl := V_int (show V S (.int .i64 (i : Int)) u from r2)
      obtain rfl := V_int (show V S (.int .i64 ((i : Int) + 1)) x from r3)
      obtain ⟨o1, n1⟩ := lr_fresh r1
      rw [hres] at hnd ⊢
      refine (del_calls w l i v c5 c6 o1).mono ?_
      rintro e w' ⟨r, rfl, h1, h2, h3, h4, h5, h6, h7⟩
      refine ⟨r, rfl, h1, ⟨h2, h3, h4, h5, fun k hk hx => h6 k hk fun e => hx (by rw [e]; simp)⟩, fun g hg => .inr (by rw [h7 g hg]; simp)⟩
    · obtain ⟨v, u, x, rfl, r1, r2, r3⟩ := largs3 hL
      obtain rfl := V_int (show V S (.int .i64 (i : Int)) u from r2)
      obtain rfl := V_int (show V S (.int .i64 ((i : Int) + 1)) x from r3)
      rw [hres] at hg
      exact (lr_fresh r1).2 g (by simpa using hg)
  · cases h
end Go.Proofs.YtogfcfgfkggmlaaGreatDoor.Eng.U


/- Overlays in plain words, part 3: laid again, and what stays. No program. -/
set_option linter.unusedVariables false
set_option linter.unusedSimpArgs false
namespace Go.Proofs.YtogfcfgfkggmlaaGreatDoor.Eng.U
open Go Go.Proofs Go.Proofs.YtogfcfgfkggmlaaGreatDoor.Eng

theorem lastL_app (a b : List Pair) (k : Tx) : lastL (a ++ b) k = b.foldl (fun v p => if p.key = k then p.val else v) (lastL a k) := by unfold lastL; rw [List.foldl_append]
/-- Where a key is among pairs, what was ahead doesn't matter. -/
theorem fold_in (k : Tx) : ∀ (b : List Pair) (v w : Tx), (∃ p ∈ b, p.key = k) → b.foldl (fun v p => if p.key = k then p.val else v) v = b.foldl (fun v p => if p.key = k then p.val else v) w
  | [], v, w, h => by obtain ⟨p, hp, _⟩ := h; cases hp
  | q :: b, v, w, h => by
    rw [List.foldl_cons, List.foldl_cons]
    by_cases hq : q.key = k
    · rw [if_pos hq, if_pos hq]
    · rw [if_neg hq, if_neg hq]
      refine fold_in k b v w ?_
      obtain ⟨p, hp, e⟩ := h
      rcases List.mem_cons.1 hp with rfl | hp
      · exact absurd e hq
      · exact ⟨p, hp, e⟩
theorem lay_okst (l : List Pair) : okSt none (layAll l) = true := layAll_ok l [] rfl
theorem lay_val (l : List Pair) (k : Tx) : valOf (layAll l) k = lastL l k := layAll_val l [] rfl k
theorem lay_self {x : List Pair} (h : okSt none x = true) : layAll x = x := by
  rw [lay_both x x.length (Nat.le_refl _)]
  have := lay_iff x x.length (Nat.le_refl _)
  rw [h] at this
  exact of_decide_eq_true this
theorem last_lay (l : List Pair) (k : Tx) : lastL (layAll l) k = lastL l k := by
  rw [← lay_val (layAll l), lay_self (lay_okst l), lay_val]
/-- Laying the same once more changes nothing. -/
theorem lay_again (l more : List Pair) : layAll (layAll (l ++ more) ++ more) = layAll (l ++ more) := by
  refine over_ext (a := none) (lay_okst _) (lay_okst _) fun k => ?_
  rw [lay_val, lay_val, lastL_app, last_lay, lastL_app]
  by_cases h : ∃ p ∈ more, p.key = k
  · exact fold_in k more _ _ h
  · have hn : ∀ q ∈ more, q.key ≠ k := fun q hq e => h ⟨q, hq, e⟩
    rw [last_skip k more _ hn, last_skip k more _ hn]
theorem mem_layOne : ∀ (x : List Pair) (p q : Pair), q ∈ layOne x p → q ∈ x ∨ q = p
  | [], p, q, h => by
    unfold layOne at h
    split at h
    · cases h
    · exact .inr (List.mem_singleton.1 h)
  | r :: x, p, q, h => by
    unfold layOne at h
    split at h
    · split at h
      · exact .inl (.tail _ h)
      · rcases List.mem_cons.1 h with rfl | h
        · exact .inr rfl
        · exact .inl (.tail _ h)
    · split at h
      · rcases List.mem_cons.1 h with rfl | h
        · exact .inl (.head _)
        · rcases mem_layOne x p q h with h | h
          · exact .inl (.tail _ h)
          · exact .inr h
      · split at h
        · exact .inl h
        · rcases List.mem_cons.1 h with rfl | h
          · exact .inr rfl
          · exact .inl h
theorem mem_lay : ∀ (l x : List Pair) (q : Pair), q ∈ l.foldl layOne x → q ∈ x ∨ q ∈ l
  | [], x, q, h => .inl h
  | p :: l, x, q, h => by
    rw [List.foldl_cons] at h
    rcases mem_lay l (layOne x p) q h with h | h
    · rcases mem_layOne x p q h with h | rfl
      · exact .inl h
      · exact .inr (.head _)
    · exact .inr (.tail _ h)
theorem mem_layAll {l : List Pair} {q : Pair} (h : q ∈ layAll l) : q ∈ l := by
  rcases mem_lay l [] q h with h | h
  · cases h
  · exact h
theorem lay_len (l : List Pair) : (layAll l).length ≤ l.length := by
  have : ∀ (l x : List Pair), (l.foldl layOne x).length ≤ x.length + l.length := by
    intro l
    induction l with
    | nil => intro x; simp
    | cons p l ih => intro x; have := ih (layOne x p); have := layOne_len p x; rw [List.foldl_cons, List.length_cons]; omega
  have h := this l []
  rw [List.length_nil, Nat.zero_add] at h
  exact h
/-- The first pair of a key. -/
def getL (l : List Pair) (k : Tx) : Option Pair := l.find? fun p => decide (p.key = k)
theorem getL_cons (p : Pair) (l : List Pair) (k : Tx) : getL (p :: l) k = if p.key = k then some p else getL l k := by
  unfold getL
  rw [List.find?_cons]
  by_cases h : p.key = k
  · rw [if_pos h, decide_eq_true h]
  · rw [if_neg h, decide_eq_false h]
theorem getL_none {l : List Pair} {k : Tx} (h : getL l k = none) : ∀ q ∈ l, q.key ≠ k := fun q hq e => by
  have := List.find?_eq_none.1 h q hq
  simp [e] at this
theorem getL_val : ∀ (l : List Pair) (k : Tx), valOf l k ≠ [] → ∃ p, getL l k = some p ∧ p.val = valOf l k
  | [], k, h => absurd rfl h
  | p :: l, k, h => by
    rw [getL_cons]
    unfold valOf at h ⊢
    by_cases e : p.key = k
    · rw [if_pos e, if_pos e]; exact ⟨p, rfl, rfl⟩
    · rw [if_neg e] at h ⊢; rw [if_neg e]; exact getL_val l k h
/-- Pairs of other keys stay. -/
theorem lay_stays {l more : List Pair} {p : Pair} (hp : p ∈ layAll l) (hn : getL more p.key = none) : ∃ q, getL (layAll (l ++ more)) p.key = some q ∧ q.val = p.val := by
  have h1 := valOf_ne (lay_okst l) p hp
  have h2 := ((okSt_facts _ _ (lay_okst l)).1 p hp).2
  have h3 : valOf (layAll (l ++ more)) p.key = p.val := by
    rw [lay_val, lastL_app, last_skip p.key more _ (getL_none hn), ← lay_val, h1]
  obtain ⟨q, hq, e⟩ := getL_val (layAll (l ++ more)) p.key (by rw [h3]; exact h2)
  exact ⟨q, hq, e.trans h3⟩
end Go.Proofs.YtogfcfgfkggmlaaGreatDoor.Eng.U


/- over.Get, walked: a function value that looks at a box. -/
set_option linter.unusedVariables false
set_option linter.unusedSimpArgs false
set_option linter.unusedSectionVars false
namespace Go.Proofs.YtogfcfgfkggmlaaGreatDoor.S08
open Go Go.RowKit Go.Shelf Go.Proofs Go.Proofs.YtogfcfgfkggmlaaGreatDoor.Eng Go.Proofs.YtogfcfgfkggmlaaGreatDoor.Eng.U Go.Proofs.YtogfcfgfkggmlaaGreatDoor.Eng.Rdv

set_option maxHeartbeats 1000000 in
set_option maxRecDepth 100000 in
theorem get1_calls (p : Pair) (key : List UInt8) (kb : Nat) (w : World) (hk : w.cell? ⟨kb, 0, none⟩ = some (.string (str key))) :
    Calls Tryz.prog 70 #[.agg #[.string (str p.key), .string (str p.val)], .pointer (some ⟨kb, 0, none⟩)] w fun e w' => e = .returned (.bool (decide (p.key = key))) ∧ Below w.heap.size w w' := by
  have hlt : kb < w.heap.size := World.block_lt_of_cell? w ⟨kb, 0, none⟩ hk
  have hk2 : ∀ o, (w.alloc o).cell? ⟨kb, 0, none⟩ = some (.string (str key)) := fun o => (World.cell?_of_block (Below.heap_alloc w o kb hlt)).trans hk
  go_enter Tryz.func70, Tryz.ntmps70
  go_wp2
  refine bodyPost_ret (results_tmp rfl _ _ _) rfl ?_
  refine ⟨?_, (Below.refl _ w).alloc (Nat.le_refl _) _⟩
  show Ending.returned (Value.bool ((str p.key).toList == (str key).toList)) = _
  rw [str_list, str_list]
  congr 2
  rw [Bool.eq_iff_iff, beq_iff_eq, decide_eq_true_eq]
def posG (l : List Pair) (key : Tx) : Nat := l.findIdx fun p => decide (p.key = key)
def idxG (l : List Pair) (key : Tx) : Int := if posG l key < l.length then (posG l key : Int) else -1
theorem posG_at {l : List Pair} {key : Tx} {i : Nat} {p : Pair} (h : l[i]? = some p) (hp : p.key = key) (hn : ∀ q ∈ l.take i, q.key ≠ key) : posG l key = i := by
  have hi := (List.getElem?_eq_some_iff.1 h).1
  unfold posG
  refine (List.findIdx_eq hi).2 ⟨?_, fun j hj => ?_⟩
  · rw [(List.getElem?_eq_some_iff.1 h).2, decide_eq_true hp]
  · have hj' : j < l.length := by omega
    exact decide_eq_false (hn _ (by rw [List.mem_take_iff_getElem]; exact ⟨j, by omega, rfl⟩))
theorem posG_none {l : List Pair} {key : Tx} (hn : ∀ q ∈ l, q.key ≠ key) : idxG l key = -1 := by
  unfold idxG posG
  rw [if_neg]
  intro h
  have := List.findIdx_getElem (w := h)
  exact hn _ (List.getElem_mem h) (of_decide_eq_true this)
theorem getL_pos (l : List Pair) (key : Tx) : getL l key = if idxG l key < 0 then none else l[(idxG l key).toNat]? := by
  unfold idxG
  by_cases h : posG l key < l.length
  · rw [if_pos h, if_neg (by omega), Int.toNat_natCast]
    unfold getL posG
    rw [List.find?_eq_getElem?_findIdx]
  · rw [if_neg h, if_pos (by omega)]
    unfold getL
    rw [List.find?_eq_none]
    intro q hq e
    exact h (List.findIdx_lt_length.2 ⟨q, hq, e⟩)
set_option maxHeartbeats 4000000 in
set_option maxRecDepth 1000000 in
theorem index_walk (l : List Pair) (key : List UInt8) (ao : Option Addr) (cap kb : Nat) (w : World) (hl : l.length ≤ 1000000000) (hk : w.cell? ⟨kb, 0, none⟩ = some (.string (str key)))
    (hc : ∀ (i : Nat) (p : Pair), l[i]? = some p → ∃ a : Addr, ao = some a ∧ w.cell? (a.add (i * 2)) = some (.string (str p.key)) ∧ w.cell? (a.add (i * 2 + 1)) = some (.string (str p.val))) :
    Calls Tryz.prog 69 #[.slice ao l.length cap, .func (.func 70) #[] #[.pointer (some ⟨kb, 0, none⟩)]] w fun e w' => e = .returned (.int .i64 (idxG l key)) ∧ Below w.heap.size w w' := by
  go_enter Tryz.func69, Tryz.ntmps69
  go_wp2
  go_loopw [8] (fun s8 wr => ∃ i : Nat, s8 = .int .i64 (i : Int) ∧ i ≤ l.length ∧ (∀ q ∈ l.take i, q.key ≠ key) ∧ Below w.heap.size w wr) (fun s8 wr => l.length - (intOf s8).toNat)
  case atStart =>
    exact ⟨0, rfl, by omega, fun q hq => by simp at hq, Below.refl _ w⟩
  case round =>
    obtain ⟨i, rfl, hi, hno, hbw⟩ := hrel
    by_cases hlt : i < l.length
    · obtain ⟨p, hp⟩ : ∃ p, l[i]? = some p := ⟨l[i], List.getElem?_eq_getElem hlt⟩
      obtain ⟨a, rfl, hc0, hc1⟩ := hc i p hp
      have g0 : wr.cell? (a.add (i * 2)) = some (.string (str p.key)) := agree_below (agree_stab w) hbw _ _ hc0
      have g1 : wr.cell? { block := (a.add (i * 2)).block, off := (a.add (i * 2)).off + 1 } = some (.string (str p.val)) := by
        have h := agree_below (agree_stab w) hbw _ _ hc1
        rw [← Addr.add_add] at h
        exact h
      have gk : wr.cell? ⟨kb, 0, none⟩ = some (.string (str key)) := agree_below (agree_stab w) hbw _ _ hk
      go_wp2_with (go_at_call 70; refine (get1_calls p key kb _ gk).mono ?_)
      rintro e w1 ⟨rfl, b1⟩
      have hb1 := hbw.trans (b1.mono hbw.size)
      by_cases hd : p.key = key
      · rw [decide_eq_true hd]
        go_wp2
        refine bodyPost_ret (results_tmp rfl _ _ _) rfl ?_
        refine ⟨?_, hb1⟩
        show Ending.returned (Value.int IntKind.i64 (i : Int)) = _
        unfold idxG
        rw [posG_at hp hd hno, if_pos hlt]
      · rw [decide_eq_false hd]
        go_wp2
        go_roundw
        case rel =>
          refine ⟨i + 1, by simp, by omega, ?_, hb1⟩
          rw [List.take_add_one, hp]
          intro q hq
          rcases List.mem_append.1 hq with hq | hq
          · exact hno q hq
          · simp at hq; subst hq; exact hd
        case measure =>
          show l.length - (intOf (.int .i64 ((i : Int) + 1))).toNat < l.length - (intOf (.int .i64 (i : Int))).toNat
          show l.length - ((i : Int) + 1).toNat < l.length - (i : Int).toNat
          omega
    · obtain rfl : i = l.length := by omega
      rw [List.take_length] at hno
      go_wp2
      refine bodyPost_ret (results_tmp rfl _ _ _) rfl ?_
      exact ⟨by rw [posG_none hno]; rfl, hbw⟩
theorem cells_new {l : List Pair} {ao : Option Addr} {w : World} {o : Obj} (hc : ∀ (i : Nat) (p : Pair), l[i]? = some p → ∃ a : Addr, ao = some a ∧ w.cell? (a.add (i * 2)) = some (.string (str p.key)) ∧ w.cell? (a.add (i * 2 + 1)) = some (.string (str p.val))) :
    ∀ (i : Nat) (p : Pair), l[i]? = some p → ∃ a : Addr, ao = some a ∧ (w.alloc o).cell? (a.add (i * 2)) = some (.string (str p.key)) ∧ (w.alloc o).cell? (a.add (i * 2 + 1)) = some (.string (str p.val)) := fun i p hp => by
  obtain ⟨a, h1, h2, h3⟩ := hc i p hp
  exact ⟨a, h1, agree_below (agree_stab w) ((Below.refl _ w).alloc (Nat.le_refl _) _) _ _ h2, agree_below (agree_stab w) ((Below.refl _ w).alloc (Nat.le_refl _) _) _ _ h3⟩
set_option maxHeartbeats 4000000 in
set_option maxRecDepth 1000000 in
theorem Get_walk (l : List Pair) (key : List UInt8) (ao : Option Addr) (cap : Nat) (w : World) (hl : l.length ≤ 1000000000)
    (hc : ∀ (i : Nat) (p : Pair), l[i]? = some p → ∃ a : Addr, ao = some a ∧ w.cell? (a.add (i * 2)) = some (.string (str p.key)) ∧ w.cell? (a.add (i * 2 + 1)) = some (.string (str p.val))) :
    Calls Tryz.prog 21 #[.slice ao l.length cap, .string (str key)] w fun e w' => e = .returned (.tuple (match getL l key with | some p => #[.string (str p.val), .bool true] | none => #[.string ⟨#[]⟩, .bool false])) ∧ Below w.heap.size w w' := by
  have hk : (w.alloc (.cells #[.string (str key)] 9)).cell? ⟨w.heap.size, 0, none⟩ = some (.string (str key)) := by
    rw [World.cell?_alloc_at (w := w) #[.string (str key)] _ w.heap.size 0 rfl]; rfl
  have hal : Below w.heap.size w (w.alloc (.cells #[.string (str key)] 9)) := (Below.refl _ w).alloc (Nat.le_refl _) _
  by_cases hneg : idxG l key < 0
  · have hg : getL l key = none := by rw [getL_pos, if_pos hneg]
    rw [hg]
    go_enter Tryz.func21, Tryz.ntmps21
    go_wp2_with (go_at_call 69; refine (index_walk l key ao cap w.heap.size _ hl hk ?hcc).mono ?_)
    case hcc => exact cells_new hc
    rintro e w1 ⟨rfl, b1⟩
    have hb1 := hal.trans (b1.mono hal.size)
    go_wp2
    refine bodyPost_ret (results_tmp2 rfl _ _ _) rfl ?_
    exact ⟨rfl, hb1⟩
  · obtain ⟨i, hi⟩ := Int.eq_ofNat_of_zero_le (show 0 ≤ idxG l key by omega)
    have hlt : i < l.length := by
      unfold idxG at hi
      split at hi <;> omega
    obtain ⟨p, hp⟩ : ∃ p, l[i]? = some p := ⟨l[i], List.getElem?_eq_getElem hlt⟩
    have hg : getL l key = some p := by rw [getL_pos, if_neg hneg, hi, Int.toNat_natCast, hp]
    rw [hg]
    go_enter Tryz.func21, Tryz.ntmps21
    go_wp2_with (go_at_call 69; refine (index_walk l key ao cap w.heap.size _ hl hk ?hcc).mono ?_)
    case hcc => exact cells_new hc
    rintro e w1 rfl b1
    have hb1 := hal.trans (b1.mono (by omega))
    obtain ⟨a, rfl, hc0, hc1⟩ := hc i p hp
    have g1 : w1.cell? { block := (a.add (i * 2)).block, off := (a.add (i * 2)).off + 1 } = some (.string (str p.val)) := by
      have h := agree_below (agree_stab w) hb1 _ _ hc1
      rw [← Addr.add_add] at h
      exact h
    go_wp2
    refine bodyPost_ret (results_tmp2 rfl _ _ _) rfl ?_
    exact ⟨rfl, hb1⟩
end Go.Proofs.YtogfcfgfkggmlaaGreatDoor.S08


/- over.Get as a given function. -/
set_option linter.unusedVariables false
set_option linter.unusedSectionVars false
set_option linter.unusedSimpArgs false
namespace Go.Proofs.YtogfcfgfkggmlaaGreatDoor.Eng.U
open Go Go.RowKit Go.Proofs Go.Proofs.YtogfcfgfkggmlaaGreatDoor.Eng Go.Proofs.YtogfcfgfkggmlaaGreatDoor.Eng.Rdv Go.Proofs.YtogfcfgfkggmlaaGreatDoor.S08

def getAV : Option Pair → AV
  | some p => .tup [.str (str p.val), .bool true]
  | none => .tup [.str (str []), .bool false]
class HasGet (E : Ext) : Prop where
  get : ∀ (k n : Nat) (l : List Pair) (key : Tx), l.length ≤ 1000000 → kp E k n over_Get [.list 2 (prs l), .str (str key)] = some (getAV (getL l key))
noncomputable def pGet : Piece := { f := over_Get, ans := fun args => match args with
  | [.list 2 xs, .str s] => (toPrs xs).bind fun l => bif decide (l.length ≤ 1000000) then some (getAV (getL l s.data.toList)) else none
  | _ => none }
theorem get_right : pGet.Right := by
  refine ⟨⟨Tryz.f21, Tryz.func21, by kernel_rfl, by kernel_rfl⟩, fun args res h => ?_⟩
  unfold pGet at h
  dsimp only at h
  split at h
  · rename_i xs s
    obtain ⟨l, hl, h2⟩ := Option.bind_eq_some_iff.1 h
    clear h
    obtain rfl := toPrs_some hl
    obtain ⟨hc, h3⟩ := some_of_bif h2
    clear h2
    obtain rfl := Option.some.inj h3
    clear h3
    have hc : l.length ≤ 1000000 := by simpa using hc
    have es : str s.data.toList = s := str_self s
    have key : ∀ (S : Stab) (w : World) (vals : List Value), Agree S w → VL S [.list 2 (prs l), .str s] vals → Calls Tryz.prog over_Get vals.toArray w fun e w' => e = .returned (.tuple (match getL l s.data.toList with | some p => #[.string (str p.val), .bool true] | none => #[.string ⟨#[]⟩, .bool false])) ∧ Below w.heap.size w w' := by
      intro S w vals hag hV
      obtain ⟨v, u, rfl, hv, hu⟩ := VL_2 hV
      obtain rfl := V_str hu
      obtain ⟨ao, cap, rfl, hel⟩ := list_inv hv
      rw [prs_len]
      have := Get_walk l s.data.toList ao cap w (by omega) (fun i p hp => by
        obtain ⟨a, f, rfl, hf⟩ := hel i (elPair p) (by unfold prs; rw [List.getElem?_map, hp]; rfl)
        obtain ⟨h0, h1⟩ := hf 0 (.str (str p.key)) rfl
        obtain ⟨h2, h3⟩ := hf 1 (.str (str p.val)) rfl
        refine ⟨a, rfl, ?_, ?_⟩
        · have := hag _ _ h0
          rw [V_str h1] at this
          exact this
        · have := hag _ _ h2
          rw [V_str h3] at this
          exact this)
      rw [es] at this
      exact this
    cases hg : getL l s.data.toList with
    | none =>
      rw [hg] at key
      refine ok_tup rfl fun S w vals hag hG hV => (key S w vals hag hV).mono ?_
      rintro e w' ⟨rfl, hb⟩
      exact ⟨[_, _], rfl, rfl, fun S' => V2 (V.str _) (V.bool _), hb⟩
    | some p =>
      rw [hg] at key
      refine ok_tup rfl fun S w vals hag hG hV => (key S w vals hag hV).mono ?_
      rintro e w' ⟨rfl, hb⟩
      exact ⟨[_, _], rfl, rfl, fun S' => V2 (V.str _) (V.bool _), hb⟩
  · cases h
end Go.Proofs.YtogfcfgfkggmlaaGreatDoor.Eng.U


/- ItemFulls answers true. -/
set_option linter.unusedVariables false
set_option linter.unusedSectionVars false
set_option linter.unusedSimpArgs false
namespace Go.Proofs.YtogfcfgfkggmlaaGreatDoor.Eng.U
open Go Go.Proofs Go.Proofs.YtogfcfgfkggmlaaGreatDoor.Eng Go.Proofs.YtogfcfgfkggmlaaGreatDoor.P04
variable {E : Ext} [Core E] [HasNum E] [HasText E] {k n : Nat}

end Go.Proofs.YtogfcfgfkggmlaaGreatDoor.Eng.U


/- Which field of a head is the first that isn't right: both sides. -/
set_option linter.unusedVariables false
set_option linter.unusedSectionVars false
set_option linter.unusedSimpArgs false
namespace Go.Proofs.YtogfcfgfkggmlaaGreatDoor.Eng.U
open Go Go.Proofs Go.Proofs.YtogfcfgfkggmlaaGreatDoor.Eng Go.Proofs.YtogfcfgfkggmlaaGreatDoor.P04
variable {E : Ext} [Core E] [HasNum E] {k n k0 : Nat}

def nameOk (s : List UInt8) : Bool := decide (s ≠ []) && (decide (s.length ≤ 65536) && clean s)
def links (h : Head) : Bool := decide (h.kind = 2) || decide (h.kind = 3)
def f1 (h : Head) : Bool := decide (h.kind ≥ 1) && decide (h.kind ≤ 7)
def f2 (h : Head) : Bool := nameOk h.name && !(decide (h.kind = 1) && sl h.name)
def f3 (h : Head) : Bool := bif links h then nameOk h.link else decide (h.link = [])
def f4 (h : Head) : Bool := decide (h.mode ≥ 0)
def f5 (h : Head) : Bool := decide (h.uid ≥ 0)
def f6 (h : Head) : Bool := decide (h.gid ≥ 0)
def f7 (h : Head) : Bool := decide (h.size = 0) || (decide (h.size > 0) && decide (h.kind = 1))
def f8 (h : Head) : Bool := rightT h.nano
end Go.Proofs.YtogfcfgfkggmlaaGreatDoor.Eng.U


/- Which field of a head is the first that isn't right: the reference's side. -/
set_option linter.unusedVariables false
set_option linter.unusedSectionVars false
set_option linter.unusedSimpArgs false
namespace Go.Proofs.YtogfcfgfkggmlaaGreatDoor.Eng.U
open Go Go.Proofs Go.Proofs.YtogfcfgfkggmlaaGreatDoor.Eng Go.Proofs.YtogfcfgfkggmlaaGreatDoor.P04
variable {E : Ext} [Core E] [HasNum E] {k n k0 : Nat}

end Go.Proofs.YtogfcfgfkggmlaaGreatDoor.Eng.U


/- Which field of a head is the first that isn't right: the reference's side. -/
set_option linter.unusedVariables false
set_option linter.unusedSectionVars false
set_option linter.unusedSimpArgs false
namespace Go.Proofs.YtogfcfgfkggmlaaGreatDoor.Eng.U
open Go Go.Proofs Go.Proofs.YtogfcfgfkggmlaaGreatDoor.Eng Go.Proofs.YtogfcfgfkggmlaaGreatDoor.P04
variable {E : Ext} [Core E] [HasNum E] {k n k0 : Nat}

end Go.Proofs.YtogfcfgfkggmlaaGreatDoor.Eng.U


/- Which field of a head is the first that isn't right: the reference's side. -/
set_option linter.unusedVariables false
set_option linter.unusedSectionVars false
set_option linter.unusedSimpArgs false
namespace Go.Proofs.YtogfcfgfkggmlaaGreatDoor.Eng.U
open Go Go.Proofs Go.Proofs.YtogfcfgfkggmlaaGreatDoor.Eng Go.Proofs.YtogfcfgfkggmlaaGreatDoor.P04
variable {E : Ext} [Core E] [HasNum E] {k n k0 : Nat}

end Go.Proofs.YtogfcfgfkggmlaaGreatDoor.Eng.U


/- ItemWrong in plain words: it answers true. -/
set_option linter.unusedVariables false
set_option linter.unusedSectionVars false
set_option linter.unusedSimpArgs false
namespace Go.Proofs.YtogfcfgfkggmlaaGreatDoor.Eng.U
open Go Go.Proofs Go.Proofs.YtogfcfgfkggmlaaGreatDoor.Eng Go.Proofs.YtogfcfgfkggmlaaGreatDoor.P04
variable {E : Ext} [Core E] [HasNum E] {k n : Nat}

end Go.Proofs.YtogfcfgfkggmlaaGreatDoor.Eng.U


/- ItemFulls over the library's pieces: strings.IndexAny at "=\\x00", decoding beside the numbers' own. -/
set_option linter.unusedVariables false
set_option linter.unusedSectionVars false
set_option linter.unusedSimpArgs false
namespace Go.Proofs.YtogfcfgfkggmlaaGreatDoor.Eng.U
open Go Go.Proofs Go.Proofs.YtogfcfgfkggmlaaGreatDoor.Eng Go.RowKit

/-- The tables of the decoder, off the variables. -/
theorem utf_tabs {S : Stab} {w : World} (hag : Agree S w) (hG : GlobOk glob S w) : Lib.Utf8Tabs 5 6 w := by
  refine ⟨fun c hc => ?_, fun i hi => ?_⟩
  · obtain ⟨u, hu, hv⟩ := glob_cell (g := 5) hag hG rfl c (.int .u8 (Lib.firstT c : Int)) (by rw [List.getElem?_map, List.getElem?_range hc]; rfl)
    rw [V_int hv] at hu
    exact hu
  · obtain ⟨u, hu, hv⟩ := glob_cell (g := 6) hag hG rfl (2 * i) (.int .u8 (Lib.accLo i : Int)) (by
      rw [List.getElem?_map, List.getElem?_range (by omega)]
      show some (AV.int .u8 (((if 2 * i % 2 = 0 then Lib.accLo (2 * i / 2) else Lib.accHi (2 * i / 2) : Nat) : Int))) = _
      rw [if_pos (by omega), show 2 * i / 2 = i from by omega])
    obtain ⟨u', hu', hv'⟩ := glob_cell (g := 6) hag hG rfl (2 * i + 1) (.int .u8 (Lib.accHi i : Int)) (by
      rw [List.getElem?_map, List.getElem?_range (by omega)]
      show some (AV.int .u8 (((if (2 * i + 1) % 2 = 0 then Lib.accLo ((2 * i + 1) / 2) else Lib.accHi ((2 * i + 1) / 2) : Nat) : Int))) = _
      rw [if_neg (by omega), show (2 * i + 1) / 2 = i from by omega])
    rw [V_int hv] at hu
    rw [V_int hv'] at hu'
    exact ⟨hu, hu'⟩
def pDec : Piece := { f := unicode_utf8_DecodeRuneInString, ans := fun args => match args with
  | [.str s] => some (.tup [.int .i32 (Lib.decodeGo s).1, .int .i64 (Lib.decodeGo s).2])
  | _ => none }
theorem dec_right : pDec.Right := by
  refine ⟨⟨Tryz.f271, Tryz.func271, by kernel_rfl, by kernel_rfl⟩, fun args res h => ?_⟩
  unfold pDec at h
  dsimp only at h
  split at h
  · rename_i s
    obtain rfl := Option.some.inj h
    refine ok_tup rfl fun S w vals hag hG hV => ?_
    obtain ⟨v, rfl, hv⟩ := VL_1 hV
    obtain rfl := V_str hv
    refine (Tryz.utf8_DecodeRuneInString s w (utf_tabs hag hG)).mono ?_
    rintro e w' ⟨rfl, hb⟩
    exact ⟨[_, _], rfl, rfl, fun S' => V2 (V.int _ _) (V.int _ _), hb⟩
  · cases h
def ps09a : List Piece := [pFmt, pItoa, pCutP, pTrimR, pIndex, pIndexByte, pRepeat, pPInt, pPUint, pDec]
def ext09a : Ext := { extOf ps09a with fs := strings_IndexAny :: coreFs }
theorem good09b (k : Nat) : (bs (extOf ps09a) k).Good := good_of (fun p hp => by
  simp only [ps09a, List.mem_cons, List.not_mem_nil, or_false] at hp
  rcases hp with rfl | rfl | rfl | rfl | rfl | rfl | rfl | rfl | rfl | rfl
  · exact fmt_right
  · exact itoa_right
  · exact cutP_right
  · exact trimR_right
  · exact index_right
  · exact indexByte_right
  · exact repeat_right
  · exact pInt_right
  · exact pUint_right
  · exact dec_right) names_ok k
theorem good09a (k : Nat) : (bs ext09a k).Good := { mixed := by kernel_rfl, names := by kernel_rfl, base := (good09b k).base }
instance core09a : Core ext09a where
  isB f hf := (core_of (ps := ps09a) (by kernel_rfl)).isB f hf
  has f hf := by
    show (strings_IndexAny :: coreFs).contains f = true
    rw [List.contains_cons, hf, Bool.or_true]
instance ib09a : HasIB ext09a := ⟨fun k n s c => (kp_base (E := ext09a) (by kernel_rfl)).trans rfl⟩
noncomputable def pAny : Piece := { f := strings_IndexAny, ans := fun args => match args with
  | [.str s, .str c] => bif decide (c = str [61, 0]) && decide (s.size ≤ 1000000) then (bif decide (8 < s.size) then some (.int .i64 (Lib.indexAny s.data.toList [61, 0])) else (bs ext09a 100).kap 3 strings_IndexAny [.str s, .str c]) else none
  | _ => none }
theorem any_right : pAny.Right := by
  refine ⟨⟨Tryz.f210, Tryz.func210, by kernel_rfl, by kernel_rfl⟩, fun args res h => ?_⟩
  unfold pAny at h
  dsimp only at h
  split at h
  · rename_i s c
    obtain ⟨hc, h'⟩ := some_of_bif h
    clear h
    simp only [Bool.and_eq_true, decide_eq_true_eq] at hc
    obtain ⟨rfl, h1⟩ := hc
    by_cases h8 : 8 < s.size
    · rw [decide_eq_true h8, cond_true] at h'
      obtain rfl := Option.some.inj h'
      refine ok_pure ⟨rfl, rfl⟩ fun S w vals hag hG hV => ?_
      obtain ⟨v, u, rfl, hv, hu⟩ := VL_2 hV
      obtain rfl := V_str hv
      obtain rfl := V_str hu
      have h2 : ∀ (j : Nat) b, (str [61, 0]).data.toList[j]? = some b → b.toNat < 128 := by
        intro j b hb
        match j, hb with
        | 0, hb => cases hb; decide
        | 1, hb => cases hb; decide
        | j + 2, hb => simp [str] at hb
      refine (Tryz.strings_IndexAny_long (fun w => by kernel_rfl) s (str [61, 0]) w (by decide) h8 (by omega) (by decide) h2).mono ?_
      rintro e w' ⟨rfl, rfl⟩
      exact ⟨_, rfl, fun S' => V.int _ _, ((Below.refl _ _).alloc (Nat.le_refl _) _).alloc (by simp) _⟩
    · rw [decide_eq_false h8, cond_false] at h'
      exact Base.ok (good09a 100) h'
  · cases h
noncomputable def ps09 : List Piece := [pFmt, pItoa, pCutP, pTrimR, pIndex, pIndexByte, pRepeat, pPInt, pPUint, pDec, pAny]
noncomputable def ext09 : Ext := extOf ps09
instance core09 : Core ext09 := core_of (by kernel_rfl)
instance num09 : HasNum ext09 := num_of rfl rfl rfl rfl rfl rfl rfl rfl rfl
instance text09 : HasText ext09 where
  dec k n s := ⟨_, _, (kp_piece (ps := ps09) (p := pDec) (k := k) (n := n) (args := [.str (str s)]) rfl).trans rfl⟩
  idx k n s hs := by
    have h := kp_piece (ps := ps09) (p := pAny) (k := k) (n := n) (args := [.str (str s), .str (str [61, 0])]) rfl
    have e : pAny.ans [.str (str s), .str (str [61, 0])] = (bif decide (str [61, 0] = str [61, 0]) && decide ((str s).size ≤ 1000000) then (bif decide (8 < (str s).size) then some (.int .i64 (Lib.indexAny (str s).data.toList [61, 0])) else (bs ext09a 100).kap 3 strings_IndexAny [.str (str s), .str (str [61, 0])]) else none) := rfl
    rw [e, str_size, decide_eq_true rfl, decide_eq_true hs, Bool.true_and, cond_true] at h
    by_cases h8 : 8 < s.length
    · rw [decide_eq_true h8, cond_true] at h
      exact ⟨_, h⟩
    · rw [decide_eq_false h8, cond_false] at h
      obtain ⟨r, hr⟩ := any_short (E := ext09a) (k := 100) (n := 0) (by kernel_rfl) (by kernel_rfl) (by omega) s (by omega)
      exact ⟨r, h.trans hr⟩
instance textV09 : HasTextV ext09 where
  dec k n s := (kp_piece (ps := ps09) (p := pDec) (k := k) (n := n) (args := [.str s]) rfl).trans rfl
  idx k n s hs := by
    have h := kp_piece (ps := ps09) (p := pAny) (k := k) (n := n) (args := [.str (str s), .str (str [61, 0])]) rfl
    have e : pAny.ans [.str (str s), .str (str [61, 0])] = (bif decide (str [61, 0] = str [61, 0]) && decide ((str s).size ≤ 1000000) then (bif decide (8 < (str s).size) then some (.int .i64 (Lib.indexAny (str s).data.toList [61, 0])) else (bs ext09a 100).kap 3 strings_IndexAny [.str (str s), .str (str [61, 0])]) else none) := rfl
    rw [e, str_size, decide_eq_true rfl, decide_eq_true hs, Bool.true_and, cond_true] at h
    by_cases h8 : 8 < s.length
    · rw [decide_eq_true h8, cond_true] at h
      exact ⟨_, h, any_long_v s⟩
    · rw [decide_eq_false h8, cond_false] at h
      obtain ⟨r, hr, hv⟩ := any_short_v (E := ext09a) (k := 100) (n := 0) (by kernel_rfl) (by kernel_rfl) (by omega) s (by omega)
      exact ⟨r, h.trans hr, hv⟩
end Go.Proofs.YtogfcfgfkggmlaaGreatDoor.Eng.U


/- The library's functions, pax.Print, slices.Insert and Delete, given together. -/
set_option linter.unusedVariables false
set_option linter.unusedSectionVars false
set_option linter.unusedSimpArgs false
namespace Go.Proofs.YtogfcfgfkggmlaaGreatDoor.Eng.U
open Go Go.RowKit Go.Proofs Go.Proofs.YtogfcfgfkggmlaaGreatDoor.Eng

noncomputable def ps08 : List Piece := [pFmt, pItoa, pCutP, pTrimR, pIndex, pIndexByte, pRepeat, pPInt, pPUint, pDec, pAny, pIns, pDel, pCmp, pGet]
noncomputable def ext08 : Ext := extOf ps08
instance core08 : Core ext08 := core_of (by kernel_rfl)
instance num08 : HasNum ext08 := num_of rfl rfl rfl rfl rfl rfl rfl rfl rfl
instance text08 : HasText ext08 where
  dec k n s := ⟨_, _, (kp_piece (ps := ps08) (p := pDec) (k := k) (n := n) (args := [.str (str s)]) rfl).trans rfl⟩
  idx k n s hs := by
    have h := kp_piece (ps := ps08) (p := pAny) (k := k) (n := n) (args := [.str (str s), .str (str [61, 0])]) rfl
    have e : pAny.ans [.str (str s), .str (str [61, 0])] = (bif decide (str [61, 0] = str [61, 0]) && decide ((str s).size ≤ 1000000) then (bif decide (8 < (str s).size) then some (.int .i64 (Lib.indexAny (str s).data.toList [61, 0])) else (bs ext09a 100).kap 3 strings_IndexAny [.str (str s), .str (str [61, 0])]) else none) := rfl
    rw [e, str_size, decide_eq_true rfl, decide_eq_true hs, Bool.true_and, cond_true] at h
    by_cases h8 : 8 < s.length
    · rw [decide_eq_true h8, cond_true] at h
      exact ⟨_, h⟩
    · rw [decide_eq_false h8, cond_false] at h
      obtain ⟨r, hr⟩ := any_short (E := ext09a) (k := 100) (n := 0) (by kernel_rfl) (by kernel_rfl) (by omega) s (by omega)
      exact ⟨r, h.trans hr⟩
instance textV08 : HasTextV ext08 where
  dec k n s := (kp_piece (ps := ps08) (p := pDec) (k := k) (n := n) (args := [.str s]) rfl).trans rfl
  idx k n s hs := by
    have h := kp_piece (ps := ps08) (p := pAny) (k := k) (n := n) (args := [.str (str s), .str (str [61, 0])]) rfl
    have e : pAny.ans [.str (str s), .str (str [61, 0])] = (bif decide (str [61, 0] = str [61, 0]) && decide ((str s).size ≤ 1000000) then (bif decide (8 < (str s).size) then some (.int .i64 (Lib.indexAny (str s).data.toList [61, 0])) else (bs ext09a 100).kap 3 strings_IndexAny [.str (str s), .str (str [61, 0])]) else none) := rfl
    rw [e, str_size, decide_eq_true rfl, decide_eq_true hs, Bool.true_and, cond_true] at h
    by_cases h8 : 8 < s.length
    · rw [decide_eq_true h8, cond_true] at h
      exact ⟨_, h, any_long_v s⟩
    · rw [decide_eq_false h8, cond_false] at h
      obtain ⟨r, hr, hv⟩ := any_short_v (E := ext09a) (k := 100) (n := 0) (by kernel_rfl) (by kernel_rfl) (by omega) s (by omega)
      exact ⟨r, h.trans hr, hv⟩
instance ins08 : HasIns ext08 where
  ins k n xs i p hi hl := by
    have h := kp_piece (ps := ps08) (p := pIns) (k := k) (n := n) (args := [.fresh 29 (prs xs), .int .i64 (i : Int), .fresh 29 (prs [p])]) rfl
    have e : pIns.ans [.fresh 29 (prs xs), .int .i64 (i : Int), .fresh 29 (prs [p])] = (toPrs (prs xs)).bind fun l => (toPrs (prs [p])).bind fun m => bif decide (m.length = 1) && decide (29 = 29) && decide (29 = 29) && decide (0 ≤ (i : Int)) && decide ((i : Int).toNat ≤ l.length) && decide (l.length ≤ 1000000) then some (.lback (.fresh 29 (prs (l.take (i : Int).toNat ++ m ++ l.drop (i : Int).toNat))) []) else none := rfl
    rw [e, toPrs_prs, toPrs_prs, Option.bind_some, Option.bind_some, Int.toNat_natCast, decide_eq_true hi, decide_eq_true hl, decide_eq_true (show (0 : Int) ≤ (i : Int) by omega)] at h
    refine h.trans ?_
    rw [List.append_assoc]
    rfl
  del k n xs i hi hl := by
    have h := kp_piece (ps := ps08) (p := pDel) (k := k) (n := n) (args := [.fresh 29 (prs xs), .int .i64 (i : Int), .int .i64 ((i + 1 : Nat) : Int)]) rfl
    have e : pDel.ans [.fresh 29 (prs xs), .int .i64 (i : Int), .int .i64 ((i + 1 : Nat) : Int)] = (toPrs (prs xs)).bind fun l => bif decide (29 = 29) && decide (0 ≤ (i : Int)) && decide (((i + 1 : Nat) : Int) = (i : Int) + 1) && decide ((i : Int).toNat < l.length) && decide (l.length ≤ 1000000) then some (.lback (.fresh 29 (prs (l.take (i : Int).toNat ++ l.drop ((i : Int).toNat + 1)))) []) else none := rfl
    rw [e, toPrs_prs, Option.bind_some, Int.toNat_natCast, decide_eq_true hi, decide_eq_true hl, decide_eq_true (show (0 : Int) ≤ (i : Int) by omega), decide_eq_true (show ((i + 1 : Nat) : Int) = (i : Int) + 1 by omega)] at h
    exact h
  cmp k n a b := (kp_piece (ps := ps08) (p := pCmp) (k := k) (n := n) (args := [.str (str a), .str (str b)]) rfl).trans rfl
instance get08 : HasGet ext08 where
  get k n l key hl := by
    have h := kp_piece (ps := ps08) (p := pGet) (k := k) (n := n) (args := [.list 2 (prs l), .str (str key)]) rfl
    have e : pGet.ans [.list 2 (prs l), .str (str key)] = (toPrs (prs l)).bind fun l => bif decide (l.length ≤ 1000000) then some (getAV (getL l (str key).data.toList)) else none := rfl
    rw [e, toPrs_prs, Option.bind_some, decide_eq_true hl, cond_true] at h
    exact h
theorem good08 (k : Nat) : (bs ext08 k).Good := good_of (fun p hp => by
  simp only [ps08, List.mem_cons, List.not_mem_nil, or_false] at hp
  rcases hp with rfl | rfl | rfl | rfl | rfl | rfl | rfl | rfl | rfl | rfl | rfl | rfl | rfl | rfl | rfl
  · exact fmt_right
  · exact itoa_right
  · exact cutP_right
  · exact trimR_right
  · exact index_right
  · exact indexByte_right
  · exact repeat_right
  · exact pInt_right
  · exact pUint_right
  · exact dec_right
  · exact any_right
  · exact ins_right
  · exact del_right
  · exact cmp_right
  · exact get_right) names_ok k
end Go.Proofs.YtogfcfgfkggmlaaGreatDoor.Eng.U


/- How many bytes pairs have together; a pair that is right. -/
set_option linter.unusedVariables false
set_option linter.unusedSimpArgs false
namespace Go.Proofs.YtogfcfgfkggmlaaGreatDoor.Eng.U
open Go Go.Proofs Go.Proofs.YtogfcfgfkggmlaaGreatDoor.Eng

def sumP : List Pair → Nat
  | [] => 0
  | p :: l => p.key.length + p.val.length + sumP l
theorem sum_le : ∀ (l : List Pair), (∀ p ∈ l, G_apiPair p) → sumP l ≤ l.length * 300000000000000
  | [], _ => by simp [sumP]
  | p :: l, h => by
    have ih := sum_le l fun q hq => h q (.tail _ hq)
    have hp := h p (.head _)
    have h1 := hp.key
    have h2 := hp.val
    simp only [sumP, List.length_cons]
    omega
theorem sum_mem : ∀ (l : List Pair) (p : Pair), p ∈ l → p.key.length + p.val.length ≤ sumP l
  | q :: l, p, h => by
    simp only [sumP]
    rcases List.mem_cons.1 h with rfl | h
    · omega
    · have := sum_mem l p h; omega
theorem ok_pa : pairOk ⟨[112, 97, 116, 104], [97]⟩ = true := by kernel_rfl
end Go.Proofs.YtogfcfgfkggmlaaGreatDoor.Eng.U


/- What pairs say of a head: the whole, both sides; two heads that are the same. -/
set_option linter.unusedVariables false
set_option linter.unusedSectionVars false
set_option linter.unusedSimpArgs false
namespace Go.Proofs.YtogfcfgfkggmlaaGreatDoor.Eng.U
open Go Go.Proofs Go.Proofs.YtogfcfgfkggmlaaGreatDoor.Eng Go.Proofs.YtogfcfgfkggmlaaGreatDoor.P04
variable {E : Ext} [Core E] [HasNum E] {k n : Nat}

theorem overApply_k [HasTextV E] (h : Head) (l : List Pair) (hl : l.length ≤ 10000) (hp : ∀ p ∈ l, p.key.length ≤ 1000000 ∧ p.val.length ≤ 1000000) (hk : 1000000 < k) :
    kp E k (n + 7) over_Apply [.agg (encHead h), .list 2 (prs l)] = some (bif overOk l then .tup [.agg (encHead (applyL h l)), .int .u8 0] else .tup [.agg (encHead ⟨0, [], [], 0, 0, 0, 0, 0, 0, [], [], 0, 0, []⟩), .int .u8 15]) := by
  unfold encHead
  rw [over_Apply_eq, overRight_k (n := n) l (by omega) hp hk, callB_ok]
  cases ho : overOk l with
  | false => rfl
  | true =>
    rw [Bool.not_true, cond_false, prs_len]
    exact apply_loop (k := k) (kp E k (n + 6)) l (by omega) (fun s => known_k (n := n + 5) s) (fun h p hm hw => say_k (n := n + 2) h p (hp p hm).2 hk hw) 0 0 0 0 0 0 0 0 0 (str []) (str []) (str []) (str []) [] l [] { h with extra := [] } k (by omega) rfl (by simp; omega)
end Go.Proofs.YtogfcfgfkggmlaaGreatDoor.Eng.U


/- The laws of overlays in plain words. -/
set_option linter.unusedVariables false
set_option linter.unusedSectionVars false
set_option linter.unusedSimpArgs false
namespace Go.Proofs.YtogfcfgfkggmlaaGreatDoor.Eng.U
open Go Go.RowKit Go.Proofs Go.Proofs.YtogfcfgfkggmlaaGreatDoor.Eng Go.Proofs.YtogfcfgfkggmlaaGreatDoor.P04

theorem few8_loop {k : Nat} (kap : FuncId → List AV → Option AV) (suf : List Pair) : ∀ (pre : List Pair) (s k0 : Nat), suf.length < k0 → s + sumP suf ≤ 9223372036854775807 → (pre ++ suf).length ≤ 1000000000000000 →
    law08_few_L0 kap k k0 (prs (pre ++ suf)) ((s : Nat) : Int) ((pre.length : Nat) : Int) = some (.bool (decide ((pre ++ suf).length ≤ 40) && decide (s + sumP suf ≤ 3000))) := by
  induction suf with
  | nil =>
    intro pre s k0 h hs hb
    obtain ⟨m, rfl⟩ : ∃ m, k0 = m + 1 := ⟨k0 - 1, by simp only [List.length_nil] at h; omega⟩
    have e : decide (((s : Nat) : Int) ≤ 3000) = decide (s + sumP [] ≤ 3000) := by rw [decide_eq_decide]; simp only [sumP]; omega
    rw [law08_few_L0_s, prs_len, bif_f (by simp), e, List.append_nil]
    by_cases hl : pre.length ≤ 40
    · rw [bif_t (by omega), decide_eq_true hl, Bool.true_and]
    · rw [bif_f (by omega), decide_eq_false hl, Bool.false_and]
  | cons p suf ih =>
    intro pre s k0 h hs hb
    obtain ⟨m, rfl⟩ : ∃ m, k0 = m + 1 := ⟨k0 - 1, by simp only [List.length_cons] at h; omega⟩
    have h' : suf.length < m := by simp only [List.length_cons] at h; omega
    have hb' : pre.length + (suf.length + 1) ≤ 1000000000000000 := by simp only [List.length_append, List.length_cons] at hb; exact hb
    have hs' : s + (p.key.length + p.val.length + sumP suf) ≤ 9223372036854775807 := hs
    have hi := ih (pre ++ [p]) (s + p.key.length + p.val.length) m h' (by omega) (by simp only [List.length_append, List.length_cons, List.length_nil]; omega)
    rw [List.append_assoc, List.singleton_append, ← snoc_len, mid_len] at hi
    have e : decide (s + p.key.length + p.val.length + sumP suf ≤ 3000) = decide (s + sumP (p :: suf) ≤ 3000) := by rw [decide_eq_decide]; simp only [sumP]; omega
    rw [law08_few_L0_s, prs_len, mid_len, bif_t (by omega), bif_a, bif_t (by omega), bif_t (by omega), Int.toNat_natCast, prs_mid, cells_pair, p_0, bif_a, bif_t (by omega), bif_t (by omega), prs_mid, cells_pair, p_1, str_size, str_size, i64w (x := ((s : Nat) : Int) + ((p.key.length : Nat) : Int)) (by omega), i64w (x := ((s : Nat) : Int) + ((p.key.length : Nat) : Int) + ((p.val.length : Nat) : Int)) (by omega), i64w (by omega)]
    rw [← e, ← hi]
    congr 1
theorem few8_big (kap : FuncId → List AV → Option AV) {k : Nat} (l : List Pair) (hl : l.length ≤ 1000000000000000) (h40 : 40 < l.length) : ∀ (suf pre : List Pair) (s : Int) (k0 : Nat), suf.length < k0 → pre ++ suf = l →
    law08_few_L0 kap k k0 (prs l) s ((pre.length : Nat) : Int) = some (.bool false)
  | [], pre, s, k0 + 1, h, he => by
    rw [List.append_nil] at he
    subst he
    rw [law08_few_L0_s, prs_len, bif_f (by omega), bif_f (by omega)]
  | p :: suf, pre, s, k0 + 1, h, he => by
    have hp : pre.length < l.length := by rw [← he]; simp
    have hm : ∀ F : AV → Option AV, ((prs l)[pre.length]?).bind F = F (elPair p) := fun F => by rw [← he]; exact prs_mid pre suf p F
    rw [law08_few_L0_s, prs_len, bif_t (by omega), bif_a, bif_t (by omega), bif_t (by omega), Int.toNat_natCast, hm, cells_pair, p_0, bif_a, bif_t (by omega), bif_t (by omega), hm, cells_pair, p_1, wrap1 (by omega)]
    have ih := fun s => few8_big kap (k := k) l hl h40 suf (pre ++ [p]) s k0 (by simpa using h) (by rw [← he]; simp)
    rw [List.length_append, List.length_singleton] at ih
    exact ih _
def few8L (l : List Pair) : Bool := decide (l.length ≤ 40) && decide (sumP l ≤ 3000)
section
variable {E : Ext} [Core E] {k n : Nat}
theorem few8_k (l : List Pair) (g : G_LapiPair l) (hk : l.length < k) : kp E k (n + 1) law08_few [.list 2 (prs l)] = some (.bool (few8L l)) := by
  rw [law08_few_eq]
  have hl := g.1
  unfold few8L
  by_cases h40 : l.length ≤ 40
  · have hs := sum_le l g.2
    have := few8_loop (k := k) (kp E k n) l [] 0 k hk (by omega) (by simp; omega)
    rw [List.nil_append, Nat.zero_add] at this
    exact this
  · rw [decide_eq_false h40, Bool.false_and]
    exact few8_big (k := k) (kp E k n) l (by omega) (by omega) l [] 0 k hk rfl
theorem few8_facts {l : List Pair} (h : few8L l = true) : l.length ≤ 40 ∧ (∀ p ∈ l, p.key.length ≤ 3000 ∧ p.val.length ≤ 3000) ∧ True := by
  unfold few8L at h
  rw [Bool.and_eq_true, decide_eq_true_eq, decide_eq_true_eq] at h
  exact ⟨h.1, fun p hp => by have := sum_mem l p hp; omega, trivial⟩
end
def pathA : Pair := ⟨[112, 97, 116, 104], [97]⟩
theorem alive08 : kp ext08 10000000000000 25 law08_alive [] = some (.bool true) := by
  have ho : overOk [pathA] = true := by
    unfold overOk
    rw [List.all_cons, show pairOk pathA = true from ok_pa]
    rfl
  have hl : layAll ([pathA] ++ [⟨[112, 97, 116, 104], []⟩]) = [] := by decide
  have h1 := overApply_k (E := ext08) (k := 10000000000000) (n := 17) ⟨0, [98], [], 0, 0, 0, 0, 0, 0, [], [], 0, 0, []⟩ [pathA] (by simp) (by intro p hp; simp at hp; subst hp; decide) (by omega)
  rw [ho, cond_true] at h1
  have h2 := overLay_k (E := ext08) (k := 10000000000000) (n := 19) [pathA] [⟨[112, 97, 116, 104], []⟩] (by simp) (by simp) (by omega)
  rw [hl] at h2
  have h1' : kp ext08 10000000000000 24 over_Apply [(.agg [(.int .i64 (0 : Int)), (.str (str [98])), (.str (str [])), (.int .i64 (0 : Int)), (.int .i64 (0 : Int)), (.int .i64 (0 : Int)), (.int .i64 (0 : Int)), (.int .i64 (0 : Int)), (.int .i64 (0 : Int)), (.str (str [])), (.str (str [])), (.int .i64 (0 : Int)), (.int .i64 (0 : Int)), (.list 2 [])]), (.list 2 [(.agg [(.str (str [112, 97, 116, 104])), (.str (str [97]))])])] = _ := h1
  have h2' : kp ext08 10000000000000 24 over_Lay [(.list 2 [(.agg [(.str (str [112, 97, 116, 104])), (.str (str [97]))])]), (.list 2 [(.agg [(.str (str [112, 97, 116, 104])), (.str (str []))])])] = _ := h2
  rw [law08_alive_eq, h1', h2']
  rfl
end Go.Proofs.YtogfcfgfkggmlaaGreatDoor.Eng.U

