/- Several texts of this proof in one file: Z05a, Z05b, Z05c, U09f, U04d, U07, S07a, Ext, S07b, S07, U07b, ApiR, B04, U09d, Q08, U08, U09g, U09h, U09i, U09j, V09, B09, B07, X07, S08, Q08b, U08c, B08. -/
import Derived.Test.YtilbahgfjfcikaaGreatDoorMOverApplies0
import Derived.Lib.DecodeN
import Derived.IntWalk
import Derived.Lib.RuneCountTail
import Derived.Lib.IndexAny
import Derived.Test.YtilbahgfjfcikaaGreatDoorMEOverApplies2
import Derived.WalkKit
import Derived.BigCall
import Derived.Lib.OthersKept
import Derived.Lib.BufferKept
import Derived.Lib.BufferOld
import Derived.WalkSmall
import Derived.Lib.SmallJoins
import Derived.Shelf.Spec.SlicesInsertGrow
import Derived.Maps.OwnIn
import Derived.Lib.AppendZerosOnto
import Derived.Deep.RegionLaw
import Derived.TacticsInMore
import Derived.Lib.Bytealg
/- The Utf laws in plain words, part 1: how many bytes stand for a code point. -/
set_option linter.unusedVariables false
set_option linter.unusedSimpArgs false
namespace Go.Proofs.YtilbahgfjfcikaaGreatDoor.Eng.U
open Go Go.Proofs Go.Proofs.YtilbahgfjfcikaaGreatDoor.Eng Go.Lib
variable {kap : FuncId → List AV → Option AV} {E : Ext} [Core E] {n : Nat}
def goDec (s : ByteArray) : Nat × Nat := if s.size = 0 then (65533, 0) else Utf8.decode s 0

def by_ (s : ByteArray) (i : Nat) : Nat := (s.data.toList.getD i 0).toNat
theorem by_lt (s : ByteArray) (i : Nat) : by_ s i < 256 := UInt8.toNat_lt _
theorem get_by (s : ByteArray) (i : Nat) : (s.get! i).toNat = by_ s i := by
  unfold by_
  congr 1
  simp [ByteArray.get!, List.getD_eq_getElem?_getD, Array.getElem!_eq_getD, Array.getD_eq_getD_getElem?]
  rfl
/-- How many bytes from place i on are a code point's own; 0: none. -/
def szOf (p : Nat × Nat) : Nat := if p = (65533, 1) then 0 else p.2
def sizeS (s : ByteArray) (i : Nat) : Nat := szOf (Utf8.decode s i)
theorem i64w {x : Int} (h : -9223372036854775808 ≤ x ∧ x ≤ 9223372036854775807) : IntKind.wrap .i64 x = x := IntWalk.i64_in x h

theorem L51_step {K m : Nat} {s : ByteArray} {i n c j : Nat} (hs : s.size ≤ 1000000) (hj : j < n) (hb : i + j < s.size) (hc : c < 10000000) : ref05_size_L0 kap K (m + 1) s (i : Int) (n : Int) (c : Int) (j : Int) =
    if by_ s (i + j) < 128 then some (.int .i64 0) else if 192 ≤ by_ s (i + j) then some (.int .i64 0) else ref05_size_L0 kap K m s (i : Int) (n : Int) ((c * 64 + by_ s (i + j) - 128 : Nat) : Int) ((j + 1 : Nat) : Int) := by
  have hlt := by_lt s (i + j)
  rw [ref05_size_L0_s, i64w (x := (i : Int) + (j : Int)) (by omega), show ((i : Int) + (j : Int)).toNat = i + j from by omega]
  simp only [show byteAt s (i + j) = ((by_ s (i + j) : Nat) : Int) from rfl]
  generalize by_ s (i + j) = b at *
  rw [i64w (x := (64 : Int) * (c : Int)) (by omega), i64w (x := (b : Int)) (by omega), i64w (x := (64 : Int) * (c : Int) + (b : Int)) (by omega), i64w (x := (64 : Int) * (c : Int) + (b : Int) - 128) (by omega), i64w (x := (j : Int) + 1) (by omega)]
  rw [show decide ((j : Int) < (n : Int)) = true from by simp; omega, show (decide ((0 : Int) ≤ (i : Int) + (j : Int)) && decide ((i : Int) + (j : Int) < (s.size : Int))) = true from by simp; omega]
  simp only [cond_true]
  by_cases h1 : b < 128
  · rw [if_pos h1, show decide ((b : Int) < 128) = true from by simp; omega]; rfl
  · rw [if_neg h1, show decide ((b : Int) < 128) = false from by simp; omega]
    by_cases h2 : 192 ≤ b
    · rw [if_pos h2, show decide ((b : Int) ≥ 192) = true from by simp; omega]; rfl
    · rw [if_neg h2, show decide ((b : Int) ≥ 192) = false from by simp; omega]
      simp only [cond_false]
      rw [show ((c * 64 + b - 128 : Nat) : Int) = (64 : Int) * (c : Int) + (b : Int) - 128 from by omega, show ((j + 1 : Nat) : Int) = (j : Int) + 1 from by omega]
def minOf (n : Nat) : Nat := if n = 2 then 128 else if n = 3 then 2048 else 65536
theorem L51_end {K m : Nat} {s : ByteArray} {i n c : Nat} (hn : n = 2 ∨ n = 3 ∨ n = 4) : ref05_size_L0 kap K (m + 1) s (i : Int) (n : Int) (c : Int) (n : Int) =
    if c < minOf n then some (.int .i64 0) else if 1114111 < c then some (.int .i64 0) else if 55296 ≤ c ∧ c ≤ 57343 then some (.int .i64 0) else some (.int .i64 (n : Int)) := by
  rw [ref05_size_L0_s, show decide ((n : Int) < (n : Int)) = false from by simp, show (decide ((0 : Int) ≤ (n : Int)) && decide ((n : Int) < 5)) = true from by simp; omega]
  simp only [cond_true, cond_false, show ((n : Int)).toNat = n from by omega]
  have key : ∀ (v : Nat) (v' : Int), v' = (v : Int) → (bif decide ((c : Int) < v') then some (AV.int .i64 0) else bif decide ((c : Int) > 1114111) then some (.int .i64 0) else bif decide ((c : Int) ≥ 55296) then (bif decide ((c : Int) ≤ 57343) then some (.int .i64 0) else some (.int .i64 (n : Int))) else some (.int .i64 (n : Int))) =
      if c < v then some (.int .i64 0) else if 1114111 < c then some (.int .i64 0) else if 55296 ≤ c ∧ c ≤ 57343 then some (.int .i64 0) else some (.int .i64 (n : Int)) := by
    rintro v _ rfl
    by_cases h1 : c < v
    · rw [if_pos h1, show decide ((c : Int) < (v : Int)) = true from by simp; omega]; rfl
    rw [if_neg h1, show decide ((c : Int) < (v : Int)) = false from by simp; omega, cond_false]
    by_cases h2 : 1114111 < c
    · rw [if_pos h2, show decide ((c : Int) > 1114111) = true from by simp; omega]; rfl
    rw [if_neg h2, show decide ((c : Int) > 1114111) = false from by simp; omega, cond_false]
    by_cases h3 : 55296 ≤ c
    · rw [show decide ((c : Int) ≥ 55296) = true from by simp; omega, cond_true]
      by_cases h4 : c ≤ 57343
      · rw [if_pos ⟨h3, h4⟩, show decide ((c : Int) ≤ 57343) = true from by simp; omega]; rfl
      · rw [if_neg (fun h => h4 h.2), show decide ((c : Int) ≤ 57343) = false from by simp; omega]; rfl
    · rw [if_neg (fun h => h3 h.1), show decide ((c : Int) ≥ 55296) = false from by simp; omega]; rfl
  have e : ∀ (j : Nat) (v : Int) (K : Int → Option AV), ([(.int .i64 (0 : Int)), (.int .i64 (0 : Int)), (.int .i64 (128 : Int)), (.int .i64 (2048 : Int)), (.int .i64 (65536 : Int))] : List AV)[j]? = some (.int .i64 v) → (([(.int .i64 (0 : Int)), (.int .i64 (0 : Int)), (.int .i64 (128 : Int)), (.int .i64 (2048 : Int)), (.int .i64 (65536 : Int))] : List AV)[j]?).bind (fun vy1 => cellI .i64 (AV.cells vy1) 0 fun vn2 => K vn2) = K v := by
    intro j v K h
    rw [h]
    rfl
  rcases hn with rfl | rfl | rfl
  · rw [show minOf 2 = 128 from rfl, e 2 128 _ rfl]; exact key 128 128 (by omega)
  · rw [show minOf 3 = 2048 from rfl, e 3 2048 _ rfl]; exact key 2048 2048 (by omega)
  · rw [show minOf 4 = 65536 from rfl, e 4 65536 _ rfl]; exact key 65536 65536 (by omega)

theorem L51_two {K m : Nat} {s : ByteArray} {i c : Nat} (hs : s.size ≤ 1000000) (hb : i + 1 < s.size) (hc : c < 256) : ref05_size_L0 kap K (m + 2) s (i : Int) ((2 : Nat) : Int) (c : Int) ((1 : Nat) : Int) =
    if by_ s (i + 1) < 128 then some (.int .i64 0) else if 192 ≤ by_ s (i + 1) then some (.int .i64 0) else
    if c * 64 + by_ s (i + 1) - 128 < 128 then some (.int .i64 0) else if 1114111 < c * 64 + by_ s (i + 1) - 128 then some (.int .i64 0) else if 55296 ≤ c * 64 + by_ s (i + 1) - 128 ∧ c * 64 + by_ s (i + 1) - 128 ≤ 57343 then some (.int .i64 0) else some (.int .i64 2) := by
  rw [L51_step hs (by omega) hb (by omega)]
  split
  · rfl
  split
  · rfl
  exact L51_end (.inl rfl)
theorem L51_three {K m : Nat} {s : ByteArray} {i c : Nat} (hs : s.size ≤ 1000000) (hb : i + 2 < s.size) (hc : c < 256) : ref05_size_L0 kap K (m + 3) s (i : Int) ((3 : Nat) : Int) (c : Int) ((1 : Nat) : Int) =
    if by_ s (i + 1) < 128 then some (.int .i64 0) else if 192 ≤ by_ s (i + 1) then some (.int .i64 0) else
    if by_ s (i + 2) < 128 then some (.int .i64 0) else if 192 ≤ by_ s (i + 2) then some (.int .i64 0) else
    if (c * 64 + by_ s (i + 1) - 128) * 64 + by_ s (i + 2) - 128 < 2048 then some (.int .i64 0) else if 1114111 < (c * 64 + by_ s (i + 1) - 128) * 64 + by_ s (i + 2) - 128 then some (.int .i64 0) else if 55296 ≤ (c * 64 + by_ s (i + 1) - 128) * 64 + by_ s (i + 2) - 128 ∧ (c * 64 + by_ s (i + 1) - 128) * 64 + by_ s (i + 2) - 128 ≤ 57343 then some (.int .i64 0) else some (.int .i64 3) := by
  have h1 := by_lt s (i + 1)
  rw [L51_step hs (by omega) (by omega) (by omega)]
  split
  · rfl
  split
  · rfl
  rw [L51_step hs (by omega) (by omega) (by omega)]
  split
  · rfl
  split
  · rfl
  exact L51_end (.inr (.inl rfl))
theorem L51_four {K m : Nat} {s : ByteArray} {i c : Nat} (hs : s.size ≤ 1000000) (hb : i + 3 < s.size) (hc : c < 256) : ref05_size_L0 kap K (m + 4) s (i : Int) ((4 : Nat) : Int) (c : Int) ((1 : Nat) : Int) =
    if by_ s (i + 1) < 128 then some (.int .i64 0) else if 192 ≤ by_ s (i + 1) then some (.int .i64 0) else
    if by_ s (i + 2) < 128 then some (.int .i64 0) else if 192 ≤ by_ s (i + 2) then some (.int .i64 0) else
    if by_ s (i + 3) < 128 then some (.int .i64 0) else if 192 ≤ by_ s (i + 3) then some (.int .i64 0) else
    if ((c * 64 + by_ s (i + 1) - 128) * 64 + by_ s (i + 2) - 128) * 64 + by_ s (i + 3) - 128 < 65536 then some (.int .i64 0) else if 1114111 < ((c * 64 + by_ s (i + 1) - 128) * 64 + by_ s (i + 2) - 128) * 64 + by_ s (i + 3) - 128 then some (.int .i64 0) else if 55296 ≤ ((c * 64 + by_ s (i + 1) - 128) * 64 + by_ s (i + 2) - 128) * 64 + by_ s (i + 3) - 128 ∧ ((c * 64 + by_ s (i + 1) - 128) * 64 + by_ s (i + 2) - 128) * 64 + by_ s (i + 3) - 128 ≤ 57343 then some (.int .i64 0) else some (.int .i64 4) := by
  have h1 := by_lt s (i + 1)
  have h2 := by_lt s (i + 2)
  rw [L51_step hs (by omega) (by omega) (by omega)]
  split
  · rfl
  split
  · rfl
  rw [L51_step hs (by omega) (by omega) (by omega)]
  split
  · rfl
  split
  · rfl
  rw [L51_step hs (by omega) (by omega) (by omega)]
  split
  · rfl
  split
  · rfl
  exact L51_end (.inr (.inr rfl))

/-- How many bytes a code point takes, by numbers. -/
def sizeN (n b0 b1 b2 b3 : Nat) : Nat := szOf (decodeN n b0 b1 b2 b3)
theorem szOf_bad : szOf (65533, 1) = 0 := rfl
theorem szOf_ok {c w : Nat} (h : w ≠ 1 ∨ c ≠ 65533) : szOf (c, w) = w := by
  unfold szOf
  rw [if_neg (by simp only [Prod.mk.injEq]; omega)]
theorem sizeS_eq (s : ByteArray) (i : Nat) : sizeS s i = sizeN (s.size - i) (by_ s i) (by_ s (i + 1)) (by_ s (i + 2)) (by_ s (i + 3)) := by
  unfold sizeS sizeN
  rw [decode_at, get_by, get_by, get_by, get_by]
theorem size_num {K : Nat} {s : ByteArray} {i : Nat} (hs : s.size ≤ 1000000) (hi : i < s.size) : kp E (K + 5) (n + 1) ref05_size [.str s, .int .i64 (i : Int)] =
    if by_ s i < 128 then some (.int .i64 1) else if by_ s i < 192 then some (.int .i64 0) else
    if by_ s i < 224 then (if s.size < i + 2 then some (.int .i64 0) else ref05_size_L0 (kp E (K + 5) n) (K + 5) (K + 5) s (i : Int) ((2 : Nat) : Int) ((by_ s i - 192 : Nat) : Int) ((1 : Nat) : Int)) else
    if by_ s i < 240 then (if s.size < i + 3 then some (.int .i64 0) else ref05_size_L0 (kp E (K + 5) n) (K + 5) (K + 5) s (i : Int) ((3 : Nat) : Int) ((by_ s i - 224 : Nat) : Int) ((1 : Nat) : Int)) else
    if by_ s i < 248 then (if s.size < i + 4 then some (.int .i64 0) else ref05_size_L0 (kp E (K + 5) n) (K + 5) (K + 5) s (i : Int) ((4 : Nat) : Int) ((by_ s i - 240 : Nat) : Int) ((1 : Nat) : Int)) else some (.int .i64 0) := by
  have hlt := by_lt s i
  rw [ref05_size_eq, show ((i : Int)).toNat = i from by omega]
  simp only [show byteAt s i = ((by_ s i : Nat) : Int) from rfl]
  generalize by_ s i = b at *
  rw [i64w (x := (b : Int)) (by omega)]
  rw [show (decide ((0 : Int) ≤ (i : Int)) && decide ((i : Int) < (s.size : Int))) = true from by simp; omega]
  simp only [cond_true]
  rw [i64w (x := (i : Int) + 2) (by omega), i64w (x := (i : Int) + 3) (by omega), i64w (x := (i : Int) + 4) (by omega)]
  rw [i64w (x := (b : Int) - 192) (by omega), i64w (x := (b : Int) - 224) (by omega), i64w (x := (b : Int) - 240) (by omega)]
  have hd : ∀ (p q : Prop) [Decidable p] [Decidable q], (p ↔ q) → decide p = decide q := fun p q _ _ h => decide_eq_decide.2 h
  have bif_if : ∀ {α : Type} (p : Prop) [Decidable p] (x y : α), (bif decide p then x else y) = if p then x else y := fun p _ x y => by by_cases h : p <;> simp [h]
  simp only [bif_if]
  by_cases a1 : b < 128
  · rw [if_pos (by omega), if_pos a1]
  rw [if_neg (by omega), if_neg a1]
  by_cases a2 : b < 192
  · rw [if_pos a2, if_neg (by omega), if_neg (by omega), if_neg (by omega)]
  rw [if_neg a2, if_pos (by omega)]
  by_cases a3 : b < 224
  · rw [if_pos (by omega), if_pos a3]
    by_cases z : s.size < i + 2
    · rw [if_pos (by omega), if_pos z]
    · rw [if_neg (by omega), if_neg z, show ((b - 192 : Nat) : Int) = (b : Int) - 192 from by omega]; rfl
  rw [if_neg (by omega), if_neg a3, if_pos (by omega)]
  by_cases a4 : b < 240
  · rw [if_pos (by omega), if_pos a4]
    by_cases z : s.size < i + 3
    · rw [if_pos (by omega), if_pos z]
    · rw [if_neg (by omega), if_neg z, show ((b - 224 : Nat) : Int) = (b : Int) - 224 from by omega]; rfl
  rw [if_neg (by omega), if_neg a4, if_pos (by omega)]
  by_cases a5 : b < 248
  · rw [if_pos (by omega), if_pos a5]
    by_cases z : s.size < i + 4
    · rw [if_pos (by omega), if_pos z]
    · rw [if_neg (by omega), if_neg z, show ((b - 240 : Nat) : Int) = (b : Int) - 240 from by omega]; rfl
  rw [if_neg (by omega), if_neg a5]
end Go.Proofs.YtilbahgfjfcikaaGreatDoor.Eng.U


/- The Utf laws in plain words, part 2: the size of a code point is what the decoder says. -/
set_option linter.unusedVariables false
set_option linter.unusedSimpArgs false
namespace Go.Proofs.YtilbahgfjfcikaaGreatDoor.Eng.U
open Go Go.Proofs Go.Proofs.YtilbahgfjfcikaaGreatDoor.Eng Go.Lib
variable {kap : FuncId → List AV → Option AV} {E : Ext} [Core E] {n : Nat}

theorem sizeN_1 (n b0 b1 b2 b3 : Nat) (h : b0 < 128) : sizeN n b0 b1 b2 b3 = 1 := by
  unfold sizeN decodeN
  rw [if_pos h, szOf_ok (by omega)]
theorem sizeN_0 (n b0 b1 b2 b3 : Nat) (h : 128 ≤ b0 ∧ (b0 < 192 ∨ 248 ≤ b0)) (h0 : b0 < 256) : sizeN n b0 b1 b2 b3 = 0 := by
  unfold sizeN decodeN
  rw [if_neg (by omega), if_neg (by omega), if_neg (by omega), if_neg (by omega), szOf_bad]
theorem sizeN_2 (n b0 b1 b2 b3 : Nat) (h : 192 ≤ b0 ∧ b0 < 224) (h1 : b1 < 256) : sizeN n b0 b1 b2 b3 =
    if n < 2 then 0 else if b1 < 128 then 0 else if 192 ≤ b1 then 0 else if (b0 - 192) * 64 + b1 - 128 < 128 then 0 else if 1114111 < (b0 - 192) * 64 + b1 - 128 then 0 else if 55296 ≤ (b0 - 192) * 64 + b1 - 128 ∧ (b0 - 192) * 64 + b1 - 128 ≤ 57343 then 0 else 2 := by
  unfold sizeN decodeN
  rw [if_neg (by omega)]
  by_cases hc : 1 < n ∧ b1 / 64 = 2
  · rw [if_pos ⟨by omega, hc⟩, if_neg (show ¬ n < 2 by omega), if_neg (show ¬ b1 < 128 by omega), if_neg (show ¬ 192 ≤ b1 by omega)]
    by_cases hd : b0 % 32 * 64 + b1 % 64 ≥ 128
    · rw [if_pos hd, szOf_ok (by omega), if_neg (by omega), if_neg (by omega), if_neg (by omega)]
    · rw [if_neg hd, szOf_bad, if_pos (by omega)]
  · rw [if_neg (fun h => hc h.2), if_neg (by omega), if_neg (by omega), szOf_bad]
    by_cases g1 : n < 2
    · rw [if_pos g1]
    · rw [if_neg g1]
      by_cases g2 : b1 < 128
      · rw [if_pos g2]
      · rw [if_neg g2, if_pos (by omega)]
theorem sizeN_3 (n b0 b1 b2 b3 : Nat) (h : 224 ≤ b0 ∧ b0 < 240) (h1 : b1 < 256) (h2 : b2 < 256) : sizeN n b0 b1 b2 b3 =
    if n < 3 then 0 else if b1 < 128 then 0 else if 192 ≤ b1 then 0 else if b2 < 128 then 0 else if 192 ≤ b2 then 0 else if ((b0 - 224) * 64 + b1 - 128) * 64 + b2 - 128 < 2048 then 0 else if 1114111 < ((b0 - 224) * 64 + b1 - 128) * 64 + b2 - 128 then 0 else if 55296 ≤ ((b0 - 224) * 64 + b1 - 128) * 64 + b2 - 128 ∧ ((b0 - 224) * 64 + b1 - 128) * 64 + b2 - 128 ≤ 57343 then 0 else 3 := by
  unfold sizeN decodeN
  rw [if_neg (by omega), if_neg (show ¬ (b0 / 32 = 6 ∧ _) by omega)]
  by_cases hc : (1 < n ∧ b1 / 64 = 2) ∧ (2 < n ∧ b2 / 64 = 2)
  · rw [if_pos ⟨by omega, hc.1, hc.2⟩, if_neg (show ¬ n < 3 by omega), if_neg (show ¬ b1 < 128 by omega), if_neg (show ¬ 192 ≤ b1 by omega), if_neg (show ¬ b2 < 128 by omega), if_neg (show ¬ 192 ≤ b2 by omega)]
    have e : b0 % 16 * 4096 + b1 % 64 * 64 + b2 % 64 = ((b0 - 224) * 64 + b1 - 128) * 64 + b2 - 128 := by omega
    rw [e]
    generalize ((b0 - 224) * 64 + b1 - 128) * 64 + b2 - 128 = c at *
    by_cases hd : c ≥ 2048 ∧ (c < 55296 ∨ (57344 ≤ c ∧ c ≤ 1114111))
    · rw [if_pos hd, szOf_ok (by omega), if_neg (by omega), if_neg (by omega), if_neg (by omega)]
    · rw [if_neg hd, szOf_bad]
      by_cases g1 : c < 2048
      · rw [if_pos g1]
      · rw [if_neg g1]
        by_cases g2 : 1114111 < c
        · rw [if_pos g2]
        · rw [if_neg g2, if_pos (by omega)]
  · rw [if_neg (fun h => hc h.2), if_neg (by omega), szOf_bad]
    by_cases g1 : n < 3
    · rw [if_pos g1]
    · rw [if_neg g1]
      by_cases g2 : b1 < 128
      · rw [if_pos g2]
      · rw [if_neg g2]
        by_cases g3 : 192 ≤ b1
        · rw [if_pos g3]
        · rw [if_neg g3]
          by_cases g4 : b2 < 128
          · rw [if_pos g4]
          · rw [if_neg g4, if_pos (by omega)]
theorem sizeN_4 (n b0 b1 b2 b3 : Nat) (h : 240 ≤ b0 ∧ b0 < 248) (h1 : b1 < 256) (h2 : b2 < 256) (h3 : b3 < 256) : sizeN n b0 b1 b2 b3 =
    if n < 4 then 0 else if b1 < 128 then 0 else if 192 ≤ b1 then 0 else if b2 < 128 then 0 else if 192 ≤ b2 then 0 else if b3 < 128 then 0 else if 192 ≤ b3 then 0 else
    if (((b0 - 240) * 64 + b1 - 128) * 64 + b2 - 128) * 64 + b3 - 128 < 65536 then 0 else if 1114111 < (((b0 - 240) * 64 + b1 - 128) * 64 + b2 - 128) * 64 + b3 - 128 then 0 else if 55296 ≤ (((b0 - 240) * 64 + b1 - 128) * 64 + b2 - 128) * 64 + b3 - 128 ∧ (((b0 - 240) * 64 + b1 - 128) * 64 + b2 - 128) * 64 + b3 - 128 ≤ 57343 then 0 else 4 := by
  unfold sizeN decodeN
  rw [if_neg (by omega), if_neg (show ¬ (b0 / 32 = 6 ∧ _) by omega), if_neg (show ¬ (b0 / 16 = 14 ∧ _) by omega)]
  by_cases hc : (1 < n ∧ b1 / 64 = 2) ∧ (2 < n ∧ b2 / 64 = 2) ∧ (3 < n ∧ b3 / 64 = 2)
  · rw [if_pos ⟨by omega, hc.1, hc.2.1, hc.2.2⟩, if_neg (show ¬ n < 4 by omega), if_neg (show ¬ b1 < 128 by omega), if_neg (show ¬ 192 ≤ b1 by omega), if_neg (show ¬ b2 < 128 by omega), if_neg (show ¬ 192 ≤ b2 by omega), if_neg (show ¬ b3 < 128 by omega), if_neg (show ¬ 192 ≤ b3 by omega)]
    have e : b0 % 8 * 262144 + b1 % 64 * 4096 + b2 % 64 * 64 + b3 % 64 = (((b0 - 240) * 64 + b1 - 128) * 64 + b2 - 128) * 64 + b3 - 128 := by omega
    rw [e]
    generalize (((b0 - 240) * 64 + b1 - 128) * 64 + b2 - 128) * 64 + b3 - 128 = c at *
    by_cases hd : c ≥ 65536 ∧ (c < 55296 ∨ (57344 ≤ c ∧ c ≤ 1114111))
    · rw [if_pos hd, szOf_ok (by omega), if_neg (by omega), if_neg (by omega), if_neg (by omega)]
    · rw [if_neg hd, szOf_bad]
      by_cases g1 : c < 65536
      · rw [if_pos g1]
      · rw [if_neg g1]
        by_cases g2 : 1114111 < c
        · rw [if_pos g2]
        · rw [if_neg g2, if_pos (by omega)]
  · rw [if_neg (fun h => hc h.2), szOf_bad]
    by_cases g1 : n < 4
    · rw [if_pos g1]
    · rw [if_neg g1]
      by_cases g2 : b1 < 128
      · rw [if_pos g2]
      · rw [if_neg g2]
        by_cases g3 : 192 ≤ b1
        · rw [if_pos g3]
        · rw [if_neg g3]
          by_cases g4 : b2 < 128
          · rw [if_pos g4]
          · rw [if_neg g4]
            by_cases g5 : 192 ≤ b2
            · rw [if_pos g5]
            · rw [if_neg g5]
              by_cases g6 : b3 < 128
              · rw [if_pos g6]
              · rw [if_neg g6, if_pos (by omega)]
theorem some_if (p : Prop) [Decidable p] (a b : Nat) : (some (AV.int .i64 ((if p then a else b : Nat) : Int))) = if p then some (AV.int .i64 (a : Int)) else some (AV.int .i64 (b : Int)) := by by_cases h : p <;> simp [h]
theorem size_spec {K : Nat} {s : ByteArray} {i : Nat} (hs : s.size ≤ 1000000) (hi : i < s.size) : kp E (K + 5) (n + 1) ref05_size [.str s, .int .i64 (i : Int)] = some (.int .i64 (sizeS s i : Int)) := by
  have h0 := by_lt s i
  have h1 := by_lt s (i + 1)
  have h2 := by_lt s (i + 2)
  have h3 := by_lt s (i + 3)
  rw [size_num hs hi, sizeS_eq]
  by_cases a1 : by_ s i < 128
  · rw [if_pos a1, sizeN_1 _ _ _ _ _ a1]; rfl
  rw [if_neg a1]
  by_cases a2 : by_ s i < 192
  · rw [if_pos a2, sizeN_0 _ _ _ _ _ (by omega) h0]; rfl
  rw [if_neg a2]
  by_cases a3 : by_ s i < 224
  · rw [if_pos a3, sizeN_2 _ _ _ _ _ (by omega) h1]
    by_cases z : s.size < i + 2
    · rw [if_pos z, if_pos (by omega)]; rfl
    · rw [if_neg z, if_neg (by omega), L51_two hs (by omega) (by omega)]
      simp only [some_if]; rfl
  rw [if_neg a3]
  by_cases a4 : by_ s i < 240
  · rw [if_pos a4, sizeN_3 _ _ _ _ _ (by omega) h1 h2]
    by_cases z : s.size < i + 3
    · rw [if_pos z, if_pos (by omega)]; rfl
    · rw [if_neg z, if_neg (by omega), L51_three hs (by omega) (by omega)]
      simp only [some_if]; rfl
  rw [if_neg a4]
  by_cases a5 : by_ s i < 248
  · rw [if_pos a5, sizeN_4 _ _ _ _ _ (by omega) h1 h2 h3]
    by_cases z : s.size < i + 4
    · rw [if_pos z, if_pos (by omega)]; rfl
    · rw [if_neg z, if_neg (by omega), L51_four hs (by omega) (by omega)]
      simp only [some_if]; rfl
  · rw [if_neg a5, sizeN_0 _ _ _ _ _ (by omega) h0]; rfl
end Go.Proofs.YtilbahgfjfcikaaGreatDoor.Eng.U


/- The Utf laws in plain words, part 3: the functions that go through a text. -/
set_option linter.unusedVariables false
set_option linter.unusedSimpArgs false
namespace Go.Proofs.YtilbahgfjfcikaaGreatDoor.Eng.U
open Go Go.Proofs Go.Proofs.YtilbahgfjfcikaaGreatDoor.Eng Go.Lib
variable {kap : FuncId → List AV → Option AV} {E : Ext} [Core E] {n : Nat}

abbrev ai (n : Int) : AV := .int .i64 n
/-- Is the byte at a place no part of a code point? -/
def bad (s : ByteArray) (i : Nat) : Prop := Utf8.decode s i = (65533, 1)
instance (s : ByteArray) (i : Nat) : Decidable (bad s i) := inferInstanceAs (Decidable (_ = _))
/-- The place behind what stands at a place. -/
def nx (s : ByteArray) (i : Nat) : Nat := i + (Utf8.decode s i).2
theorem width_le (s : ByteArray) (i : Nat) : 1 ≤ (Utf8.decode s i).2 ∧ (Utf8.decode s i).2 ≤ 4 := by
  rw [decode_at]
  unfold decodeN
  repeat' split
  all_goals simp
theorem nx_gt (s : ByteArray) (i : Nat) : i < nx s i ∧ nx s i ≤ i + 4 := by have := width_le s i; unfold nx; omega
theorem sizeS_bad {s : ByteArray} {i : Nat} (h : bad s i) : sizeS s i = 0 := by unfold sizeS; rw [h]; rfl
theorem sizeS_good {s : ByteArray} {i : Nat} (h : ¬ bad s i) : sizeS s i = (Utf8.decode s i).2 ∧ sizeS s i ≠ 0 := by
  unfold sizeS szOf
  rw [if_neg (show ¬ Utf8.decode s i = (65533, 1) from h)]
  have := width_le s i
  exact ⟨rfl, by omega⟩
theorem nx_bad {s : ByteArray} {i : Nat} (h : bad s i) : nx s i = i + 1 := by unfold nx; rw [h]

/-- The ends of all that stands in a text, from a place on: below zero where a byte is no part of a code point. -/
def endsL (s : ByteArray) : Nat → Nat → List Int
  | 0, _ => []
  | n + 1, pos => if pos < s.size then (if bad s pos then -(nx s pos : Int) else (nx s pos : Int)) :: endsL s n (nx s pos) else []
def ends (s : ByteArray) : List Int := endsL s s.size 0
theorem L16 {K : Nat} {s : ByteArray} (hs : s.size ≤ 1000000) (h51 : ∀ i, i < s.size → kap ref05_size [.str s, .int .i64 (i : Int)] = some (.int .i64 (sizeS s i : Int))) :
    ∀ (n m pos : Nat) (xs : List AV), s.size ≤ pos + n → n < m → xs.length ≤ pos → pos ≤ s.size + 4 → ref05_Ends_L0 kap K m s (pos : Int) xs = some (.list 1 (xs ++ (endsL s n pos).map ai)) := by
  intro n
  induction n with
  | zero =>
    intro m pos xs hn hm hx hp
    obtain ⟨m, rfl⟩ : ∃ m', m = m' + 1 := ⟨m - 1, by omega⟩
    rw [ref05_Ends_L0_s, show decide ((pos : Int) < (s.size : Int)) = false from by simp; omega]
    simp [endsL]
  | succ n ih =>
    intro m pos xs hn hm hx hp
    obtain ⟨m, rfl⟩ : ∃ m', m = m' + 1 := ⟨m - 1, by omega⟩
    by_cases hlt : pos < s.size
    · have hw := nx_gt s pos
      rw [ref05_Ends_L0_s, show decide ((pos : Int) < (s.size : Int)) = true from by simp; omega, h51 pos hlt, cond_true, callI_ok]
      rw [show (decide ((xs.length + 1) * 8 ≤ 140737488355328) && decide (xs.length + 1 ≤ 9223372036854775807)) = true from by simp; omega]
      simp only [cond_true]
      unfold endsL
      rw [if_pos hlt]
      by_cases hb : bad s pos
      · rw [if_pos hb, sizeS_bad hb, show decide (((0 : Nat) : Int) = 0) = true from rfl, cond_true]
        have e := nx_bad hb
        rw [i64w (x := (pos : Int) + 1) (by omega), i64w (x := 0 - ((pos : Int) + 1)) (by omega), show (pos : Int) + 1 = ((nx s pos : Nat) : Int) from by omega,
          ih m (nx s pos) _ (by omega) (by omega) (by simp; omega) (by omega)]
        simp [ai]
      · obtain ⟨e1, e2⟩ := sizeS_good hb
        rw [if_neg hb, show decide (((sizeS s pos : Nat) : Int) = 0) = false from by simp; omega, cond_false]
        have e : nx s pos = pos + sizeS s pos := by rw [e1]; rfl
        rw [i64w (x := (pos : Int) + (sizeS s pos : Int)) (by omega), show (pos : Int) + (sizeS s pos : Int) = ((nx s pos : Nat) : Int) from by omega,
          ih m (nx s pos) _ (by omega) (by omega) (by simp; omega) (by omega)]
        simp [ai]
    · rw [ref05_Ends_L0_s, show decide ((pos : Int) < (s.size : Int)) = false from by simp; omega]
      unfold endsL
      rw [if_neg hlt]
      simp
theorem ref05_Ends_spec {K : Nat} {s : ByteArray} (hs : s.size ≤ 1000000) (hK : s.size < K) (h51 : ∀ i, i < s.size → kp E K n ref05_size [.str s, .int .i64 (i : Int)] = some (.int .i64 (sizeS s i : Int))) : kp E K (n + 1) ref05_Ends [.str s] = some (.list 1 ((ends s).map ai)) := by
  rw [ref05_Ends_eq]
  exact L16 hs h51 s.size K 0 [] (by omega) hK (by simp) (by omega)

/-- The place of the first byte that is no part of a code point; -1: there is none. -/
def firstL (s : ByteArray) : Nat → Nat → Int
  | 0, _ => -1
  | n + 1, pos => if pos < s.size then (if bad s pos then (pos : Int) else firstL s n (nx s pos)) else -1
def first (s : ByteArray) : Int := firstL s s.size 0
theorem utf_wrong_spec {K : Nat} {s : ByteArray} {i : Nat} (hi : i < s.size) (h69 : ∀ t, kp E K n unicode_utf8_DecodeRuneInString [.str t] = some (.tup [.int .i32 ((goDec t).1 : Int), .int .i64 ((goDec t).2 : Int)])) :
    kp E K (n + 1) utf_wrong [.str s, .int .i64 (i : Int), .int .i32 ((Utf8.decode s i).1 : Int)] = some (.bool (decide (bad s i))) := by
  rw [utf_wrong_eq]
  by_cases h : (Utf8.decode s i).1 = 65533
  · rw [show decide ((((Utf8.decode s i).1 : Nat) : Int) = 65533) = true from by simp; omega, show (decide ((0 : Int) ≤ (i : Int)) && decide ((i : Int) ≤ (s.size : Int))) = true from by simp; omega]
    simp only [Bool.not_true, cond_false, cond_true, h69, callT_ok, tupI_ok, atNil_ok]
    have e : goDec (s.extract ((i : Int)).toNat s.size) = Utf8.decode s i := by
      rw [show ((i : Int)).toNat = i from by omega]
      unfold goDec
      rw [if_neg (by rw [tail_size]; omega), decode_at, decode_at, tail_size, Nat.sub_zero]
      simp only [tail_get!, Nat.add_zero, Nat.zero_add]
    rw [e]
    congr 2
    refine decide_eq_decide.2 ?_
    unfold bad
    rw [Prod.ext_iff]
    simp only [h, true_and]
    omega
  · rw [show decide ((((Utf8.decode s i).1 : Nat) : Int) = 65533) = false from by simp; omega]
    simp only [Bool.not_false, cond_true]
    rw [show decide (bad s i) = false from by simp only [decide_eq_false_iff_not]; intro hb; exact h (by rw [show Utf8.decode s i = _ from hb])]
theorem L13 {K : Nat} {s : ByteArray} (h50 : ∀ i, i < s.size → kap utf_wrong [.str s, .int .i64 (i : Int), .int .i32 ((Utf8.decode s i).1 : Int)] = some (.bool (decide (bad s i)))) :
    ∀ (n m pos : Nat), s.size ≤ pos + n → n < m → utf_First_L0 kap K m s s pos = some (.int .i64 (firstL s n pos)) := by
  intro n
  induction n with
  | zero =>
    intro m pos hn hm
    obtain ⟨m, rfl⟩ : ∃ m', m = m' + 1 := ⟨m - 1, by omega⟩
    rw [utf_First_L0_s, show decide (pos < s.size) = false from by simp; omega]
    rfl
  | succ n ih =>
    intro m pos hn hm
    obtain ⟨m, rfl⟩ : ∃ m', m = m' + 1 := ⟨m - 1, by omega⟩
    unfold firstL
    by_cases hlt : pos < s.size
    · have hw := nx_gt s pos
      rw [utf_First_L0_s, show decide (pos < s.size) = true from by simpa using hlt, h50 pos hlt, if_pos hlt]
      simp only [cond_true, callB_ok]
      by_cases hb : bad s pos
      · rw [if_pos hb, decide_eq_true hb]; rfl
      · rw [if_neg hb, decide_eq_false hb]
        exact ih m (nx s pos) (by omega) (by omega)
    · rw [utf_First_L0_s, show decide (pos < s.size) = false from by simpa using hlt, if_neg hlt]
      rfl
theorem utf_First_spec {K : Nat} {s : ByteArray} (hK : s.size < K) (h50 : ∀ i, i < s.size → kp E K n utf_wrong [.str s, .int .i64 (i : Int), .int .i32 ((Utf8.decode s i).1 : Int)] = some (.bool (decide (bad s i)))) : kp E K (n + 1) utf_First [.str s] = some (.int .i64 (first s)) := by
  rw [utf_First_eq]
  exact L13 h50 s.size K 0 (by omega) hK
theorem utf_Right_spec {K : Nat} {s : ByteArray} (h13 : kp E K n utf_First [.str s] = some (.int .i64 (first s))) : kp E K (n + 1) utf_Right [.str s] = some (.bool (decide (first s < 0))) := by
  rw [utf_Right_eq, h13]
  rfl
/-- The first of the ends that is below zero. -/
def firstNeg : List Int → Int
  | [] => -1
  | e :: l => if e < 0 then -e - 1 else firstNeg l
theorem L12 {K : Nat} {es : List Int} (hes : ∀ e ∈ es, -1000010 ≤ e ∧ e ≤ 1000010) (hl : es.length ≤ 1000000) : ∀ (n m j : Nat), es.length ≤ j + n → n < m → ref05_First_L0 kap K m (es.map ai) (j : Int) = some (.int .i64 (firstNeg (es.drop j))) := by
  intro n
  induction n with
  | zero =>
    intro m j hn hm
    obtain ⟨m, rfl⟩ : ∃ m', m = m' + 1 := ⟨m - 1, by omega⟩
    rw [ref05_First_L0_s, show decide ((j : Int) < ((es.map ai).length : Int)) = false from by simp; omega, List.drop_eq_nil_of_le (by omega)]
    rfl
  | succ n ih =>
    intro m j hn hm
    obtain ⟨m, rfl⟩ : ∃ m', m = m' + 1 := ⟨m - 1, by omega⟩
    by_cases hlt : j < es.length
    · have he := hes es[j] (List.getElem_mem hlt)
      rw [ref05_First_L0_s, show decide ((j : Int) < ((es.map ai).length : Int)) = true from by simp; omega, show decide ((0 : Int) ≤ (j : Int)) = true from by simp, show ((j : Int)).toNat = j from by omega]
      rw [List.getElem?_map, List.getElem?_eq_getElem hlt, List.drop_eq_getElem_cons hlt]
      simp only [cond_true, Bool.and_self, Option.map_some, Option.bind_some, AV.cells, cellI_0, firstNeg, ai]
      by_cases h0 : es[j] < 0
      · rw [if_pos h0, show decide (es[j] < 0) = true from by simpa using h0, cond_true, i64w (x := 0 - es[j]) (by omega), i64w (x := 0 - es[j] - 1) (by omega)]
        congr 2
        omega
      · rw [if_neg h0, show decide (es[j] < 0) = false from by simpa using h0, cond_false, i64w (x := (j : Int) + 1) (by omega), show (j : Int) + 1 = ((j + 1 : Nat) : Int) from by omega]
        exact ih m (j + 1) (by omega) (by omega)
    · rw [ref05_First_L0_s, show decide ((j : Int) < ((es.map ai).length : Int)) = false from by simp; omega, List.drop_eq_nil_of_le (by omega)]
      rfl
theorem endsL_range (s : ByteArray) : ∀ (n pos : Nat), pos ≤ s.size + 4 → ∀ e ∈ endsL s n pos, -((s.size : Int) + 8) ≤ e ∧ e ≤ (s.size : Int) + 8
  | 0, pos, hp, e, he => by simp [endsL] at he
  | n + 1, pos, hp, e, he => by
    have hw := nx_gt s pos
    unfold endsL at he
    split at he
    · rename_i hlt
      rcases List.mem_cons.1 he with rfl | he
      · split <;> omega
      · exact endsL_range s n (nx s pos) (by omega) e he
    · simp at he
theorem endsL_length (s : ByteArray) : ∀ (n pos : Nat), (endsL s n pos).length ≤ n
  | 0, pos => by simp [endsL]
  | n + 1, pos => by
    unfold endsL
    split
    · have := endsL_length s n (nx s pos)
      simp; omega
    · simp
theorem ref05_First_spec {K : Nat} {s : ByteArray} (hs : s.size ≤ 1000000) (hK : s.size < K) (h16 : kp E K n ref05_Ends [.str s] = some (.list 1 ((ends s).map ai))) : kp E K (n + 1) ref05_First [.str s] = some (.int .i64 (firstNeg (ends s))) := by
  rw [ref05_First_eq, h16]
  have hl := endsL_length s s.size 0
  exact L12 (fun e he => by have := endsL_range s s.size 0 (by omega) e he; omega) (by unfold ends; omega) s.size K 0 (by unfold ends; omega) hK
theorem first_ends (s : ByteArray) : ∀ (n pos : Nat), firstNeg (endsL s n pos) = firstL s n pos
  | 0, pos => rfl
  | n + 1, pos => by
    have hw := nx_gt s pos
    unfold endsL firstL
    split
    · rename_i hlt
      simp only [firstNeg]
      by_cases hb : bad s pos
      · have := nx_bad hb
        rw [if_pos hb, if_pos hb, if_pos (by omega)]
        omega
      · rw [if_neg hb, if_neg hb, if_neg (by omega)]
        exact first_ends s n _
    · rfl
end Go.Proofs.YtilbahgfjfcikaaGreatDoor.Eng.U


/- Which texts hold = or a nought, told exactly. -/
set_option linter.unusedVariables false
set_option linter.unusedSectionVars false
set_option linter.unusedSimpArgs false
namespace Go.Proofs.YtilbahgfjfcikaaGreatDoor.Eng.U
open Go Go.Proofs Go.Proofs.YtilbahgfjfcikaaGreatDoor.Eng
variable {E : Ext} [Core E] {k n : Nat}

def noEq (s : List UInt8) : Bool := s.all fun c => decide (c ≠ 61) && decide (c ≠ 0)
theorem idx_rune (r : Nat) (h : r < 128) : (0 : Int) ≤ Lib.indexByte [61, 0] (IntKind.wrap .u8 (r : Int)).toNat.toUInt8 ↔ r = 61 ∨ r = 0 := by
  have : ∀ r : _root_.Fin 128, ((0 : Int) ≤ Lib.indexByte [61, 0] (IntKind.wrap .u8 ((r.1 : Nat) : Int)).toNat.toUInt8 ↔ r.1 = 61 ∨ r.1 = 0) := by decide +kernel
  exact this ⟨r, h⟩
theorem rune_V [HasIB E] (r : Nat) (hk : 10 < k) : ∃ i : Int, kp E k (n + 2) strings_IndexRune [.str (str [61, 0]), .int .i32 (r : Int)] = some (.int .i64 i) ∧ (0 ≤ i ↔ r = 61 ∨ r = 0) := by
  obtain ⟨k, rfl⟩ : ∃ j, k = j + 3 := ⟨k - 3, by omega⟩
  rw [strings_IndexRune_eq, bif_t (by omega)]
  by_cases h1 : r < 128
  · rw [bif_t (by omega), HasIB.indexB, callI_ok]; exact ⟨_, rfl, idx_rune r h1⟩
  · rw [bif_f (by omega)]
    by_cases h2 : (r : Int) = 65533
    · rw [bif_t h2]
      have d0 : Utf8.decode (str [61, 0]) 0 = (61, 1) := by decide +kernel
      have d1 : Utf8.decode (str [61, 0]) 1 = (0, 1) := by decide +kernel
      have sz : (str [61, 0]).size = 2 := rfl
      have z1 : 0 + ((61, 1) : Nat × Nat).2 = 1 := rfl
      have z2 : 1 + ((0, 1) : Nat × Nat).2 = 2 := rfl
      rw [strings_IndexRune_L0_s, sz, d0, z1, bif_t (by omega), bif_f (by decide), strings_IndexRune_L0_s, sz, d1, z2, bif_t (by omega), bif_f (by decide), strings_IndexRune_L0_s, sz, bif_f (by omega)]
      exact ⟨_, rfl, by omega⟩
    · rw [bif_f h2]
      obtain ⟨b, hb⟩ := valid_B (E := E) (k := k + 3) (n := n) (r : Int)
      rw [hb, callB_ok]
      cases b with
      | false => exact ⟨_, rfl, by omega⟩
      | true =>
        rw [Bool.not_true, cond_false]
        have sz : (str [61, 0]).size = 2 := rfl
        rcases enc_facts r (by omega) with ⟨e1, e2⟩ | e1 | e1
        · rw [e1, i64w (by omega), strings_IndexRune_L1_s, sz, e1]
          have hb1 : byteAt (str [61, 0]) 1 = 0 := rfl
          have e3 : Int.toNat (((2 : Nat) : Int) - 1) = 1 := rfl
          rw [bif_t (by omega), bif_a, bif_t (by omega), bif_t (by omega), bif_a, bif_t (by omega), bif_t (by omega), e3, hb1, decide_eq_false (by omega), Bool.not_false, cond_true, i64w (by omega), bif_a, bif_t (by omega), bif_t (by omega), bif_a, bif_t (by omega), bif_t (by omega)]
          have e4 : Int.toNat (((2 : Nat) : Int) - 1 + 1) = 2 := rfl
          have e5 : ByteArray.extract (str [61, 0]) 2 2 = str [] := by decide +kernel
          rw [e4, e5, HasIB.indexB, callI_ok]
          have e6 : Lib.indexByte [] (byteAt (Utf8.encode (r : Int)) 1).toNat.toUInt8 = -1 := rfl
          rw [e6, bif_t (by omega)]
          exact ⟨_, rfl, by omega⟩
        · rw [e1, i64w (by omega), strings_IndexRune_L1_s, sz, bif_f (by omega)]; exact ⟨_, rfl, by omega⟩
        · rw [e1, i64w (by omega), strings_IndexRune_L1_s, sz, bif_f (by omega)]; exact ⟨_, rfl, by omega⟩
theorem dec_low (s : ByteArray) (i : Nat) (h : by_ s i < 128) : Utf8.decode s i = (by_ s i, 1) := by
  rw [Lib.decode_at, get_by, get_by, get_by, get_by]
  unfold Lib.decodeN
  rw [if_pos h]
theorem dec_wide (s : ByteArray) (i : Nat) (h : 128 ≤ by_ s i) : 128 ≤ (Utf8.decode s i).1 ∧ ∀ j, j < (Utf8.decode s i).2 → 128 ≤ by_ s (i + j) := by
  rw [Lib.decode_at, get_by, get_by, get_by, get_by]
  unfold Lib.decodeN
  rw [if_neg (by omega)]
  have key : ∀ (c w : Nat), 128 ≤ c → (w ≤ 4) → (1 < w → 128 ≤ by_ s (i + 1)) → (2 < w → 128 ≤ by_ s (i + 2)) → (3 < w → 128 ≤ by_ s (i + 3)) → 128 ≤ ((c, w) : Nat × Nat).1 ∧ ∀ j, j < ((c, w) : Nat × Nat).2 → 128 ≤ by_ s (i + j) := by
    intro c w hc hw h1 h2 h3
    refine ⟨hc, fun j hj => ?_⟩
    have hj : j < w := hj
    have : j = 0 ∨ j = 1 ∨ j = 2 ∨ j = 3 := by omega
    rcases this with rfl | rfl | rfl | rfl
    · exact h
    · exact h1 (by omega)
    · exact h2 (by omega)
    · exact h3 (by omega)
  repeat' split
  all_goals exact key _ _ (by omega) (by omega) (by omega) (by omega) (by omega)
theorem any_lv [HasIB E] (hk : 10 < k) (s : List UInt8) : ∀ (m k0 i : Nat), s.length - i < m → m ≤ k0 → ∃ r : Int, strings_IndexAny_L0 (kp E k (n + 2)) k k0 (str [61, 0]) (str s) i = some (.int .i64 r) ∧ (0 ≤ r ↔ ∃ j, i ≤ j ∧ j < s.length ∧ (by_ (str s) j = 61 ∨ by_ (str s) j = 0))
  | 0, k0, i, h, _ => by omega
  | m + 1, k0 + 1, i, h, hkk => by
    rw [strings_IndexAny_L0_s, str_size]
    by_cases hi : i < s.length
    · rw [decide_eq_true hi, cond_true]
      obtain ⟨x, hx, hxi⟩ := rune_V (E := E) (k := k) (n := n) (Utf8.decode (str s) i).1 hk
      rw [hx, callI_ok]
      have hw := width_pos (str s) i
      by_cases h0 : x ≥ 0
      · rw [bif_t h0]
        refine ⟨_, rfl, by
          constructor
          · intro _
            refine ⟨i, by omega, hi, ?_⟩
            by_cases hb : by_ (str s) i < 128
            · have := dec_low (str s) i hb
              have h1 := hxi.1 h0
              rw [this] at h1
              exact h1
            · have := (dec_wide (str s) i (by omega)).1
              have h1 := hxi.1 h0
              omega
          · intro _; omega⟩
      · rw [bif_f h0]
        obtain ⟨r, hr, hri⟩ := any_lv hk s m k0 (i + (Utf8.decode (str s) i).2) (by omega) (by omega)
        refine ⟨r, hr, hri.trans ⟨fun ⟨j, a, b, c⟩ => ⟨j, by omega, b, c⟩, fun ⟨j, a, b, c⟩ => ⟨j, ?_, b, c⟩⟩⟩
        have hn : ¬ ((Utf8.decode (str s) i).1 = 61 ∨ (Utf8.decode (str s) i).1 = 0) := fun h => h0 (hxi.2 h)
        by_cases hb : by_ (str s) i < 128
        · rw [dec_low (str s) i hb] at hn ⊢
          have hn : ¬ (by_ (str s) i = 61 ∨ by_ (str s) i = 0) := hn
          show i + 1 ≤ j
          by_cases e : i = j
          · subst e; exact absurd c hn
          · omega
        · have hall := (dec_wide (str s) i (by omega)).2
          by_cases e : i + (Utf8.decode (str s) i).2 ≤ j
          · exact e
          · have := hall (j - i) (by omega)
            rw [show i + (j - i) = j by omega] at this
            omega
    · rw [decide_eq_false hi, cond_false]
      exact ⟨_, rfl, ⟨fun h => by omega, fun ⟨j, a, b, _⟩ => by omega⟩⟩
theorem noEq_iff (s : List UInt8) : noEq s = false ↔ ∃ j, 0 ≤ j ∧ j < s.length ∧ (by_ (str s) j = 61 ∨ by_ (str s) j = 0) := by
  rw [noEq, List.all_eq_false]
  constructor
  · rintro ⟨c, hc, h⟩
    obtain ⟨j, hj, rfl⟩ := List.mem_iff_getElem.1 hc
    refine ⟨j, by omega, hj, ?_⟩
    have e : by_ (str s) j = (s[j]).toNat := by
      show ((str s).data.toList.getD j 0).toNat = _
      rw [show (str s).data.toList = s from rfl, List.getD_eq_getElem?_getD, List.getElem?_eq_getElem hj]; rfl
    rw [e]
    simp only [ne_eq, Bool.and_eq_true, decide_eq_true_eq] at h
    by_cases h6 : s[j] = 61
    · left; rw [h6]; rfl
    · by_cases h7 : s[j] = 0
      · right; rw [h7]; rfl
      · exact absurd ⟨h6, h7⟩ h
  · rintro ⟨j, _, hj, h⟩
    refine ⟨s[j], List.getElem_mem hj, ?_⟩
    have e : by_ (str s) j = (s[j]).toNat := by
      show ((str s).data.toList.getD j 0).toNat = _
      rw [show (str s).data.toList = s from rfl, List.getD_eq_getElem?_getD, List.getElem?_eq_getElem hj]; rfl
    rw [e] at h
    simp only [ne_eq, Bool.and_eq_true, decide_eq_true_eq]
    rintro ⟨h6, h7⟩
    rcases h with h | h
    · exact h6 (UInt8.toNat_inj.1 h)
    · exact h7 (UInt8.toNat_inj.1 h)
theorem any_short_v [HasIB E] (hB : E.isBase strings_IndexAny = false) (hF : E.fs.contains strings_IndexAny = true) (hk : 10 < k) (s : List UInt8) (hs : s.length ≤ 8) : ∃ r : Int, kp E k (n + 3) strings_IndexAny [.str (str s), .str (str [61, 0])] = some (.int .i64 r) ∧ decide (r ≥ 0) = !noEq s := by
  have sz : (str [61, 0]).size = 2 := rfl
  rw [strings_IndexAny_eq hB hF, sz, str_size, bif_f (by decide), bif_f (by omega), strings_shouldUseASCIISet_eq, callB_ok, bif_f (by omega)]
  obtain ⟨r, hr, h⟩ := any_lv (E := E) (n := n) hk s k k 0 (by omega) (Nat.le_refl _)
  refine ⟨r, hr, ?_⟩
  rw [← noEq_iff] at h
  cases hq : noEq s with
  | true => rw [hq] at h; simp only [Bool.true_eq_false, iff_false] at h; rw [decide_eq_false h]; rfl
  | false => rw [hq] at h; simp only [iff_true] at h; rw [decide_eq_true h]; rfl
theorem any_long_v (s : List UInt8) : decide (Lib.indexAny s [61, 0] ≥ 0) = !noEq s := by
  induction s with
  | nil => rfl
  | cons b l ih =>
    have hg := Lib.indexAny_ge [61, 0] l
    unfold Lib.indexAny noEq
    rw [List.all_cons]
    by_cases hb : b = 61 ∨ b = 0
    · have e : List.contains [61, 0] b = true := by rcases hb with rfl | rfl <;> rfl
      rw [if_pos e]
      rcases hb with rfl | rfl <;> rfl
    · have e : List.contains [61, 0] b = false := by
        simp only [not_or] at hb
        simp [List.contains_cons, hb.1, hb.2]
      rw [e]
      simp only [not_or] at hb
      rw [decide_eq_true hb.1, decide_eq_true hb.2, Bool.and_self, Bool.true_and]
      rw [show (l.all fun c => decide (c ≠ 61) && decide (c ≠ 0)) = noEq l from rfl, ← ih]
      by_cases h1 : Lib.indexAny l [61, 0] = -1
      · rw [h1]; rfl
      · have h2 : (Lib.indexAny l [61, 0] == -1) = false := by simpa using h1
        rw [h2]
        simp only [Bool.false_eq_true, if_false]
        rw [decide_eq_decide]
        omega
class HasTextV (E : Ext) : Prop where
  dec : ∀ (k n : Nat) (s : ByteArray), kp E k n unicode_utf8_DecodeRuneInString [.str s] = some (.tup [.int .i32 ((goDec s).1 : Int), .int .i64 ((goDec s).2 : Int)])
  idx : ∀ (k n : Nat) (s : List UInt8), s.length ≤ 1000000 → ∃ i : Int, kp E k n strings_IndexAny [.str (str s), .str (str [61, 0])] = some (.int .i64 i) ∧ decide (i ≥ 0) = !noEq s
end Go.Proofs.YtilbahgfjfcikaaGreatDoor.Eng.U


/- The functions of the Dec laws in plain words, part 4: the document's own reading of a time. -/
set_option linter.unusedVariables false
set_option linter.unusedSectionVars false
set_option linter.unusedSimpArgs false
namespace Go.Proofs.YtilbahgfjfcikaaGreatDoor.Eng.U
open Go Go.Proofs Go.Proofs.YtilbahgfjfcikaaGreatDoor.Eng Go.Proofs.YtilbahgfjfcikaaGreatDoor.P04
variable {E : Ext} [Core E] {k n : Nat}

theorem byte46 (c : UInt8) : decide (((c.toNat : Nat) : Int) = (46 : Int)) = decide (c = 46) := byte_is c 46 (by omega)
theorem byte45 (c : UInt8) : decide (((c.toNat : Nat) : Int) = (45 : Int)) = decide (c = 45) := byte_is c 45 (by omega)
/-- The first point from a place on. -/
def dotAt (t : List UInt8) (i : Nat) : Nat := i + dot (t.drop i)
theorem dotAt_step (t : List UInt8) (i : Nat) (h : i < t.length) : dotAt t i = if t.getD i 0 = 46 then i else dotAt t (i + 1) := by
  unfold dotAt
  rw [List.drop_eq_getElem_cons h]
  have e : t.getD i 0 = t[i] := by simp [List.getD_eq_getElem?_getD, List.getElem?_eq_getElem h]
  rw [e]
  unfold dot
  rw [List.findIdx_cons]
  by_cases hc : t[i] = 46
  · rw [if_pos hc, hc]; rfl
  · rw [if_neg hc, beq_eq_false_iff_ne.2 hc, cond_false]; omega
theorem back_loop (kap : FuncId → List AV → Option AV) (t : List UInt8) (q : Bool) (ht : t.length < 100000000000) : ∀ (i k0 : Nat), i < k0 → i ≤ t.length → ref04_Time_L0 kap k k0 (str t) q (dotAt t i : Int) ((i : Int) - 1) 0 0 = ref04_Time_L0 kap k 1 (str t) q (dot t : Int) (-1) 0 0
  | 0, k0 + 1, _, _ => by
    have e : ((0 : Nat) : Int) - 1 = -1 := rfl
    have e' : dotAt t 0 = dot t := by simp [dotAt]
    rw [e, e', ref04_Time_L0_s, ref04_Time_L0_s kap k 0, bif_f (by omega), bif_f (by omega)]
  | i + 1, k0 + 1, h, hi => by
    have ih := back_loop kap t q ht i k0 (by omega) (by omega)
    rw [dotAt_step t i (by omega)] at ih
    have e : ((i + 1 : Nat) : Int) - 1 = (i : Int) := by omega
    rw [e, ref04_Time_L0_s, bif_t (by omega), str_size, bif_a, bif_t (by omega), bif_t (by omega), Int.toNat_natCast, str_byte, byte46, i64w (x := (i : Int) - 1) (by omega)]
    by_cases hc : t.getD i 0 = 46
    · rw [if_pos hc] at ih
      rw [decide_eq_true hc, cond_true, ih]
    · rw [if_neg hc] at ih
      rw [decide_eq_false hc, cond_false, ih]
theorem nano_step (b : List UInt8) (hb : b.length ≤ 9) (j : Nat) (hj : j < 9) : valA 0 ((b ++ List.replicate (9 - b.length) 48).take (j + 1)) = valA 0 ((b ++ List.replicate (9 - b.length) 48).take j) * 10 + (if j < b.length then (b.getD j 0).toNat - 48 else 0) := by
  have hl : (b ++ List.replicate (9 - b.length) (48 : UInt8)).length = 9 := by rw [List.length_append, List.length_replicate]; omega
  rw [List.take_succ_eq_append_getElem (by omega), valA_app]
  have e : ∀ (a : Nat) (c : UInt8), valA a [c] = a * 10 + (c.toNat - 48) := fun a c => rfl
  rw [e]
  congr 1
  by_cases h : j < b.length
  · rw [if_pos h, List.getElem_append_left h]
    simp [List.getD_eq_getElem?_getD, h]
  · rw [if_neg h, List.getElem_append_right (by omega), List.getElem_replicate]
    rfl
theorem nano_loop (kap : FuncId → List AV → Option AV) (q ok : Bool) (sec : Int) (b : List UInt8) (hb : b.length ≤ 9) (hd : digs b = true) : ∀ (r j k0 : Nat), r + j = 9 → r < k0 →
    ref04_Time_L1 kap k k0 q sec ok (valA 0 ((b ++ List.replicate (9 - b.length) 48).take j) : Int) (str b) (j : Int) 0 0 = ref04_Time_L1 kap k 1 q sec ok (valA 0 (b ++ List.replicate (9 - b.length) 48) : Int) (str b) 9 0 0
  | 0, j, k0 + 1, h, _ => by
    obtain rfl : j = 9 := by omega
    have hl : (b ++ List.replicate (9 - b.length) (48 : UInt8)).length = 9 := by rw [List.length_append, List.length_replicate]; omega
    rw [List.take_of_length_le (by omega)]
    have e : ((9 : Nat) : Int) = 9 := rfl
    rw [e, ref04_Time_L1_s, ref04_Time_L1_s kap k 0, bif_f (show ¬ (9 : Int) < 9 by omega), bif_f (show ¬ (9 : Int) < 9 by omega)]
  | r + 1, j, k0 + 1, h, hk => by
    have ih := nano_loop kap q ok sec b hb hd r (j + 1) k0 (by omega) (by omega)
    obtain ⟨q1, q2⟩ := nano_digs hd hb
    have hall := digs_all q1
    have hv : valA 0 ((b ++ List.replicate (9 - b.length) 48).take j) < 1000000000 := by
      have hlt := valA_lt ((b ++ List.replicate (9 - b.length) (48 : UInt8)).take j) 0 0 (List.all_eq_true.2 fun x hx => List.all_eq_true.1 hall x (List.mem_of_mem_take hx)) (by omega)
      have : 10 ^ (0 + ((b ++ List.replicate (9 - b.length) (48 : UInt8)).take j).length) ≤ 10 ^ 9 := Nat.pow_le_pow_right (by omega) (by rw [List.length_take]; omega)
      omega
    rw [nano_step b hb j (by omega)] at ih
    generalize valA 0 ((b ++ List.replicate (9 - b.length) 48).take j) = a at hv ih
    rw [ref04_Time_L1_s, bif_t (by omega), str_size, i64w (x := (10 : Int) * (a : Int)) (by omega), wrap1 (by omega)]
    by_cases hj : j < b.length
    · have hc : isDig (b.getD j 0) = true := by
        rw [List.getD_eq_getElem?_getD, List.getElem?_eq_getElem hj]
        exact List.all_eq_true.1 (digs_all hd) _ (List.getElem_mem hj)
      have hc := dig_iff.1 hc
      rw [if_pos hj] at ih
      rw [bif_t (by omega), bif_a, bif_t (by omega), bif_t (by omega), Int.toNat_natCast, str_byte, i64w (x := (((b.getD j 0).toNat : Nat) : Int)) (by omega), i64w (x := (10 : Int) * (a : Int) + (((b.getD j 0).toNat : Nat) : Int)) (by omega), i64w (x := (10 : Int) * (a : Int) + (((b.getD j 0).toNat : Nat) : Int) - 48) (by omega)]
      rw [← ih]
      congr 1
      omega
    · rw [if_neg hj] at ih
      rw [bif_f (by omega), ← ih]
      congr 1
      omega
def timeRV : Option (Int × Int) → AV
  | some (a, b) => .tup [.agg [.int .i64 a, .int .i64 b], .bool true]
  | none => .tup [.agg [.int .i64 0, .int .i64 0], .bool false]
def endT (q ok : Bool) (v w : Nat) : Option (Int × Int) :=
  if ok = false then none
  else if q = false then (if 9223372036854775807 < v then none else some ((v : Int), (w : Int)))
  else if w = 0 then some (-(v : Int), 0)
  else if 9223372036854775807 < v then none
  else some (-(v : Int) - 1, 1000000000 - (w : Int))
theorem nano_end (kap : FuncId → List AV → Option AV) (q ok : Bool) (v w : Nat) (s : ByteArray) (hv : v ≤ 9223372036854775808) (hw : w < 1000000000) : ref04_Time_L1 kap k 1 q (if ok then -(v : Int) else 0) ok (w : Int) s 9 0 0 = some (timeRV (endT q ok v w)) := by
  rw [ref04_Time_L1_s kap k 0, bif_f (show ¬ (9 : Int) < 9 by omega)]
  cases ok with
  | false => rfl
  | true =>
    simp only [if_true, Bool.not_true, Bool.not_false, cond_true, cond_false, endT, if_neg (show ¬ true = false by decide)]
    cases q with
    | false =>
      simp only [if_true, Bool.not_true, Bool.not_false, cond_true, cond_false]
      by_cases h : 9223372036854775807 < v
      · rw [bif_t (by omega), if_pos h]; rfl
      · rw [bif_f (by omega), if_neg h, i64w (by omega), show (0 : Int) - -(v : Int) = (v : Int) from by omega]; rfl
    | true =>
      simp only [if_true, Bool.not_true, Bool.not_false, cond_true, cond_false, if_neg (show ¬ true = false by decide)]
      by_cases h0 : w = 0
      · subst h0
        rw [if_pos rfl]
        by_cases h : 9223372036854775807 < v
        · rw [bif_t (by omega), bif_f (by omega), bif_t (by omega)]; rfl
        · rw [bif_f (by omega), bif_t (by omega)]; rfl
      · rw [if_neg h0]
        by_cases h : 9223372036854775807 < v
        · rw [bif_t (by omega), bif_t (by omega), if_pos h]; rfl
        · rw [bif_f (by omega), bif_f (by omega), if_neg h, i64w (x := -(v : Int) - 1) (by omega), i64w (by omega)]; rfl
theorem refBody (t : List UInt8) (q : Bool) (ht : t.length < 100000000000) (hk : t.length < k) (h9 : 10 < k) : ref04_Time_L0 (kp E k (n + 2)) k k (str t) q ((t.length : Nat) : Int) (((t.length : Nat) : Int) - 1) 0 0 = some (timeRV (timeB q t)) := by
  have e : dotAt t t.length = t.length := by simp [dotAt, dot]
  have hb := back_loop (k := k) (kp E k (n + 2)) t q ht t.length k hk (Nat.le_refl _)
  rw [e] at hb
  rw [hb, ref04_Time_L0_s]
  have hdl : dot t ≤ t.length := List.findIdx_le_length
  rw [bif_f (by omega), str_size, bif_a, bif_t (by omega), bif_t (by omega), Int.toNat_natCast, str_ext, List.drop_zero, below_k (n := n) (t.take (dot t)) (by rw [List.length_take]; omega) (by rw [List.length_take]; omega)]
  simp (disch := first | omega | (simp only [List.length_append, List.length_cons, List.length_nil, List.length_take, List.length_drop]; done) | (simp only [List.length_append, List.length_cons, List.length_nil, List.length_take, List.length_drop]; omega) | fail) only [bif_t, bif_f, bif_n, bif_a, callB_ok, callI_ok, callS_ok, callL_ok, callF_ok, callT_ok, tupB_ok, tupI_ok, tupS_ok, tupL_ok, tupF_ok, atNil_ok, wrap1, wrapM, wrapP, Int.toNat_natCast, svs_len, ivs_len, bvs_len, str_size, svs_mid, ivs_mid, str_dec, str_ext, str_byte, mid_byte, mid_cut, List.length_nil, List.length_singleton, svs_snoc, ivs_snoc, svs_take, svs_drop, str_app, List.take_length, List.drop_zero, List.nil_append, cond_true, cond_false, Option.bind_some, Bool.not_true, Bool.not_false, Bool.true_and, Bool.and_true]
  unfold timeB
  dsimp only
  have hv : natOk (t.take (dot t)) = true → valA 0 (t.take (dot t)) ≤ 9223372036854775808 := natOk_le
  generalize natOk (t.take (dot t)) = ok at hv
  generalize valA 0 (t.take (dot t)) = v at hv
  by_cases hp : dot t < t.length
  · rw [bif_t (by omega), bif_t (by omega)]
    have hbl : (t.drop (dot t + 1)).length ≤ t.length := by rw [List.length_drop]; omega
    generalize t.drop (dot t + 1) = b at hbl
    rw [only_k (n := n + 1) b (by omega) (by omega), callB_ok]
    cases hd : digs b with
    | false =>
      rw [cond_false]
      cases ok with
      | false => rfl
      | true => rw [if_neg (by simp), if_pos ⟨hp, by simp⟩]; rfl
    | true =>
      rw [cond_true]
      by_cases hl : b.length ≤ 9
      · obtain ⟨q1, q2⟩ := nano_digs hd hl
        obtain ⟨q3, q4⟩ := parseI_eq q1 (by omega)
        rw [bif_f (by omega)]
        have hn := nano_loop (k := k) (kp E k (n + 2)) q ok (if ok = true then -(v : Int) else 0) b hl hd 9 0 k rfl (by omega)
        rw [List.take_zero] at hn
        have e0 : ((valA 0 [] : Nat) : Int) = 0 := rfl
        have e1 : ((0 : Nat) : Int) = 0 := rfl
        rw [e0, e1] at hn
        rw [hn]
        generalize valA 0 (b ++ List.replicate (9 - b.length) 48) = w at q4
        cases ok with
        | false =>
          exact nano_end _ q false 0 w _ (by omega) q4
        | true =>
          rw [nano_end _ q true v w _ (hv rfl) q4]
          unfold endT
          have t1 : ¬ (true = false) := by decide
          have t2 : ¬ (dot t < t.length ∧ ¬ (true = true ∧ b.length ≤ 9)) := fun h => h.2 ⟨rfl, hl⟩
          rw [if_neg t1, if_neg t1, if_neg t2, if_pos hp]
      · rw [bif_t (by omega)]
        cases ok with
        | false => rfl
        | true => rw [if_neg (by simp), if_pos ⟨hp, fun h => hl h.2⟩]; rfl
  · rw [bif_f (by omega)]
    cases ok with
    | false => rfl
    | true =>
      have hv := hv rfl
      have t1 : ¬ (true = false) := by decide
      have t2 : ¬ (dot t < t.length ∧ ¬ (digs (t.drop (dot t + 1)) = true ∧ (t.drop (dot t + 1)).length ≤ 9)) := fun h => hp h.1
      have t3 : (if true = true then -(v : Int) else 0) = -(v : Int) := if_pos rfl
      rw [if_neg t1, if_neg t2, if_neg hp, t3]
      simp only [if_true, Bool.not_true, Bool.not_false, cond_true, cond_false]
      cases q with
      | false =>
        simp only [if_true, Bool.not_true, Bool.not_false, cond_true, cond_false]
        by_cases h : 9223372036854775807 < v
        · rw [bif_t (by omega), if_pos h]; rfl
        · rw [bif_f (by omega), if_neg h, i64w (by omega), show (0 : Int) - -(v : Int) = (v : Int) from by omega]; rfl
      | true =>
        simp only [if_true, Bool.not_true, Bool.not_false, cond_true, cond_false, if_neg (show ¬ true = false by decide)]
        by_cases h : 9223372036854775807 < v
        · rw [bif_t (by omega)]; rfl
        · rw [bif_f (by omega)]; rfl
theorem refTime_k (s : List UInt8) (hs : s.length < 100000000000) (hk : s.length < k) (h9 : 10 < k) : kp E k (n + 3) ref04_Time [.str (str s)] = some (timeRV (timeL s)) := by
  rw [ref04_Time_eq, str_size]
  unfold timeL
  cases s with
  | nil =>
    rw [bif_f (by simp), i64w (by simp)]
    exact refBody (n := n) [] false hs hk h9
  | cons c s =>
    have hl : (c :: s).length = s.length + 1 := rfl
    rw [bif_t (by omega), bif_t (by omega), str_byte, byte45]
    have hg : (c :: s).getD 0 0 = c := rfl
    rw [hg]
    by_cases hc : c = 45
    · subst hc
      have e : ByteArray.extract (str (45 :: s)) 1 (45 :: s).length = str s := ext_one 45 s
      rw [bif_t rfl, bif_t (by omega), e, str_size, i64w (by omega)]
      have := refBody (E := E) (k := k) (n := n) s true (by omega) (by omega) h9
      exact this
    · rw [bif_f hc, i64w (by omega), decide_eq_false hc]
      have := refBody (E := E) (k := k) (n := n) (c :: s) false hs hk h9
      rw [this]
      have hh : ¬ (c :: s).head? = some 45 := by simpa using hc
      rw [decide_eq_false hh, if_neg hh]
end Go.Proofs.YtilbahgfjfcikaaGreatDoor.Eng.U


/- What a pair of a record is: both sides in plain words. -/
set_option linter.unusedVariables false
set_option linter.unusedSectionVars false
set_option linter.unusedSimpArgs false
namespace Go.Proofs.YtilbahgfjfcikaaGreatDoor.Eng.U
open Go Go.Proofs Go.Proofs.YtilbahgfjfcikaaGreatDoor.Eng Go.Proofs.YtilbahgfjfcikaaGreatDoor.P04
variable {E : Ext} [Core E] [HasNum E] {k n : Nat}

def utfOk (l : List UInt8) : Bool := decide (first (str l) < 0)
theorem refFirst_k (l : List UInt8) (hl : l.length ≤ 1000000) (hk : l.length + 5 < k) : kp E k (n + 3) ref05_First [.str (str l)] = some (.int .i64 (first (str l))) := by
  obtain ⟨K, rfl⟩ : ∃ K, k = K + 5 := ⟨k - 5, by omega⟩
  have hs : (str l).size ≤ 1000000 := by rw [str_size]; exact hl
  have h1 : ∀ i, i < (str l).size → kp E (K + 5) (n + 1) ref05_size [.str (str l), .int .i64 (i : Int)] = some (.int .i64 (sizeS (str l) i : Int)) := fun i hi => size_spec hs hi
  have h2 := ref05_Ends_spec (E := E) (K := K + 5) (n := n + 1) hs (by rw [str_size]; omega) h1
  rw [ref05_First_spec hs (by rw [str_size]; omega) h2, ends, first_ends, first]
section
variable [HasTextV E]
theorem utf_k (l : List UInt8) (hk : l.length < k) : kp E k (n + 3) utf_Right [.str (str l)] = some (.bool (utfOk l)) := by
  have h1 : ∀ i, i < (str l).size → kp E k (n + 1) utf_wrong [.str (str l), .int .i64 (i : Int), .int .i32 ((Utf8.decode (str l) i).1 : Int)] = some (.bool (decide (bad (str l) i))) := fun i hi => utf_wrong_spec hi (HasTextV.dec k n)
  exact utf_Right_spec (utf_First_spec (by rw [str_size]; omega) h1)
theorem contains_k (s : List UInt8) (hs : s.length ≤ 1000000) : kp E k (n + 1) strings_ContainsAny [.str (str s), .str (str [61, 0])] = some (.bool (!noEq s)) := by
  obtain ⟨i, hi, h⟩ := HasTextV.idx (E := E) k n s hs
  rw [strings_ContainsAny_eq, hi, callI_ok, h]
end
def clean (s : List UInt8) : Bool := s.all fun c => decide (c ≠ 0)
theorem index0 (s : List UInt8) : decide (Lib.indexByte s 0 < 0) = clean s := by
  induction s with
  | nil => rfl
  | cons b l ih =>
    have hg := Lib.indexByte_ge l 0
    unfold Lib.indexByte clean
    rw [List.all_cons]
    by_cases hb : b = 0
    · subst hb; rfl
    · have h1 : (b == 0) = false := by simpa using hb
      rw [h1, decide_eq_true hb, Bool.true_and, show (l.all fun c => decide (c ≠ 0)) = clean l from rfl, ← ih]
      simp only [Bool.false_eq_true, if_false, beq_iff_eq]
      split
      · rename_i h; rw [h]
      · rename_i h
        rw [decide_eq_decide]
        omega
theorem index0_k (s : List UInt8) : kp E k n strings_IndexByte [.str (str s), .int .u8 0] = some (.int .i64 (Lib.indexByte s 0)) := HasNum.indexB k n s 0
theorem paxClean_k (s : List UInt8) : kp E k (n + 1) pax_clean [.str (str s)] = some (.bool (clean s)) := by
  rw [pax_clean_eq, index0_k, callI_ok, index0]
theorem get_loop (kap : FuncId → List AV → Option AV) : ∀ (suf pre acc : List UInt8) (k0 : Nat), suf.length < k0 → (pre ++ suf).length < 1000000000 → acc.length ≤ pre.length →
    ref02_Get_L0 kap k k0 (bys (pre ++ suf)) ((pre.length : Nat) : Int) (bys acc) = some (.str (str (acc ++ suf.takeWhile fun c => decide (c ≠ 0))))
  | [], pre, acc, k0 + 1, h, hb, ha => by
    have e : toBytes (bys acc) = some acc := toBytes_map acc
    rw [ref02_Get_L0_s, bys_len, bif_f (by simp), e]
    simp
  | c :: suf, pre, acc, k0 + 1, h, hb, ha => by
    have h' : suf.length < k0 := by simp only [List.length_cons] at h; omega
    have hb' : pre.length + (suf.length + 1) < 1000000000 := by simp only [List.length_append, List.length_cons] at hb; exact hb
    have e : toBytes (bys acc) = some acc := toBytes_map acc
    rw [ref02_Get_L0_s, bys_len, mid_len, bif_t (by omega), bif_a, bif_t (by omega), bif_t (by omega), Int.toNat_natCast, bys_mid, byte_c, bys_len]
    by_cases hc : c = 0
    · subst hc
      rw [show (!decide (((UInt8.toNat 0 : Nat) : Int) = 0)) = false from rfl, cond_false, e]
      simp
    · have h0 : ¬ ((c.toNat : Nat) : Int) = 0 := fun h => hc (UInt8.toNat_inj.1 (by show c.toNat = 0; omega))
      rw [decide_eq_false h0, Bool.not_false, cond_true, bif_a, bif_t (by omega), bif_t (by omega), bys_mid, byte_c, bif_a, bif_t (by omega), bif_t (by omega), i64w (by omega)]
      have e1 : bys acc ++ [AV.int .u8 ((c.toNat : Nat) : Int)] = bys (acc ++ [c]) := by unfold bys; rw [List.map_append]; rfl
      have e2 : ((pre.length : Nat) : Int) + 1 = (((pre ++ [c]).length : Nat) : Int) := by simp
      have e3 : pre ++ c :: suf = (pre ++ [c]) ++ suf := by simp
      rw [e1, e2, e3, get_loop kap suf (pre ++ [c]) (acc ++ [c]) k0 h' (by simp only [List.length_append, List.length_cons, List.length_nil]; omega) (by simp only [List.length_append, List.length_cons, List.length_nil]; omega)]
      rw [List.takeWhile_cons, decide_eq_true hc]
      simp
theorem takeWhile_all (p : UInt8 → Bool) : ∀ s : List UInt8, decide (s.takeWhile p = s) = s.all p
  | [] => rfl
  | c :: l => by
    rw [List.takeWhile_cons, List.all_cons]
    cases h : p c with
    | true => simp only [Bool.true_and, if_true, List.cons.injEq, true_and]; exact takeWhile_all p l
    | false => simp
theorem refClean_k (s : List UInt8) (hs : s.length < 1000000000) (hk : s.length < k) : kp E k (n + 2) ref02_Clean [.str (str s)] = some (.bool (clean s)) := by
  have h := get_loop (k := k) (kp E k n) s [] [] k hk (by simpa using hs) (by simp)
  rw [ref02_Clean_eq, str_bytes, ref02_Get_eq]
  have h' : ref02_Get_L0 (kp E k n) k k (s.map byteAV) (0 : Int) [] = some (.str (str (s.takeWhile fun c => decide (c ≠ 0)))) := by simpa [bys] using h
  rw [h', callS_ok, str_dec, takeWhile_all, clean]

def whichL (key : List UInt8) : Int :=
  if key = [112, 97, 116, 104] then 0 else if key = [108, 105, 110, 107, 112, 97, 116, 104] then 1 else if key = [117, 110, 97, 109, 101] then 2 else if key = [103, 110, 97, 109, 101] then 3 else if key = [117, 105, 100] then 4 else if key = [103, 105, 100] then 5 else if key = [115, 105, 122, 101] then 6 else if key = [109, 116, 105, 109, 101] then 7 else -1
theorem is_path (key : List UInt8) : decide (str key = str [112, 97, 116, 104]) = decide (whichL key = 0) := by
  rw [str_dec, decide_eq_decide]
  constructor
  · rintro rfl; rfl
  · intro h
    unfold whichL at h
    repeat' split at h
    all_goals first | assumption | (exfalso; revert h; decide)
theorem is_linkpath (key : List UInt8) : decide (str key = str [108, 105, 110, 107, 112, 97, 116, 104]) = decide (whichL key = 1) := by
  rw [str_dec, decide_eq_decide]
  constructor
  · rintro rfl; rfl
  · intro h
    unfold whichL at h
    repeat' split at h
    all_goals first | assumption | (exfalso; revert h; decide)
theorem is_uname (key : List UInt8) : decide (str key = str [117, 110, 97, 109, 101]) = decide (whichL key = 2) := by
  rw [str_dec, decide_eq_decide]
  constructor
  · rintro rfl; rfl
  · intro h
    unfold whichL at h
    repeat' split at h
    all_goals first | assumption | (exfalso; revert h; decide)
theorem is_gname (key : List UInt8) : decide (str key = str [103, 110, 97, 109, 101]) = decide (whichL key = 3) := by
  rw [str_dec, decide_eq_decide]
  constructor
  · rintro rfl; rfl
  · intro h
    unfold whichL at h
    repeat' split at h
    all_goals first | assumption | (exfalso; revert h; decide)
theorem is_uid (key : List UInt8) : decide (str key = str [117, 105, 100]) = decide (whichL key = 4) := by
  rw [str_dec, decide_eq_decide]
  constructor
  · rintro rfl; rfl
  · intro h
    unfold whichL at h
    repeat' split at h
    all_goals first | assumption | (exfalso; revert h; decide)
theorem is_gid (key : List UInt8) : decide (str key = str [103, 105, 100]) = decide (whichL key = 5) := by
  rw [str_dec, decide_eq_decide]
  constructor
  · rintro rfl; rfl
  · intro h
    unfold whichL at h
    repeat' split at h
    all_goals first | assumption | (exfalso; revert h; decide)
theorem is_size (key : List UInt8) : decide (str key = str [115, 105, 122, 101]) = decide (whichL key = 6) := by
  rw [str_dec, decide_eq_decide]
  constructor
  · rintro rfl; rfl
  · intro h
    unfold whichL at h
    repeat' split at h
    all_goals first | assumption | (exfalso; revert h; decide)
theorem is_mtime (key : List UInt8) : decide (str key = str [109, 116, 105, 109, 101]) = decide (whichL key = 7) := by
  rw [str_dec, decide_eq_decide]
  constructor
  · rintro rfl; rfl
  · intro h
    unfold whichL at h
    repeat' split at h
    all_goals first | assumption | (exfalso; revert h; decide)
theorem which_lt (key : List UInt8) : -1 ≤ whichL key ∧ whichL key ≤ 7 := by
  unfold whichL
  repeat' split
  all_goals decide
theorem known_k (key : List UInt8) : kp E k (n + 1) pax_Known [.str (str key)] = some (.bool (decide (0 ≤ whichL key))) := by
  have hw := which_lt key
  rw [pax_Known_eq, is_path, is_linkpath, is_uname, is_gname, is_uid, is_gid, is_size, is_mtime]
  generalize whichL key = w at hw
  have : w = -1 ∨ w = 0 ∨ w = 1 ∨ w = 2 ∨ w = 3 ∨ w = 4 ∨ w = 5 ∨ w = 6 ∨ w = 7 := by omega
  rcases this with rfl | rfl | rfl | rfl | rfl | rfl | rfl | rfl | rfl <;> rfl
theorem which_k (key : List UInt8) (hk : 10 < k) : kp E k (n + 2) ref07_Which [.str (str key)] = some (.int .i64 (whichL key)) := by
  obtain ⟨K, rfl⟩ : ∃ K, k = K + 9 := ⟨k - 9, by omega⟩
  rw [ref07_Which_eq, ref07_Keys_eq, callL_ok]
  have hw := which_lt key
  have st : ∀ (j : Nat) (s : List UInt8) (m : Nat), j < 8 → ([(.str (str [112, 97, 116, 104])), (.str (str [108, 105, 110, 107, 112, 97, 116, 104])), (.str (str [117, 110, 97, 109, 101])), (.str (str [103, 110, 97, 109, 101])), (.str (str [117, 105, 100])), (.str (str [103, 105, 100])), (.str (str [115, 105, 122, 101])), (.str (str [109, 116, 105, 109, 101]))] : List AV)[j]? = some (.str (str s)) →
      ref07_Which_L0 (kp E (K + 9) (n + 1)) (K + 9) (m + 1) (str key) [(.str (str [112, 97, 116, 104])), (.str (str [108, 105, 110, 107, 112, 97, 116, 104])), (.str (str [117, 110, 97, 109, 101])), (.str (str [103, 110, 97, 109, 101])), (.str (str [117, 105, 100])), (.str (str [103, 105, 100])), (.str (str [115, 105, 122, 101])), (.str (str [109, 116, 105, 109, 101]))] ((j : Nat) : Int) = bif decide (str key = str s) then some (.int .i64 ((j : Nat) : Int)) else ref07_Which_L0 (kp E (K + 9) (n + 1)) (K + 9) m (str key) [(.str (str [112, 97, 116, 104])), (.str (str [108, 105, 110, 107, 112, 97, 116, 104])), (.str (str [117, 110, 97, 109, 101])), (.str (str [103, 110, 97, 109, 101])), (.str (str [117, 105, 100])), (.str (str [103, 105, 100])), (.str (str [115, 105, 122, 101])), (.str (str [109, 116, 105, 109, 101]))] (((j + 1 : Nat) : Nat) : Int) := by
    intro j s m hj hs
    rw [ref07_Which_L0_s, Int.toNat_natCast, hs, Option.bind_some, i64w (by omega), show ((j : Nat) : Int) + 1 = ((j + 1 : Nat) : Int) by omega]
    rw [bif_t (by simp only [List.length_cons, List.length_nil]; omega), bif_a, bif_t (by omega), bif_t (by simp only [List.length_cons, List.length_nil]; omega)]
    show (bif decide (str s = str key) then _ else _) = _
    rw [show decide (str s = str key) = decide (str key = str s) from decide_eq_decide.2 eq_comm]
  refine (st 0 [112, 97, 116, 104] (K + 8) (by omega) rfl).trans ?_
  rw [is_path]
  rw [st 1 [108, 105, 110, 107, 112, 97, 116, 104] (K + 7) (by omega) rfl, is_linkpath]
  rw [st 2 [117, 110, 97, 109, 101] (K + 6) (by omega) rfl, is_uname]
  rw [st 3 [103, 110, 97, 109, 101] (K + 5) (by omega) rfl, is_gname]
  rw [st 4 [117, 105, 100] (K + 4) (by omega) rfl, is_uid]
  rw [st 5 [103, 105, 100] (K + 3) (by omega) rfl, is_gid]
  rw [st 6 [115, 105, 122, 101] (K + 2) (by omega) rfl, is_size]
  rw [st 7 [109, 116, 105, 109, 101] (K + 1) (by omega) rfl, is_mtime]
  have en : ∀ m (l : List AV), l.length = 8 → ref07_Which_L0 (kp E (K + 9) (n + 1)) (K + 9) (m + 1) (str key) l (((7 + 1 : Nat) : Nat) : Int) = some (.int .i64 (-1)) := by
    intro m l hl
    rw [ref07_Which_L0_s, hl, bif_f (by omega)]
  rw [en _ _ rfl]
  generalize whichL key = w at hw
  have : w = -1 ∨ w = 0 ∨ w = 1 ∨ w = 2 ∨ w = 3 ∨ w = 4 ∨ w = 5 ∨ w = 6 ∨ w = 7 := by omega
  rcases this with rfl | rfl | rfl | rfl | rfl | rfl | rfl | rfl | rfl <;> rfl
def numOk (s : List UInt8) : Bool := natOk s && decide (valA 0 s ≤ 9223372036854775807)
def valR (key s : List UInt8) : Bool :=
  if s = [] then true else if whichL key < 0 then true else if whichL key < 4 then clean s else if whichL key < 7 then numOk s else (timeL s).isSome
theorem value_k [HasTextV E] (key s : List UInt8) (hs : s.length ≤ 1000000) (hk : s.length < k) : kp E k (n + 4) pax_value [.str (str key), .str (str s)] = some (.bool (utfOk s && valR key s)) := by
  have hN : (callT (kp E k (n + 3) dec_Number [(.str (str s))]) fun vt6 => (tupI .i64 vt6 fun vn7 vt8 => (tupI .u8 vt8 fun vn9 vt10 => (atNil vt10 (some (.bool (decide (vn9 = (0 : Int)))))))) : Option AV) = some (.bool (numOk s)) := by
    rw [number_k s (by omega) hk]
    unfold numOk
    cases natOk s && decide (valA 0 s ≤ 9223372036854775807) <;> rfl
  have hT : (callT (kp E k (n + 3) dec_Time [(.str (str s))]) fun vt12 => (tupG 2 vt12 fun vg13 vt14 => (cellI .i64 vg13 0 fun vn15 => (cellI .i64 vg13 1 fun vn16 => (tupI .u8 vt14 fun vn17 vt18 => (atNil vt18 (some (.bool (decide (vn17 = (0 : Int)))))))))) : Option AV) = some (.bool (timeL s).isSome) := by
    rw [time_k s (by omega) hk]
    cases timeL s <;> rfl
  have hC : (callB (kp E k (n + 3) pax_clean [(.str (str s))]) fun vq4 => (some (.bool vq4)) : Option AV) = some (.bool (clean s)) := by rw [paxClean_k, callB_ok]
  rw [pax_value_eq, utf_k s hk, callB_ok, is_path, is_linkpath, is_uname, is_gname, is_uid, is_gid, is_size, is_mtime]
  simp only [hN, hT, hC]
  unfold valR
  have hw := which_lt key
  generalize whichL key = w at hw
  cases utfOk s with
  | false => rfl
  | true =>
    rw [Bool.not_true, cond_false, Bool.true_and, show (str [] : ByteArray) = str [] from rfl, str_dec]
    by_cases h0 : s = []
    · rw [decide_eq_true h0, if_pos h0]; rfl
    · rw [decide_eq_false h0, if_neg h0, cond_false]
      have : w = -1 ∨ w = 0 ∨ w = 1 ∨ w = 2 ∨ w = 3 ∨ w = 4 ∨ w = 5 ∨ w = 6 ∨ w = 7 := by omega
      rcases this with rfl | rfl | rfl | rfl | rfl | rfl | rfl | rfl | rfl <;> rfl
def pairOk (p : Pair) : Bool := decide (p.key ≠ []) && (utfOk p.key && (noEq p.key && (utfOk p.val && valR p.key p.val)))
theorem paxRight_k [HasTextV E] (p : Pair) (h1 : p.key.length ≤ 1000000) (h2 : p.val.length ≤ 1000000) (hk : 1000000 < k) : kp E k (n + 5) pax_Right [.agg [.str (str p.key), .str (str p.val)]] = some (.bool (pairOk p)) := by
  rw [pax_Right_eq, utf_k p.key (by omega), contains_k p.key h1, value_k p.key p.val h2 (by omega), str_dec]
  simp only [callB_ok]
  unfold pairOk
  by_cases h : p.key = []
  · rw [decide_eq_true h]
    simp [h]
  · rw [decide_eq_false h, decide_eq_true h]
    cases utfOk p.key <;> cases noEq p.key <;> cases utfOk p.val <;> rfl
theorem eq_loop (kap : FuncId → List AV → Option AV) (val : ByteArray) (R : Option AV) (suf : List UInt8) : ∀ (pre : List UInt8) (k0 : Nat), suf.length < k0 → (pre ++ suf).length < 1000000000 →
    (∀ m, ref07_Right_L0 kap k (m + 1) (((pre ++ suf).length : Nat) : Int) (str (pre ++ suf)) val = R) →
    ref07_Right_L0 kap k k0 ((pre.length : Nat) : Int) (str (pre ++ suf)) val = bif suf.all (fun c => decide (c ≠ 61)) then R else some (.bool false) := by
  induction suf with
  | nil =>
    intro pre k0 h hb hR
    obtain ⟨m, rfl⟩ : ∃ m, k0 = m + 1 := ⟨k0 - 1, by simp only [List.length_nil] at h; omega⟩
    have := hR m
    rw [List.append_nil] at this ⊢
    rw [this]; rfl
  | cons c suf ih =>
    intro pre k0 h hb hR
    obtain ⟨m, rfl⟩ : ∃ m, k0 = m + 1 := ⟨k0 - 1, by simp only [List.length_cons] at h; omega⟩
    have h' : suf.length < m := by simp only [List.length_cons] at h; omega
    have hb' : pre.length + (suf.length + 1) < 1000000000 := by simp only [List.length_append, List.length_cons] at hb; exact hb
    rw [ref07_Right_L0_s, str_size, mid_len, bif_t (by omega), bif_a, bif_t (by omega), bif_t (by omega), Int.toNat_natCast, str_byte, mid_byte]
    rw [show decide (((c.toNat : Nat) : Int) = 61) = decide (c = 61) from byte_is c 61 (by omega), List.all_cons]
    by_cases hc : c = 61
    · rw [decide_eq_true hc, hc]; rfl
    · rw [decide_eq_false hc, cond_false, decide_eq_true hc, Bool.true_and, i64w (by omega)]
      have e2 : ((pre.length : Nat) : Int) + 1 = (((pre ++ [c]).length : Nat) : Int) := by simp
      have e3 : pre ++ c :: suf = (pre ++ [c]) ++ suf := by simp
      rw [e2, e3]
      rw [e3] at hR
      exact ih (pre ++ [c]) m h' (by simp only [List.length_append, List.length_cons, List.length_nil]; omega) hR
theorem noEq_split (s : List UInt8) : noEq s = (clean s && s.all fun c => decide (c ≠ 61)) := by
  unfold noEq clean
  induction s with
  | nil => rfl
  | cons c l ih =>
    simp only [List.all_cons, ih]
    cases decide (c ≠ 61) <;> cases decide (c ≠ 0) <;> simp
theorem refPair_k (p : Pair) (h1 : p.key.length ≤ 1000000) (h2 : p.val.length ≤ 1000000) (hk : 2000000 < k) : kp E k (n + 4) ref07_Right [.agg [.str (str p.key), .str (str p.val)]] = some (.bool (pairOk p)) := by
  have hend : ∀ m, ref07_Right_L0 (kp E k (n + 3)) k (m + 1) (((([] : List UInt8) ++ p.key).length : Nat) : Int) (str ([] ++ p.key)) (str p.val) = some (.bool (valR p.key p.val)) := by
    intro m
    rw [List.nil_append, ref07_Right_L0_s, str_size, bif_f (by omega), which_k p.key (by omega), callI_ok, refClean_k p.val (by omega) (by omega), callB_ok, refNumber_k p.val (by omega) (by omega), refTime_k p.val (by omega) (by omega) (by omega), str_dec]
    unfold valR numOk
    have hw := which_lt p.key
    generalize whichL p.key = w at hw
    by_cases h0 : p.val = []
    · rw [decide_eq_true h0, if_pos h0]; rfl
    · rw [decide_eq_false h0, if_neg h0, cond_false]
      by_cases a1 : w < 0
      · rw [decide_eq_true a1, if_pos a1]; rfl
      rw [decide_eq_false a1, if_neg a1, cond_false]
      by_cases a2 : w < 4
      · rw [decide_eq_true a2, if_pos a2]; rfl
      rw [decide_eq_false a2, if_neg a2, cond_false]
      by_cases a3 : w < 7
      · rw [decide_eq_true a3, if_pos a3, cond_true]
        cases natOk p.val && decide (valA 0 p.val ≤ 9223372036854775807) <;> rfl
      rw [decide_eq_false a3, if_neg a3, cond_false]
      cases timeL p.val <;> rfl
  have hl := eq_loop (k := k) (kp E k (n + 3)) (str p.val) _ p.key [] k (by omega) (by simp; omega) hend
  simp only [List.nil_append, List.length_nil] at hl
  rw [ref07_Right_eq, refFirst_k p.key (by omega) (by omega), callI_ok, refFirst_k p.val (by omega) (by omega), callI_ok, refClean_k p.key (by omega) (by omega), callB_ok, str_dec]
  rw [show ((0 : Nat) : Int) = 0 from rfl] at hl
  rw [hl]
  unfold pairOk
  rw [noEq_split]
  have g1 : decide (first (str p.key) ≥ 0) = !utfOk p.key := by unfold utfOk; rw [← decide_not, decide_eq_decide]; omega
  have g2 : decide (first (str p.val) ≥ 0) = !utfOk p.val := by unfold utfOk; rw [← decide_not, decide_eq_decide]; omega
  rw [g1, g2]
  by_cases h : p.key = []
  · rw [decide_eq_true h]
    simp [h]
  · rw [decide_eq_false h, decide_eq_true h]
    cases utfOk p.key <;> cases utfOk p.val <;> cases clean p.key <;> cases (p.key.all fun c => decide (c ≠ 61)) <;> rfl
end Go.Proofs.YtilbahgfjfcikaaGreatDoor.Eng.U


/- pax.Print's drawn region, by the engine: the line that is written. -/
set_option linter.unusedVariables false
set_option linter.unusedSectionVars false
set_option linter.unusedSimpArgs false
namespace Go.Proofs.YtilbahgfjfcikaaGreatDoor.Eng.U
open Go Go.RowKit Go.Proofs Go.Proofs.YtilbahgfjfcikaaGreatDoor.Eng

noncomputable def os7A : Array Oper := match sel (Tryz.f19.body.getD .skip) [1, 1, 0, 1, 0, 0, 1, 1, 0, 0, 1, 1] with | .region _ os _ => os | _ => #[]
noncomputable def strOf (fr : Fr) : Option ByteArray := match fr.get 27 with | .str s => some s | _ => none
theorem ahead7 (kap : FuncId → List AV → Option AV) (k : Nat) (x y : ByteArray) : aheadK ((bs E0 k).cfg kap pax_Print) os7A.toList 12 (mkFr 31 [(6, .eptr [.str x, .str y] 0)] []) strOf =
  (callI .i64 (kap pax_Len [(.agg [(.str x), (.str y)])]) fun vn2 => (callS (kap strconv_Itoa [(.int .i64 vn2)]) fun vs4 => (bif (decide ((ByteArray.size vs4) + 1 ≤ 9223372036854775807)) then (bif (decide ((ByteArray.size (vs4 ++ (str [32]))) + (ByteArray.size x) ≤ 9223372036854775807)) then (bif (decide ((ByteArray.size ((vs4 ++ (str [32])) ++ x)) + 1 ≤ 9223372036854775807)) then (bif (decide ((ByteArray.size (((vs4 ++ (str [32])) ++ x) ++ (str [61]))) + (ByteArray.size y) ≤ 9223372036854775807)) then (bif (decide ((ByteArray.size ((((vs4 ++ (str [32])) ++ x) ++ (str [61])) ++ y)) + 1 ≤ 9223372036854775807)) then (some (((((vs4 ++ (str [32])) ++ x) ++ (str [61])) ++ y) ++ (str [10]))) else none) else none) else none) else none) else none))) := by kernel_rfl
end Go.Proofs.YtilbahgfjfcikaaGreatDoor.Eng.U


/- Given functions in pieces: each with what it answers, and that it does. -/
set_option linter.unusedVariables false
set_option linter.unusedSectionVars false
set_option linter.unusedSimpArgs false
namespace Go.Proofs.YtilbahgfjfcikaaGreatDoor.Eng.U
open Go Go.Proofs Go.Proofs.YtilbahgfjfcikaaGreatDoor.Eng Go.RowKit

structure Piece where
  f : FuncId
  ans : List AV → Option AV
def extOf (ps : List Piece) : Ext := { fs := coreFs, isBase := fun f => ps.any fun p => p.f == f, base := fun f args => (ps.find? fun p => p.f == f).bind fun p => p.ans args }
def Piece.Right (p : Piece) : Prop := Enters Tryz.prog p.f ∧ ∀ args res, p.ans args = some res → Ok Tryz.prog glob p.f args res
theorem core_of {ps : List Piece} (h : coreFs.all (fun f => !ps.any fun p => p.f == f) = true) : Core (extOf ps) where
  isB f hf := by
    have := List.all_eq_true.1 h f (List.contains_iff_mem.1 hf)
    simpa [extOf] using this
  has f hf := hf
theorem good_of {ps : List Piece} (h : ∀ p ∈ ps, p.Right) (hn : coreFs.all (namedOk Tryz.prog) = true) (k : Nat) : (bs (extOf ps) k).Good where
  mixed := by kernel_rfl
  names := hn
  base f args res hb hr := by
    change ((ps.find? fun p => p.f == f).bind fun p => p.ans args) = some res at hr
    obtain ⟨p, hp, ha⟩ := Option.bind_eq_some_iff.1 hr
    have hm := List.mem_of_find?_eq_some hp
    have hf : (p.f == f) = true := List.find?_some (p := fun q : Piece => q.f == f) hp
    have hf : p.f = f := by simpa using hf
    obtain ⟨h1, h2⟩ := h p hm
    rw [hf] at h1 h2
    exact ⟨h1, h2 args res ha⟩
theorem names_ok : coreFs.all (namedOk Tryz.prog) = true := by kernel_rfl
theorem kp_piece {ps : List Piece} {p : Piece} {k n : Nat} {args : List AV} (hp : ps.find? (fun q => q.f == p.f) = some p) : kp (extOf ps) k n p.f args = p.ans args := by
  rw [kp_base (by
    show (ps.any fun q => q.f == p.f) = true
    have := List.find?_some (p := fun q : Piece => q.f == p.f) hp
    exact List.any_eq_true.2 ⟨p, List.mem_of_find?_eq_some hp, this⟩)]
  show ((ps.find? fun q => q.f == p.f).bind fun q => q.ans args) = _
  rw [hp]
  rfl
theorem VL_1 {S : Stab} {x : AV} {vals : List Value} (h : VL S [x] vals) : ∃ v, vals = [v] ∧ V S x v := by
  obtain ⟨h1, h2⟩ := h
  match vals, h1 with
  | [v], _ => exact ⟨v, rfl, h2 0 _ _ rfl rfl⟩
theorem VL_2 {S : Stab} {x y : AV} {vals : List Value} (h : VL S [x, y] vals) : ∃ v u, vals = [v, u] ∧ V S x v ∧ V S y u := by
  obtain ⟨h1, h2⟩ := h
  match vals, h1 with
  | [v, u], _ => exact ⟨v, u, rfl, h2 0 _ _ rfl rfl, h2 1 _ _ rfl rfl⟩
theorem VL_3 {S : Stab} {x y z : AV} {vals : List Value} (h : VL S [x, y, z] vals) : ∃ v u t, vals = [v, u, t] ∧ V S x v ∧ V S y u ∧ V S z t := by
  obtain ⟨h1, h2⟩ := h
  match vals, h1 with
  | [v, u, t], _ => exact ⟨v, u, t, rfl, h2 0 _ _ rfl rfl, h2 1 _ _ rfl rfl, h2 2 _ _ rfl rfl⟩
theorem V_str {S : Stab} {s : ByteArray} {v : Value} (h : V S (.str s) v) : v = .string s := by cases h; rfl
theorem V_int {S : Stab} {k : IntKind} {n : Int} {v : Value} (h : V S (.int k n) v) : v = .int k n := by cases h; rfl
theorem agree_below {S : Stab} {w w' : World} (h : Agree S w) (hb : Below w.heap.size w w') : Agree S w' := fun x v hx =>
  (World.cell?_of_block (hb.block _ (World.block_lt_of_cell? w x (h x v hx)))).trans (h x v hx)
/-- A result that is pure, and nothing that lay has turned. -/
theorem ok_pure {f : FuncId} {args : List AV} {res : AV} (hres : res.isTup = false ∧ res.isFresh = false) (h : ∀ (S : Stab) (w : World) (vals : List Value), Agree S w → GlobOk glob S w → VL S args vals → Calls Tryz.prog f vals.toArray w fun e w' => ∃ v, e = .returned v ∧ (∀ S', V S' res v) ∧ Below w.heap.size w w') (hr : (args.all fun c => !c.isRes) = true := by rfl) : Ok Tryz.prog glob f args res := by
  refine Ok.of_plain (fun c hc => by simpa using List.all_eq_true.1 hr c hc) fun S w vals hag hG hV => ?_
  refine (h S w vals hag hG hV).mono ?_
  rintro e w' ⟨v, rfl, hv, hb⟩
  refine ⟨v, S, rfl, fun _ _ h => h, agree_below hag hb, fun _ _ h => .inl h, hb, ?_⟩
  have := hv S
  cases res <;> first | (cases hres.1; done) | (cases hres.2; done) | exact this
/-- A new row, frozen as it comes. -/
theorem row_V {S : Stab} {B : Nat} {w : World} {e : TypeId} {sz : Nat} {v : Value} {us : List Value} {xs : List AV} (hag : Agree S w) (hown : w.ownsRow B e sz v xs.length us) (hone : ∀ (i : Nat) (x : AV), xs[i]? = some x → x.cells.length = sz ∧ ∀ (j : Nat) (c : AV), x.cells[j]? = some c → c.leaf = true ∧ ∀ u, us[i * sz + j]? = some u → V S c u) :
    ∃ S', S.le S' ∧ Agree S' w ∧ (∀ x u, S' x = some u → S x = some u ∨ B ≤ x.block) ∧ V S' (.list sz xs) v := by
  have hul : us.length = xs.length * sz := hown.1
  rcases ownsRow_form hown with ⟨rfl, hn⟩ | ⟨g, cap, rfl, hb⟩
  · have hx : xs = [] := List.eq_nil_of_length_eq_zero hn
    subst hx
    exact ⟨S, fun _ _ h => h, hag, fun _ _ h => .inl h, .listn _⟩
  · let S' : Stab := fun x => if x.block = g ∧ x.spot = none ∧ x.off < xs.length * sz then w.cell? x else S x
    have hle : S.le S' := by
      intro x v hx
      show (if _ then _ else _) = _
      split
      · exact hag x v hx
      · exact hx
    have hS'g : ∀ k u, us[k]? = some u → S' ⟨g, k, none⟩ = some u := by
      intro k u hu
      have hk : k < xs.length * sz := by rw [← hul]; exact (List.getElem?_eq_some_iff.1 hu).1
      show (if _ then _ else _) = _
      rw [if_pos ⟨rfl, rfl, hk⟩]
      exact cell_of_us hown rfl hu
    refine ⟨S', hle, fun x v hx => ?_, fun x u hx => ?_, ?_⟩
    · have hx : (if x.block = g ∧ x.spot = none ∧ x.off < xs.length * sz then w.cell? x else S x) = some v := hx
      split at hx
      · exact hx
      · exact hag x v hx
    · have hx : (if x.block = g ∧ x.spot = none ∧ x.off < xs.length * sz then w.cell? x else S x) = some u := hx
      split at hx
      · rename_i hh; exact .inr (by rw [hh.1]; exact hb)
      · exact .inl hx
    · have hcle : xs.length ≤ cap := by
        rcases hown.2 with ⟨hv2, _⟩ | ⟨g2, cap2, cur2, hv2, _, _, hnc, _⟩
        · cases hv2
        · cases hv2; exact hnc
      have hval : ∀ (i : Nat) (x : AV) (j : Nat) (c : AV), xs[i]? = some x → x.cells[j]? = some c → us[i * sz + j]? = some (us.getD (i * sz + j) undef) := by
        intro i x j c hx hj
        have hi : i < xs.length := (List.getElem?_eq_some_iff.1 hx).1
        have hj' : j < sz := by rw [← (hone i x hx).1]; exact (List.getElem?_eq_some_iff.1 hj).1
        have hlt : i * sz + j < us.length := by rw [hul]; exact flat_lt hi hj'
        rw [List.getD_eq_getElem?_getD, List.getElem?_eq_getElem hlt]; rfl
      exact .list _ _ _ _ (fun i j => us.getD (i * sz + j) undef) hcle (fun i x hx => (hone i x hx).1) (fun i x j c hx hj => ((hone i x hx).2 j c hj).1)
        (fun i x j c hx hj => by rw [add_lit', Nat.zero_add]; exact hS'g _ _ (hval i x j c hx hj))
        (fun i x j c hx hj => (((hone i x hx).2 j c hj).2 _ (hval i x j c hx hj)).mono hle)
end Go.Proofs.YtilbahgfjfcikaaGreatDoor.Eng.U


/- pax.Print's drawn region: whatever order is drawn, the line of the pair is written. -/
set_option linter.unusedVariables false
set_option linter.unusedSectionVars false
set_option linter.unusedSimpArgs false
namespace Go.Proofs.YtilbahgfjfcikaaGreatDoor.Eng.U
open Go Go.RowKit Go.Proofs Go.Proofs.YtilbahgfjfcikaaGreatDoor.Eng Go.Proofs.YtilbahgfjfcikaaGreatDoor.Eng.Rdv

theorem eptr_two {w : World} {b : Nat} {x y : ByteArray} (h0 : w.cell? ⟨b, 0, none⟩ = some (.string x)) (h1 : w.cell? ⟨b, 1, none⟩ = some (.string y)) : V (stab w) (.eptr [.str x, .str y] 0) (.pointer (some ⟨b, 0, none⟩)) := by
  have e : ∀ j, (⟨b, 0, none⟩ : Addr).add j = ⟨b, j, none⟩ := fun j => by rw [add_lit', Nat.zero_add]
  have := V.eptr (S := stab w) [.str x, .str y] 0 ⟨b, 0, none⟩ (fun j => if j = 0 then .string x else .string y) (fun j c h => by
    match j, h with
    | 0, h => cases h; rfl
    | 1, h => cases h; rfl) (fun j c h => by
    rw [e]
    match j, h with
    | 0, h => exact h0
    | 1, h => exact h1) (fun j c h => by
    match j, h with
    | 0, h => cases h; exact V.str _
    | 1, h => cases h; exact V.str _)
  rwa [e] at this
theorem rel_one {P : Program} {w : World} {a : Act} {N t : Nat} {c : AV} (hsz : a.tmps.size = N) (hdf : a.defers = []) (ht : t < N) (h : V (stab w) c (a.tmps.getD t undef)) (hp : ∀ S gv ob v, V S c v → SV P S gv ob c v) :
    Rel P (stab w) { w := w, x := [], held := fun _ => none } (stab w) (fun _ => undef) (mkFr N [(t, c)] []) a w where
  below := BelX.refl _
  agree := agree_stab w
  ext := fun _ _ h => h
  fresh := fun x v h => .inl h
  held := fun r v h => by cases h
  len := by simp [mkFr, fillS, hsz]
  obl := by simp [mkFr, fillS, fillO]
  defers := hdf
  slot := fun s hs => by
    have hs : s < N := by simpa [mkFr, fillS] using hs
    by_cases e : s = t
    · subst e
      have : (mkFr N [(s, c)] []).get s = c := by
        simp only [mkFr, fillS, Fr.get, List.getD_eq_getElem?_getD]
        rw [List.getElem?_set_self (by rw [List.length_replicate]; exact ht)]; rfl
      rw [this]
      exact hp _ _ _ _ h
    · have : (mkFr N [(t, c)] []).get s = .junk := by
        simp only [mkFr, fillS, Fr.get, List.getD_eq_getElem?_getD]
        rw [List.getElem?_set_ne (fun h => e h.symm)]
        simp [hs]
      rw [this]; trivial
  objs := fun r o h => by
    have : (mkFr N [(t, c)] []).obj r = none := by simp [mkFr, fillO, Fr.obj, List.getD_eq_getElem?_getD, List.getElem?_replicate]; split <;> rfl
    rw [this] at h; cases h
  dis := fun r r' o o' g h => by
    have : (mkFr N [(t, c)] []).obj r = none := by simp [mkFr, fillO, Fr.obj, List.getD_eq_getElem?_getD, List.getElem?_replicate]; split <;> rfl
    rw [this] at h; cases h
def lineOf (s : ByteArray) (key val : List UInt8) : ByteArray := ((((s ++ (str [32])) ++ str key) ++ (str [61])) ++ str val) ++ (str [10])
theorem arr31 {a : Array Value} (h : a.size = 31) : a = #[a.getD 0 undef, a.getD 1 undef, a.getD 2 undef, a.getD 3 undef, a.getD 4 undef, a.getD 5 undef, a.getD 6 undef, a.getD 7 undef, a.getD 8 undef, a.getD 9 undef, a.getD 10 undef, a.getD 11 undef, a.getD 12 undef, a.getD 13 undef, a.getD 14 undef, a.getD 15 undef, a.getD 16 undef, a.getD 17 undef, a.getD 18 undef, a.getD 19 undef, a.getD 20 undef, a.getD 21 undef, a.getD 22 undef, a.getD 23 undef, a.getD 24 undef, a.getD 25 undef, a.getD 26 undef, a.getD 27 undef, a.getD 28 undef, a.getD 29 undef, a.getD 30 undef] := by
  obtain ⟨l⟩ := a
  match l, h with
  | [x0, x1, x2, x3, x4, x5, x6, x7, x8, x9, x10, x11, x12, x13, x14, x15, x16, x17, x18, x19, x20, x21, x22, x23, x24, x25, x26, x27, x28, x29, x30], _ => rfl
theorem reg7 {E : Ext} [Core E] {k n : Nat} (hB : (bs E k).Good) (key val : List UInt8) (m : Int) (s : ByteArray)
    (hLen : kp E k n pax_Len [.agg [.str (str key), .str (str val)]] = some (.int .i64 m)) (hIt : kp E k n strconv_Itoa [.int .i64 m] = some (.str s))
    (hs : s.size ≤ 1000) (hk : key.length ≤ 1000000) (hv : val.length ≤ 1000000)
    {a : Act} {w : World} {bt : Nat} (h6 : a.tmps.getD 6 undef = .pointer (some ⟨bt, 0, none⟩)) (hc0 : w.cell? ⟨bt, 0, none⟩ = some (.string (str key))) (hc1 : w.cell? ⟨bt, 1, none⟩ = some (.string (str val)))
    (hsz : a.tmps.size = 31) (hdf : a.defers = []) (hG : GlobOk glob (stab w) w) {Q : Exit → Act → World → Prop} {o : Oper} (ho : os7A[12]? = some o) (hwant : ∀ a' : Act, Region.wanted o (yielded os7A a'.tmps) = true)
    {os : Array Oper} (hos : os = os7A) (hQ : ∀ a' w', HeldT (os7A.toList.filterMap (·.dst)) a a' → a'.tmps.size = 31 → a'.defers = [] → a'.tmps.getD 27 undef = .string (lineOf s key val) → Below w.heap.size w w' → o.wp Tryz.prog a' w' (fun a2 w2 => Q .normal a2 w2) Q) : (Code.region 7 os true).wp Tryz.prog Q a w := by
  subst hos
  have hr : Rel Tryz.prog (stab w) { w := w, x := [], held := fun _ => none } (stab w) (fun _ => undef) (mkFr 31 [(6, .eptr [.str (str key), .str (str val)] 0)] []) a w :=
    rel_one hsz hdf (by omega) (by rw [h6]; exact eptr_two hc0 hc1) (fun _ _ _ _ h => h)
  have hS : Sound ((bs E k).cfg (kp E k n) pax_Print) := fun f args res h => Base.sound hB n pax_Print f args res h
  have hC : Ctx ((bs E k).cfg (kp E k n) pax_Print) (stab w) { w := w, x := [], held := fun _ => none } := ⟨⟨hG, fun _ _ _ => by simp⟩, fun _ _ => rfl⟩
  have hke : aheadK ((bs E k).cfg (kp E k n) pax_Print) os7A.toList 12 (mkFr 31 [(6, .eptr [.str (str key), .str (str val)] 0)] []) strOf = some (lineOf s key val) := by
    have := ahead7 (kp E k n) k (str key) (str val)
    rw [hLen, callI_ok, hIt, callS_ok, bif_t (by omega), bif_t (by rw [ByteArray.size_append, str_size, str_size]; simp only [List.length_cons, List.length_nil]; omega), bif_t (by rw [ByteArray.size_append, ByteArray.size_append, str_size, str_size]; simp only [List.length_cons, List.length_nil]; omega),
      bif_t (by rw [ByteArray.size_append, ByteArray.size_append, ByteArray.size_append, str_size, str_size, str_size, str_size]; simp only [List.length_cons, List.length_nil]; omega),
      bif_t (by rw [ByteArray.size_append, ByteArray.size_append, ByteArray.size_append, ByteArray.size_append, str_size, str_size, str_size, str_size]; simp only [List.length_cons, List.length_nil]; omega)] at this
    exact this
  refine draw_last (C := (bs E k).cfg (kp E k n) pax_Print) hB.mixed hS hC (show os7A.size = 12 + 1 by kernel_rfl) ho hr hke hwant fun fr1 S' gv' a' w' hf hj hR => ?_
  refine hQ a' w' hj (hj.1.trans hsz) hR.defers ?_ ?_
  · have h27 : fr1.get 27 = .str (lineOf s key val) := by
      unfold strOf at hf
      cases hx : fr1.get 27 with
      | str t => rw [hx] at hf; simp only [Option.some.injEq] at hf; rw [hf]
      | _ => rw [hx] at hf; cases hf
    have hlen : 27 < fr1.sl.length := by have := hR.len; have := hj.1; omega
    have := hR.slot 27 hlen
    rw [h27] at this
    exact V_str this
  · exact ⟨hR.below.os, hR.below.tape, hR.below.output, hR.below.size, fun j hj => hR.below.block j hj (by simp)⟩
end Go.Proofs.YtilbahgfjfcikaaGreatDoor.Eng.U


/- pax.Print, walked. (under way) -/
set_option linter.unusedVariables false
set_option linter.unusedSectionVars false
set_option linter.unusedSimpArgs false
namespace Go.Proofs.YtilbahgfjfcikaaGreatDoor.Eng.U
open Go Go.RowKit Go.Proofs Go.Shelf Go.Proofs.YtilbahgfjfcikaaGreatDoor.Eng Go.Proofs.YtilbahgfjfcikaaGreatDoor.Eng.Rdv

/-- The lines of pairs. -/
def linesOf (txt : Pair → ByteArray) (l : List Pair) : List UInt8 := l.flatMap fun p => (lineOf (txt p) p.key p.val).data.toList
theorem glob_below {w w1 : World} (h : GlobOk glob (stab w) w) (hb : Below w.heap.size w w1) : GlobOk glob (stab w1) w1 := fun g cs hg => by
  obtain ⟨h1, arr, t, f, h2, h3⟩ := h g cs hg
  refine ⟨h1.mono (agree_below (agree_stab w) hb), arr, t, f, ?_, h3⟩
  rw [hb.block g (Array.getElem?_eq_some_iff.1 h2).1]
  exact h2
theorem dst7 : os7A.toList.filterMap (·.dst) = [16, 17, 18, 19, 20, 21, 22, 23, 24, 25, 26, 27, 28] := by kernel_rfl
noncomputable def op12 : Oper := os7A[12]?.getD default
/-- The write at the end of the region. -/
theorem write7 {a' : Act} {w2 : World} {K : Act → World → Prop} {Q : Exit → Act → World → Prop} {B : Nat} {bs : List Value} {s : ByteArray} (h4 : a'.tmps.getD 4 undef = .pointer (some ⟨B, 0, none⟩)) (h27 : a'.tmps.getD 27 undef = .string s)
    (hI : Lib.IsBuffer 77 5 B B bs w2) (hB : B ≤ w2.heap.size) (h1 : ∀ v ∈ bs, v.oneCell' = true) (hlim : bs.length + s.size ≤ 140737488355328)
    (hK : ∀ v w3, Lib.IsBuffer 77 5 B B (bs ++ Lib.byteCells s.data.toList) w3 → Below B w2 w3 → K (a'.put (some 28) v) w3) : op12.wp Tryz.prog a' w2 K Q := by
  unfold Oper.wp
  rw [run_enter (o := op12) (fo := .func 53) (args := #[.tmp 4, .tmp 27]) (ats := #[77, 9]) (cv := []) (fn := Tryz.f53) Tryz.func53 (by kernel_rfl) (by kernel_rfl) (by kernel_rfl) rfl, Oper.upon_enter]
  have e : (((#[Operand.tmp 4, Operand.tmp 27] : Array Operand).toList.map a'.eval ++ []).toArray : Array Value) = #[.pointer (some ⟨B, 0, none⟩), .string s] := by
    rw [← h4, ← h27]; rfl
  rw [e]
  refine (Tryz.Buffer_WriteString_k B B bs s w2 hI hB h1 hlim).mono ?_
  rintro e w3 ⟨rfl, k1, k2, _⟩
  exact hK _ _ k1 k2
theorem size_toList (s : ByteArray) : s.data.toList.length = s.size := Array.length_toList
theorem lines_app (txt : Pair → ByteArray) (l : List Pair) (p : Pair) : linesOf txt (l ++ [p]) = linesOf txt l ++ (lineOf (txt p) p.key p.val).data.toList := by simp [linesOf]
theorem one_bytes (l : List UInt8) : ∀ v ∈ Lib.byteCells l, v.oneCell' = true := by
  intro v hv
  obtain ⟨b, _, rfl⟩ := List.mem_map.1 hv
  rfl
theorem right_calls {E : Ext} [Core E] {k n : Nat} (hB : (bs E k).Good) (p : Pair) (h : kp E k n pax_Right [.agg [.str (str p.key), .str (str p.val)]] = some (.bool (pairOk p))) {w : World} (hG : GlobOk glob (stab w) w) :
    Calls Tryz.prog 26 #[.agg #[.string (str p.key), .string (str p.val)]] w fun e w' => e = .returned (.bool (pairOk p)) ∧ Below w.heap.size w w' := by
  have hok := Base.ok (B := bs E k) hB (n := n) h
  refine (hok.plain (stab w) w [.agg #[.string (str p.key), .string (str p.val)]] (agree_stab w) hG ⟨rfl, fun j c x hc hx => by
    match j, hc, hx with
    | 0, hc, hx =>
      cases hc; cases hx
      exact V.agg _ [.string (str p.key), .string (str p.val)] rfl (fun j c h => by
        match j, h with
        | 0, h => cases h; rfl
        | 1, h => cases h; rfl) (fun j c u h hu => by
        match j, h, hu with
        | 0, h, hu => cases h; cases hu; exact V.str _
        | 1, h, hu => cases h; cases hu; exact V.str _)⟩).mono fun e w' ⟨v, S', he, _, _, _, bel, hv⟩ => ?_
  obtain rfl : v = .bool (pairOk p) := by cases (show V S' (.bool (pairOk p)) v from hv); rfl
  exact ⟨he, bel⟩
set_option maxHeartbeats 4000000 in
set_option maxRecDepth 1000000 in
theorem print_walk {E : Ext} [Core E] {k n : Nat} (hB : (bs E k).Good) (txt : Pair → ByteArray) (len : Pair → Int) (l : List Pair) (ao : Option Addr) (cap : Nat) (w : World) (hl : l.length ≤ 1000000) (hG : GlobOk glob (stab w) w)
    (hb : ∀ p ∈ l, p.key.length ≤ 1000000 ∧ p.val.length ≤ 1000000 ∧ (txt p).size ≤ 1000) (htot : ∀ i, (linesOf txt (l.take i)).length ≤ 100000000000)
    (hLen : ∀ p ∈ l, kp E k n pax_Len [.agg [.str (str p.key), .str (str p.val)]] = some (.int .i64 (len p))) (hIt : ∀ p ∈ l, kp E k n strconv_Itoa [.int .i64 (len p)] = some (.str (txt p)))
    (hR : ∀ p ∈ l, kp E k n pax_Right [.agg [.str (str p.key), .str (str p.val)]] = some (.bool (pairOk p)))
    (hc : ∀ (i : Nat) (p : Pair), l[i]? = some p → ∃ a : Addr, ao = some a ∧ w.cell? (a.add (i * 2)) = some (.string (str p.key)) ∧ w.cell? (a.add (i * 2 + 1)) = some (.string (str p.val))) :
    Calls Tryz.prog 19 #[.slice ao l.length cap] w fun e w' => Below w.heap.size w w' ∧
      ((l.all pairOk = true ∧ ∃ r, e = .returned (.tuple #[r, .int .u8 0]) ∧ w'.ownsRow w.heap.size 5 1 r (linesOf txt l).length (Lib.byteCells (linesOf txt l))) ∨ (l.all pairOk = false ∧ e = .returned (.tuple #[.slice none 0 0, .int .u8 15]))) := by
  go_enter Tryz.func19, Tryz.ntmps19
  go_wp2
  go_loopw [9] (fun s9 wr => ∃ i : Nat, s9 = .int .i64 (i : Int) ∧ i ≤ l.length ∧ Lib.IsBuffer 77 5 w.heap.size w.heap.size (Lib.byteCells (linesOf txt (l.take i))) wr ∧ Below w.heap.size w wr ∧ (l.take i).all pairOk = true) (fun s9 wr => l.length - (intOf s9).toNat)
  case atStart =>
    exact ⟨0, rfl, by omega, Lib.fresh_isBuffer 77 5 w, (Below.refl _ w).alloc (Nat.le_refl _) _, rfl⟩
  case round =>
    obtain ⟨i, rfl, hi, hI, hbw, hall⟩ := hrel
    by_cases hlt : i < l.length
    · obtain ⟨p, hp⟩ : ∃ p, l[i]? = some p := ⟨l[i], List.getElem?_eq_getElem hlt⟩
      have hmem := List.mem_of_getElem? hp
      obtain ⟨a, rfl, hc0, hc1⟩ := hc i p hp
      obtain ⟨q1, q2, q3⟩ := hb p hmem
      have g0 : wr.cell? (a.add (i * 2)) = some (.string (str p.key)) := agree_below (agree_stab w) hbw _ _ hc0
      have g1 : wr.cell? { block := (a.add (i * 2)).block, off := (a.add (i * 2)).off + 1 } = some (.string (str p.val)) := by
        have h := agree_below (agree_stab w) hbw _ _ hc1
        rw [← Addr.add_add] at h
        exact h
      have hsz : w.heap.size ≤ wr.heap.size := hbw.size
      have hbw1 := hbw.alloc (show w.heap.size ≤ wr.heap.size by omega) (.cells #[.string (str p.key), .string (str p.val)] 42)
      go_wp2_with (go_at_call 26; refine (right_calls hB p (hR p hmem) (glob_below hG hbw1)).mono ?_)
      rintro e w1 ⟨rfl, b1⟩
      have hbw2 := hbw1.trans (b1.mono (show w.heap.size ≤ _ by rw [World.size_alloc]; omega))
      have hI1 := (hI.alloc (.cells #[.string (str p.key), .string (str p.val)] 42)).old b1
      cases hpo : pairOk p with
      | false =>
        go_wp2
        refine bodyPost_ret (results_tmp2 rfl _ _ _) rfl ?_
        exact ⟨hbw2, .inr ⟨List.all_eq_false.2 ⟨p, hmem, by rw [hpo]; simp⟩, rfl⟩⟩
      | true =>
        have hn := cell_two_new wr (.string (str p.key)) (.string (str p.val)) 42
        have e0 : w1.cell? ⟨wr.heap.size, 0, none⟩ = some (.string (str p.key)) := by
          rw [b1.cell (by rw [World.size_alloc]; exact Nat.lt_succ_self _)]
          exact hn 0 _ rfl
        have e1 : w1.cell? ⟨wr.heap.size, 1, none⟩ = some (.string (str p.val)) := by
          rw [b1.cell (by rw [World.size_alloc]; exact Nat.lt_succ_self _)]
          have := hn 1 _ rfl
          rwa [add_lit', Nat.zero_add] at this
        go_wp2
        refine reg7 hB p.key p.val (len p) (txt p) (hLen p hmem) (hIt p hmem) q3 q1 q2 (bt := wr.heap.size) rfl e0 e1 rfl rfl (glob_below hG hbw2) (o := op12) (by kernel_rfl) (fun _ => rfl) (by kernel_rfl) ?_
        intro a' w2 hj hsz2 hdf2 h27 b2
        rw [dst7] at hj
        have hI2 := hI1.old b2
        have hbw3 := hbw2.trans (b2.mono hbw2.size)
        have hln : (linesOf txt (l.take (i + 1))) = linesOf txt (l.take i) ++ (lineOf (txt p) p.key p.val).data.toList := by
          rw [List.take_add_one, hp]; exact lines_app txt _ p
        have htl := htot (i + 1)
        rw [hln, List.length_append] at htl
        refine write7 (hj.2 4 (by decide)) h27 hI2 hbw3.size (one_bytes _) (by rw [Lib.byteCells_length]; rw [size_toList] at htl; omega) fun v w3 k1 k2 => ?_
        rw [← Lib.byteCells_append, ← hln] at k1
        have ha' := arr31 hsz2
        obtain ⟨tm, df⟩ := a'
        rename_i hgo
        refine hgo _ _ ?_
        have z0 : tm.getD 0 undef = _ := hj.2 0 (by decide)
        have z1 : tm.getD 1 undef = _ := hj.2 1 (by decide)
        have z4 : tm.getD 4 undef = _ := hj.2 4 (by decide)
        have z5 : tm.getD 5 undef = _ := hj.2 5 (by decide)
        have z7 : tm.getD 7 undef = _ := hj.2 7 (by decide)
        have z8 : tm.getD 8 undef = _ := hj.2 8 (by decide)
        have z9 : tm.getD 9 undef = _ := hj.2 9 (by decide)
        have z30 : tm.getD 30 undef = _ := hj.2 30 (by decide)
        have ha2 : tm = _ := ha'
        have hdf3 : df = [] := hdf2
        subst hdf3
        rw [ha2]
        rw [z0, z1, z4, z5, z7, z8, z9, z30]
        generalize tm.getD 2 undef = y2
        generalize tm.getD 3 undef = y3
        generalize tm.getD 6 undef = y6
        generalize tm.getD 10 undef = y10
        generalize tm.getD 11 undef = y11
        generalize tm.getD 12 undef = y12
        generalize tm.getD 13 undef = y13
        generalize tm.getD 14 undef = y14
        generalize tm.getD 15 undef = y15
        generalize tm.getD 16 undef = y16
        generalize tm.getD 17 undef = y17
        generalize tm.getD 18 undef = y18
        generalize tm.getD 19 undef = y19
        generalize tm.getD 20 undef = y20
        generalize tm.getD 21 undef = y21
        generalize tm.getD 22 undef = y22
        generalize tm.getD 23 undef = y23
        generalize tm.getD 24 undef = y24
        generalize tm.getD 25 undef = y25
        generalize tm.getD 26 undef = y26
        generalize tm.getD 27 undef = y27
        generalize tm.getD 28 undef = y28
        generalize tm.getD 29 undef = y29
        simp only [Act.put]
        go_wp2
        go_roundw
        case rel =>
          exact ⟨i + 1, by simp, by omega, k1, hbw3.trans k2, by rw [List.take_add_one, hp]; simp [hall, hpo]⟩
        case measure =>
          show l.length - (intOf (.int .i64 ((i : Int) + 1))).toNat < l.length - (intOf (.int .i64 (i : Int))).toNat
          show l.length - ((i : Int) + 1).toNat < l.length - (i : Int).toNat
          omega
    · obtain rfl : i = l.length := by omega
      rw [List.take_length] at hI hall
      go_wp2_with (go_at_call 55; refine (Tryz.Buffer_Bytes w.heap.size w.heap.size _ _ hI).mono ?_)
      rintro e w1 ⟨v, rfl, hown, m, rfl⟩
      go_wp2
      refine bodyPost_ret (results_tmp2 rfl _ _ _) rfl ?_
      rw [Lib.byteCells_length] at hown
      exact ⟨⟨hbw.os, hbw.tape, hbw.output, hbw.size, hbw.block⟩, .inl ⟨hall, v, rfl, hown⟩⟩
end Go.Proofs.YtilbahgfjfcikaaGreatDoor.Eng.U


/- How many bytes a record has: both sides. -/
set_option linter.unusedVariables false
set_option linter.unusedSectionVars false
set_option linter.unusedSimpArgs false
namespace Go.Proofs.YtilbahgfjfcikaaGreatDoor.Eng.U
open Go Go.Proofs Go.Proofs.YtilbahgfjfcikaaGreatDoor.Eng Go.Proofs.YtilbahgfjfcikaaGreatDoor.P04
variable {E : Ext} [Core E] [HasNum E] {k n : Nat}

def dl (u : Nat) : Nat := (Lib.decDigits u).length
theorem dl_small {u : Nat} (h : u < 10) : dl u = 1 := by unfold dl; rw [Lib.decDigits, dif_pos h]; rfl
theorem dl_big {u : Nat} (h : ¬ u < 10) : dl u = dl (u / 10) + 1 := by unfold dl; rw [decDigits_rec h, List.length_append]; rfl
theorem dl_pos (u : Nat) : 1 ≤ dl u := by
  by_cases h : u < 10
  · rw [dl_small h]; exact Nat.le_refl _
  · rw [dl_big h]; omega
theorem dl_mono : ∀ (b a : Nat), a ≤ b → dl a ≤ dl b := by
  intro b
  induction b using Nat.strongRecOn with
  | ind b ih =>
    intro a h
    by_cases ha : a < 10
    · rw [dl_small ha]; exact dl_pos b
    · rw [dl_big ha, dl_big (show ¬ b < 10 by omega)]
      have := ih (b / 10) (by omega) (a / 10) (by omega)
      omega
theorem dl_le (u : Nat) (h : u ≤ 9223372036854775807) : dl u ≤ 21 := dig_len u (by omega)
def lenF : Nat → Nat → Nat → Nat
  | 0, rest, m => m
  | f + 1, rest, m => if rest + dl m = m then m else lenF f rest (rest + dl m)
def restP (p : Pair) : Nat := p.key.length + p.val.length + 3
def lenP (p : Pair) : Nat := lenF 30 (restP p) (restP p)
theorem lenF_fix (rest : Nat) (hr : rest ≤ 100000000) : ∀ (f m : Nat), m ≤ rest + dl m → rest + 21 < m + f → m ≤ rest + 21 → rest + dl (lenF f rest m) = lenF f rest m ∧ lenF f rest m ≤ rest + 21 ∧ ∀ q, rest + dl q = q → m ≤ q → lenF f rest m ≤ q
  | 0, m, h1, h2, h3 => by omega
  | f + 1, m, h1, h2, h3 => by
    unfold lenF
    split
    · rename_i h; exact ⟨h, h3, fun q _ hq => hq⟩
    · rename_i h
      have hd := dl_le m (by omega)
      have hm : m < rest + dl m := by omega
      have hmono := dl_mono (rest + dl m) m (by omega)
      obtain ⟨i1, i2, i3⟩ := lenF_fix rest hr f (rest + dl m) (by omega) (by omega) (by omega)
      exact ⟨i1, i2, fun q hq hmq => i3 q hq (by have := dl_mono q m hmq; omega)⟩
theorem itoa_nat (u : Nat) : Lib.itoa (u : Int) = Lib.decDigits u := by
  unfold Lib.itoa
  first | rw [if_neg (by omega)]; simp | simp
theorem len_loop (kap : FuncId → List AV → Option AV) (hI : ∀ u : Nat, u ≤ 9223372036854775807 → kap strconv_Itoa [.int .i64 (u : Int)] = some (.str (str (Lib.decDigits u)))) (rest : Nat) (hr : rest ≤ 100000000) :
    ∀ (f m k0 : Nat), m ≤ rest + dl m → rest + 21 < m + f → m ≤ rest + 21 → f < k0 → pax_Len_L0 kap k k0 ((rest : Nat) : Int) ((m : Nat) : Int) = some (.int .i64 (lenF f rest m : Nat))
  | 0, m, k0, h1, h2, h3, hk => by omega
  | f + 1, m, k0 + 1, h1, h2, h3, hk => by
    have hd := dl_le m (by omega)
    have hs : (Lib.decDigits m).length = dl m := rfl
    rw [pax_Len_L0_s, hI m (by omega), callS_ok, str_size, hs, i64w (by omega)]
    unfold lenF
    by_cases h : rest + dl m = m
    · rw [if_pos h, bif_t (by omega)]
    · rw [if_neg h, bif_f (by omega)]
      have hmono := dl_mono (rest + dl m) m (by omega)
      have := len_loop kap hI rest hr f (rest + dl m) k0 (by omega) (by omega) (by omega) (by omega)
      rw [← this]
      congr 1
theorem lenP_facts (p : Pair) (h1 : p.key.length ≤ 1000000) (h2 : p.val.length ≤ 1000000) : restP p + dl (lenP p) = lenP p ∧ lenP p ≤ restP p + 21 ∧ ∀ q, restP p + dl q = q → restP p ≤ q → lenP p ≤ q :=
  lenF_fix (restP p) (by unfold restP; omega) 30 (restP p) (by omega) (by omega) (by omega)
theorem paxLen_k (p : Pair) (h1 : p.key.length ≤ 1000000) (h2 : p.val.length ≤ 1000000) (hk : 100 < k) : kp E k (n + 1) pax_Len [.agg [.str (str p.key), .str (str p.val)]] = some (.int .i64 (lenP p : Nat)) := by
  have hI : ∀ u : Nat, u ≤ 9223372036854775807 → kp E k n strconv_Itoa [.int .i64 (u : Int)] = some (.str (str (Lib.decDigits u))) := fun u hu => by rw [HasNum.itoa k n _ (by omega) (by omega), itoa_nat]
  have := len_loop (k := k) (kp E k n) hI (restP p) (by unfold restP; omega) 30 (restP p) k (by omega) (by omega) (by omega) (by omega)
  rw [pax_Len_eq, str_size, str_size, i64w (x := ((p.key.length : Nat) : Int) + ((p.val.length : Nat) : Int)) (by omega), i64w (by omega)]
  rw [show ((p.key.length : Nat) : Int) + ((p.val.length : Nat) : Int) + 3 = ((restP p : Nat) : Int) by unfold restP; omega]
  exact this
end Go.Proofs.YtilbahgfjfcikaaGreatDoor.Eng.U


/- The program's own data as a row hands them in: what is read is some item, with bounds. -/
set_option linter.unusedVariables false
set_option linter.unusedSimpArgs false
namespace Go.Proofs.YtilbahgfjfcikaaGreatDoor.Eng.U
open Go Go.Proofs Go.Proofs.YtilbahgfjfcikaaGreatDoor.Eng Go.Proofs.YtilbahgfjfcikaaGreatDoor.Eng.Rdv

def InR (n : Int) : Prop := -9223372036854775808 ≤ n ∧ n ≤ 9223372036854775807
structure G_apiPair (p : Pair) : Prop where
  key : p.key.length ≤ 140737488351232
  val : p.val.length ≤ 140737488351232
structure G_apiTime (t : Time) : Prop where
  sec : InR t.sec
  nano : InR t.nano
structure G_apiHead (h : Head) : Prop where
  kind : InR h.kind
  name : h.name.length ≤ 140737488351232
  link : h.link.length ≤ 140737488351232
  mode : InR h.mode
  uid : InR h.uid
  gid : InR h.gid
  size : InR h.size
  sec : InR h.sec
  nano : InR h.nano
  user : h.user.length ≤ 140737488351232
  group : h.group.length ≤ 140737488351232
  major : InR h.major
  minor : InR h.minor
  extra : h.extra.length * 32 ≤ 140737488351232
  pairs : ∀ p ∈ h.extra, G_apiPair p
structure G_apiItem (x : Item) : Prop where
  head : G_apiHead x.head
  data : x.data.length ≤ 140737488351232
def G_LapiPair (l : List Pair) : Prop := l.length * 32 ≤ 140737488351232 ∧ ∀ x ∈ l, G_apiPair x
theorem rdi {t : TypeId} (hu : Tryz.prog.underlying t = some (.int .i64)) (hc : Tryz.prog.cellsOf t = 1) : Rd Tryz.prog t (fun n : Int => [.int .i64 n]) InR := int hu hc
theorem rds {t : TypeId} (hu : Tryz.prog.underlying t = some .string) (hc : Tryz.prog.cellsOf t = 1) : Rd Tryz.prog t (fun s : Tx => [.str (str s)]) (fun s => s.length ≤ 140737488351232) := string hu hc
theorem rd_pair : Rd Tryz.prog 42 encPair G_apiPair :=
  weaken (struct (P := Tryz.prog) (t := 42) Tryz.underlying42 rfl (by kernel_rfl) (by kernel_rfl)
    (iso encPair (fun p : Pair => (p.key, p.val)) (fun y => ⟨y.1, y.2⟩) (fun _ => rfl) (fun _ => rfl)
      (cons (rds (by kernel_rfl) (by kernel_rfl)) (one (rds (by kernel_rfl) (by kernel_rfl)))))) (fun _ h => ⟨h.1, h.2⟩)
theorem rd_time : Rd Tryz.prog 23 encTime G_apiTime :=
  weaken (struct (P := Tryz.prog) (t := 23) Tryz.underlying23 rfl (by kernel_rfl) (by kernel_rfl)
    (iso encTime (fun p : Time => (p.sec, p.nano)) (fun y => ⟨y.1, y.2⟩) (fun _ => rfl) (fun _ => rfl)
      (cons (rdi (by kernel_rfl) (by kernel_rfl)) (one (rdi (by kernel_rfl) (by kernel_rfl)))))) (fun _ h => ⟨h.1, h.2⟩)
theorem rd_pairs : Rd Tryz.prog 24 (fun l : List Pair => [.list 2 (prs l)]) G_LapiPair :=
  weaken (sliceAt (B := 32) elPair (fun _ => rfl) Tryz.underlying24 (by kernel_rfl) (by kernel_rfl) (by kernel_rfl) rd_pair) (fun _ h => h)
theorem rd_head : Rd Tryz.prog 26 encHead G_apiHead :=
  weaken (struct (P := Tryz.prog) (t := 26) Tryz.underlying26 rfl (by kernel_rfl) (by kernel_rfl)
    (iso encHead (fun h : Head => (h.kind, h.name, h.link, h.mode, h.uid, h.gid, h.size, (⟨h.sec, h.nano⟩ : Time), h.user, h.group, h.major, h.minor, h.extra))
      (fun y => ⟨y.1, y.2.1, y.2.2.1, y.2.2.2.1, y.2.2.2.2.1, y.2.2.2.2.2.1, y.2.2.2.2.2.2.1, y.2.2.2.2.2.2.2.1.sec, y.2.2.2.2.2.2.2.1.nano, y.2.2.2.2.2.2.2.2.1, y.2.2.2.2.2.2.2.2.2.1, y.2.2.2.2.2.2.2.2.2.2.1, y.2.2.2.2.2.2.2.2.2.2.2.1, y.2.2.2.2.2.2.2.2.2.2.2.2⟩) (fun _ => rfl) (fun _ => rfl)
      (cons (rdi (by kernel_rfl) (by kernel_rfl)) (cons (rds (by kernel_rfl) (by kernel_rfl)) (cons (rds (by kernel_rfl) (by kernel_rfl))
        (cons (rdi (by kernel_rfl) (by kernel_rfl)) (cons (rdi (by kernel_rfl) (by kernel_rfl)) (cons (rdi (by kernel_rfl) (by kernel_rfl)) (cons (rdi (by kernel_rfl) (by kernel_rfl))
          (cons rd_time (cons (rds (by kernel_rfl) (by kernel_rfl)) (cons (rds (by kernel_rfl) (by kernel_rfl))
            (cons (rdi (by kernel_rfl) (by kernel_rfl)) (cons (rdi (by kernel_rfl) (by kernel_rfl)) (one rd_pairs))))))))))))))) (fun h g =>
      ⟨g.1, g.2.1, g.2.2.1, g.2.2.2.1, g.2.2.2.2.1, g.2.2.2.2.2.1, g.2.2.2.2.2.2.1, g.2.2.2.2.2.2.2.1.sec, g.2.2.2.2.2.2.2.1.nano, g.2.2.2.2.2.2.2.2.1, g.2.2.2.2.2.2.2.2.2.1, g.2.2.2.2.2.2.2.2.2.2.1, g.2.2.2.2.2.2.2.2.2.2.2.1, g.2.2.2.2.2.2.2.2.2.2.2.2.1, g.2.2.2.2.2.2.2.2.2.2.2.2.2⟩)
end Go.Proofs.YtilbahgfjfcikaaGreatDoor.Eng.U


/- The library's functions that the Dec laws call, in pieces: numbers to text and back, texts cut. -/
set_option linter.unusedVariables false
set_option linter.unusedSectionVars false
set_option linter.unusedSimpArgs false
namespace Go.Proofs.YtilbahgfjfcikaaGreatDoor.Eng.U
open Go Go.Proofs Go.Proofs.YtilbahgfjfcikaaGreatDoor.Eng Go.RowKit

theorem str_self (s : ByteArray) : str s.data.toList = s := by cases s; simp [str]
theorem ok_tup {f : FuncId} {args rs : List AV} (hr : rs.all (fun r => !r.isFresh && r.leaf) = true) (h : ∀ (S : Stab) (w : World) (vals : List Value), Agree S w → GlobOk glob S w → VL S args vals → Calls Tryz.prog f vals.toArray w fun e w' => ∃ vs : List Value, e = .returned (.tuple vs.toArray) ∧ rs.length = vs.length ∧ (∀ (S' : Stab) (j : Nat) (c : AV) (u : Value), rs[j]? = some c → vs[j]? = some u → V S' c u) ∧ Below w.heap.size w w') (hr2 : (args.all fun c => !c.isRes) = true := by rfl) : Ok Tryz.prog glob f args (.tup rs) := by
  refine Ok.of_plain (fun c hc => by simpa using List.all_eq_true.1 hr2 c hc) fun S w vals hag hG hV => ?_
  have key : ∀ (j : Nat) (c : AV), rs[j]? = some c → c.isFresh = false ∧ c.leaf = true := by
    intro j c hc
    have := List.all_eq_true.1 hr c (List.mem_of_getElem? hc)
    simpa using this
  refine (h S w vals hag hG hV).mono ?_
  rintro e w' ⟨vs, rfl, hl, hv, hb⟩
  refine ⟨_, S, rfl, fun _ _ h => h, agree_below hag hb, fun _ _ h => .inl h, hb, vs, rfl, hl, fun j c u hc hu => ?_, fun i j c d u v g hc hd hf => ?_⟩
  · have h1 := hv S j c u hc hu
    obtain ⟨h2, h3⟩ := key j c hc
    cases c <;> first | (cases h2; done) | (cases h3; done) | exact h1
  · rw [(key i c hc).1] at hf; cases hf
theorem V2 {S : Stab} {a b : AV} {u v : Value} (ha : V S a u) (hb : V S b v) : ∀ (j : Nat) (c : AV) (x : Value), [a, b][j]? = some c → [u, v][j]? = some x → V S c x := by
  intro j c x hc hx
  match j with
  | 0 => cases hc; cases hx; exact ha
  | 1 => cases hc; cases hx; exact hb
  | j + 2 => simp at hc
theorem eptr_inv {S : Stab} {cs : List AV} {off : Nat} {p : Value} (h : V S (.eptr cs off) p) : ∃ (a : Addr) (f : Nat → Value), p = .pointer (some (a.add off)) ∧ (∀ (j : Nat) (c : AV), cs[j]? = some c → S (a.add j) = some (f j)) ∧ (∀ (j : Nat) (c : AV), cs[j]? = some c → V S c (f j)) := by
  cases h with
  | eptr cs off a f g2 g3 g4 => exact ⟨a, f, rfl, g3, g4⟩
theorem glob_cell {S : Stab} {w : World} {g : Nat} {cs : List AV} (hag : Agree S w) (hG : GlobOk glob S w) (hg : glob g = some cs) (j : Nat) (c : AV) (hj : cs[j]? = some c) : ∃ u, w.cell? ⟨g, j, none⟩ = some u ∧ V S c u := by
  obtain ⟨h1, arr, t, f, h2, h3⟩ := hG g _ hg
  obtain ⟨a, fv, he, g3, g4⟩ := eptr_inv h1
  have ha : a.add j = ⟨g, j, none⟩ := by
    have he' : (⟨g, 0, none⟩ : Addr) = a.add 0 := by injection he with e; injection e
    obtain ⟨b, o, s⟩ := a
    cases s with
    | none => rw [add_lit', Nat.add_zero] at he'; cases he'; rw [add_lit', Nat.zero_add]
    | some s => simp [Addr.add] at he'
  have := hag _ _ (g3 j c hj)
  rw [ha] at this
  exact ⟨_, this, g4 j c hj⟩
theorem tab_of {S : Stab} {w : World} {g : Nat} {name : String} {k : IntKind} {zs : List Int} (hag : Agree S w) (hG : GlobOk glob S w) (hg : glob g = some (zs.map fun z => .int k z)) (hn : Tryz.prog.globalNamed name = some g) : Lib.TabIs Tryz.prog w name k zs := by
  obtain ⟨h1, arr, t, f, h2, h3⟩ := hG g _ hg
  unfold Lib.TabIs World.var?
  rw [hn]
  simp only [Option.bind_some, h2, Option.some.injEq]
  rw [List.length_map] at h3
  refine Array.ext' ?_
  refine List.ext_getElem? fun j => ?_
  by_cases hj : j < zs.length
  · obtain ⟨u, hu, hv⟩ := glob_cell hag hG hg j (.int k zs[j]) (by rw [List.getElem?_map, List.getElem?_eq_getElem hj]; rfl)
    rw [V_int hv] at hu
    have e : w.cell? ⟨g, j, none⟩ = arr[j]? := by simp [World.cell?, h2]
    rw [e] at hu
    rw [List.toList_toArray, List.getElem?_map, List.getElem?_eq_getElem hj]
    simpa using hu
  · rw [List.toList_toArray, List.getElem?_eq_none (by simp; omega), List.getElem?_eq_none (by simp; omega)]
theorem iface_of {S : Stab} {w : World} {g : Nat} (hag : Agree S w) (hG : GlobOk glob S w) (hg : glob g = some [.ifc]) : ∃ t v, w.cell? ⟨g, 0, none⟩ = some (.iface t v) := by
  obtain ⟨u, hu, hv⟩ := glob_cell hag hG hg 0 .ifc rfl
  cases hv
  exact ⟨_, _, hu⟩
theorem below_grow (w : World) (n : Nat) (os : Array Obj) : Below w.heap.size w (Sort.grow (w.drewN n) os) :=
  ⟨rfl, rfl, rfl, by simp [Sort.grow, World.drewN], fun k hk => by
    show (w.heap ++ os)[k]? = _
    rw [Array.getElem?_append_left hk]⟩

def pItoa : Piece := { f := strconv_Itoa, ans := fun args => match args with
  | [.int .i64 n] => bif decide (-9223372036854775808 ≤ n) && decide (n ≤ 9223372036854775807) then some (.str (str (Lib.itoa n))) else none
  | _ => none }
def pCutP : Piece := { f := strings_CutPrefix, ans := fun args => match args with
  | [.str s, .str p] => some (.tup [.str (str (Lib.trimPrefix s.data.toList p.data.toList)), .bool (Lib.hasPrefix s.data.toList p.data.toList)])
  | _ => none }
def one (c : ByteArray) : Option UInt8 := match c.data.toList with | [x] => some x | _ => none
theorem one_some {c : ByteArray} {x : UInt8} (h : one c = some x) : c = ⟨#[x]⟩ := by
  unfold one at h
  split at h
  · rename_i y e
    cases h
    obtain ⟨⟨l⟩⟩ := c
    simp at e
    rw [e]
  · cases h
def pIndex : Piece := { f := stringslite_Index, ans := fun args => match args with
  | [.str s, .str c] => (one c).bind fun x => some (.int .i64 (Lib.indexByte s.data.toList x))
  | _ => none }
def pIndexByte : Piece := { f := strings_IndexByte, ans := fun args => match args with
  | [.str s, .int .u8 c] => some (.int .i64 (Lib.indexByte s.data.toList c.toNat.toUInt8))
  | _ => none }
def pRepeat : Piece := { f := strings_Repeat, ans := fun args => match args with
  | [.str s, .int .i64 c] => bif decide (0 ≤ c) && decide (c ≤ 9223372036854775807) && decide (s.size * c.toNat ≤ 140737488355328) then some (.str (str (Lib.repeatL s.data.toList c.toNat))) else none
  | _ => none }
def pPInt : Piece := { f := strconv_ParseInt, ans := fun args => match args with
  | [.str s, .int .i64 b, .int .i64 z] => bif decide (b = 10) && decide (z = 64) && decide (s.size ≤ 281474976710656) then some (endI (Lib.parseIntB 64 s.data.toList) (Lib.intSat 64 s.data.toList)) else none
  | _ => none }
def pPUint : Piece := { f := strconv_ParseUint, ans := fun args => match args with
  | [.str s, .int .i64 b, .int .i64 z] => bif decide (b = 10) && decide (z = 64) && decide (s.size ≤ 281474976710656) then some (endU (Lib.parseUintB 64 s.data.toList)) else none
  | _ => none }
theorem itoa_right : pItoa.Right := by
  refine ⟨⟨Tryz.f54, Tryz.func54, by kernel_rfl, by kernel_rfl⟩, fun args res h => ?_⟩
  unfold pItoa at h
  dsimp only at h
  split at h
  · rename_i n
    obtain ⟨hc, h'⟩ := some_of_bif h
    clear h
    simp only [Bool.and_eq_true, decide_eq_true_eq] at hc
    obtain ⟨h1, h2⟩ := hc
    obtain rfl := Option.some.inj h'
    refine ok_pure ⟨rfl, rfl⟩ fun S w vals hag hG hV => ?_
    obtain ⟨v, rfl, hv⟩ := VL_1 hV
    obtain rfl := V_int hv
    refine (Tryz.strconv_Itoa n h1 h2 w (tab_of hag hG (g := 1) (zs := Lib.pow10Tab) rfl (by kernel_rfl))).mono ?_
    rintro e w' ⟨rfl, k, os, rfl⟩
    exact ⟨_, rfl, fun S' => V.str _, below_grow _ _ _⟩
  · cases h
theorem cutP_right : pCutP.Right := by
  refine ⟨⟨Tryz.f118, Tryz.func118, by kernel_rfl, by kernel_rfl⟩, fun args res h => ?_⟩
  unfold pCutP at h
  dsimp only at h
  split at h
  · rename_i s p
    obtain rfl := Option.some.inj h
    refine ok_tup rfl fun S w vals hag hG hV => ?_
    obtain ⟨v, u, rfl, hv, hu⟩ := VL_2 hV
    obtain rfl := V_str hv
    obtain rfl := V_str hu
    refine (Tryz.strings_CutPrefix s p w).mono ?_
    rintro e w' ⟨rfl, rfl⟩
    exact ⟨[_, _], rfl, rfl, fun S' => V2 (V.str _) (V.bool _), Below.refl _ _⟩
  · cases h
theorem index_right : pIndex.Right := by
  refine ⟨⟨Tryz.f136, Tryz.func136, by kernel_rfl, by kernel_rfl⟩, fun args res h => ?_⟩
  unfold pIndex at h
  dsimp only at h
  split at h
  · rename_i s c
    obtain ⟨x, hx, h⟩ := Option.bind_eq_some_iff.1 h
    obtain rfl := one_some hx
    obtain rfl := Option.some.inj h
    refine ok_pure ⟨rfl, rfl⟩ fun S w vals hag hG hV => ?_
    obtain ⟨v, u, rfl, hv, hu⟩ := VL_2 hV
    obtain rfl := V_str hv
    obtain rfl := V_str hu
    refine (Tryz.stringslite_Index_one s x w).mono ?_
    rintro e w' ⟨rfl, rfl⟩
    exact ⟨_, rfl, fun S' => V.int _ _, Below.refl _ _⟩
  · cases h
theorem indexByte_right : pIndexByte.Right := by
  refine ⟨⟨Tryz.f104, Tryz.func104, by kernel_rfl, by kernel_rfl⟩, fun args res h => ?_⟩
  unfold pIndexByte at h
  dsimp only at h
  split at h
  · rename_i s c
    obtain rfl := Option.some.inj h
    refine ok_pure ⟨rfl, rfl⟩ fun S w vals hag hG hV => ?_
    obtain ⟨v, u, rfl, hv, hu⟩ := VL_2 hV
    obtain rfl := V_str hv
    obtain rfl := V_int hu
    refine (Tryz.strings_IndexByte s c w).mono ?_
    rintro e w' ⟨rfl, rfl⟩
    exact ⟨_, rfl, fun S' => V.int _ _, Below.refl _ _⟩
  · cases h
theorem repeat_right : pRepeat.Right := by
  refine ⟨⟨Tryz.f121, Tryz.func121, by kernel_rfl, by kernel_rfl⟩, fun args res h => ?_⟩
  unfold pRepeat at h
  dsimp only at h
  split at h
  · rename_i s c
    obtain ⟨hc, h'⟩ := some_of_bif h
    clear h
    simp only [Bool.and_eq_true, decide_eq_true_eq] at hc
    obtain ⟨⟨h1, h2⟩, h3⟩ := hc
    obtain rfl := Option.some.inj h'
    refine ok_pure ⟨rfl, rfl⟩ fun S w vals hag hG hV => ?_
    obtain ⟨v, u, rfl, hv, hu⟩ := VL_2 hV
    obtain rfl := V_str hv
    obtain rfl := V_int hu
    obtain ⟨n, rfl⟩ := Int.eq_ofNat_of_zero_le h1
    rw [Int.toNat_natCast] at h3 ⊢
    refine (Tryz.strings_Repeat s n w (by omega) h3).mono ?_
    rintro e w' ⟨rfl, hb⟩
    exact ⟨_, rfl, fun S' => V.str _, hb⟩
  · cases h
theorem pInt_right : pPInt.Right := by
  refine ⟨⟨Tryz.f120, Tryz.func120, by kernel_rfl, by kernel_rfl⟩, fun args res h => ?_⟩
  unfold pPInt at h
  dsimp only at h
  split at h
  · rename_i s b z
    obtain ⟨hc, h'⟩ := some_of_bif h
    clear h
    simp only [Bool.and_eq_true, decide_eq_true_eq] at hc
    obtain ⟨⟨rfl, rfl⟩, h3⟩ := hc
    obtain rfl := Option.some.inj h'
    cases he : Lib.parseIntB 64 s.data.toList with
    | ok v =>
      refine ok_tup rfl fun S w vals hag hG hV => ?_
      obtain ⟨v1, v2, v3, rfl, g1, g2, g3⟩ := VL_3 hV
      obtain rfl := V_str g1
      obtain rfl := V_int g2
      obtain rfl := V_int g3
      refine (Tryz.strconv_ParseInt_10_at64_ok s (by omega) v he w).mono ?_
      rintro e w' ⟨rfl, hw⟩
      refine ⟨[_, _], rfl, rfl, fun S' => V2 (V.int _ _) V.nili, ?_⟩
      rcases hw with rfl | ⟨t, rfl⟩
      · exact Below.refl _ _
      · exact Lib.bytesWorld_below _ _ _
    | range =>
      refine ok_tup rfl fun S w vals hag hG hV => ?_
      obtain ⟨v1, v2, v3, rfl, g1, g2, g3⟩ := VL_3 hV
      obtain rfl := V_str g1
      obtain rfl := V_int g2
      obtain rfl := V_int g3
      obtain ⟨t, v, hi⟩ := iface_of (g := 6) hag hG rfl
      refine (Tryz.strconv_ParseInt_10_at64_range s h3 he _ w hi (.inr ⟨_, _, rfl⟩)).mono ?_
      rintro e w' ⟨N, rfl, _, _, hb⟩
      exact ⟨[_, _], rfl, rfl, fun S' => V2 (V.int _ _) (V.ifc _ _), hb⟩
    | _ =>
      refine ok_tup rfl fun S w vals hag hG hV => ?_
      obtain ⟨v1, v2, v3, rfl, g1, g2, g3⟩ := VL_3 hV
      obtain rfl := V_str g1
      obtain rfl := V_int g2
      obtain rfl := V_int g3
      obtain ⟨t, v, hi⟩ := iface_of (g := 5) hag hG rfl
      refine (Tryz.strconv_ParseInt_10_at64_syntax s h3 he _ w hi (.inr ⟨_, _, rfl⟩)).mono ?_
      rintro e w' ⟨N, rfl, _, _, hb⟩
      exact ⟨[_, _], rfl, rfl, fun S' => V2 (V.int _ _) (V.ifc _ _), hb⟩
  · cases h
theorem pUint_right : pPUint.Right := by
  refine ⟨⟨Tryz.f141, Tryz.func141, by kernel_rfl, by kernel_rfl⟩, fun args res h => ?_⟩
  unfold pPUint at h
  dsimp only at h
  split at h
  · rename_i s b z
    obtain ⟨hc, h'⟩ := some_of_bif h
    clear h
    simp only [Bool.and_eq_true, decide_eq_true_eq] at hc
    obtain ⟨⟨rfl, rfl⟩, h3⟩ := hc
    obtain rfl := Option.some.inj h'
    cases he : Lib.parseUintB 64 s.data.toList with
    | ok v =>
      refine ok_tup rfl fun S w vals hag hG hV => ?_
      obtain ⟨v1, v2, v3, rfl, g1, g2, g3⟩ := VL_3 hV
      obtain rfl := V_str g1
      obtain rfl := V_int g2
      obtain rfl := V_int g3
      refine (Tryz.strconv_ParseUint_10_at64_ok s (by omega) v he w).mono ?_
      rintro e w' ⟨rfl, hw⟩
      refine ⟨[_, _], rfl, rfl, fun S' => V2 (V.int _ _) V.nili, ?_⟩
      rcases hw with rfl | rfl
      · exact Below.refl _ _
      · exact Lib.bytesWorld_below _ _ _
    | range =>
      refine ok_tup rfl fun S w vals hag hG hV => ?_
      obtain ⟨v1, v2, v3, rfl, g1, g2, g3⟩ := VL_3 hV
      obtain rfl := V_str g1
      obtain rfl := V_int g2
      obtain rfl := V_int g3
      obtain ⟨t, v, hi⟩ := iface_of (g := 6) hag hG rfl
      refine (Tryz.strconv_ParseUint_10_at64_range s h3 he _ w hi (.inr ⟨_, _, rfl⟩)).mono ?_
      rintro e w' ⟨N, rfl, _, _, hb⟩
      exact ⟨[_, _], rfl, rfl, fun S' => V2 (V.int _ _) (V.ifc _ _), hb⟩
    | _ =>
      refine ok_tup rfl fun S w vals hag hG hV => ?_
      obtain ⟨v1, v2, v3, rfl, g1, g2, g3⟩ := VL_3 hV
      obtain rfl := V_str g1
      obtain rfl := V_int g2
      obtain rfl := V_int g3
      obtain ⟨t, v, hi⟩ := iface_of (g := 5) hag hG rfl
      refine (Tryz.strconv_ParseUint_10_at64_syntax s h3 he _ w hi (.inr ⟨_, _, rfl⟩)).mono ?_
      rintro e w' ⟨N, rfl, _, _, hb⟩
      exact ⟨[_, _], rfl, rfl, fun S' => V2 (V.int _ _) (V.ifc _ _), hb⟩
  · cases h
def ps04 : List Piece := [pItoa, pCutP, pIndex, pIndexByte, pRepeat, pPInt, pPUint]
def ext04 : Ext := extOf ps04
instance core04 : Core ext04 := core_of (by kernel_rfl)
theorem num_of {ps : List Piece} (h2 : ps.find? (fun q => q.f == pItoa.f) = some pItoa) (h3 : ps.find? (fun q => q.f == pCutP.f) = some pCutP) (h5 : ps.find? (fun q => q.f == pIndex.f) = some pIndex) (h6 : ps.find? (fun q => q.f == pIndexByte.f) = some pIndexByte) (h7 : ps.find? (fun q => q.f == pRepeat.f) = some pRepeat) (h8 : ps.find? (fun q => q.f == pPInt.f) = some pPInt) (h9 : ps.find? (fun q => q.f == pPUint.f) = some pPUint) : HasNum (extOf ps) where
  itoa k n v g0 g1 := (kp_piece (k := k) (n := n) h2).trans (by
    show (bif decide (-9223372036854775808 ≤ v) && decide (v ≤ 9223372036854775807) then _ else none) = _
    rw [decide_eq_true g0, decide_eq_true g1]
    rfl)
  cutP k n s p := (kp_piece (k := k) (n := n) h3).trans rfl
  index k n s x := (kp_piece (k := k) (n := n) h5).trans rfl
  indexB k n s c := (kp_piece (k := k) (n := n) h6).trans rfl
  rep k n s c g0 g1 := (kp_piece (k := k) (n := n) h7).trans (by
    show (bif decide ((0 : Int) ≤ (c : Int)) && decide ((c : Int) ≤ 9223372036854775807) && decide ((str s).size * (Int.toNat (c : Int)) ≤ 140737488355328) then some (AV.str (str (Lib.repeatL s (Int.toNat (c : Int))))) else none) = _
    rw [str_size, Int.toNat_natCast, decide_eq_true (show (0 : Int) ≤ (c : Int) by omega), decide_eq_true (show (c : Int) ≤ 9223372036854775807 by omega), decide_eq_true g1]
    rfl)
  pint k n s g0 := (kp_piece (k := k) (n := n) h8).trans (by
    show (bif decide ((10 : Int) = 10) && decide ((64 : Int) = 64) && decide ((str s).size ≤ 281474976710656) then _ else none) = _
    rw [str_size, decide_eq_true g0]
    rfl)
  puint k n s g0 := (kp_piece (k := k) (n := n) h9).trans (by
    show (bif decide ((10 : Int) = 10) && decide ((64 : Int) = 64) && decide ((str s).size ≤ 281474976710656) then _ else none) = _
    rw [str_size, decide_eq_true g0]
    rfl)
instance num04 : HasNum ext04 := num_of rfl rfl rfl rfl rfl rfl rfl
end Go.Proofs.YtilbahgfjfcikaaGreatDoor.Eng.U


/- ItemFulls answers true. -/
set_option linter.unusedVariables false
set_option linter.unusedSectionVars false
set_option linter.unusedSimpArgs false
namespace Go.Proofs.YtilbahgfjfcikaaGreatDoor.Eng.U
open Go Go.Proofs Go.Proofs.YtilbahgfjfcikaaGreatDoor.Eng Go.Proofs.YtilbahgfjfcikaaGreatDoor.P04
variable {E : Ext} [Core E] [HasNum E] [HasText E] {k n : Nat}

end Go.Proofs.YtilbahgfjfcikaaGreatDoor.Eng.U


/- Overlays in plain words: the order of keys, what is laid. No program. -/
set_option linter.unusedVariables false
set_option linter.unusedSimpArgs false
namespace Go.Proofs.YtilbahgfjfcikaaGreatDoor.Eng.U
open Go Go.Proofs Go.Proofs.YtilbahgfjfcikaaGreatDoor.Eng

theorem u8_lt_irrefl (a : UInt8) : ¬ a < a := fun h => by rw [UInt8.lt_iff_toNat_lt] at h; omega
theorem lt_irr : ∀ a : Tx, Op.bytesLess a a = false
  | [] => rfl
  | a :: x => by
    unfold Op.bytesLess
    rw [lt_irr x, decide_eq_false (u8_lt_irrefl a), Bool.and_false, Bool.or_false]
theorem lt_cons (a b : UInt8) (x y : Tx) : Op.bytesLess (a :: x) (b :: y) = true ↔ a.toNat < b.toNat ∨ a = b ∧ Op.bytesLess x y = true := by
  rw [Op.bytesLess, Bool.or_eq_true, Bool.and_eq_true, decide_eq_true_eq, beq_iff_eq, UInt8.lt_iff_toNat_lt]
theorem lt_tr : ∀ {a b c : Tx}, Op.bytesLess a b = true → Op.bytesLess b c = true → Op.bytesLess a c = true
  | _, _, [], _, h => by cases ‹Tx› <;> simp [Op.bytesLess] at h
  | [], _, _ :: _, _, _ => rfl
  | a :: x, [], c :: z, h, _ => by simp [Op.bytesLess] at h
  | a :: x, b :: y, c :: z, h1, h2 => by
    rw [lt_cons] at *
    rcases h1 with h1 | ⟨rfl, h1⟩
    · rcases h2 with h2 | ⟨rfl, h2⟩
      · left; omega
      · left; exact h1
    · rcases h2 with h2 | ⟨rfl, h2⟩
      · left; exact h2
      · right; exact ⟨rfl, lt_tr h1 h2⟩
theorem lt_tot : ∀ {a b : Tx}, Op.bytesLess a b = false → a ≠ b → Op.bytesLess b a = true
  | [], [], _, h => absurd rfl h
  | [], _ :: _, h, _ => by simp [Op.bytesLess] at h
  | _ :: _, [], _, _ => rfl
  | a :: x, b :: y, h, hn => by
    rw [lt_cons]
    have h' : ¬ (a.toNat < b.toNat ∨ a = b ∧ Op.bytesLess x y = true) := by rw [← lt_cons, h]; simp
    by_cases e : a = b
    · subst e
      right
      refine ⟨rfl, lt_tot ?_ fun e => hn (by rw [e])⟩
      cases hq : Op.bytesLess x y with
      | false => rfl
      | true => exact absurd (.inr ⟨rfl, hq⟩) h'
    · left
      have : a.toNat ≠ b.toNat := fun h => e (UInt8.toNat_inj.1 h)
      omega
theorem lt_asym {a b : Tx} (h : Op.bytesLess a b = true) : Op.bytesLess b a = false := by
  cases hq : Op.bytesLess b a with
  | false => rfl
  | true => have := lt_tr h hq; rw [lt_irr] at this; cases this
theorem not_le (a b : Tx) : (!(Op.bytesLess a b || decide (a = b))) = Op.bytesLess b a := by
  by_cases e : a = b
  · subst e; rw [decide_eq_true rfl, Bool.or_true, lt_irr]; rfl
  · rw [decide_eq_false e, Bool.or_false]
    cases h : Op.bytesLess a b with
    | true => rw [lt_asym h]; rfl
    | false => rw [lt_tot h e]; rfl

/-- Above what was ahead. -/
def gtO (a : Option Tx) (x : Tx) : Bool := match a with | none => true | some y => Op.bytesLess y x
def ltO (x : Tx) (m : Option Tx) : Bool := match m with | none => true | some y => Op.bytesLess x y
def leastL (a : Option Tx) : List Pair → Option Tx → Option Tx
  | [], m => m
  | p :: l, m => leastL a l (if (gtO a p.key && ltO p.key m) = true then some p.key else m)
def lastL (l : List Pair) (key : Tx) : Tx := l.foldl (fun v p => if p.key = key then p.val else v) []
def layF (l : List Pair) : Nat → Option Tx → List Pair
  | 0, _ => []
  | m + 1, a => match leastL a l none with
    | none => []
    | some k => if lastL l k = [] then layF l m (some k) else ⟨k, lastL l k⟩ :: layF l m (some k)
def okSt : Option Tx → List Pair → Bool
  | _, [] => true
  | a, p :: l => gtO a p.key && decide (p.val ≠ []) && okSt (some p.key) l
def cnt (a : Option Tx) (l : List Pair) : Nat := (l.filter fun p => gtO a p.key).length

theorem least_none (a : Option Tx) : ∀ (l : List Pair) (m : Option Tx), leastL a l m = none → m = none ∧ ∀ q ∈ l, gtO a q.key = false
  | [], m, h => ⟨h, fun q hq => by cases hq⟩
  | p :: l, m, h => by
    obtain ⟨h1, h2⟩ := least_none a l _ h
    by_cases hc : (gtO a p.key && ltO p.key m) = true
    · rw [if_pos hc] at h1; cases h1
    · rw [if_neg hc] at h1
      subst h1
      refine ⟨rfl, fun q hq => ?_⟩
      rcases List.mem_cons.1 hq with rfl | hq
      · cases hg : gtO a q.key with
        | false => rfl
        | true => exact absurd (by rw [hg]; rfl) hc
      · exact h2 q hq
theorem least_some (a : Option Tx) : ∀ (l : List Pair) (m : Option Tx) (k : Tx), leastL a l m = some k →
    (m = some k ∨ ∃ p ∈ l, p.key = k ∧ gtO a k = true) ∧ (∀ q ∈ l, gtO a q.key = true → Op.bytesLess q.key k = false) ∧ (∀ y, m = some y → Op.bytesLess y k = false)
  | [], m, k, h => ⟨.inl h, fun q hq => (by cases hq), fun y hy => by rw [show leastL a [] m = m from rfl] at h; rw [h] at hy; cases hy; exact lt_irr _⟩
  | p :: l, m, k, h => by
    obtain ⟨h1, h2, h3⟩ := least_some a l _ k h
    by_cases hc : (gtO a p.key && ltO p.key m) = true
    · rw [if_pos hc] at h1 h3
      rw [Bool.and_eq_true] at hc
      have hpk := h3 _ rfl
      refine ⟨?_, fun q hq hg => ?_, fun y hy => ?_⟩
      · rcases h1 with h1 | ⟨q, hq, e, g⟩
        · cases h1; exact .inr ⟨p, .head _, rfl, hc.1⟩
        · exact .inr ⟨q, .tail _ hq, e, g⟩
      · rcases List.mem_cons.1 hq with rfl | hq
        · exact hpk
        · exact h2 q hq hg
      · subst hy
        have hlt : Op.bytesLess p.key y = true := hc.2
        cases hq : Op.bytesLess y k with
        | false => rfl
        | true => rw [lt_tr hlt hq] at hpk; cases hpk
    · rw [if_neg hc] at h1 h3
      refine ⟨?_, fun q hq hg => ?_, h3⟩
      · rcases h1 with h1 | ⟨q, hq, e, g⟩
        · exact .inl h1
        · exact .inr ⟨q, .tail _ hq, e, g⟩
      · rcases List.mem_cons.1 hq with rfl | hq
        · have hn : ltO q.key m = false := by
            cases hx : ltO q.key m with
            | false => rfl
            | true => exact absurd (by rw [hg, hx]; rfl) hc
          cases m with
          | none => cases hn
          | some y =>
            have hn : Op.bytesLess q.key y = false := hn
            have h4 := h3 y rfl
            cases hx : Op.bytesLess q.key k with
            | false => rfl
            | true =>
              by_cases e : q.key = y
              · rw [e] at hx; rw [hx] at h4; cases h4
              · have := lt_tr (lt_tot hn e) hx
                rw [this] at h4; cases h4
        · exact h2 q hq hg
theorem gtO_tr {a : Option Tx} {k x : Tx} (h1 : gtO a k = true) (h2 : Op.bytesLess k x = true) : gtO a x = true := by
  cases a with
  | none => rfl
  | some y => exact lt_tr h1 h2
theorem cnt_lt {a : Option Tx} {l : List Pair} {k : Tx} (h : leastL a l none = some k) : cnt (some k) l < cnt a l := by
  have h1 := (least_some a l none k h).1
  rcases h1 with h1 | ⟨p, hp, rfl, hg⟩
  · cases h1
  have sub : ∀ q : Pair, gtO (some p.key) q.key = true → gtO a q.key = true := fun q hq => gtO_tr hg hq
  have irr : gtO (some p.key) p.key = false := lt_irr _
  unfold cnt
  clear h
  induction l with
  | nil => cases hp
  | cons q l ih =>
    have hle : ∀ l : List Pair, (l.filter fun r => gtO (some p.key) r.key).length ≤ (l.filter fun r => gtO a r.key).length := by
      intro l
      induction l with
      | nil => exact Nat.le_refl _
      | cons r l ih =>
        rw [List.filter_cons, List.filter_cons]
        by_cases hr : gtO (some p.key) r.key = true
        · rw [if_pos hr, if_pos (sub r hr), List.length_cons, List.length_cons]; omega
        · rw [if_neg hr]; split <;> (try rw [List.length_cons]) <;> omega
    rw [List.filter_cons, List.filter_cons]
    rcases List.mem_cons.1 hp with rfl | hp
    · rw [if_neg (by rw [irr]; simp), if_pos hg, List.length_cons]
      have := hle l
      omega
    · have hi := ih hp
      by_cases hr : gtO (some p.key) q.key = true
      · rw [if_pos hr, if_pos (sub q hr), List.length_cons, List.length_cons]; exact Nat.succ_lt_succ hi
      · rw [if_neg hr]
        split
        · rw [List.length_cons]; exact Nat.lt_succ_of_lt hi
        · exact hi
theorem okSt_mono {a : Option Tx} {k : Tx} (h : gtO a k = true) : ∀ {l : List Pair}, okSt (some k) l = true → okSt a l = true
  | [], _ => rfl
  | p :: l, h2 => by
    simp only [okSt, Bool.and_eq_true] at h2 ⊢
    exact ⟨⟨gtO_tr h h2.1.1, h2.1.2⟩, h2.2⟩
theorem lay_ok (l : List Pair) : ∀ (m : Nat) (a : Option Tx), okSt a (layF l m a) = true
  | 0, a => rfl
  | m + 1, a => by
    unfold layF
    cases h : leastL a l none with
    | none => rfl
    | some k =>
      have hg : gtO a k = true := by
        obtain ⟨h1, _, _⟩ := least_some a l none k h
        rcases h1 with h1 | ⟨p, hp, e, g⟩
        · cases h1
        · exact g
      have ih := lay_ok l m (some k)
      dsimp only
      split
      · exact okSt_mono hg ih
      · rename_i hv
        simp only [okSt, hg, ih, decide_eq_true hv, Bool.and_self]
theorem okSt_facts : ∀ (l : List Pair) (a : Option Tx), okSt a l = true → (∀ p ∈ l, gtO a p.key = true ∧ p.val ≠ []) ∧ l.Pairwise fun p q => Op.bytesLess p.key q.key = true
  | [], a, h => ⟨fun p hp => (by cases hp), .nil⟩
  | p :: l, a, h => by
    simp only [okSt, Bool.and_eq_true, decide_eq_true_eq] at h
    obtain ⟨i1, i2⟩ := okSt_facts l _ h.2
    refine ⟨fun q hq => ?_, .cons (fun q hq => (i1 q hq).1) i2⟩
    rcases List.mem_cons.1 hq with rfl | hq
    · exact h.1
    · exact ⟨gtO_tr h.1.1 (i1 q hq).1, (i1 q hq).2⟩
theorem last_app (l : List Pair) (p : Pair) (key : Tx) : lastL (l ++ [p]) key = if p.key = key then p.val else lastL l key := by
  unfold lastL; rw [List.foldl_append]; rfl
theorem last_skip (key : Tx) : ∀ (l : List Pair) (v : Tx), (∀ q ∈ l, q.key ≠ key) → l.foldl (fun v p => if p.key = key then p.val else v) v = v
  | [], v, h => rfl
  | q :: l, v, h => by rw [List.foldl_cons, if_neg (h q (.head _))]; exact last_skip key l v fun r hr => h r (.tail _ hr)
theorem last_mid (pre suf : List Pair) (p : Pair) (h : ∀ q ∈ suf, q.key ≠ p.key) : lastL (pre ++ p :: suf) p.key = p.val := by
  unfold lastL
  rw [List.foldl_append, List.foldl_cons, if_pos rfl, last_skip _ _ _ h]
theorem lay_same : ∀ (suf pre : List Pair) (a : Option Tx) (m : Nat), suf.length ≤ m → okSt a suf = true → (∀ q ∈ pre, gtO a q.key = false) → layF (pre ++ suf) m a = suf
  | [], pre, a, m, hm, ho, hp => by
    cases m with
    | zero => rfl
    | succ m =>
      unfold layF
      cases h : leastL a (pre ++ []) none with
      | none => rfl
      | some k =>
        obtain ⟨h1, _, _⟩ := least_some a _ none k h
        rcases h1 with h1 | ⟨q, hq, e, g⟩
        · cases h1
        · rw [List.append_nil] at hq
          have := hp q hq
          rw [e, g] at this; cases this
  | p :: suf, pre, a, m, hm, ho, hp => by
    obtain ⟨m, rfl⟩ : ∃ j, m = j + 1 := ⟨m - 1, by rw [List.length_cons] at hm; omega⟩
    have hf := okSt_facts _ _ ho
    have ho' := ho
    simp only [okSt, Bool.and_eq_true, decide_eq_true_eq] at ho'
    have hpw := hf.2
    rw [List.pairwise_cons] at hpw
    have hk : leastL a (pre ++ p :: suf) none = some p.key := by
      cases h : leastL a (pre ++ p :: suf) none with
      | none =>
        have := (least_none a _ none h).2 p (by simp)
        rw [ho'.1.1] at this; cases this
      | some k =>
        obtain ⟨h1, h2, _⟩ := least_some a _ none k h
        have hpk := h2 p (by simp) ho'.1.1
        rcases h1 with h1 | ⟨q, hq, rfl, g⟩
        · cases h1
        rcases List.mem_append.1 hq with hq | hq
        · have := hp q hq
          rw [g] at this; cases this
        · rcases List.mem_cons.1 hq with rfl | hq
          · rfl
          · rw [hpw.1 q hq] at hpk; cases hpk
    have hl : lastL (pre ++ p :: suf) p.key = p.val := last_mid pre suf p fun q hq e => by
      have := hpw.1 q hq
      rw [e, lt_irr] at this; cases this
    unfold layF
    rw [hk]
    dsimp only
    rw [hl, if_neg ho'.1.2]
    have hnext := lay_same suf (pre ++ [p]) (some p.key) m (by rw [List.length_cons] at hm; omega) ho'.2 fun q hq => by
      rcases List.mem_append.1 hq with hq | hq
      · have h1 := hp q hq
        cases hx : gtO (some p.key) q.key with
        | false => rfl
        | true => rw [gtO_tr ho'.1.1 hx] at h1; cases h1
      · rw [List.mem_singleton.1 hq]; exact lt_irr _
    rw [List.append_assoc, List.singleton_append] at hnext
    rw [hnext]
theorem lay_iff (l : List Pair) (m : Nat) (hm : l.length ≤ m) : decide (layF l m none = l) = okSt none l := by
  cases h : okSt none l with
  | true => exact decide_eq_true (lay_same l [] none m hm h fun q hq => by cases hq)
  | false =>
    refine decide_eq_false fun e => ?_
    have := lay_ok l m none
    rw [e, h] at this; cases this
theorem cnt_le (a : Option Tx) (l : List Pair) : cnt a l ≤ l.length := List.length_filter_le _ _
end Go.Proofs.YtilbahgfjfcikaaGreatDoor.Eng.U


/- Overlays: what both sides answer, in plain words. -/
set_option linter.unusedVariables false
set_option linter.unusedSectionVars false
set_option linter.unusedSimpArgs false
namespace Go.Proofs.YtilbahgfjfcikaaGreatDoor.Eng.U
open Go Go.Proofs Go.Proofs.YtilbahgfjfcikaaGreatDoor.Eng Go.Proofs.YtilbahgfjfcikaaGreatDoor.P04
variable {E : Ext} [Core E] [HasNum E] {k n : Nat}

theorem snoc_len (pre : List Pair) (p : Pair) : ((pre.length : Nat) : Int) + 1 = (((pre ++ [p]).length : Nat) : Int) := by simp
theorem str_tl (l : Tx) : ByteArray.toList (str l) = l := str_list l
theorem overRight_loop (kap : FuncId → List AV → Option AV) (hR : ∀ p : Pair, p.key.length ≤ 1000000 → p.val.length ≤ 1000000 → kap pax_Right [.agg [.str (str p.key), .str (str p.val)]] = some (.bool (pairOk p))) (suf : List Pair) :
    ∀ (pre : List Pair) (k0 : Nat), suf.length < k0 → (pre ++ suf).length < 1000000000 → (∀ p ∈ suf, p.key.length ≤ 1000000 ∧ p.val.length ≤ 1000000) →
    over_Right_L0 kap k k0 (prs (pre ++ suf)) (prs (pre ++ suf)) (((pre ++ suf).length : Nat) : Int) ((pre.length : Nat) : Int) = some (.bool (okSt (pre.getLast?.map (·.key)) suf && suf.all pairOk)) := by
  induction suf with
  | nil =>
    intro pre k0 h hb hs
    obtain ⟨m, rfl⟩ : ∃ m, k0 = m + 1 := ⟨k0 - 1, by simp only [List.length_nil] at h; omega⟩
    rw [over_Right_L0_s, bif_f (by simp)]
    rfl
  | cons p suf ih =>
    intro pre k0 h hb hs
    obtain ⟨m, rfl⟩ : ∃ m, k0 = m + 1 := ⟨k0 - 1, by simp only [List.length_cons] at h; omega⟩
    have h' : suf.length < m := by simp only [List.length_cons] at h; omega
    have hb' : pre.length + (suf.length + 1) < 1000000000 := by simp only [List.length_append, List.length_cons] at hb; exact hb
    obtain ⟨g1, g2⟩ := hs p (.head _)
    have ih' := ih (pre ++ [p]) m h' (by simp only [List.length_append, List.length_cons, List.length_nil]; omega) fun q hq => hs q (.tail _ hq)
    rw [List.append_assoc, List.singleton_append, ← snoc_len] at ih'
    rw [over_Right_L0_s, prs_len, mid_len, bif_t (by omega), bif_a, bif_t (by omega), bif_t (by omega), Int.toNat_natCast, prs_mid, cells_pair, p_0, p_1, hR p g1 g2, callB_ok, str_dec]
    rw [mid_len] at ih'
    simp only [okSt, List.all_cons]
    by_cases hv : p.val = []
    · rw [decide_eq_true hv, cond_true, decide_eq_false (by simp [hv])]
      simp
    rw [decide_eq_false hv, cond_false, decide_eq_true hv]
    cases hq : pairOk p with
    | false => simp
    | true =>
      rw [Bool.not_true, cond_false, i64w (by omega), i64w (by omega), ih', List.getLast?_append, List.getLast?_singleton]
      rcases snoc_pairs pre with rfl | ⟨l, q, rfl⟩
      · rw [bif_f (by simp)]
        simp [gtO]
      · have hl1 : (l ++ [q]).length = l.length + 1 := by simp
        rw [bif_t (by omega), bif_a, bif_t (by omega), bif_t (by omega)]
        have e : Int.toNat ((((l ++ [q]).length : Nat) : Int) - 1) = l.length := by simp
        rw [e, show l ++ [q] ++ p :: suf = l ++ q :: (p :: suf) by simp, prs_mid, cells_pair, p_0, str_tl, str_tl, List.getLast?_append, List.getLast?_singleton]
        show (bif !Op.bytesLess q.key p.key then _ else _) = some (AV.bool ((Op.bytesLess q.key p.key && true && okSt (some p.key) suf) && (true && suf.all pairOk)))
        cases Op.bytesLess q.key p.key <;> simp
def overOk (l : List Pair) : Bool := okSt none l && l.all pairOk
theorem overRight_k [HasTextV E] (l : List Pair) (hl : l.length ≤ 1000000) (hp : ∀ p ∈ l, p.key.length ≤ 1000000 ∧ p.val.length ≤ 1000000) (hk : 1000000 < k) : kp E k (n + 6) over_Right [.list 2 (prs l)] = some (.bool (overOk l)) := by
  have h := overRight_loop (k := k) (kp E k (n + 5)) (fun p h1 h2 => paxRight_k p h1 h2 hk) l [] k (by omega) (by simp; omega) hp
  rw [List.nil_append] at h
  rw [over_Right_eq, prs_len]
  exact h
theorem last_loop (kap : FuncId → List AV → Option AV) (l : List Pair) (key : Tx) (hl : l.length ≤ 1000000) : ∀ (i k0 : Nat), i < k0 → i ≤ l.length →
    ref08_Last_L0 kap k k0 (prs l) (str key) ((i : Int) - 1) = some (.tup [.str (str (lastL (l.take i) key)), .bool (decide (lastL (l.take i) key ≠ []))])
  | 0, k0 + 1, h, hi => by
    rw [ref08_Last_L0_s, bif_f (by omega)]
    rfl
  | i + 1, k0 + 1, h, hi => by
    have hlt : i < l.length := by omega
    have e : Int.toNat (((i + 1 : Nat) : Int) - 1) = i := by omega
    have et : l.take (i + 1) = l.take i ++ [l[i]] := by rw [List.take_succ_eq_append_getElem hlt]
    rw [ref08_Last_L0_s, prs_len, e, bif_t (by omega), bif_a, bif_t (by omega), bif_t (by omega), prs_at l i hlt, cells_pair, p_0, str_dec, et, last_app]
    by_cases hk : (l[i]).key = key
    · rw [decide_eq_true hk, cond_true, bif_a, bif_t (by omega), bif_t (by omega), prs_at l i hlt, cells_pair, p_1, bif_a, bif_t (by omega), bif_t (by omega), prs_at l i hlt, cells_pair, p_1, str_dec, if_pos hk, decide_not]
    · rw [decide_eq_false hk, cond_false, if_neg hk, i64w (by omega), show ((i + 1 : Nat) : Int) - 1 - 1 = (i : Int) - 1 by omega]
      exact last_loop kap l key hl i k0 (by omega) (by omega)
theorem last_k (l : List Pair) (key : Tx) (hl : l.length ≤ 1000000) (hk : l.length < k) : kp E k (n + 1) ref08_Last [.list 2 (prs l), .str (str key)] = some (.tup [.str (str (lastL l key)), .bool (decide (lastL l key ≠ []))]) := by
  rw [ref08_Last_eq, prs_len, i64w (by omega), last_loop (kp E k n) l key hl l.length k hk (Nat.le_refl _), List.take_length]
def kO (m : Option Tx) : Tx := m.getD []
theorem lay_in (kap : FuncId → List AV → Option AV) (all : List Pair) (a : Option Tx) (x6 : List AV) (R : Option AV) (r : Option Tx) (k0 : Nat)
    (hend : ∀ j, ref08_Lay_L1 kap k k0 (j + 1) (str (kO a)) a.isNone (str (kO r)) r.isSome ((all.length : Nat) : Int) (prs all) x6 = R) (suf : List Pair) :
    ∀ (pre : List Pair) (m : Option Tx) (k1 : Nat), all = pre ++ suf → suf.length < k1 → all.length ≤ 1000000 → leastL a suf m = r →
    ref08_Lay_L1 kap k k0 k1 (str (kO a)) a.isNone (str (kO m)) m.isSome ((pre.length : Nat) : Int) (prs all) x6 = R := by
  induction suf with
  | nil =>
    intro pre m k1 he h hb hr
    obtain ⟨j, rfl⟩ : ∃ m, k1 = m + 1 := ⟨k1 - 1, by simp only [List.length_nil] at h; omega⟩
    rw [List.append_nil] at he
    subst he
    have hr : m = r := hr
    subst hr
    exact hend j
  | cons p suf ih =>
    intro pre m k1 he h hb hr
    obtain ⟨j, rfl⟩ : ∃ m, k1 = m + 1 := ⟨k1 - 1, by simp only [List.length_cons] at h; omega⟩
    have h' : suf.length < j := by simp only [List.length_cons] at h; omega
    have hb' : pre.length + (suf.length + 1) ≤ 1000000 := by rw [he] at hb; simp only [List.length_append, List.length_cons] at hb; exact hb
    have he' : all = (pre ++ [p]) ++ suf := by rw [he]; simp
    rw [show leastL a (p :: suf) m = leastL a suf (if (gtO a p.key && ltO p.key m) = true then some p.key else m) from rfl] at hr
    have hi := ih (pre ++ [p]) _ j he' h' hb hr
    rw [← snoc_len] at hi
    rw [ref08_Lay_L1_s, prs_len, he, mid_len, bif_t (by omega), bif_a, bif_t (by omega), bif_t (by omega), Int.toNat_natCast, prs_mid, cells_pair, p_0, ← he, str_tl, str_tl, str_tl, i64w (by omega), str_dec, not_le]
    cases a with
    | none =>
      rw [show (none : Option Tx).isNone = true from rfl, cond_true]
      cases m with
      | none => exact hi
      | some y =>
        rw [show (some y : Option Tx).isSome = true from rfl, Bool.not_true, cond_false, show kO (some y) = y from rfl]
        have hs : (gtO none p.key && ltO p.key (some y)) = Op.bytesLess p.key y := rfl
        rw [hs] at hi
        cases hx : Op.bytesLess p.key y with
        | true => rw [hx] at hi; exact hi
        | false => rw [hx] at hi; exact hi
    | some x =>
      rw [show (some x : Option Tx).isNone = false from rfl, cond_false, show kO (some x) = x from rfl]
      have hg : gtO (some x) p.key = Op.bytesLess x p.key := rfl
      rw [hg] at hi
      cases hgx : Op.bytesLess x p.key with
      | false => rw [hgx] at hi; exact hi
      | true =>
        rw [hgx] at hi
        rw [cond_true]
        cases m with
        | none => exact hi
        | some y =>
          rw [show (some y : Option Tx).isSome = true from rfl, Bool.not_true, cond_false, show kO (some y) = y from rfl]
          have hs : (true && ltO p.key (some y)) = Op.bytesLess p.key y := rfl
          rw [hs] at hi
          cases hx : Op.bytesLess p.key y with
          | true => rw [hx] at hi; exact hi
          | false => rw [hx] at hi; exact hi
theorem lay_out (kap : FuncId → List AV → Option AV) (all : List Pair) (hb : all.length ≤ 1000000) (hk : all.length < k) (hL : ∀ key, kap ref08_Last [.list 2 (prs all), .str (str key)] = some (.tup [.str (str (lastL all key)), .bool (decide (lastL all key ≠ []))])) :
    ∀ (m : Nat) (a : Option Tx) (acc : List Pair) (k0 : Nat), cnt a all ≤ m → m < k0 → acc.length + m ≤ 2000000 →
    ref08_Lay_L0 kap k k0 (str (kO a)) a.isNone (prs all) (prs acc) = some (.list 2 (prs (acc ++ layF all m a)))
  | m, a, acc, k0, hc, hk0, ha => by
    obtain ⟨k0, rfl⟩ : ∃ j, k0 = j + 1 := ⟨k0 - 1, by omega⟩
    rw [ref08_Lay_L0_s]
    refine lay_in kap all a (prs acc) _ (leastL a all none) k0 (fun j => ?_) all [] none k (by simp) hk hb rfl
    rw [ref08_Lay_L1_s, prs_len, bif_f (by omega)]
    cases h : leastL a all none with
    | none =>
      rw [show (none : Option Tx).isSome = false from rfl, Bool.not_false, cond_true]
      have e : layF all m a = [] := by cases m with
        | zero => rfl
        | succ m => unfold layF; rw [h]
      rw [e, List.append_nil]
    | some key =>
      have hlt := cnt_lt h
      obtain ⟨m, rfl⟩ : ∃ j, m = j + 1 := ⟨m - 1, by omega⟩
      rw [show (some key : Option Tx).isSome = true from rfl, Bool.not_true, cond_false, show kO (some key) = key from rfl, hL key, callT_ok]
      unfold layF
      rw [h]
      dsimp only
      have hx : ∀ (s : ByteArray) (b : Bool) (K : ByteArray → Bool → Option AV), (tupS [.str s, .bool b] fun vs5 vt6 => tupB vt6 fun vq7 vt8 => atNil vt8 (K vs5 vq7)) = K s b := fun s b K => rfl
      rw [hx]
      by_cases hv : lastL all key = []
      · rw [if_pos hv, decide_eq_false (by simp [hv]), cond_false]
        exact lay_out kap all hb hk hL m (some key) acc k0 (by omega) (by omega) (by omega)
      · rw [if_neg hv, decide_eq_true hv, cond_true, prs_len, bif_a, bif_t (by omega), bif_t (by omega)]
        have e1 : prs acc ++ [AV.agg [.str (str key), .str (str (lastL all key))]] = prs (acc ++ [⟨key, lastL all key⟩]) := by unfold prs; rw [List.map_append]; rfl
        rw [e1]
        have := lay_out kap all hb hk hL m (some key) (acc ++ [⟨key, lastL all key⟩]) k0 (by omega) (by omega) (by simp only [List.length_append, List.length_cons, List.length_nil]; omega)
        rw [List.append_assoc, List.singleton_append] at this
        exact this
theorem refLay_k (l more : List Pair) (hb : (l ++ more).length ≤ 1000000) (hk : (l ++ more).length < k) : kp E k (n + 2) ref08_Lay [.list 2 (prs l), .list 2 (prs more)] = some (.list 2 (prs (layF (l ++ more) (l ++ more).length none))) := by
  have h := lay_out (k := k) (kp E k (n + 1)) (l ++ more) hb hk (fun key => last_k _ key hb hk) (l ++ more).length none [] k (cnt_le _ _) hk (by simp only [List.length_nil]; omega)
  rw [List.length_append] at hb
  rw [ref08_Lay_eq, prs_len, bif_a, bif_t (by omega), bif_t (by omega), List.nil_append, prs_len, prs_len, bif_a, bif_t (by omega), bif_t (by omega)]
  have e : prs l ++ prs more = prs (l ++ more) := by unfold prs; rw [List.map_append]
  rw [e]
  exact h
theorem same_loop (kap : FuncId → List AV → Option AV) (suf : List Pair) : ∀ (pre suf' pre' : List Pair) (k0 : Nat), suf.length < k0 → pre.length = pre'.length → suf.length = suf'.length → (pre ++ suf).length ≤ 1000000 →
    ref07_Same_L0 kap k k0 (prs (pre ++ suf)) (prs (pre' ++ suf')) ((pre.length : Nat) : Int) = some (.bool (decide (suf = suf'))) := by
  induction suf with
  | nil =>
    intro pre suf' pre' k0 h hp hs hb
    obtain ⟨m, rfl⟩ : ∃ m, k0 = m + 1 := ⟨k0 - 1, by simp only [List.length_nil] at h; omega⟩
    obtain rfl : suf' = [] := List.length_eq_zero_iff.1 hs.symm
    rw [ref07_Same_L0_s, prs_len, bif_f (by simp)]
    rfl
  | cons p suf ih =>
    intro pre suf' pre' k0 h hp hs hb
    obtain ⟨m, rfl⟩ : ∃ m, k0 = m + 1 := ⟨k0 - 1, by simp only [List.length_cons] at h; omega⟩
    cases suf' with
    | nil => cases hs
    | cons q suf' =>
      have h' : suf.length < m := by simp only [List.length_cons] at h; omega
      have hb' : pre.length + (suf.length + 1) ≤ 1000000 := by simp only [List.length_append, List.length_cons] at hb; exact hb
      have hs' : suf.length = suf'.length := by simp only [List.length_cons] at hs; omega
      have hi := ih (pre ++ [p]) suf' (pre' ++ [q]) m h' (by simp [hp]) hs' (by simp only [List.length_append, List.length_cons, List.length_nil]; omega)
      rw [← snoc_len, List.append_assoc, List.append_assoc, List.singleton_append, List.singleton_append] at hi
      have key : ∀ {β : Type} (F : AV → Option β), ((prs (pre' ++ q :: suf'))[pre.length]?).bind F = F (elPair q) := by
        intro β F; rw [hp, prs_mid]
      rw [ref07_Same_L0_s, prs_len, prs_len, mid_len, mid_len, bif_t (by omega), bif_a, bif_t (by omega), bif_t (by omega), Int.toNat_natCast, prs_mid, cells_pair, p_0, p_1, bif_a, bif_t (by omega), bif_t (by omega), key, cells_pair, p_0, p_1, str_dec, str_dec, i64w (by omega), hi]
      have e : decide (p :: suf = q :: suf') = ((decide (p.key = q.key) && (decide (p.val = q.val) && true)) && decide (suf = suf')) := by
        have e0 : (p :: suf = q :: suf') ↔ (p.key = q.key ∧ p.val = q.val) ∧ suf = suf' := by
          rw [List.cons.injEq]; cases p; cases q; simp
        have e1 : decide (p :: suf = q :: suf') = decide ((p.key = q.key ∧ p.val = q.val) ∧ suf = suf') := decide_eq_decide.2 e0
        rw [e1]
        by_cases a1 : p.key = q.key <;> by_cases a2 : p.val = q.val <;> by_cases a3 : suf = suf' <;> simp [a1, a2, a3]
      rw [e]
      cases decide (p.key = q.key) && (decide (p.val = q.val) && true) <;> rfl
theorem pSame_k (a b : List Pair) (ha : a.length ≤ 1000000) (hk : a.length < k) : kp E k (n + 1) ref07_Same [.list 2 (prs a), .list 2 (prs b)] = some (.bool (decide (a = b))) := by
  rw [ref07_Same_eq, prs_len, prs_len]
  by_cases h : a.length = b.length
  · rw [decide_eq_true (by omega), Bool.not_true, cond_false]
    have := same_loop (k := k) (kp E k n) a [] b [] k hk rfl h (by simpa using ha)
    exact this
  · rw [decide_eq_false (by omega), Bool.not_false, cond_true, decide_eq_false (fun e => h (by rw [e]))]
theorem refOver_loop (kap : FuncId → List AV → Option AV) (all : List Pair) (R : Bool) (hR : ∀ p : Pair, p.key.length ≤ 1000000 → p.val.length ≤ 1000000 → kap ref07_Right [.agg [.str (str p.key), .str (str p.val)]] = some (.bool (pairOk p)))
    (hend : ∀ j, ref08_Right_L0 kap k (j + 1) (prs all) ((all.length : Nat) : Int) = some (.bool R)) (suf : List Pair) :
    ∀ (pre : List Pair) (k0 : Nat), all = pre ++ suf → suf.length < k0 → all.length ≤ 1000000 → (∀ p ∈ suf, p.key.length ≤ 1000000 ∧ p.val.length ≤ 1000000) →
    ref08_Right_L0 kap k k0 (prs all) ((pre.length : Nat) : Int) = some (.bool (suf.all pairOk && R)) := by
  induction suf with
  | nil =>
    intro pre k0 he h hb hs
    obtain ⟨m, rfl⟩ : ∃ m, k0 = m + 1 := ⟨k0 - 1, by simp only [List.length_nil] at h; omega⟩
    rw [List.append_nil] at he
    subst he
    exact hend m
  | cons p suf ih =>
    intro pre k0 he h hb hs
    obtain ⟨m, rfl⟩ : ∃ m, k0 = m + 1 := ⟨k0 - 1, by simp only [List.length_cons] at h; omega⟩
    have h' : suf.length < m := by simp only [List.length_cons] at h; omega
    have hb' : pre.length + (suf.length + 1) ≤ 1000000 := by rw [he] at hb; simp only [List.length_append, List.length_cons] at hb; exact hb
    obtain ⟨g1, g2⟩ := hs p (.head _)
    have hi := ih (pre ++ [p]) m (by rw [he]; simp) h' hb fun q hq => hs q (.tail _ hq)
    rw [← snoc_len] at hi
    rw [ref08_Right_L0_s, prs_len, he, mid_len, bif_t (by omega), bif_a, bif_t (by omega), bif_t (by omega), Int.toNat_natCast, prs_mid, cells_pair, p_0, p_1, ← he, hR p g1 g2, callB_ok, i64w (by omega), hi, List.all_cons]
    cases pairOk p <;> rfl
theorem refOver_k (l : List Pair) (hl : l.length ≤ 100000) (hp : ∀ p ∈ l, p.key.length ≤ 1000000 ∧ p.val.length ≤ 1000000) (hk : 2000000 < k) : kp E k (n + 5) ref08_Right [.list 2 (prs l)] = some (.bool (overOk l)) := by
  have hend : ∀ j, ref08_Right_L0 (kp E k (n + 4)) k (j + 1) (prs l) ((l.length : Nat) : Int) = some (.bool (okSt none l)) := by
    intro j
    have hlay := refLay_k (E := E) (k := k) (n := n + 2) l [] (by simp; omega) (by simp; omega)
    rw [show prs [] = [] from rfl, List.append_nil] at hlay
    have hlen : (layF l l.length none).length ≤ 1000000 := by
      have : ∀ (m : Nat) (a : Option Tx), (layF l m a).length ≤ m := by
        intro m
        induction m with
        | zero => intro a; exact Nat.le_refl _
        | succ m ih =>
          intro a
          unfold layF
          split
          · simp
          · split
            · have := ih (some ‹Tx›); omega
            · rw [List.length_cons]; have := ih (some ‹Tx›); omega
      have := this l.length none
      omega
    rw [ref08_Right_L0_s, prs_len, bif_f (by omega), hlay, callL_ok, pSame_k _ l hlen (by
      have : ∀ (m : Nat) (a : Option Tx), (layF l m a).length ≤ m := by
        intro m
        induction m with
        | zero => intro a; exact Nat.le_refl _
        | succ m ih =>
          intro a
          unfold layF
          split
          · simp
          · split
            · have := ih (some ‹Tx›); omega
            · rw [List.length_cons]; have := ih (some ‹Tx›); omega
      have := this l.length none
      omega), callB_ok, lay_iff l _ (Nat.le_refl _)]
  have h := refOver_loop (k := k) (kp E k (n + 4)) l _ (fun p h1 h2 => refPair_k p h1 h2 hk) hend l [] k (by simp) (by omega) (by omega) hp
  rw [ref08_Right_eq]
  unfold overOk
  rw [Bool.and_comm]
  exact h
end Go.Proofs.YtilbahgfjfcikaaGreatDoor.Eng.U


/- Which field of a head is the first that isn't right: both sides. -/
set_option linter.unusedVariables false
set_option linter.unusedSectionVars false
set_option linter.unusedSimpArgs false
namespace Go.Proofs.YtilbahgfjfcikaaGreatDoor.Eng.U
open Go Go.Proofs Go.Proofs.YtilbahgfjfcikaaGreatDoor.Eng Go.Proofs.YtilbahgfjfcikaaGreatDoor.P04
variable {E : Ext} [Core E] [HasNum E] {k n k0 : Nat}

def nameOk (s : List UInt8) : Bool := decide (s ≠ []) && (decide (s.length ≤ 65536) && clean s)
def links (h : Head) : Bool := decide (h.kind = 2) || decide (h.kind = 3)
def f1 (h : Head) : Bool := decide (h.kind ≥ 1) && decide (h.kind ≤ 7)
def f2 (h : Head) : Bool := nameOk h.name && !(decide (h.kind = 1) && sl h.name)
def f3 (h : Head) : Bool := bif links h then nameOk h.link else decide (h.link = [])
def f4 (h : Head) : Bool := decide (h.mode ≥ 0)
def f5 (h : Head) : Bool := decide (h.uid ≥ 0)
def f6 (h : Head) : Bool := decide (h.gid ≥ 0)
def f7 (h : Head) : Bool := decide (h.size = 0) || (decide (h.size > 0) && decide (h.kind = 1))
def f8 (h : Head) : Bool := rightT h.nano
end Go.Proofs.YtilbahgfjfcikaaGreatDoor.Eng.U


/- Which field of a head is the first that isn't right: the reference's side. -/
set_option linter.unusedVariables false
set_option linter.unusedSectionVars false
set_option linter.unusedSimpArgs false
namespace Go.Proofs.YtilbahgfjfcikaaGreatDoor.Eng.U
open Go Go.Proofs Go.Proofs.YtilbahgfjfcikaaGreatDoor.Eng Go.Proofs.YtilbahgfjfcikaaGreatDoor.P04
variable {E : Ext} [Core E] [HasNum E] {k n k0 : Nat}

end Go.Proofs.YtilbahgfjfcikaaGreatDoor.Eng.U


/- Which field of a head is the first that isn't right: the reference's side. -/
set_option linter.unusedVariables false
set_option linter.unusedSectionVars false
set_option linter.unusedSimpArgs false
namespace Go.Proofs.YtilbahgfjfcikaaGreatDoor.Eng.U
open Go Go.Proofs Go.Proofs.YtilbahgfjfcikaaGreatDoor.Eng Go.Proofs.YtilbahgfjfcikaaGreatDoor.P04
variable {E : Ext} [Core E] [HasNum E] {k n k0 : Nat}

end Go.Proofs.YtilbahgfjfcikaaGreatDoor.Eng.U


/- Which field of a head is the first that isn't right: the reference's side. -/
set_option linter.unusedVariables false
set_option linter.unusedSectionVars false
set_option linter.unusedSimpArgs false
namespace Go.Proofs.YtilbahgfjfcikaaGreatDoor.Eng.U
open Go Go.Proofs Go.Proofs.YtilbahgfjfcikaaGreatDoor.Eng Go.Proofs.YtilbahgfjfcikaaGreatDoor.P04
variable {E : Ext} [Core E] [HasNum E] {k n k0 : Nat}

end Go.Proofs.YtilbahgfjfcikaaGreatDoor.Eng.U


/- ItemWrong in plain words: it answers true. -/
set_option linter.unusedVariables false
set_option linter.unusedSectionVars false
set_option linter.unusedSimpArgs false
namespace Go.Proofs.YtilbahgfjfcikaaGreatDoor.Eng.U
open Go Go.Proofs Go.Proofs.YtilbahgfjfcikaaGreatDoor.Eng Go.Proofs.YtilbahgfjfcikaaGreatDoor.P04
variable {E : Ext} [Core E] [HasNum E] {k n : Nat}

end Go.Proofs.YtilbahgfjfcikaaGreatDoor.Eng.U


/- ItemFulls over the library's pieces: strings.IndexAny at "=\\x00", decoding beside the numbers' own. -/
set_option linter.unusedVariables false
set_option linter.unusedSectionVars false
set_option linter.unusedSimpArgs false
namespace Go.Proofs.YtilbahgfjfcikaaGreatDoor.Eng.U
open Go Go.Proofs Go.Proofs.YtilbahgfjfcikaaGreatDoor.Eng Go.RowKit

/-- The tables of the decoder, off the variables. -/
theorem utf_tabs {S : Stab} {w : World} (hag : Agree S w) (hG : GlobOk glob S w) : Lib.Utf8Tabs 3 4 w := by
  refine ⟨fun c hc => ?_, fun i hi => ?_⟩
  · obtain ⟨u, hu, hv⟩ := glob_cell (g := 3) hag hG rfl c (.int .u8 (Lib.firstT c : Int)) (by rw [List.getElem?_map, List.getElem?_range hc]; rfl)
    rw [V_int hv] at hu
    exact hu
  · obtain ⟨u, hu, hv⟩ := glob_cell (g := 4) hag hG rfl (2 * i) (.int .u8 (Lib.accLo i : Int)) (by
      rw [List.getElem?_map, List.getElem?_range (by omega)]
      show some (AV.int .u8 (((if 2 * i % 2 = 0 then Lib.accLo (2 * i / 2) else Lib.accHi (2 * i / 2) : Nat) : Int))) = _
      rw [if_pos (by omega), show 2 * i / 2 = i from by omega])
    obtain ⟨u', hu', hv'⟩ := glob_cell (g := 4) hag hG rfl (2 * i + 1) (.int .u8 (Lib.accHi i : Int)) (by
      rw [List.getElem?_map, List.getElem?_range (by omega)]
      show some (AV.int .u8 (((if (2 * i + 1) % 2 = 0 then Lib.accLo ((2 * i + 1) / 2) else Lib.accHi ((2 * i + 1) / 2) : Nat) : Int))) = _
      rw [if_neg (by omega), show (2 * i + 1) / 2 = i from by omega])
    rw [V_int hv] at hu
    rw [V_int hv'] at hu'
    exact ⟨hu, hu'⟩
def pDec : Piece := { f := unicode_utf8_DecodeRuneInString, ans := fun args => match args with
  | [.str s] => some (.tup [.int .i32 (Lib.decodeGo s).1, .int .i64 (Lib.decodeGo s).2])
  | _ => none }
theorem dec_right : pDec.Right := by
  refine ⟨⟨Tryz.f137, Tryz.func137, by kernel_rfl, by kernel_rfl⟩, fun args res h => ?_⟩
  unfold pDec at h
  dsimp only at h
  split at h
  · rename_i s
    obtain rfl := Option.some.inj h
    refine ok_tup rfl fun S w vals hag hG hV => ?_
    obtain ⟨v, rfl, hv⟩ := VL_1 hV
    obtain rfl := V_str hv
    refine (Tryz.utf8_DecodeRuneInString s w (utf_tabs hag hG)).mono ?_
    rintro e w' ⟨rfl, hb⟩
    exact ⟨[_, _], rfl, rfl, fun S' => V2 (V.int _ _) (V.int _ _), hb⟩
  · cases h
def ps09a : List Piece := [pItoa, pCutP, pIndex, pIndexByte, pRepeat, pPInt, pPUint, pDec]
def ext09a : Ext := { extOf ps09a with fs := strings_IndexAny :: coreFs }
theorem good09b (k : Nat) : (bs (extOf ps09a) k).Good := good_of (fun p hp => by
  simp only [ps09a, List.mem_cons, List.not_mem_nil, or_false] at hp
  rcases hp with rfl | rfl | rfl | rfl | rfl | rfl | rfl | rfl
  · exact itoa_right
  · exact cutP_right
  · exact index_right
  · exact indexByte_right
  · exact repeat_right
  · exact pInt_right
  · exact pUint_right
  · exact dec_right) names_ok k
theorem good09a (k : Nat) : (bs ext09a k).Good := { mixed := by kernel_rfl, names := by kernel_rfl, base := (good09b k).base }
instance core09a : Core ext09a where
  isB f hf := (core_of (ps := ps09a) (by kernel_rfl)).isB f hf
  has f hf := by
    show (strings_IndexAny :: coreFs).contains f = true
    rw [List.contains_cons, hf, Bool.or_true]
instance ib09a : HasIB ext09a := ⟨fun k n s c => (kp_base (E := ext09a) (by kernel_rfl)).trans rfl⟩
noncomputable def pAny : Piece := { f := strings_IndexAny, ans := fun args => match args with
  | [.str s, .str c] => bif decide (c = str [61, 0]) && decide (s.size ≤ 1000000) then (bif decide (8 < s.size) then some (.int .i64 (Lib.indexAny s.data.toList [61, 0])) else (bs ext09a 100).kap 3 strings_IndexAny [.str s, .str c]) else none
  | _ => none }
theorem any_right : pAny.Right := by
  refine ⟨⟨Tryz.f93, Tryz.func93, by kernel_rfl, by kernel_rfl⟩, fun args res h => ?_⟩
  unfold pAny at h
  dsimp only at h
  split at h
  · rename_i s c
    obtain ⟨hc, h'⟩ := some_of_bif h
    clear h
    simp only [Bool.and_eq_true, decide_eq_true_eq] at hc
    obtain ⟨rfl, h1⟩ := hc
    by_cases h8 : 8 < s.size
    · rw [decide_eq_true h8, cond_true] at h'
      obtain rfl := Option.some.inj h'
      refine ok_pure ⟨rfl, rfl⟩ fun S w vals hag hG hV => ?_
      obtain ⟨v, u, rfl, hv, hu⟩ := VL_2 hV
      obtain rfl := V_str hv
      obtain rfl := V_str hu
      have h2 : ∀ (j : Nat) b, (str [61, 0]).data.toList[j]? = some b → b.toNat < 128 := by
        intro j b hb
        match j, hb with
        | 0, hb => cases hb; decide
        | 1, hb => cases hb; decide
        | j + 2, hb => simp [str] at hb
      refine (Tryz.strings_IndexAny_long (fun w => by kernel_rfl) s (str [61, 0]) w (by decide) h8 (by omega) (by decide) h2).mono ?_
      rintro e w' ⟨rfl, rfl⟩
      exact ⟨_, rfl, fun S' => V.int _ _, ((Below.refl _ _).alloc (Nat.le_refl _) _).alloc (by simp) _⟩
    · rw [decide_eq_false h8, cond_false] at h'
      exact Base.ok (good09a 100) h'
  · cases h
noncomputable def ps09 : List Piece := [pItoa, pCutP, pIndex, pIndexByte, pRepeat, pPInt, pPUint, pDec, pAny]
noncomputable def ext09 : Ext := extOf ps09
instance core09 : Core ext09 := core_of (by kernel_rfl)
instance num09 : HasNum ext09 := num_of rfl rfl rfl rfl rfl rfl rfl
instance text09 : HasText ext09 where
  dec k n s := ⟨_, _, (kp_piece (ps := ps09) (p := pDec) (k := k) (n := n) (args := [.str (str s)]) rfl).trans rfl⟩
  idx k n s hs := by
    have h := kp_piece (ps := ps09) (p := pAny) (k := k) (n := n) (args := [.str (str s), .str (str [61, 0])]) rfl
    have e : pAny.ans [.str (str s), .str (str [61, 0])] = (bif decide (str [61, 0] = str [61, 0]) && decide ((str s).size ≤ 1000000) then (bif decide (8 < (str s).size) then some (.int .i64 (Lib.indexAny (str s).data.toList [61, 0])) else (bs ext09a 100).kap 3 strings_IndexAny [.str (str s), .str (str [61, 0])]) else none) := rfl
    rw [e, str_size, decide_eq_true rfl, decide_eq_true hs, Bool.true_and, cond_true] at h
    by_cases h8 : 8 < s.length
    · rw [decide_eq_true h8, cond_true] at h
      exact ⟨_, h⟩
    · rw [decide_eq_false h8, cond_false] at h
      obtain ⟨r, hr⟩ := any_short (E := ext09a) (k := 100) (n := 0) (by kernel_rfl) (by kernel_rfl) (by omega) s (by omega)
      exact ⟨r, h.trans hr⟩
theorem good09 (k : Nat) : (bs ext09 k).Good := good_of (fun p hp => by
  simp only [ps09, List.mem_cons, List.not_mem_nil, or_false] at hp
  rcases hp with rfl | rfl | rfl | rfl | rfl | rfl | rfl | rfl | rfl
  · exact itoa_right
  · exact cutP_right
  · exact index_right
  · exact indexByte_right
  · exact repeat_right
  · exact pInt_right
  · exact pUint_right
  · exact dec_right
  · exact any_right) names_ok k
instance textV09 : HasTextV ext09 where
  dec k n s := (kp_piece (ps := ps09) (p := pDec) (k := k) (n := n) (args := [.str s]) rfl).trans rfl
  idx k n s hs := by
    have h := kp_piece (ps := ps09) (p := pAny) (k := k) (n := n) (args := [.str (str s), .str (str [61, 0])]) rfl
    have e : pAny.ans [.str (str s), .str (str [61, 0])] = (bif decide (str [61, 0] = str [61, 0]) && decide ((str s).size ≤ 1000000) then (bif decide (8 < (str s).size) then some (.int .i64 (Lib.indexAny (str s).data.toList [61, 0])) else (bs ext09a 100).kap 3 strings_IndexAny [.str (str s), .str (str [61, 0])]) else none) := rfl
    rw [e, str_size, decide_eq_true rfl, decide_eq_true hs, Bool.true_and, cond_true] at h
    by_cases h8 : 8 < s.length
    · rw [decide_eq_true h8, cond_true] at h
      exact ⟨_, h, any_long_v s⟩
    · rw [decide_eq_false h8, cond_false] at h
      obtain ⟨r, hr, hv⟩ := any_short_v (E := ext09a) (k := 100) (n := 0) (by kernel_rfl) (by kernel_rfl) (by omega) s (by omega)
      exact ⟨r, h.trans hr, hv⟩
end Go.Proofs.YtilbahgfjfcikaaGreatDoor.Eng.U


/- pax.Print as a given function: the lines of the pairs, a new row. -/
set_option linter.unusedVariables false
set_option linter.unusedSectionVars false
set_option linter.unusedSimpArgs false
namespace Go.Proofs.YtilbahgfjfcikaaGreatDoor.Eng.U
open Go Go.RowKit Go.Proofs Go.Proofs.YtilbahgfjfcikaaGreatDoor.Eng Go.Proofs.YtilbahgfjfcikaaGreatDoor.Eng.Rdv

def toPrs : List AV → Option (List Pair)
  | [] => some []
  | .agg [.str x, .str y] :: l => (toPrs l).map fun r => ⟨x.data.toList, y.data.toList⟩ :: r
  | _ => none
theorem toPrs_prs : ∀ l : List Pair, toPrs (prs l) = some l
  | [] => rfl
  | p :: l => by
    show (toPrs (prs l)).map (fun r => (⟨(str p.key).data.toList, (str p.val).data.toList⟩ : Pair) :: r) = _
    rw [toPrs_prs l]; rfl
theorem toPrs_some : ∀ {xs : List AV} {l : List Pair}, toPrs xs = some l → xs = prs l
  | [], l, h => by cases h; rfl
  | x :: xs, l, h => by
    unfold toPrs at h
    split at h
    · rename_i e; cases e
    · rename_i a b l' e
      cases e
      obtain ⟨r, hr, he⟩ := Option.map_eq_some_iff.1 h
      cases he
      rw [toPrs_some hr]
      have : ∀ s : ByteArray, str s.data.toList = s := str_self
      show AV.agg [.str a, .str b] :: prs r = AV.agg [.str (str a.data.toList), .str (str b.data.toList)] :: prs r
      rw [this, this]
    · cases h
def okP (l : List Pair) : Bool := decide (l.length ≤ 1000) && l.all fun p => decide (p.key.length ≤ 1000000) && decide (p.val.length ≤ 1000000)
def txtP (p : Pair) : ByteArray := str (Lib.decDigits (lenP p))
def linesL (l : List Pair) : List UInt8 := linesOf txtP l
noncomputable def pPrint : Piece := { f := pax_Print, ans := fun args => match args with
  | [.list 2 xs] => (toPrs xs).bind fun l => bif okP l then some (bif l.all pairOk then .tup [.list 1 (bys (linesL l)), .int .u8 0] else .tup [.list 1 [], .int .u8 15]) else none
  | _ => none }
theorem ok_rowint {f : FuncId} {args : List AV} {e : TypeId} {sz : Nat} {xs : List AV} {kk : IntKind} {z : Int} (h : ∀ (S : Stab) (w : World) (vals : List Value), Agree S w → GlobOk glob S w → VL S args vals → Calls Tryz.prog f vals.toArray w fun en w' => ∃ v us, en = .returned (.tuple #[v, .int kk z]) ∧ w'.ownsRow w.heap.size e sz v xs.length us ∧
      (∀ (i : Nat) (x : AV), xs[i]? = some x → x.cells.length = sz ∧ ∀ (j : Nat) (c : AV), x.cells[j]? = some c → c.leaf = true ∧ ∀ u, us[i * sz + j]? = some u → V S c u) ∧ Below w.heap.size w w') (hr : (args.all fun c => !c.isRes) = true := by rfl) : Ok Tryz.prog glob f args (.tup [.list sz xs, .int kk z]) := by
  refine Ok.of_plain (fun c hc => by simpa using List.all_eq_true.1 hr c hc) fun S w vals hag hG hV => ?_
  refine (h S w vals hag hG hV).mono ?_
  rintro en w' ⟨v, us, rfl, hown, hels, hb⟩
  obtain ⟨S', h1, h2, h3, h4⟩ := row_V (agree_below hag hb) hown hels
  refine ⟨_, S', rfl, h1, h2, h3, hb, [v, .int kk z], rfl, rfl, fun j c u hc hu => ?_, fun i j c d u v g hc hd hf => ?_⟩
  · match j, hc, hu with
    | 0, hc, hu => cases hc; cases hu; exact h4
    | 1, hc, hu => cases hc; cases hu; exact V.int _ _
  · match i, hc with
    | 0, hc => cases hc; cases hf
    | 1, hc => cases hc; cases hf
theorem list_inv {S : Stab} {sz : Nat} {xs : List AV} {v : Value} (h : V S (.list sz xs) v) : ∃ (ao : Option Addr) (cap : Nat), v = .slice ao xs.length cap ∧ ∀ (i : Nat) (x : AV), xs[i]? = some x → ∃ (a : Addr) (f : Nat → Value), ao = some a ∧ ∀ (j : Nat) (c : AV), x.cells[j]? = some c → S (a.add (i * sz + j)) = some (f j) ∧ V S c (f j) := by
  cases h with
  | list0 a b c => exact ⟨some _, _, rfl, fun i x h => by simp at h⟩
  | listn a => exact ⟨none, 0, rfl, fun i x h => by simp at h⟩
  | list a b ad cap f h0 h1 h2 h3 h4 => exact ⟨some ad, cap, rfl, fun i x hx => ⟨ad, f i, rfl, fun j c hc => ⟨h3 i x j c hx hc, h4 i x j c hx hc⟩⟩⟩
theorem lines_le : ∀ l : List Pair, (∀ p ∈ l, p.key.length ≤ 1000000 ∧ p.val.length ≤ 1000000) → (linesOf txtP l).length ≤ l.length * 3000000
  | [], _ => by simp [linesOf]
  | p :: l, h => by
    have hp := h p (.head _)
    have ih := lines_le l fun q hq => h q (.tail _ hq)
    have := lenP_facts p hp.1 hp.2
    have hr : restP p = p.key.length + p.val.length + 3 := rfl
    have hd := dl_le (lenP p) (by omega)
    have e : (Lib.decDigits (lenP p)).length = dl (lenP p) := rfl
    have e2 : linesOf txtP (p :: l) = (lineOf (txtP p) p.key p.val).data.toList ++ linesOf txtP l := rfl
    rw [e2, List.length_append, size_toList, List.length_cons]
    have e3 : (lineOf (txtP p) p.key p.val).size = dl (lenP p) + 1 + p.key.length + 1 + p.val.length + 1 := by
      unfold lineOf txtP
      rw [ByteArray.size_append, ByteArray.size_append, ByteArray.size_append, ByteArray.size_append, ByteArray.size_append, str_size, str_size, str_size, str_size, str_size, str_size]
      rfl
    omega
theorem print_right : pPrint.Right := by
  refine ⟨⟨Tryz.f19, Tryz.func19, by kernel_rfl, by kernel_rfl⟩, fun args res h => ?_⟩
  unfold pPrint at h
  dsimp only at h
  split at h
  · rename_i xs
    obtain ⟨l, hl, h2⟩ := Option.bind_eq_some_iff.1 h
    clear h
    obtain rfl := toPrs_some hl
    obtain ⟨hok, h3⟩ := some_of_bif h2
    clear h2
    obtain rfl := Option.some.inj h3
    clear h3
    unfold okP at hok
    rw [Bool.and_eq_true, decide_eq_true_eq, List.all_eq_true] at hok
    obtain ⟨hl1, hb⟩ := hok
    have hb : ∀ p ∈ l, p.key.length ≤ 1000000 ∧ p.val.length ≤ 1000000 := fun p hp => by have := hb p hp; simpa using this
    have hB : (bs ext09 2000000).Good := good09 2000000
    have key : ∀ (S : Stab) (w : World) (vals : List Value), Agree S w → GlobOk glob S w → VL S [.list 2 (prs l)] vals → Calls Tryz.prog 19 vals.toArray w fun e w' => Below w.heap.size w w' ∧
      ((l.all pairOk = true ∧ ∃ r, e = .returned (.tuple #[r, .int .u8 0]) ∧ w'.ownsRow w.heap.size 5 1 r (linesL l).length (Lib.byteCells (linesL l))) ∨ (l.all pairOk = false ∧ e = .returned (.tuple #[.slice none 0 0, .int .u8 15]))) := by
      intro S w vals hag hG hV
      obtain ⟨v, rfl, hv⟩ := VL_1 hV
      obtain ⟨ao, cap, rfl, hel⟩ := list_inv hv
      rw [prs_len]
      refine print_walk (E := ext09) (k := 2000000) (n := 5) hB txtP (fun p => (lenP p : Nat)) l ao cap w (by omega) (fun g cs hg => by
        obtain ⟨h1, h2⟩ := hG g cs hg
        exact ⟨h1.mono fun x v hx => hag x v hx, h2⟩) (fun p hp => ⟨(hb p hp).1, (hb p hp).2, by
          have := lenP_facts p (hb p hp).1 (hb p hp).2
          have hd := dl_le (lenP p) (by have : restP p = p.key.length + p.val.length + 3 := rfl; have := hb p hp; omega)
          show (str (Lib.decDigits (lenP p))).size ≤ 1000
          rw [str_size]
          have e : (Lib.decDigits (lenP p)).length = dl (lenP p) := rfl
          omega⟩) (fun i => ?_) (fun p hp => paxLen_k p (hb p hp).1 (hb p hp).2 (by omega)) (fun p hp => by
          have := lenP_facts p (hb p hp).1 (hb p hp).2
          have : restP p = p.key.length + p.val.length + 3 := rfl
          have := hb p hp
          rw [HasNum.itoa 2000000 5 _ (by omega) (by omega), itoa_nat]; rfl) (fun p hp => paxRight_k (n := 0) p (hb p hp).1 (hb p hp).2 (by omega)) (fun i p hp => ?_)
      · have := lines_le (l.take i) fun p hp => hb p (List.mem_of_mem_take hp)
        have h3 : (l.take i).length ≤ 1000 := by rw [List.length_take]; omega
        omega
      · obtain ⟨a, f, ha, hc⟩ := hel i (elPair p) (by unfold prs; rw [List.getElem?_map, hp]; rfl)
        obtain ⟨c0, d0⟩ := hc 0 (.str (str p.key)) rfl
        obtain ⟨c1, d1⟩ := hc 1 (.str (str p.val)) rfl
        rw [V_str d0] at c0
        rw [V_str d1] at c1
        exact ⟨a, ha, hag _ _ c0, hag _ _ c1⟩
    cases hall : l.all pairOk with
    | true =>
      rw [cond_true]
      refine ok_rowint (e := 5) fun S w vals hag hG hV => (key S w vals hag hG hV).mono ?_
      rintro e w' ⟨hb', ⟨_, r, rfl, hown⟩ | ⟨hf, _⟩⟩
      · refine ⟨r, _, rfl, by rw [bys_len]; exact hown, fun i x hx => ?_, hb'⟩
        unfold bys at hx
        rw [List.getElem?_map] at hx
        obtain ⟨b, hb2, rfl⟩ := Option.map_eq_some_iff.1 hx
        refine ⟨rfl, fun j c hc => ?_⟩
        match j, hc with
        | 0, hc =>
          cases hc
          refine ⟨rfl, fun u hu => ?_⟩
          rw [show i * 1 + 0 = i by omega] at hu
          unfold Lib.byteCells at hu
          rw [List.getElem?_map, hb2] at hu
          cases hu
          exact V.int _ _
      · rw [hall] at hf; cases hf
    | false =>
      rw [cond_false]
      refine ok_rowint (e := 5) (sz := 1) (xs := []) fun S w vals hag hG hV => (key S w vals hag hG hV).mono ?_
      rintro e w' ⟨hb', ⟨ht, _⟩ | ⟨_, rfl⟩⟩
      · rw [hall] at ht; cases ht
      · exact ⟨_, [], rfl, World.ownsRow_nil _ _ _ _, fun i x hx => by simp at hx, hb'⟩
  · cases h
end Go.Proofs.YtilbahgfjfcikaaGreatDoor.Eng.U


/- The library's functions and pax.Print, given together. -/
set_option linter.unusedVariables false
set_option linter.unusedSectionVars false
set_option linter.unusedSimpArgs false
namespace Go.Proofs.YtilbahgfjfcikaaGreatDoor.Eng.U
open Go Go.RowKit Go.Proofs Go.Proofs.YtilbahgfjfcikaaGreatDoor.Eng

class HasPrint (E : Ext) : Prop where
  print : ∀ (k n : Nat) (l : List Pair), okP l = true → kp E k n pax_Print [.list 2 (prs l)] = some (bif l.all pairOk then .tup [.list 1 (bys (linesL l)), .int .u8 0] else .tup [.list 1 [], .int .u8 15])
noncomputable def ps07 : List Piece := [pItoa, pCutP, pIndex, pIndexByte, pRepeat, pPInt, pPUint, pDec, pAny, pPrint]
noncomputable def ext07 : Ext := extOf ps07
instance core07 : Core ext07 := core_of (by kernel_rfl)
instance num07 : HasNum ext07 := num_of rfl rfl rfl rfl rfl rfl rfl
instance text07 : HasText ext07 where
  dec k n s := ⟨_, _, (kp_piece (ps := ps07) (p := pDec) (k := k) (n := n) (args := [.str (str s)]) rfl).trans rfl⟩
  idx k n s hs := by
    have h := kp_piece (ps := ps07) (p := pAny) (k := k) (n := n) (args := [.str (str s), .str (str [61, 0])]) rfl
    have e : pAny.ans [.str (str s), .str (str [61, 0])] = (bif decide (str [61, 0] = str [61, 0]) && decide ((str s).size ≤ 1000000) then (bif decide (8 < (str s).size) then some (.int .i64 (Lib.indexAny (str s).data.toList [61, 0])) else (bs ext09a 100).kap 3 strings_IndexAny [.str (str s), .str (str [61, 0])]) else none) := rfl
    rw [e, str_size, decide_eq_true rfl, decide_eq_true hs, Bool.true_and, cond_true] at h
    by_cases h8 : 8 < s.length
    · rw [decide_eq_true h8, cond_true] at h
      exact ⟨_, h⟩
    · rw [decide_eq_false h8, cond_false] at h
      obtain ⟨r, hr⟩ := any_short (E := ext09a) (k := 100) (n := 0) (by kernel_rfl) (by kernel_rfl) (by omega) s (by omega)
      exact ⟨r, h.trans hr⟩
instance textV07 : HasTextV ext07 where
  dec k n s := (kp_piece (ps := ps07) (p := pDec) (k := k) (n := n) (args := [.str s]) rfl).trans rfl
  idx k n s hs := by
    have h := kp_piece (ps := ps07) (p := pAny) (k := k) (n := n) (args := [.str (str s), .str (str [61, 0])]) rfl
    have e : pAny.ans [.str (str s), .str (str [61, 0])] = (bif decide (str [61, 0] = str [61, 0]) && decide ((str s).size ≤ 1000000) then (bif decide (8 < (str s).size) then some (.int .i64 (Lib.indexAny (str s).data.toList [61, 0])) else (bs ext09a 100).kap 3 strings_IndexAny [.str (str s), .str (str [61, 0])]) else none) := rfl
    rw [e, str_size, decide_eq_true rfl, decide_eq_true hs, Bool.true_and, cond_true] at h
    by_cases h8 : 8 < s.length
    · rw [decide_eq_true h8, cond_true] at h
      exact ⟨_, h, any_long_v s⟩
    · rw [decide_eq_false h8, cond_false] at h
      obtain ⟨r, hr, hv⟩ := any_short_v (E := ext09a) (k := 100) (n := 0) (by kernel_rfl) (by kernel_rfl) (by omega) s (by omega)
      exact ⟨r, h.trans hr, hv⟩
instance print07 : HasPrint ext07 where
  print k n l hl := by
    have h := kp_piece (ps := ps07) (p := pPrint) (k := k) (n := n) (args := [.list 2 (prs l)]) rfl
    have e : pPrint.ans [.list 2 (prs l)] = (toPrs (prs l)).bind fun l => bif okP l then some (bif l.all pairOk then .tup [.list 1 (bys (linesL l)), .int .u8 0] else .tup [.list 1 [], .int .u8 15]) else none := rfl
    rw [e, toPrs_prs, Option.bind_some, hl, cond_true] at h
    exact h
end Go.Proofs.YtilbahgfjfcikaaGreatDoor.Eng.U


/- slices.Insert and slices.Delete at pairs, walked: after the kit's walk of Insert at one cell. -/
set_option linter.unusedVariables false
set_option linter.unusedSimpArgs false
set_option linter.unusedSectionVars false
namespace Go.Proofs.YtilbahgfjfcikaaGreatDoor.S08
open Go Go.RowKit Go.Shelf Go.Lib Go.Proofs Go.Proofs.YtilbahgfjfcikaaGreatDoor.Eng Go.Proofs.YtilbahgfjfcikaaGreatDoor.Eng.U Go.Proofs

theorem infoP : (Tryz.prog.info? 42).map (fun i => (i.zero, i.size, i.bytes)) = some (some (.agg #[.string ⟨#[]⟩, .string ⟨#[]⟩]), 2, 32) := by kernel_rfl
section
variable {P : Program}
/-- copy, at elements of any size. -/
theorem run_copy_sz (w : World) (dT sT ty elem : TypeId) (sz : Nat) (b o dLen dCap : Nat) (a : Addr) (sLen sCap : Nat) (cs : List Value)
    (hu : P.underlying dT = some (.slice elem)) (hs : (P.info? elem).map (·.size) = some sz) (hn : cs.length = Nat.min sLen dLen * sz)
    (hsrc : ∀ j v, cs[j]? = some v → w.cell? (a.add j) = some v) (hc : ∀ j, j < cs.length → (w.cell? ⟨b, o + j, none⟩).isSome = true) (hf : ∀ j, j < cs.length → w.frozen? ⟨b, o + j, none⟩ = false) (h1 : ∀ v ∈ cs, v.oneCell' = true) :
    (Builtin.copy_ #[dT, sT] ty #[.slice (some ⟨b, o, none⟩) dLen dCap, .slice (some a) sLen sCap]).run P w = .ok (goInt (Nat.min sLen dLen)) (w.setCells b o cs) := by
  have hl := run_loadCells_list (P := P) w a cs hsrc
  have hst := run_storeCells_cells (P := P) b o cs 0 w (by simpa using hc) (by simpa using hf) h1
  cases hq : P.info? elem with
  | none => simp [hq] at hs
  | some i =>
    have hi : i.size = sz := by simpa [hq] using hs
    simp [Builtin.copy_, run_underlying hu, Builtin.lenOf, Builtin.firstCells, sizeOf, typeInfo, hq, hi, ← hn, hl, hst]
theorem setCells_frame (b : Nat) : ∀ (vs : List Value) (o : Nat) (w : World), (w.setCells b o vs).os = w.os ∧ (w.setCells b o vs).tape = w.tape ∧ (w.setCells b o vs).output = w.output ∧ (w.setCells b o vs).heap.size = w.heap.size ∧ (∀ k, k ≠ b → (w.setCells b o vs).heap[k]? = w.heap[k]?)
  | [], o, w => ⟨rfl, rfl, rfl, rfl, fun _ _ => rfl⟩
  | v :: r, o, w => by
    obtain ⟨h1, h2, h3, h4, h5⟩ := setCells_frame b r (o + 1) (w.setCell ⟨b, o, none⟩ v)
    have e : w.setCells b o (v :: r) = (w.setCell ⟨b, o, none⟩ v).setCells b (o + 1) r := rfl
    rw [e]
    have hsz : (w.setCell ⟨b, o, none⟩ v).heap.size = w.heap.size := by unfold World.setCell; split <;> simp
    refine ⟨h1.trans ?_, h2.trans ?_, h3.trans ?_, h4.trans hsz, fun k hk => (h5 k hk).trans ?_⟩
    · unfold World.setCell; split <;> rfl
    · unfold World.setCell; split <;> rfl
    · unfold World.setCell; split <;> rfl
    · unfold World.setCell
      split <;> simp [Array.getElem?_modify, Ne.symm hk]
theorem setCells_row (b : Nat) (t : TypeId) : ∀ (vs : List Value) (o : Nat) (w : World) (cur : Array Value), w.heap[b]? = some (.cells cur t (0, 0)) → o + vs.length ≤ cur.size →
    (w.setCells b o vs).heap[b]? = some (.cells (cur.toList.take o ++ vs ++ cur.toList.drop (o + vs.length)).toArray t (0, 0))
  | [], o, w, cur, h, hl => by
    rw [show w.setCells b o [] = w from rfl, h]
    simp
  | v :: r, o, w, cur, h, hl => by
    have e : w.setCells b o (v :: r) = (w.setCell ⟨b, o, none⟩ v).setCells b (o + 1) r := rfl
    simp only [List.length_cons] at hl
    have hs : (w.setCell ⟨b, o, none⟩ v).heap[b]? = some (.cells (cur.setIfInBounds o v) t (0, 0)) := by
      rw [setCell_eq_setRow w b o cur t (0, 0) v h]
      exact setRow_heap w b cur _ t _ h
    rw [e, setCells_row b t r (o + 1) _ _ hs (by simp; omega)]
    have e2 := list_seg_step cur.toList o v r (by simp; omega)
    congr 3
    simpa [Array.toList_setIfInBounds, Nat.add_assoc, Nat.add_comm, Nat.add_left_comm] using e2
end
set_option maxHeartbeats 4000000 in
set_option maxRecDepth 1000000 in
/-- There is room, i < len(s): in place. -/
theorem insert_shift (b n c i vb vc : Nat) (cs vs : List Value) (w : World) (hi : i < n) (hroom : n + 1 ≤ c) (hc63 : c ≤ 9223372036854775807) (hvb : vb ≠ b)
    (hcl : cs.length = n * 2) (hvl : vs.length = 2)
    (hcs : ∀ j v, cs[j]? = some v → w.cell? ⟨b, j, none⟩ = some v) (hsp : ∀ j, j < (n + 1) * 2 → (w.cell? ⟨b, j, none⟩).isSome = true) (hfz : ∀ j, j < (n + 1) * 2 → w.frozen? ⟨b, j, none⟩ = false)
    (hvs : ∀ j v, vs[j]? = some v → w.cell? ⟨vb, j, none⟩ = some v) (h1c : ∀ v ∈ cs, v.oneCell' = true) (h1v : ∀ v ∈ vs, v.oneCell' = true)
    (tA tB : TypeId) (kA kB : Nat) (hsa : w.shape? vb = some (tA, kA)) (hsb : w.shape? b = some (tB, kB)) (hkB : kB ≠ 0) (hfa : w.frozen? ⟨vb, 0, none⟩ = false) (hfe : w.frozen? ⟨vb, kA, none⟩ = false) :
    Calls Tryz.prog 129 #[.slice (some ⟨b, 0, none⟩) n c, .int .i64 i, .slice (some ⟨vb, 0, none⟩) 1 vc] w fun e w' =>
      e = .returned (.slice (some ⟨b, 0, none⟩) (n + 1) c) ∧ w' = (w.drew.setCells b ((i + 1) * 2) (cs.drop (i * 2))).setCells b (i * 2) vs := by
  have mixed : Tryz.prog.follows .mixedOrders = true := by kernel_rfl
  have hz2 : ¬ ((i : Int) = (n : Int)) := by omega
  have hsz : (Tryz.prog.info? 42).map (·.size) = some 2 := by kernel_rfl
  have z2 : ∀ w, (Go.sizeOf 42).run Tryz.prog w = .ok 2 w := fun w => by
    obtain ⟨i0, hi, _, hz1, _⟩ := info_parts infoP
    simp [Go.sizeOf, typeInfo, hi, hz1]
  have hov : ∀ lb cb, (callFunc 155 #[.slice (some ⟨vb, 0, none⟩) 1 vc, .slice (some ⟨b, (i + 1) * 2, none⟩) lb cb]).run Tryz.prog w = .ok (.value (.bool false)) w := fun lb cb => by
    rw [run_callFunc_extern Tryz.func155 (by kernel_rfl) (by kernel_rfl) (by kernel_rfl) (e := Extern.SlicesOverlaps.overlaps #[24, 24] #[4]) (by kernel_rfl),
      Lib.run_overlaps_apart w 24 4 42 Tryz.underlying24 2 z2 ⟨vb, 0, none⟩ ⟨b, (i + 1) * 2, none⟩ 1 vc lb cb hvb tA tB kA kB hsa hsb hkB hfa hfe]
    rfl
  have hdl : (cs.drop (i * 2)).length = (n - i) * 2 := by rw [List.length_drop, hcl]; omega
  have hw1 : IntKind.i64.wrap ((i : Int) + 1) = (i : Int) + 1 := by rw [IntKind.wrap_i64]; omega
  have hw2 : IntKind.i64.wrap ((n : Int) + 1) = (n : Int) + 1 := by rw [IntKind.wrap_i64]; omega
  have hin : i ≤ n := by omega
  have hb1 : (0 : Int) ≤ (i : Int) + 1 := by omega
  have hb3 : (i : Int) ≤ (n : Int) + 1 := by omega
  have htn : ((i : Int) + 1).toNat = i + 1 := by omega
  have hb2 : ¬ (c = i + 1) := by omega
  have hb4 : ¬ (c = i) := by omega
  have hcp1 : ∀ ty dc sc, (Builtin.copy_ #[24, 24] ty #[.slice (some ⟨b, (i + 1) * 2, none⟩) (n - i) dc, .slice (some ⟨b, i * 2, none⟩) (n + 1 - i) sc]).run Tryz.prog w.drew = .ok (goInt (Nat.min (n + 1 - i) (n - i))) (w.drew.setCells b ((i + 1) * 2) (cs.drop (i * 2))) := fun ty dc sc =>
    run_copy_sz w.drew _ _ ty 42 2 b ((i + 1) * 2) (n - i) dc ⟨b, i * 2, none⟩ (n + 1 - i) sc (cs.drop (i * 2)) Tryz.underlying24 hsz (by rw [hdl]; simp only [Nat.min_def]; split <;> omega)
      (fun j v hj => by rw [Addr.add_lit]; exact hcs (i * 2 + j) v (by rwa [List.getElem?_drop] at hj))
      (fun j hj => by exact hsp _ (by omega)) (fun j hj => by exact hfz _ (by omega)) (fun v hv => h1c v (List.mem_of_mem_drop hv))
  obtain ⟨W1, hW1⟩ : ∃ W1, W1 = w.drew.setCells b ((i + 1) * 2) (cs.drop (i * 2)) := ⟨_, rfl⟩
  have hsp1 : ∀ k, k < (n + 1) * 2 → (W1.cell? ⟨b, k, none⟩).isSome = true := fun k hk => by
    rw [hW1]
    exact isSome_setCells b _ _ _ (fun j hj => by exact hsp _ (by omega)) _ (hsp k hk)
  have hcp2 : ∀ (W : World), (∀ x, W.cell? x = W1.cell? x) → (∀ x, W.frozen? x = W1.frozen? x) → ∀ ty dc, (Builtin.copy_ #[24, 24] ty #[.slice (some ⟨b, i * 2, none⟩) (n + 1 - i) dc, .slice (some ⟨vb, 0, none⟩) 1 vc]).run Tryz.prog W = .ok (goInt (Nat.min 1 (n + 1 - i))) (W.setCells b (i * 2) vs) := fun W hWc hWf ty dc =>
    run_copy_sz W _ _ ty 42 2 b (i * 2) (n + 1 - i) dc ⟨vb, 0, none⟩ 1 vc vs Tryz.underlying24 hsz (by rw [hvl]; simp only [Nat.min_def]; split <;> omega)
      (fun j v hj => by
        rw [Addr.add_lit, Nat.zero_add, hWc, hW1, World.cell?_setCells_out b _ _ _ _ (fun h _ => absurd h hvb)]
        exact hvs j v hj)
      (fun j hj => by rw [hWc]; exact hsp1 _ (by omega)) (fun j hj => by rw [hWf, hW1, World.frozen?_setCells]; exact hfz _ (by omega)) h1v
  rw [← hW1] at hcp1
  go_enter Tryz.func129, Tryz.ntmps129
  go_wp2_with (simp only [hov])
  go_region_law_o (refine step_copy_runI rfl _ _ 24 24 rfl _ _ (by simp [Act.eval, Act.put]) (by simp [Act.eval, Act.put]) (hcp1 _ _ _) ?_)
  go_wp2_with (at_builtin; refine wpList_copy_runI _ rfl _ _ 24 24 rfl _ _ rfl rfl (hcp2 _ (fun _ => rfl) (fun _ => rfl) _ _) ?_)
  go_ret
  first | exact ⟨rfl, rfl⟩ | exact ⟨rfl, by rw [hW1]⟩
set_option maxHeartbeats 4000000 in
set_option maxRecDepth 1000000 in
/-- At the end: in place, or a new row. -/
theorem insert_end (v : Value) (n B vb vc : Nat) (us vs : List Value) (w : World) (hown : w.ownsRow B 42 2 v n us) (hvl : vs.length = 2) (hvs : ∀ j u, vs[j]? = some u → w.cell? ((⟨vb, 0, none⟩ : Addr).add j) = some u) (h1v : ∀ u ∈ vs, u.oneCell' = true) (hn : n ≤ 1000000000) (hB : B ≤ w.heap.size) :
    Calls Tryz.prog 129 #[v, .int .i64 n, .slice (some ⟨vb, 0, none⟩) 1 vc] w fun e w' =>
      ∃ v', e = .returned v' ∧ w'.ownsRow B 42 2 v' (n + 1) (us ++ vs) ∧ w.grownBy w' v.ownBlock ∧ (v'.ownBlock = v.ownBlock ∨ v'.ownBlock = some w.heap.size) := by
  have mixed : Tryz.prog.follows .mixedOrders = true := by kernel_rfl
  obtain ⟨i0, hi, hz0, hz1, hz2⟩ := info_parts infoP
  obtain ⟨v', w1, hr, h2, h3, _, h5⟩ := run_append_own_at (P := Tryz.prog) w B 24 24 42 i0 (.agg #[.string ⟨#[]⟩, .string ⟨#[]⟩]) 2 32 Tryz.underlying24 hi hz0 hz1 hz2 rfl (by decide) v n us hown ⟨vb, 0, none⟩ 1 vc vs (by rw [hvl]) hvs h1v (by simp only [maxLen]; omega) (by omega) hB
  have hin : n ≤ n := Nat.le_refl _
  rcases hown.2 with ⟨rfl, hn0⟩ | ⟨g, cap, cur, rfl, hbg, hg, hnc, hcm, hcs, htk⟩
  · subst hn0
    go_enter Tryz.func129, Tryz.ntmps129
    go_wp2_with (at_builtin; refine Lib.wpList_append_run _ rfl _ _ _ _ rfl _ _ rfl rfl _ _ hr ?_)
    go_ret
    exact ⟨_, rfl, h2, h3, h5⟩
  · have hc63 : cap ≤ 9223372036854775807 := by simp only [maxLen] at hcm; omega
    go_enter Tryz.func129, Tryz.ntmps129
    go_wp2_with (at_builtin; refine Lib.wpList_append_run _ rfl _ _ _ _ rfl _ _ rfl rfl _ _ hr ?_)
    all_goals (go_ret; exact ⟨_, rfl, h2, h3, h5⟩)
set_option maxHeartbeats 4000000 in
set_option maxRecDepth 1000000 in
/-- i < len(s), no room: a new row. -/
theorem insert_grow (b n c i vb vc : Nat) (cs vs : List Value) (w : World) (hi : i < n) (hnc : n ≤ c) (hroom : c < n + 1) (hbig : n ≤ 1000000000)
    (hcl : cs.length = n * 2) (hvl : vs.length = 2)
    (hcs : ∀ j v, cs[j]? = some v → w.cell? ⟨b, j, none⟩ = some v) (hvs : ∀ j v, vs[j]? = some v → w.cell? ⟨vb, j, none⟩ = some v) (h1c : ∀ v ∈ cs, v.oneCell' = true) (h1v : ∀ v ∈ vs, v.oneCell' = true) :
    Calls Tryz.prog 129 #[.slice (some ⟨b, 0, none⟩) n c, .int .i64 i, .slice (some ⟨vb, 0, none⟩) 1 vc] w fun e w' =>
      e = .returned (.slice (some ⟨w.heap.size, 0, none⟩) (n + 1) (grownCap w (n + 1) c 42)) ∧
      w' = (((w.alloc (.cells ((cs.take (i * 2)).toArray ++ Builtin.zeroCells (Value.agg #[.string ⟨#[]⟩, .string ⟨#[]⟩]).cells (n + 1 - i) ++ Builtin.zeroCells (Value.agg #[.string ⟨#[]⟩, .string ⟨#[]⟩]).cells (grownCap w (n + 1) c 42 - (n + 1))) 42)).drew.setCells w.heap.size (i * 2) vs).drew).setCells w.heap.size ((i + 1) * 2) (cs.drop (i * 2)) := by
  have mixed : Tryz.prog.follows .mixedOrders = true := by kernel_rfl
  obtain ⟨i0, hi0, hz0, hzs, hzb⟩ := info_parts infoP
  have hz2 : ¬ ((i : Int) = (n : Int)) := by omega
  have hz3 : (c : Int) < (n : Int) + 1 := by omega
  have hsz : (Tryz.prog.info? 42).map (·.size) = some 2 := by kernel_rfl
  have hbw : b < w.heap.size := block_lt_of_cell (hcs 0 _ (List.getElem?_eq_getElem (by omega)))
  have hvw : vb < w.heap.size := block_lt_of_cell (hvs 0 _ (List.getElem?_eq_getElem (by omega)))
  have hkk : (n : Int) + 1 - (i : Int) = ((n + 1 - i : Nat) : Int) := by omega
  have hik : i + (n + 1 - i) = n + 1 := by omega
  have hold : (Builtin.firstCells i0.size i (.slice (some ⟨b, 0, none⟩) i c)).run Tryz.prog w.drew = .ok (cs.take (i * 2)).toArray w.drew := by
    rw [hzs]
    exact run_firstCells_some w.drew 2 i ⟨b, 0, none⟩ i c (cs.take (i * 2)) (by rw [List.length_take]; omega) (fun j v hj => by
      rw [Addr.add_lit, Nat.zero_add]
      rw [List.getElem?_take] at hj
      split at hj
      · exact hcs j v hj
      · cases hj)
  have hrz : ∀ ty, (Builtin.append_ #[24, 3] ty #[.slice (some ⟨b, 0, none⟩) i c, .int .i64 ((n : Int) + 1 - (i : Int))]).run Tryz.prog w =
      .ok (.slice (some ⟨w.heap.size, 0, none⟩) (n + 1) (grownCap w (n + 1) c 42)) (w.drew.alloc (.cells ((cs.take (i * 2)).toArray ++ Builtin.zeroCells (Value.agg #[.string ⟨#[]⟩, .string ⟨#[]⟩]).cells (n + 1 - i) ++ Builtin.zeroCells (Value.agg #[.string ⟨#[]⟩, .string ⟨#[]⟩]).cells (grownCap w (n + 1) c 42 - (n + 1))) 42)) := fun ty => by
    have h := Lib.run_append_grow_zeros w 24 3 ty 42 i0 _ .i64 .i64 Tryz.underlying24 Tryz.underlying3 hi0 hz0 (some ⟨b, 0, none⟩) i c (cs.take (i * 2)) hold (n + 1 - i) (by omega) (by omega) (by omega) (by omega) (by rw [hzb]; omega) (by rw [hzb, hik]; exact growslice_fits hroom (by omega))
    rw [hik] at h
    rw [hkk]
    exact h
  obtain ⟨G, hG⟩ : ∃ G, G = grownCap w (n + 1) c 42 := ⟨_, rfl⟩
  obtain ⟨ROW, hROW⟩ : ∃ ROW : Array Value, ROW = (cs.take (i * 2)).toArray ++ Builtin.zeroCells (Value.agg #[.string ⟨#[]⟩, .string ⟨#[]⟩]).cells (n + 1 - i) ++ Builtin.zeroCells (Value.agg #[.string ⟨#[]⟩, .string ⟨#[]⟩]).cells (G - (n + 1)) := ⟨_, rfl⟩
  rw [← hG] at hrz ⊢
  rw [← hROW] at hrz ⊢
  have hRl : (n + 1) * 2 ≤ ROW.size := by
    rw [hROW]
    simp [Builtin.zeroCells, Value.cells]
    omega
  obtain ⟨W1, hW1⟩ : ∃ W1, W1 = w.drew.alloc (.cells ROW 42) := ⟨_, rfl⟩
  rw [← hW1] at hrz
  have hN : ∀ j, j < (n + 1) * 2 → (W1.cell? ⟨w.heap.size, j, none⟩).isSome = true := fun j hj => by
    rw [hW1, World.cell?_alloc_at (w := w.drew) ROW _ w.heap.size j rfl, Array.getElem?_eq_getElem (by omega)]; rfl
  have hNf : ∀ j, W1.frozen? ⟨w.heap.size, j, none⟩ = false := fun j => by rw [hW1]; exact World.frozen?_alloc_at (w := w.drew) ROW _ w.heap.size j rfl
  have hOb : ∀ j v, w.cell? ⟨b, j, none⟩ = some v → W1.cell? ⟨b, j, none⟩ = some v := fun j v h => by rw [hW1, World.cell?_alloc_past (w := w.drew) _ b j hbw]; exact h
  have hOv : ∀ j v, w.cell? ⟨vb, j, none⟩ = some v → W1.cell? ⟨vb, j, none⟩ = some v := fun j v h => by rw [hW1, World.cell?_alloc_past (w := w.drew) _ vb j hvw]; exact h
  have hcpA : ∀ (W : World), (∀ x, W.cell? x = W1.cell? x) → (∀ x, W.frozen? x = W1.frozen? x) → ∀ ty dc, (Builtin.copy_ #[24, 24] ty #[.slice (some ⟨w.heap.size, i * 2, none⟩) (n + 1 - i) dc, .slice (some ⟨vb, 0, none⟩) 1 vc]).run Tryz.prog W = .ok (goInt (Nat.min 1 (n + 1 - i))) (W.setCells w.heap.size (i * 2) vs) := fun W hWc hWf ty dc =>
    run_copy_sz W _ _ ty 42 2 w.heap.size (i * 2) (n + 1 - i) dc ⟨vb, 0, none⟩ 1 vc vs Tryz.underlying24 hsz (by rw [hvl]; simp only [Nat.min_def]; split <;> omega)
      (fun j v hj => by rw [Addr.add_lit, Nat.zero_add, hWc]; exact hOv _ v (hvs j v hj))
      (fun j hj => by rw [hWc]; exact hN _ (by omega)) (fun j hj => by rw [hWf]; exact hNf _) h1v
  have hGn : n + 1 ≤ G := by rw [hG]; exact grownCap_ge w _ _ _
  have hG63 : G ≤ 9223372036854775807 := by
    have := grownCap_le_maxLen w (n + 1) c 42 (by unfold maxLen; omega)
    rw [← hG] at this
    unfold maxLen at this
    omega
  have hGi : ¬ (G = i) := by omega
  have hGim : ¬ (G = i + 1) := by omega
  have hci : ¬ (c = i) := by omega
  have hbN : b ≠ w.heap.size := by omega
  have hdl : (cs.drop (i * 2)).length = (n - i) * 2 := by rw [List.length_drop, hcl]; omega
  have hcpB : ∀ (W : World), (∀ x, W.cell? x = (W1.setCells w.heap.size (i * 2) vs).cell? x) → (∀ x, W.frozen? x = (W1.setCells w.heap.size (i * 2) vs).frozen? x) → ∀ ty dc sc, (Builtin.copy_ #[24, 24] ty #[.slice (some ⟨w.heap.size, (i + 1) * 2, none⟩) (n - i) dc, .slice (some ⟨b, i * 2, none⟩) (n - i) sc]).run Tryz.prog W = .ok (goInt (Nat.min (n - i) (n - i))) (W.setCells w.heap.size ((i + 1) * 2) (cs.drop (i * 2))) := fun W hWc hWf ty dc sc =>
    run_copy_sz W _ _ ty 42 2 w.heap.size ((i + 1) * 2) (n - i) dc ⟨b, i * 2, none⟩ (n - i) sc (cs.drop (i * 2)) Tryz.underlying24 hsz (by rw [hdl]; simp only [Nat.min_def]; split <;> omega)
      (fun j v hj => by
        rw [Addr.add_lit, hWc, World.cell?_setCells_out _ _ _ _ _ (fun h _ => absurd h hbN)]
        exact hOb _ v (hcs (i * 2 + j) v (by rwa [List.getElem?_drop] at hj)))
      (fun j hj => by rw [hWc]; exact isSome_setCells _ _ _ _ (fun t ht => hN _ (by omega)) _ (hN _ (by omega)))
      (fun j hj => by rw [hWf, World.frozen?_setCells]; exact hNf _) (fun v hv => h1c v (List.mem_of_mem_drop hv))
  subst hW1
  have hE1 : ∀ x, ((w.alloc (.cells ROW 42)).drew).cell? x = (w.drew.alloc (.cells ROW 42)).cell? x := fun x => rfl
  have hE2 : ∀ x, ((w.alloc (.cells ROW 42)).drew).frozen? x = (w.drew.alloc (.cells ROW 42)).frozen? x := fun x => rfl
  have hF1 : ∀ x, (((w.alloc (.cells ROW 42)).drew.setCells w.heap.size (i * 2) vs).drew).cell? x = ((w.drew.alloc (.cells ROW 42)).setCells w.heap.size (i * 2) vs).cell? x := fun x => rfl
  have hF2 : ∀ x, (((w.alloc (.cells ROW 42)).drew.setCells w.heap.size (i * 2) vs).drew).frozen? x = ((w.drew.alloc (.cells ROW 42)).setCells w.heap.size (i * 2) vs).frozen? x := fun x => rfl
  have hw1 : IntKind.i64.wrap ((i : Int) + 1) = (i : Int) + 1 := by rw [IntKind.wrap_i64]; omega
  have hw2 : IntKind.i64.wrap ((n : Int) + 1) = (n : Int) + 1 := by rw [IntKind.wrap_i64]; omega
  have hb1 : (0 : Int) ≤ (i : Int) + 1 := by omega
  have hin : i ≤ n := by omega
  have htn : ((i : Int) + 1).toNat = i + 1 := by omega
  have hb3 : (i : Int) ≤ (n : Int) := by omega
  have hb4 : (i : Int) ≤ (n : Int) + 1 := by omega
  clear hkk hik hold hROW hG hRl
  go_enter Tryz.func129, Tryz.ntmps129
  go_wp2_with (first
    | (at_builtin; refine Lib.wpList_append_run _ rfl _ _ _ _ rfl _ _ rfl rfl _ _ (hrz _) ?_)
    | (at_builtin; refine wpList_copy_runI _ rfl _ _ 24 24 rfl _ _ rfl rfl (hcpA _ hE1 hE2 _ _) ?_))
  go_region_law_o (refine step_copy_runI rfl _ _ 24 24 rfl (.slice (some ⟨w.heap.size, (i + 1) * 2, none⟩) (n - i) (G - (i + 1))) (.slice (some ⟨b, i * 2, none⟩) (n - i) (c - i)) (by simp [Act.eval, Act.put]) (by simp [Act.eval, Act.put]) (hcpB _ hF1 hF2 3 (G - (i + 1)) (c - i)) ?_)
  go_wp2
  go_ret
  exact ⟨rfl, rfl⟩
theorem run_clear_pair (w : World) (ty : TypeId) (b o c : Nat) (hc : ∀ j, j < 2 → (w.cell? ⟨b, o + j, none⟩).isSome = true) (hf : ∀ j, j < 2 → w.frozen? ⟨b, o + j, none⟩ = false) :
    (Builtin.clear_ #[24] ty #[.slice (some ⟨b, o, none⟩) 1 c]).run Tryz.prog w = .ok (.tuple #[]) (w.setCells b o [.string ⟨#[]⟩, .string ⟨#[]⟩]) := by
  obtain ⟨i0, hi0, hz0, hzs, hzb⟩ := info_parts infoP
  have hzc : (Builtin.zeroCells (Value.agg #[.string ⟨#[]⟩, .string ⟨#[]⟩]).cells 1).toList = [.string ⟨#[]⟩, .string ⟨#[]⟩] := by first | kernel_rfl | (simp [Builtin.zeroCells, Value.cells]; rfl)
  have hv : (zeroValue 42).run Tryz.prog w = .ok (.agg #[.string ⟨#[]⟩, .string ⟨#[]⟩]) w := by
    simp [zeroValue, typeInfo, hi0, hz0]
  have hst := run_storeCells_cells (P := Tryz.prog) b o [.string ⟨#[]⟩, .string ⟨#[]⟩] 0 w (by simpa using hc) (by simpa using hf) (by intro v hv'; simp at hv'; subst hv'; rfl)
  simp only [Nat.add_zero] at hst
  simp [Builtin.clear_, run_underlying Tryz.underlying24, hv, hzc, hst]
set_option maxHeartbeats 4000000 in
set_option maxRecDepth 1000000 in
/-- slices.Delete of one element. -/
theorem delete_one (b n c i j : Nat) (cs : List Value) (w : World) (hij : j = i + 1) (hi : i < n) (hnc : n ≤ c) (hm : c ≤ 9223372036854775807) (hcl : cs.length = n * 2)
    (hcs : ∀ j v, cs[j]? = some v → w.cell? ⟨b, j, none⟩ = some v) (hfz : ∀ j, j < n * 2 → w.frozen? ⟨b, j, none⟩ = false) (h1c : ∀ v ∈ cs, v.oneCell' = true) :
    Calls Tryz.prog 128 #[.slice (some ⟨b, 0, none⟩) n c, .int .i64 i, .int .i64 j] w fun e w' =>
      e = .returned (.slice (some ⟨b, 0, none⟩) (n - 1) c) ∧ w' = (w.drew.setCells b (i * 2) (cs.drop (j * 2))).setCells b ((n - 1) * 2) [.string ⟨#[]⟩, .string ⟨#[]⟩] := by
  have mixed : Tryz.prog.follows .mixedOrders = true := by kernel_rfl
  obtain ⟨i0, hi0, hz0, hz1, hz2⟩ := info_parts infoP
  have heq : ¬ ((i : Int) = (j : Int)) := by omega
  have hic : i ≤ c := by omega
  have hjc : j ≤ c := by omega
  have hij2 : i ≤ j := by omega
  have hj : j ≤ n := by omega
  have hsp : ∀ k, k < n * 2 → (w.cell? ⟨b, k, none⟩).isSome = true := fun k hk => by rw [hcs k _ (List.getElem?_eq_getElem (by omega))]; rfl
  obtain ⟨news, hnews⟩ : ∃ news, news = cs.drop (j * 2) := ⟨_, rfl⟩
  have hlen : news.length = (n - j) * 2 := by rw [hnews, List.length_drop]; omega
  have hget : ∀ t u, news[t]? = some u → w.cell? ⟨b, j * 2 + t, none⟩ = some u := fun t u hu => by
    rw [hnews, List.getElem?_drop] at hu
    exact hcs _ _ hu
  obtain ⟨A, hA, hsrc⟩ : ∃ A : Addr, (if c = j then some (⟨b, 0, none⟩ : Addr) else some ⟨b, j * 2, none⟩) = some A ∧ Hid (∀ t u, news[t]? = some u → w.drew.cell? (A.add t) = some u) := by
    by_cases h : c = j
    · refine ⟨⟨b, 0, none⟩, by simp [h], fun t u hu => ?_⟩
      have h0 : news.length = 0 := by rw [hlen]; omega
      rw [List.length_eq_zero_iff.1 h0] at hu
      simp at hu
    · refine ⟨⟨b, j * 2, none⟩, by simp [h], fun t u hu => ?_⟩
      rw [Addr.add_lit]
      exact hget t u hu
  have s1 : Hid (news.length = (n - j) * 2) := hlen
  have s2 : Hid (∀ u ∈ news, u.oneCell' = true) := fun u hu => by rw [hnews] at hu; exact h1c u (List.mem_of_mem_drop hu)
  have s3 : Hid (∀ t, t < news.length → (w.drew.cell? ⟨b, 0 + i * 2 + t, none⟩).isSome = true ∧ w.drew.frozen? ⟨b, 0 + i * 2 + t, none⟩ = false) := fun t ht => by
    rw [hlen] at ht
    rw [Nat.zero_add]
    exact ⟨hsp (i * 2 + t) (by omega), hfz (i * 2 + t) (by omega)⟩
  obtain ⟨W1, hW1⟩ : ∃ W1, W1 = w.drew.setCells b (0 + i * 2) news := ⟨_, rfl⟩
  have hclr : ∀ ty, (Builtin.clear_ #[24] ty #[.slice (some ⟨b, (i + (n - j)) * 2, none⟩) (n - (i + (n - j))) (c - (i + (n - j)))]).run Tryz.prog W1 = .ok (.tuple #[]) (W1.setCells b ((n - 1) * 2) [.string ⟨#[]⟩, .string ⟨#[]⟩]) := fun ty => by
    rw [show i + (n - j) = n - 1 by omega, show n - (n - 1) = 1 by omega]
    refine run_clear_pair W1 ty b ((n - 1) * 2) _ (fun k hk => ?_) (fun k hk => ?_)
    · rw [hW1]
      exact isSome_setCells b _ _ _ (fun t ht => (s3.out t ht).1) _ (hsp _ (by omega))
    · rw [hW1, World.frozen?_setCells]
      exact hfz _ (by omega)
  have hW : Hid (W1 = w.drew.setCells b (0 + i * 2) news) := hW1
  have X : Hid (n - 1 = i + (n - j)) := show n - 1 = i + (n - j) by omega
  have hj2 : (j : Int) ≤ (n : Int) := by omega
  have hne : ¬ (c = i + (n - j)) := by omega
  have hle : i + (n - j) ≤ n := by omega
  have N : Hid (news = cs.drop (j * 2)) := hnews
  clear hget hlen hij hnews hW1
  go_enter Tryz.func128, Tryz.ntmps128
  go_wp2_with fail
  go_region_law_o (refine step_append_room rfl (.tmp 22) (.tmp 25) 24 rfl 42 i0 2 Tryz.underlying24 hi0 hz1 b 0 i c (by simp [Act.eval, Act.put]) A (n - j) (c - j) news (by simp [Act.eval, Act.put]) s1.out hsrc.out s2.out (by omega) s3.out ?_; rw [← hW.out])
  go_wp2
  go_ret
  refine ⟨by rw [X.out]; rfl, ?_⟩
  rw [hW.out, Nat.zero_add, N.out]
end Go.Proofs.YtilbahgfjfcikaaGreatDoor.S08


/- Overlays in plain words, part 2: laid one by one. No program. -/
set_option linter.unusedVariables false
set_option linter.unusedSimpArgs false
namespace Go.Proofs.YtilbahgfjfcikaaGreatDoor.Eng.U
open Go Go.Proofs Go.Proofs.YtilbahgfjfcikaaGreatDoor.Eng

/-- A pair laid over an overlay. -/
def layOne : List Pair → Pair → List Pair
  | [], p => if p.val = [] then [] else [p]
  | q :: r, p => if q.key = p.key then (if p.val = [] then r else p :: r) else if Op.bytesLess q.key p.key = true then q :: layOne r p else (if p.val = [] then q :: r else p :: q :: r)
theorem layOne_ok : ∀ {l : List Pair} {a : Option Tx} (p : Pair), okSt a l = true → gtO a p.key = true → okSt a (layOne l p) = true
  | [], a, p, _, hg => by
    unfold layOne
    split
    · rfl
    · rename_i h; simp only [okSt, hg, decide_eq_true h, Bool.and_self]
  | q :: l, a, p, ho, hg => by
    have hq := (okSt_facts _ _ ho).1 q (.head _)
    have ho2 : okSt (some q.key) l = true := by simp only [okSt, Bool.and_eq_true] at ho; exact ho.2
    unfold layOne
    by_cases e : q.key = p.key
    · rw [if_pos e]
      split
      · exact okSt_mono hq.1 ho2
      · rename_i h
        simp only [okSt, ← e, hq.1, decide_eq_true h, ho2, Bool.and_self]
    · rw [if_neg e]
      by_cases hl : Op.bytesLess q.key p.key = true
      · rw [if_pos hl]
        have := layOne_ok p ho2 hl
        simp only [okSt, hq.1, decide_eq_true hq.2, this, Bool.and_self]
      · rw [if_neg hl]
        split
        · exact ho
        · rename_i h
          have h2 : Op.bytesLess p.key q.key = true := lt_tot (by simpa using hl) e
          have : gtO (some p.key) q.key = true := h2
          simp only [okSt, hg, decide_eq_true h, this, decide_eq_true hq.2, ho2, Bool.and_self]
def layAll (l : List Pair) : List Pair := l.foldl layOne []
/-- How many keys are less. -/
def posL (x : List Pair) (k : Tx) : Nat := (x.takeWhile fun p => Op.bytesLess p.key k).length
theorem posL_le (x : List Pair) (k : Tx) : posL x k ≤ x.length := by
  unfold posL
  induction x with
  | nil => exact Nat.le_refl _
  | cons p x ih => rw [List.takeWhile_cons]; split <;> simp <;> omega
theorem posL_lt : ∀ {x : List Pair} {a : Option Tx} (k : Tx), okSt a x = true → ∀ (i : Nat) (p : Pair), x[i]? = some p → (Op.bytesLess p.key k = true ↔ i < posL x k)
  | [], a, k, _, i, p, h => by simp at h
  | q :: x, a, k, ho, i, p, h => by
    have ho2 : okSt (some q.key) x = true := by simp only [okSt, Bool.and_eq_true] at ho; exact ho.2
    unfold posL
    rw [List.takeWhile_cons]
    cases i with
    | zero =>
      simp only [List.getElem?_cons_zero, Option.some.injEq] at h
      subst h
      split
      · rename_i h; simp [h]
      · rename_i h; simp [h]
    | succ i =>
      have hp : x[i]? = some p := by simpa using h
      by_cases hq : Op.bytesLess q.key k = true
      · rw [if_pos hq]
        have := posL_lt k ho2 i p hp
        unfold posL at this
        rw [this, List.length_cons]
        omega
      · rw [if_neg hq]
        have hlt : Op.bytesLess q.key p.key = true := (okSt_facts _ _ ho2).1 p (List.mem_of_getElem? hp) |>.1
        constructor
        · intro h2; exact absurd (lt_tr hlt h2) hq
        · intro h2; simp at h2
/-- A pair laid, by its place. -/
theorem layOne_pos : ∀ {x : List Pair} {a : Option Tx} (p : Pair), okSt a x = true → layOne x p =
    if (x[posL x p.key]?).map (·.key) = some p.key then (if p.val = [] then x.take (posL x p.key) ++ x.drop (posL x p.key + 1) else x.set (posL x p.key) p)
    else (if p.val = [] then x else x.take (posL x p.key) ++ p :: x.drop (posL x p.key))
  | [], a, p, _ => by unfold layOne posL; simp
  | q :: x, a, p, ho => by
    have ho2 : okSt (some q.key) x = true := by simp only [okSt, Bool.and_eq_true] at ho; exact ho.2
    unfold layOne
    by_cases e : q.key = p.key
    · have h0 : posL (q :: x) p.key = 0 := by unfold posL; rw [List.takeWhile_cons, e, lt_irr]; rfl
      rw [if_pos e, h0, if_pos (show ((q :: x)[0]?).map (·.key) = some p.key by simp [e])]
      split <;> simp
    · rw [if_neg e]
      by_cases hl : Op.bytesLess q.key p.key = true
      · have h0 : posL (q :: x) p.key = posL x p.key + 1 := by unfold posL; rw [List.takeWhile_cons, if_pos hl]; rfl
        rw [if_pos hl, h0, layOne_pos p ho2]
        simp only [List.getElem?_cons_succ, List.take_succ_cons, List.drop_succ_cons, List.set_cons_succ, List.cons_append]
        split <;> split <;> rfl
      · have h0 : posL (q :: x) p.key = 0 := by unfold posL; rw [List.takeWhile_cons, if_neg hl]; rfl
        rw [if_neg hl, h0, if_neg (show ¬ ((q :: x)[0]?).map (·.key) = some p.key by simp [e])]
        split <;> simp
theorem layOne_len (p : Pair) : ∀ x : List Pair, (layOne x p).length ≤ x.length + 1
  | [] => by unfold layOne; split <;> simp
  | q :: x => by
    have ih := layOne_len p x
    unfold layOne
    repeat' split
    all_goals simp only [List.length_cons]; omega
/-- The order that strings.Compare tells. -/
theorem compare_lt : ∀ a b : Tx, Lib.compareBytes a b < 0 ↔ Op.bytesLess a b = true
  | [], [] => by simp [Lib.compareBytes, Op.bytesLess]
  | [], _ :: _ => by simp [Lib.compareBytes, Op.bytesLess]
  | _ :: _, [] => by simp [Lib.compareBytes, Op.bytesLess]
  | a :: x, b :: y => by
    have ih := compare_lt x y
    rw [lt_cons]
    unfold Lib.compareBytes
    by_cases h1 : a < b
    · rw [if_pos h1]
      rw [UInt8.lt_iff_toNat_lt] at h1
      simp [h1]
    · rw [if_neg h1]
      by_cases h2 : b < a
      · rw [if_pos h2]
        rw [UInt8.lt_iff_toNat_lt] at h1 h2
        constructor
        · intro h; omega
        · rintro (h | ⟨rfl, _⟩)
          · exact absurd h h1
          · omega
      · rw [if_neg h2, ih]
        rw [UInt8.lt_iff_toNat_lt] at h1 h2
        have e : a = b := UInt8.toNat_inj.1 (by omega)
        subst e
        simp
theorem compare_eq : ∀ a b : Tx, Lib.compareBytes a b = 0 ↔ a = b
  | [], [] => by simp [Lib.compareBytes]
  | [], _ :: _ => by simp [Lib.compareBytes]
  | _ :: _, [] => by simp [Lib.compareBytes]
  | a :: x, b :: y => by
    have ih := compare_eq x y
    unfold Lib.compareBytes
    by_cases h1 : a < b
    · rw [if_pos h1]
      constructor
      · intro h; omega
      · intro h; cases h; exact absurd h1 (u8_lt_irrefl _)
    · rw [if_neg h1]
      by_cases h2 : b < a
      · rw [if_pos h2]
        constructor
        · intro h; omega
        · intro h; cases h; exact absurd h2 (u8_lt_irrefl _)
      · rw [if_neg h2, ih]
        rw [UInt8.lt_iff_toNat_lt] at h1 h2
        have e : a = b := UInt8.toNat_inj.1 (by omega)
        subst e
        simp
end Go.Proofs.YtilbahgfjfcikaaGreatDoor.Eng.U


/- Overlays, the program's side: laid one by one; what is said of a head, both sides. -/
set_option linter.unusedVariables false
set_option linter.unusedSectionVars false
set_option linter.unusedSimpArgs false
namespace Go.Proofs.YtilbahgfjfcikaaGreatDoor.Eng.U
open Go Go.Proofs Go.Proofs.YtilbahgfjfcikaaGreatDoor.Eng Go.Proofs.YtilbahgfjfcikaaGreatDoor.P04
variable {E : Ext} [Core E] {k n : Nat}

class HasIns (E : Ext) : Prop where
  ins : ∀ (k n : Nat) (xs : List Pair) (i : Nat) (p : Pair), i ≤ xs.length → xs.length ≤ 1000000 → kp E k n slices_Insert_api_Pair [.fresh 42 (prs xs), .int .i64 (i : Int), .fresh 42 [elPair p]] = some (.lback (.fresh 42 (prs (xs.take i ++ p :: xs.drop i))) [])
  del : ∀ (k n : Nat) (xs : List Pair) (i : Nat), i < xs.length → xs.length ≤ 1000000 → kp E k n slices_Delete_api_Pair [.fresh 42 (prs xs), .int .i64 (i : Int), .int .i64 ((i + 1 : Nat) : Int)] = some (.lback (.fresh 42 (prs (xs.take i ++ xs.drop (i + 1)))) [])
  cmp : ∀ (k n : Nat) (a b : Tx), kp E k n strings_Compare [.str (str a), .str (str b)] = some (.int .i64 (Lib.compareBytes a b))
theorem half_k {i j : Nat} (h : i + j ≤ 1000000000) : IntKind.wrap .i64 (Int.fdiv (IntKind.wrap .u64 (IntKind.wrap .i64 (((i : Nat) : Int) + ((j : Nat) : Int)))) (2 ^ (min (Int.toNat (1 : Int)) (IntKind.bits .u64)))) = (((i + j) / 2 : Nat) : Int) := by
  rw [i64w (x := ((i : Nat) : Int) + ((j : Nat) : Int)) (by omega), IntWalk.u64_in _ (by omega)]
  have e : (2 : Int) ^ (min (Int.toNat (1 : Int)) (IntKind.bits .u64)) = 2 := by decide
  rw [e, Int.fdiv_eq_ediv_of_nonneg _ (by omega), i64w (by omega)]
  omega
def foundL (x : List Pair) (key : Tx) : Bool := decide ((x[posL x key]?).map (·.key) = some key)
theorem bs_loop (kap : FuncId → List AV → Option AV) (x : List Pair) (key : Tx) (hx : okSt none x = true) (hl : x.length ≤ 1000000) (hC : ∀ p ∈ x, kap over_byKey_1 [.agg [.str (str p.key), .str (str p.val)], .str (str key)] = some (.int .i64 (Lib.compareBytes p.key key))) :
    ∀ (d i j k0 : Nat), j - i ≤ d → d < k0 → i ≤ posL x key → posL x key ≤ j → j ≤ x.length →
    slices_BinarySearchFunc_string_L0 kap k k0 (str key) ((x.length : Nat) : Int) ((i : Nat) : Int) ((j : Nat) : Int) (prs x) = some (.lback (.tup [.int .i64 (posL x key : Nat), .bool (foundL x key)]) [.lrow 42 (prs x)]) := by
  intro d
  induction d with
  | zero =>
    intro i j k0 hd hk h1 h2 h3
    obtain ⟨k0, rfl⟩ : ∃ m, k0 = m + 1 := ⟨k0 - 1, by omega⟩
    obtain rfl : i = posL x key := by omega
    rw [slices_BinarySearchFunc_string_L0_s, bif_f (by omega)]
    unfold foundL
    by_cases hp : posL x key < x.length
    · have hm : ∀ F : AV → Option AV, ((prs x)[posL x key]?).bind F = F (elPair x[posL x key]) := fun F => prs_at x _ hp F
      rw [bif_t (by omega), prs_len, bif_a, bif_t (by omega), bif_t (by omega), Int.toNat_natCast, hm, cells_pair, p_0, p_1, hC _ (List.getElem_mem hp), callI_ok, List.getElem?_eq_getElem hp]
      have e : decide (Lib.compareBytes x[posL x key].key key = 0) = decide (Option.map (·.key) (some x[posL x key]) = some key) := by
        rw [decide_eq_decide, compare_eq]; simp
      rw [e]
    · rw [bif_f (by omega), List.getElem?_eq_none (by omega)]
      rfl
  | succ d ih =>
    intro i j k0 hd hk h1 h2 h3
    obtain ⟨k0, rfl⟩ : ∃ m, k0 = m + 1 := ⟨k0 - 1, by omega⟩
    by_cases hij : i < j
    · have hh : (i + j) / 2 < x.length := by omega
      have hm : ∀ F : AV → Option AV, ((prs x)[(i + j) / 2]?).bind F = F (elPair x[(i + j) / 2]) := fun F => prs_at x _ hh F
      have hlt := posL_lt key hx ((i + j) / 2) x[(i + j) / 2] (List.getElem?_eq_getElem hh)
      rw [slices_BinarySearchFunc_string_L0_s, bif_t (by omega), half_k (by omega), prs_len, bif_a, bif_t (by omega), bif_t (by omega), Int.toNat_natCast, hm, cells_pair, p_0, p_1, hC _ (List.getElem_mem hh), callI_ok]
      by_cases hc : (i + j) / 2 < posL x key
      · rw [bif_t ((compare_lt _ _).2 (hlt.2 hc)), wrap1 (by omega)]
        exact ih _ _ _ (by omega) (by omega) (by omega) h2 h3
      · rw [bif_f (fun h => hc (hlt.1 ((compare_lt _ _).1 h)))]
        exact ih _ _ _ (by omega) (by omega) h1 (by omega) (by omega)
    · obtain rfl : i = j := by omega
      exact ih i i (k0 + 1) (by omega) (by omega) h1 h2 h3
section
variable [HasIns E]
theorem byKey1_k (p : Pair) (key : Tx) : kp E k (n + 1) over_byKey_1 [.agg [.str (str p.key), .str (str p.val)], .str (str key)] = some (.int .i64 (Lib.compareBytes p.key key)) := by
  rw [over_byKey_1_eq, HasIns.cmp, callI_ok]
theorem byKey_k (x : List Pair) (key : Tx) (hx : okSt none x = true) (hl : x.length ≤ 1000000) (hk : x.length < k) : kp E k (n + 3) over_byKey [.lrow 42 (prs x), .str (str key)] = some (.lback (.tup [.int .i64 (posL x key : Nat), .bool (foundL x key)]) [.lrow 42 (prs x)]) := by
  have h := bs_loop (k := k) (kp E k (n + 1)) x key hx hl (fun p _ => byKey1_k p key) x.length 0 x.length k (by omega) hk (by omega) (posL_le x key) (Nat.le_refl _)
  rw [over_byKey_eq, slices_BinarySearchFunc_string_eq, prs_len]
  have h' : slices_BinarySearchFunc_string_L0 (kp E k (n + 1)) k k (str key) ((x.length : Nat) : Int) (0 : Int) ((x.length : Nat) : Int) (prs x) = _ := h
  rw [h', callX_ok, nxR_ok, prs_len, beq_self_eq_true, cond_true, atNil_ok, callT_ok, tupI_ok, tupB_ok, atNil_ok]
theorem set_prs (x : List Pair) (i : Nat) (p : Pair) : List.set (prs x) i (elPair p) = prs (x.set i p) := by simp [prs]
theorem lay1_k (x : List Pair) (p : Pair) (hx : okSt none x = true) (hl : x.length ≤ 100000) (hk : x.length < k) : kp E k (n + 4) over_lay [.fresh 42 (prs x), .agg [.str (str p.key), .str (str p.val)]] = some (.lback (.fresh 42 (prs (layOne x p))) []) := by
  have hpos := posL_le x p.key
  have hfold : AV.agg [.str (str p.key), .str (str p.val)] = elPair p := rfl
  rw [over_lay_eq, byKey_k x p.key hx (by omega) hk, callX_ok, nxR_ok, prs_len, beq_self_eq_true, cond_true, atNil_ok, callT_ok, tupI_ok, tupB_ok, atNil_ok, str_dec, layOne_pos p hx, hfold]
  by_cases hf : (x[posL x p.key]?).map (·.key) = some p.key
  · have hlt : posL x p.key < x.length := by
      rcases Nat.lt_or_ge (posL x p.key) x.length with h | h
      · exact h
      · rw [List.getElem?_eq_none h] at hf; cases hf
    have hfb : foundL x p.key = true := by unfold foundL; exact decide_eq_true hf
    rw [if_pos hf, hfb]
    by_cases hv : p.val = []
    · rw [decide_eq_true hv, if_pos hv, cond_true, cond_true, wrap1 (by omega), HasIns.del (E := E) k (n + 3) x _ hlt (by omega), callX_ok, atNil_ok, callF_ok]
    · have hm : ∀ F : AV → Option AV, ((prs x)[posL x p.key]?).bind F = F (elPair x[posL x p.key]) := fun F => prs_at x _ hlt F
      rw [decide_eq_false hv, if_neg hv, cond_false, cond_false, cond_true, bif_a, bif_t (by omega), bif_t (by omega), Int.toNat_natCast, hm]
      rw [← set_prs]
      rfl
  · have hfb : foundL x p.key = false := by unfold foundL; exact decide_eq_false hf
    rw [if_neg hf, hfb]
    by_cases hv : p.val = []
    · rw [decide_eq_true hv, if_pos hv, cond_true, cond_false, cond_true]
    · rw [decide_eq_false hv, if_neg hv, cond_false, cond_false, cond_false, HasIns.ins (E := E) k (n + 3) x _ p hpos (by omega), callX_ok, atNil_ok, callF_ok]
theorem lay_loop1 (kap : FuncId → List AV → Option AV) (l : List Pair) (hl : l.length ≤ 1000) (hL : ∀ (x : List Pair) (p : Pair), okSt none x = true → x.length ≤ 100000 → kap over_lay [.fresh 42 (prs x), .agg [.str (str p.key), .str (str p.val)]] = some (.lback (.fresh 42 (prs (layOne x p))) [])) :
    ∀ (suf pre x : List Pair) (k0 : Nat), suf.length < k0 → pre ++ suf = l → okSt none x = true → x.length + suf.length ≤ 10000 → over_Lay_L1 kap k k0 (prs l) ((l.length : Nat) : Int) ((pre.length : Nat) : Int) (prs x) = some (.list 2 (prs (suf.foldl layOne x)))
  | [], pre, x, k0 + 1, h, he, ho, hx => by
    rw [List.append_nil] at he
    subst he
    rw [over_Lay_L1_s, bif_f (by omega)]
    rfl
  | p :: suf, pre, x, k0 + 1, h, he, ho, hx => by
    have hi : pre.length < l.length := by rw [← he]; simp
    have hm : ∀ F : AV → Option AV, ((prs l)[pre.length]?).bind F = F (elPair p) := fun F => by rw [← he]; exact prs_mid pre suf p F
    rw [List.length_cons] at h hx
    have hln := layOne_len p x
    have ih := lay_loop1 kap l hl hL suf (pre ++ [p]) (layOne x p) k0 (by omega) (by rw [← he]; simp) (layOne_ok p ho rfl) (by omega)
    rw [List.length_append, List.length_singleton] at ih
    rw [over_Lay_L1_s, bif_t (by omega), prs_len, bif_a, bif_t (by omega), bif_t (by omega), Int.toNat_natCast, hm, cells_pair, p_0, p_1, hL x p ho (by omega), callX_ok, atNil_ok, callF_ok, wrap1 (by omega), ih]
    rfl
theorem lay_loop0 (kap : FuncId → List AV → Option AV) (l more : List Pair) (hl : l.length ≤ 1000) (hm : more.length ≤ 1000) (hk : 1000 < k) (hL : ∀ (x : List Pair) (p : Pair), okSt none x = true → x.length ≤ 100000 → kap over_lay [.fresh 42 (prs x), .agg [.str (str p.key), .str (str p.val)]] = some (.lback (.fresh 42 (prs (layOne x p))) [])) :
    ∀ (suf pre x : List Pair) (k0 : Nat), suf.length < k0 → pre ++ suf = l → okSt none x = true → x.length + suf.length ≤ 5000 → over_Lay_L0 kap k k0 (prs more) (prs l) ((l.length : Nat) : Int) ((pre.length : Nat) : Int) (prs x) = some (.list 2 (prs ((suf ++ more).foldl layOne x)))
  | [], pre, x, k0 + 1, h, he, ho, hx => by
    rw [List.append_nil] at he
    subst he
    have := lay_loop1 (k := k) kap more hm hL more [] x k (by omega) rfl ho (by simp at hx; omega)
    rw [over_Lay_L0_s, bif_f (by omega), prs_len]
    exact this
  | p :: suf, pre, x, k0 + 1, h, he, ho, hx => by
    have hi : pre.length < l.length := by rw [← he]; simp
    have hmm : ∀ F : AV → Option AV, ((prs l)[pre.length]?).bind F = F (elPair p) := fun F => by rw [← he]; exact prs_mid pre suf p F
    rw [List.length_cons] at h hx
    have hln := layOne_len p x
    have ih := lay_loop0 kap l more hl hm hk hL suf (pre ++ [p]) (layOne x p) k0 (by omega) (by rw [← he]; simp) (layOne_ok p ho rfl) (by omega)
    rw [List.length_append, List.length_singleton] at ih
    rw [over_Lay_L0_s, bif_t (by omega), prs_len, bif_a, bif_t (by omega), bif_t (by omega), Int.toNat_natCast, hmm, cells_pair, p_0, p_1, hL x p ho (by omega), callX_ok, atNil_ok, callF_ok, wrap1 (by omega), ih]
    rfl
theorem overLay_k (l more : List Pair) (hl : l.length ≤ 1000) (hm : more.length ≤ 1000) (hk : 1000000 < k) : kp E k (n + 5) over_Lay [.list 2 (prs l), .list 2 (prs more)] = some (.list 2 (prs (layAll (l ++ more)))) := by
  rw [over_Lay_eq, prs_len]
  exact lay_loop0 (k := k) (kp E k (n + 4)) l more hl hm (by omega) (fun x p h1 h2 => lay1_k (n := n) x p h1 h2 (by omega)) l [] [] k (by omega) rfl rfl (by simp; omega)
end
/-! What pairs say of a head. -/
def numV (s : Tx) : Int := if (natOk s && decide (valA 0 s ≤ 9223372036854775807)) = true then (valA 0 s : Int) else 0
def timV (s : Tx) : Int × Int := (timeL s).getD (0, 0)
def sayH (h : Head) (p : Pair) : Head :=
  if whichL p.key = 0 then { h with name := p.val } else if whichL p.key = 1 then { h with link := p.val } else if whichL p.key = 2 then { h with user := p.val } else if whichL p.key = 3 then { h with group := p.val }
  else if whichL p.key = 4 then { h with uid := numV p.val } else if whichL p.key = 5 then { h with gid := numV p.val } else if whichL p.key = 6 then { h with size := numV p.val }
  else if whichL p.key = 7 then { h with sec := (timV p.val).1, nano := (timV p.val).2 } else { h with extra := h.extra ++ [p] }
def applyL (h : Head) (l : List Pair) : Head := l.foldl sayH { h with extra := [] }
theorem say_k [HasNum E] (h : Head) (p : Pair) (hp : p.val.length ≤ 1000000) (hk : 1000000 < k) (hw : 0 ≤ whichL p.key) :
    kp E k (n + 4) over_say [.lent [.int .i64 h.kind, .str (str h.name), .str (str h.link), .int .i64 h.mode, .int .i64 h.uid, .int .i64 h.gid, .int .i64 h.size, .int .i64 h.sec, .int .i64 h.nano, .str (str h.user), .str (str h.group), .int .i64 h.major, .int .i64 h.minor, .hold], .agg [.str (str p.key), .str (str p.val)]] =
      some (.lback (.tup []) [.lent [.int .i64 (sayH h p).kind, .str (str (sayH h p).name), .str (str (sayH h p).link), .int .i64 (sayH h p).mode, .int .i64 (sayH h p).uid, .int .i64 (sayH h p).gid, .int .i64 (sayH h p).size, .int .i64 (sayH h p).sec, .int .i64 (sayH h p).nano, .str (str (sayH h p).user), .str (str (sayH h p).group), .int .i64 (sayH h p).major, .int .i64 (sayH h p).minor, .hold]]) := by
  have hN : ∀ K : List AV → Option AV, callT (kp E k (n + 3) dec_Number [.str (str p.val)]) K = K [.int .i64 (numV p.val), .int .u8 (if (natOk p.val && decide (valA 0 p.val ≤ 9223372036854775807)) = true then 0 else 15)] := fun K => by
    rw [number_k p.val (by omega) (by omega)]
    unfold numV
    cases natOk p.val && decide (valA 0 p.val ≤ 9223372036854775807) <;> rfl
  have hT : ∀ K : List AV → Option AV, ∃ z : Int, callT (kp E k (n + 3) dec_Time [.str (str p.val)]) K = K [.agg [.int .i64 (timV p.val).1, .int .i64 (timV p.val).2], .int .u8 z] := fun K => by
    rw [time_k p.val (by omega) (by omega)]
    unfold timV
    cases timeL p.val with
    | none => exact ⟨15, rfl⟩
    | some x => exact ⟨0, rfl⟩
  rw [over_say_eq, is_path, is_linkpath, is_uname, is_gname, is_uid, is_gid, is_size, is_mtime]
  have hlt := which_lt p.key
  unfold sayH
  generalize whichL p.key = w at hw hlt
  have : w = 0 ∨ w = 1 ∨ w = 2 ∨ w = 3 ∨ w = 4 ∨ w = 5 ∨ w = 6 ∨ w = 7 := by omega
  rcases this with rfl | rfl | rfl | rfl | rfl | rfl | rfl | rfl
  · rfl
  · rfl
  · rfl
  · rfl
  · simp only [hN]; rfl
  · simp only [hN]; rfl
  · simp only [hN]; rfl
  · obtain ⟨z, hz⟩ := hT (fun vt20 => (tupG 2 vt20 fun vg21 vt22 => (cellI .i64 vg21 0 fun vn23 => (cellI .i64 vg21 1 fun vn24 => (tupI .u8 vt22 fun vn25 vt26 => (atNil vt26 (some (.lback (.tup []) [(.lent [(.int .i64 h.kind), (.str (str h.name)), (.str (str h.link)), (.int .i64 h.mode), (.int .i64 h.uid), (.int .i64 h.gid), (.int .i64 h.size), (.int .i64 vn23), (.int .i64 vn24), (.str (str h.user)), (.str (str h.group)), (.int .i64 h.major), (.int .i64 h.minor), .hold])]))))))))
    exact hz
theorem prs_sn (a : List Pair) (p : Pair) : prs a ++ [.agg [.str (str p.key), .str (str p.val)]] = prs (a ++ [p]) := by simp [prs, elPair, encPair]
theorem apply_loop (kap : FuncId → List AV → Option AV) (l : List Pair) (hl : l.length ≤ 100000) (hK : ∀ s : Tx, kap pax_Known [.str (str s)] = some (.bool (decide (0 ≤ whichL s))))
    (hS : ∀ (h : Head) (p : Pair), p ∈ l → 0 ≤ whichL p.key → kap over_say [.lent [.int .i64 h.kind, .str (str h.name), .str (str h.link), .int .i64 h.mode, .int .i64 h.uid, .int .i64 h.gid, .int .i64 h.size, .int .i64 h.sec, .int .i64 h.nano, .str (str h.user), .str (str h.group), .int .i64 h.major, .int .i64 h.minor, .hold], .agg [.str (str p.key), .str (str p.val)]] =
      some (.lback (.tup []) [.lent [.int .i64 (sayH h p).kind, .str (str (sayH h p).name), .str (str (sayH h p).link), .int .i64 (sayH h p).mode, .int .i64 (sayH h p).uid, .int .i64 (sayH h p).gid, .int .i64 (sayH h p).size, .int .i64 (sayH h p).sec, .int .i64 (sayH h p).nano, .str (str (sayH h p).user), .str (str (sayH h p).group), .int .i64 (sayH h p).major, .int .i64 (sayH h p).minor, .hold]]))
    (c0 c3 c4 c5 c6 c7 c8 c11 c12 : Int) (c1 c2 c9 c10 : ByteArray) (y : List AV) : ∀ (suf pre : List Pair) (h : Head) (k0 : Nat), suf.length < k0 → pre ++ suf = l → h.extra.length + suf.length ≤ 100000 →
    over_Apply_L0 kap k k0 (prs l) ((l.length : Nat) : Int) ((pre.length : Nat) : Int) h.kind (str h.name) (str h.link) h.mode h.uid h.gid h.size h.sec h.nano (str h.user) (str h.group) h.major h.minor c0 c1 c2 c3 c4 c5 c6 c7 c8 c9 c10 c11 c12 (prs h.extra) y = some (.tup [.agg (encHead (suf.foldl sayH h)), .int .u8 0])
  | [], pre, h, k0 + 1, hk, he, hx => by
    rw [List.append_nil] at he
    subst he
    rw [over_Apply_L0_s, bif_f (by omega)]
    rfl
  | p :: suf, pre, h, k0 + 1, hk, he, hx => by
    have hi : pre.length < l.length := by rw [← he]; simp
    have hmm : ∀ F : AV → Option AV, ((prs l)[pre.length]?).bind F = F (elPair p) := fun F => by rw [← he]; exact prs_mid pre suf p F
    rw [List.length_cons] at hk hx
    have ih := fun (g : Head) (hg : g.extra.length ≤ h.extra.length + 1) => apply_loop kap l hl hK hS c0 c3 c4 c5 c6 c7 c8 c11 c12 c1 c2 c9 c10 y suf (pre ++ [p]) g k0 (by omega) (by rw [← he]; simp) (by omega)
    rw [List.length_append, List.length_singleton] at ih
    rw [over_Apply_L0_s, bif_t (by omega), prs_len, bif_a, bif_t (by omega), bif_t (by omega), Int.toNat_natCast, hmm, cells_pair, p_0, p_1, hK, callB_ok, List.foldl_cons, wrap1 (by omega)]
    by_cases hw : 0 ≤ whichL p.key
    · have hex : (sayH h p).extra = h.extra := by
        have hlt := which_lt p.key
        unfold sayH
        generalize whichL p.key = w at hw hlt
        have : w = 0 ∨ w = 1 ∨ w = 2 ∨ w = 3 ∨ w = 4 ∨ w = 5 ∨ w = 6 ∨ w = 7 := by omega
        rcases this with rfl | rfl | rfl | rfl | rfl | rfl | rfl | rfl <;> rfl
      rw [bif_t hw, hS h p (by rw [← he]; simp) hw, callX_ok, nxX_ok, nxI_ok, nxS_ok, nxS_ok, nxI_ok, nxI_ok, nxI_ok, nxI_ok, nxI_ok, nxI_ok, nxS_ok, nxS_ok, nxI_ok, nxI_ok, nxH_ok, atNil_ok, atNil_ok, callT_ok, atNil_ok]
      rw [← hex]
      exact ih (sayH h p) (by rw [hex]; omega)
    · have hs : sayH h p = { h with extra := h.extra ++ [p] } := by
        unfold sayH
        rw [if_neg (by omega), if_neg (by omega), if_neg (by omega), if_neg (by omega), if_neg (by omega), if_neg (by omega), if_neg (by omega), if_neg (by omega)]
      rw [bif_f hw, prs_len, show (decide ((h.extra.length + 1) * 32 ≤ 140737488355328) && decide (h.extra.length + 1 ≤ 9223372036854775807)) = true by simp; omega, cond_true, prs_sn, hs]
      exact ih { h with extra := h.extra ++ [p] } (by simp)
end Go.Proofs.YtilbahgfjfcikaaGreatDoor.Eng.U


/- slices.Insert and slices.Delete at pairs, strings.Compare: as given functions. -/
set_option linter.unusedVariables false
set_option linter.unusedSectionVars false
set_option linter.unusedSimpArgs false
namespace Go.Proofs.YtilbahgfjfcikaaGreatDoor.Eng.U
open Go Go.RowKit Go.Proofs Go.Proofs.YtilbahgfjfcikaaGreatDoor.Eng Go.Proofs.YtilbahgfjfcikaaGreatDoor.Eng.Rdv Go.Proofs.YtilbahgfjfcikaaGreatDoor.S08

def flatV (l : List Pair) : List Value := l.flatMap fun p => [.string (str p.key), .string (str p.val)]
theorem flatV_len : ∀ l : List Pair, (flatV l).length = l.length * 2
  | [] => rfl
  | p :: l => by
    have e : flatV (p :: l) = .string (str p.key) :: .string (str p.val) :: flatV l := rfl
    rw [e, List.length_cons, List.length_cons, flatV_len l, List.length_cons]; omega
theorem flatV_app (a b : List Pair) : flatV (a ++ b) = flatV a ++ flatV b := by simp [flatV]
theorem flatV_take (l : List Pair) (i : Nat) (h : i ≤ l.length) : (flatV l).take (i * 2) = flatV (l.take i) := by
  conv => lhs; rw [← List.take_append_drop i l, flatV_app]
  rw [List.take_append_of_le_length (by rw [flatV_len, List.length_take]; omega), List.take_of_length_le (by rw [flatV_len, List.length_take]; omega)]
theorem flatV_drop (l : List Pair) (i : Nat) (h : i ≤ l.length) : (flatV l).drop (i * 2) = flatV (l.drop i) := by
  conv => lhs; rw [← List.take_append_drop i l, flatV_app]
  rw [List.drop_append, List.drop_of_length_le (by rw [flatV_len, List.length_take]; omega), List.nil_append, flatV_len, List.length_take, show i * 2 - min i l.length * 2 = 0 by omega, List.drop_zero]
theorem flatV_one : ∀ (l : List Pair), ∀ u ∈ flatV l, u.oneCell' = true
  | [], u, h => by cases h
  | p :: l, u, h => by
    have e : flatV (p :: l) = .string (str p.key) :: .string (str p.val) :: flatV l := rfl
    rw [e] at h
    rcases List.mem_cons.1 h with rfl | h
    · rfl
    · rcases List.mem_cons.1 h with rfl | h
      · rfl
      · exact flatV_one l u h
theorem cells2 : Tryz.prog.cellsOf 42 = 2 := by kernel_rfl
theorem els_flat {S : Stab} : ∀ (l : List Pair) (us : List Value), Els Tryz.prog S 42 (prs l) us → us = flatV l
  | [], us, h => by
    have := h.1
    rw [show (prs ([] : List Pair)).length = 0 from rfl, Nat.zero_mul] at this
    exact List.eq_nil_of_length_eq_zero this
  | p :: l, us, h => by
    obtain ⟨h1, h2, h3⟩ := h
    rw [cells2] at h1 h3
    rw [prs_len, List.length_cons] at h1
    match us, h1 with
    | [], h1 => simp at h1
    | [_], h1 => simp at h1; omega
    | u :: v :: us, h1 =>
      have h0 := (h3 0 (elPair p) rfl).2
      have hu := V_str ((h0 0 (.str (str p.key)) rfl).2 u rfl)
      have hv := V_str ((h0 1 (.str (str p.val)) rfl).2 v rfl)
      have ih := els_flat l us ⟨by rw [cells2, prs_len]; simp only [List.length_cons] at h1; omega, fun x hx => h2 x (by simp [hx]), fun i y hy => by
        obtain ⟨q1, q2⟩ := h3 (i + 1) y (by simpa [prs] using hy)
        refine ⟨by rw [cells2]; exact q1, fun j c hc => ⟨(q2 j c hc).1, fun w hw => (q2 j c hc).2 w ?_⟩⟩
        rw [cells2] at hw
        rw [show (i + 1) * 2 + j = i * 2 + j + 1 + 1 by omega, List.getElem?_cons_succ, List.getElem?_cons_succ]
        exact hw⟩
      rw [hu, hv, ih]
      rfl
theorem flat_at : ∀ (l : List Pair) (i : Nat) (p : Pair), l[i]? = some p → (flatV l)[i * 2]? = some (.string (str p.key)) ∧ (flatV l)[i * 2 + 1]? = some (.string (str p.val))
  | [], i, p, h => by simp at h
  | q :: l, 0, p, h => by
    simp only [List.getElem?_cons_zero, Option.some.injEq] at h
    subst h
    exact ⟨rfl, rfl⟩
  | q :: l, i + 1, p, h => by
    have := flat_at l i p (by simpa using h)
    have e : flatV (q :: l) = .string (str q.key) :: .string (str q.val) :: flatV l := rfl
    rw [e, show (i + 1) * 2 = i * 2 + 1 + 1 by omega]
    simpa using this
theorem flat_els (S : Stab) (l : List Pair) : Els Tryz.prog S 42 (prs l) (flatV l) := by
  refine ⟨by rw [flatV_len, prs_len, cells2], flatV_one l, fun i y hy => ?_⟩
  unfold prs at hy
  rw [List.getElem?_map] at hy
  obtain ⟨p, hp, rfl⟩ := Option.map_eq_some_iff.1 hy
  obtain ⟨f1, f2⟩ := flat_at l i p hp
  rw [cells2]
  refine ⟨rfl, fun j c hc => ?_⟩
  match j, hc with
  | 0, hc =>
    cases hc
    refine ⟨rfl, fun v hv => ?_⟩
    rw [Nat.add_zero, f1] at hv
    cases hv; exact V.str _
  | 1, hc =>
    cases hc
    refine ⟨rfl, fun v hv => ?_⟩
    rw [f2] at hv
    cases hv; exact V.str _
theorem splice_in (cur us vs : List Value) (i n : Nat) (h1 : cur.take (n * 2) = us) (h2 : us.length = n * 2) (h3 : vs.length = 2) (hi : i ≤ n) (h4 : (n + 1) * 2 ≤ cur.length) :
    (((cur.take ((i + 1) * 2) ++ us.drop (i * 2) ++ cur.drop ((i + 1) * 2 + (us.drop (i * 2)).length)).take (i * 2) ++ vs ++ (cur.take ((i + 1) * 2) ++ us.drop (i * 2) ++ cur.drop ((i + 1) * 2 + (us.drop (i * 2)).length)).drop (i * 2 + vs.length)).take ((n + 1) * 2)) = us.take (i * 2) ++ vs ++ us.drop (i * 2) := by
  have hd : (us.drop (i * 2)).length = n * 2 - i * 2 := by rw [List.length_drop, h2]
  have ht : (cur.take ((i + 1) * 2)).length = (i + 1) * 2 := by rw [List.length_take]; omega
  have e1 : (cur.take ((i + 1) * 2) ++ us.drop (i * 2) ++ cur.drop ((i + 1) * 2 + (us.drop (i * 2)).length)).take (i * 2) = us.take (i * 2) := by
    rw [List.append_assoc, List.take_append_of_le_length (by omega), List.take_take, ← h1, List.take_take]
    congr 1
    omega
  have e2 : (cur.take ((i + 1) * 2) ++ us.drop (i * 2) ++ cur.drop ((i + 1) * 2 + (us.drop (i * 2)).length)).drop (i * 2 + vs.length) = us.drop (i * 2) ++ cur.drop ((i + 1) * 2 + (us.drop (i * 2)).length) := by
    rw [List.append_assoc, List.drop_append, List.drop_of_length_le (by omega), List.nil_append, ht, h3, show i * 2 + 2 - (i + 1) * 2 = 0 by omega, List.drop_zero]
  rw [e1, e2, ← List.append_assoc, List.take_append_of_le_length (by simp only [List.length_append, List.length_take, hd, h2, h3]; omega), List.take_of_length_le (by simp only [List.length_append, List.length_take, hd, h2, h3]; omega)]
theorem splice_new (row us vs : List Value) (i n : Nat) (h1 : row.take (i * 2) = us.take (i * 2)) (h2 : us.length = n * 2) (h3 : vs.length = 2) (hi : i ≤ n) (h4 : (n + 1) * 2 ≤ row.length) :
    ((row.take (i * 2) ++ vs ++ row.drop (i * 2 + vs.length)).take ((i + 1) * 2) ++ us.drop (i * 2) ++ (row.take (i * 2) ++ vs ++ row.drop (i * 2 + vs.length)).drop ((i + 1) * 2 + (us.drop (i * 2)).length)).take ((n + 1) * 2) = us.take (i * 2) ++ vs ++ us.drop (i * 2) := by
  have hd : (us.drop (i * 2)).length = n * 2 - i * 2 := by rw [List.length_drop, h2]
  have ht : (row.take (i * 2) ++ vs).length = (i + 1) * 2 := by rw [List.length_append, List.length_take, h3]; omega
  have e1 : (row.take (i * 2) ++ vs ++ row.drop (i * 2 + vs.length)).take ((i + 1) * 2) = us.take (i * 2) ++ vs := by
    rw [List.take_append_of_le_length (by omega), List.take_of_length_le (by omega), h1]
  rw [e1, List.take_append_of_le_length (by simp only [List.length_append, List.length_take, hd, h2, h3]; omega), List.take_of_length_le (by simp only [List.length_append, List.length_take, hd, h2, h3]; omega)]
theorem splice_out (cur us zs : List Value) (i n : Nat) (h1 : cur.take (n * 2) = us) (h2 : us.length = n * 2) (hi : i < n) (h4 : n * 2 ≤ cur.length) (h3 : zs.length = 2) :
    ((cur.take (i * 2) ++ us.drop ((i + 1) * 2) ++ cur.drop (i * 2 + (us.drop ((i + 1) * 2)).length)).take ((n - 1) * 2) ++ zs ++ (cur.take (i * 2) ++ us.drop ((i + 1) * 2) ++ cur.drop (i * 2 + (us.drop ((i + 1) * 2)).length)).drop ((n - 1) * 2 + zs.length)).take ((n - 1) * 2) = us.take (i * 2) ++ us.drop ((i + 1) * 2) := by
  have hd : (us.drop ((i + 1) * 2)).length = n * 2 - (i + 1) * 2 := by rw [List.length_drop, h2]
  have ht : (cur.take (i * 2)).length = i * 2 := by rw [List.length_take]; omega
  have e1 : (cur.take (i * 2) ++ us.drop ((i + 1) * 2) ++ cur.drop (i * 2 + (us.drop ((i + 1) * 2)).length)).take ((n - 1) * 2) = us.take (i * 2) ++ us.drop ((i + 1) * 2) := by
    rw [List.take_append_of_le_length (by rw [List.length_append]; omega), List.take_of_length_le (by rw [List.length_append]; omega)]
    congr 1
    rw [← h1, List.take_take]
    congr 1
    omega
  rw [e1, List.append_assoc, List.take_append_of_le_length (by simp only [List.length_append, List.length_take, hd, h2]; omega), List.take_of_length_le (by simp only [List.length_append, List.length_take, hd, h2]; omega)]
theorem lback_none {S : Stab} {w w' : World} : ∀ (args : List AV) (vals : List Value), (∀ c ∈ args, c.isLent = false) → args.length = vals.length → LBack Tryz.prog S w w' args vals []
  | [], vals, _, _ => rfl
  | a :: args, [], _, h => by cases h
  | a :: args, u :: vals, hl, h => by
    have ih := lback_none (S := S) (w := w) (w' := w') args vals (fun c hc => hl c (.tail _ hc)) (by simpa using h)
    have ha := hl a (.head _)
    cases a <;> first | exact ⟨u, vals, rfl, ih⟩ | cases ha
theorem lentB_none : ∀ (args : List AV) (vals : List Value), (∀ c ∈ args, c.isLent = false) → lentB args vals = []
  | [], vals, _ => by simp [lentB]
  | a :: args, [], _ => by simp [lentB]
  | a :: args, u :: vals, hl => by
    have ih := lentB_none args vals fun c hc => hl c (.tail _ hc)
    simp only [lentB, hl a (.head _), cond_false, List.nil_append, ih]
/-- What is answered out of rows that were handed in: one row, that is new or lies where one of these lay. -/
theorem ok_given {f : FuncId} {args : List AV} {xs : List Pair} (hlent : ∀ c ∈ args, c.isLent = false)
    (h : ∀ (S : Stab) (w : World) (vals : List Value), Agree S w → LArgs Tryz.prog S w args vals → (resB args vals).Nodup → Calls Tryz.prog f vals.toArray w fun e w' => ∃ v, e = .returned v ∧ w'.ownsRow 0 42 2 v xs.length (flatV xs) ∧ BelX { w := w, x := resB args vals, held := fun _ => none } w' ∧ (∀ g, hblk v = some g → w.heap.size ≤ g ∨ g ∈ resB args vals))
    (hS : ∀ (S : Stab) (w : World) (vals : List Value), LArgs Tryz.prog S w args vals → ∀ g ∈ resB args vals, ∀ x z, S x = some z → x.block ≠ g) : Ok Tryz.prog glob f args (.lback (.fresh 42 (prs xs)) []) := by
  intro S w vals hag hG hL hnd hoff
  refine (h S w vals hag hL hnd).mono ?_
  rintro e w' ⟨v, rfl, hown, hb, hblk⟩
  have hne := hS S w vals hL
  have hag' : Agree S w' := fun x u hx => by
    have hc := hag x u hx
    have hlt := World.block_lt_of_cell? w x hc
    exact (World.cell?_of_block (hb.block _ hlt fun hm => hne _ hm x u hx rfl)).trans hc
  refine ⟨v, S, rfl, fun _ _ h => h, hag', fun x u hx => .inl hx, hb, ?_, ?_, ?_⟩
  · refine ⟨flatV xs, by rw [prs_len, cells2]; exact hown, by rw [cells2]; decide, flat_els S xs, fun g hg => ⟨hblk g hg, fun x u hx e => ?_⟩⟩
    rcases hblk g hg with hn | hm
    · have hlt := World.block_lt_of_cell? w x (hag x u hx)
      omega
    · exact hne g hm x u hx e
  · exact lback_none args vals hlent hL.1
  · intro g _
    rw [lentB_none args vals hlent]
    simp
end Go.Proofs.YtilbahgfjfcikaaGreatDoor.Eng.U

