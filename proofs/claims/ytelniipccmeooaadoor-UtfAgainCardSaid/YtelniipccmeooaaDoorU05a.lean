/- The Utf laws in plain words, part 1: how many bytes stand for a code point. -/
import Derived.Test.YtelniipccmeooaaDoorR05
import Derived.Lib.DecodeN
import Derived.IntWalk
set_option linter.unusedVariables false
set_option linter.unusedSimpArgs false
namespace Go.Proofs.YtelniipccmeooaaDoor.Eng.U
open Go Go.Proofs Go.Proofs.YtelniipccmeooaaDoor.Eng Go.Lib
variable {kap : FuncId → List AV → Option AV}

def by_ (s : ByteArray) (i : Nat) : Nat := (s.data.toList.getD i 0).toNat
theorem by_lt (s : ByteArray) (i : Nat) : by_ s i < 256 := UInt8.toNat_lt _
theorem get_by (s : ByteArray) (i : Nat) : (s.get! i).toNat = by_ s i := by
  unfold by_
  congr 1
  simp [ByteArray.get!, List.getD_eq_getElem?_getD, Array.getElem!_eq_getD, Array.getD_eq_getD_getElem?]
  rfl
/-- How many bytes from place i on are a code point's own; 0: none. -/
def szOf (p : Nat × Nat) : Nat := if p = (65533, 1) then 0 else p.2
def sizeS (s : ByteArray) (i : Nat) : Nat := szOf (Utf8.decode s i)
theorem i64w {x : Int} (h : -9223372036854775808 ≤ x ∧ x ≤ 9223372036854775807) : IntKind.wrap .i64 x = x := IntWalk.i64_in x h

theorem L51_step {K m : Nat} {s : ByteArray} {i n c j : Nat} (hs : s.size ≤ 1000000) (hj : j < n) (hb : i + j < s.size) (hc : c < 10000000) : f51_L0 kap K (m + 1) s (i : Int) (n : Int) (c : Int) (j : Int) =
    if by_ s (i + j) < 128 then some (.int .i64 0) else if 192 ≤ by_ s (i + j) then some (.int .i64 0) else f51_L0 kap K m s (i : Int) (n : Int) ((c * 64 + by_ s (i + j) - 128 : Nat) : Int) ((j + 1 : Nat) : Int) := by
  have hlt := by_lt s (i + j)
  rw [f51_L0_succ, i64w (x := (i : Int) + (j : Int)) (by omega), show ((i : Int) + (j : Int)).toNat = i + j from by omega]
  simp only [show (UInt8.toNat (List.getD s.data.toList (i + j) 0)) = by_ s (i + j) from rfl]
  generalize by_ s (i + j) = b at *
  rw [i64w (x := (64 : Int) * (c : Int)) (by omega), i64w (x := (b : Int)) (by omega), i64w (x := (64 : Int) * (c : Int) + (b : Int)) (by omega), i64w (x := (64 : Int) * (c : Int) + (b : Int) - 128) (by omega), i64w (x := (j : Int) + 1) (by omega)]
  rw [show decide ((j : Int) < (n : Int)) = true from by simp; omega, show (decide ((0 : Int) ≤ (i : Int) + (j : Int)) && decide ((i : Int) + (j : Int) < (s.size : Int))) = true from by simp; omega]
  simp only [cond_true]
  by_cases h1 : b < 128
  · rw [if_pos h1, show decide ((b : Int) < 128) = true from by simp; omega]; rfl
  · rw [if_neg h1, show decide ((b : Int) < 128) = false from by simp; omega]
    by_cases h2 : 192 ≤ b
    · rw [if_pos h2, show decide ((b : Int) ≥ 192) = true from by simp; omega]; rfl
    · rw [if_neg h2, show decide ((b : Int) ≥ 192) = false from by simp; omega]
      simp only [cond_false]
      rw [show ((c * 64 + b - 128 : Nat) : Int) = (64 : Int) * (c : Int) + (b : Int) - 128 from by omega, show ((j + 1 : Nat) : Int) = (j : Int) + 1 from by omega]
def minOf (n : Nat) : Nat := if n = 2 then 128 else if n = 3 then 2048 else 65536
theorem L51_end {K m : Nat} {s : ByteArray} {i n c : Nat} (hn : n = 2 ∨ n = 3 ∨ n = 4) : f51_L0 kap K (m + 1) s (i : Int) (n : Int) (c : Int) (n : Int) =
    if c < minOf n then some (.int .i64 0) else if 1114111 < c then some (.int .i64 0) else if 55296 ≤ c ∧ c ≤ 57343 then some (.int .i64 0) else some (.int .i64 (n : Int)) := by
  rw [f51_L0_succ, show decide ((n : Int) < (n : Int)) = false from by simp, show (decide ((0 : Int) ≤ (n : Int)) && decide ((n : Int) < 5)) = true from by simp; omega]
  simp only [cond_true, cond_false, show ((n : Int)).toNat = n from by omega]
  have key : ∀ (v : Nat) (v' : Int), v' = (v : Int) → (bif decide ((c : Int) < v') then some (AV.int .i64 0) else bif decide ((c : Int) > 1114111) then some (.int .i64 0) else bif decide ((c : Int) ≥ 55296) then (bif decide ((c : Int) ≤ 57343) then some (.int .i64 0) else some (.int .i64 (n : Int))) else some (.int .i64 (n : Int))) =
      if c < v then some (.int .i64 0) else if 1114111 < c then some (.int .i64 0) else if 55296 ≤ c ∧ c ≤ 57343 then some (.int .i64 0) else some (.int .i64 (n : Int)) := by
    rintro v _ rfl
    by_cases h1 : c < v
    · rw [if_pos h1, show decide ((c : Int) < (v : Int)) = true from by simp; omega]; rfl
    rw [if_neg h1, show decide ((c : Int) < (v : Int)) = false from by simp; omega, cond_false]
    by_cases h2 : 1114111 < c
    · rw [if_pos h2, show decide ((c : Int) > 1114111) = true from by simp; omega]; rfl
    rw [if_neg h2, show decide ((c : Int) > 1114111) = false from by simp; omega, cond_false]
    by_cases h3 : 55296 ≤ c
    · rw [show decide ((c : Int) ≥ 55296) = true from by simp; omega, cond_true]
      by_cases h4 : c ≤ 57343
      · rw [if_pos ⟨h3, h4⟩, show decide ((c : Int) ≤ 57343) = true from by simp; omega]; rfl
      · rw [if_neg (fun h => h4 h.2), show decide ((c : Int) ≤ 57343) = false from by simp; omega]; rfl
    · rw [if_neg (fun h => h3 h.1), show decide ((c : Int) ≥ 55296) = false from by simp; omega]; rfl
  have e : ∀ (j : Nat) (v : Int) (K : Int → Option AV), ([(.int .i64 (0 : Int)), (.int .i64 (0 : Int)), (.int .i64 (128 : Int)), (.int .i64 (2048 : Int)), (.int .i64 (65536 : Int))] : List AV)[j]? = some (.int .i64 v) → (([(.int .i64 (0 : Int)), (.int .i64 (0 : Int)), (.int .i64 (128 : Int)), (.int .i64 (2048 : Int)), (.int .i64 (65536 : Int))] : List AV)[j]?).bind (fun vy1 => cellAt (AV.cells vy1) 0 fun vc2 => atInt .i64 vc2 fun vn3 => K vn3) = K v := by
    intro j v K h
    rw [h]
    rfl
  rcases hn with rfl | rfl | rfl
  · rw [show minOf 2 = 128 from rfl, e 2 128 _ rfl]; exact key 128 128 (by omega)
  · rw [show minOf 3 = 2048 from rfl, e 3 2048 _ rfl]; exact key 2048 2048 (by omega)
  · rw [show minOf 4 = 65536 from rfl, e 4 65536 _ rfl]; exact key 65536 65536 (by omega)

theorem L51_two {K m : Nat} {s : ByteArray} {i c : Nat} (hs : s.size ≤ 1000000) (hb : i + 1 < s.size) (hc : c < 256) : f51_L0 kap K (m + 2) s (i : Int) ((2 : Nat) : Int) (c : Int) ((1 : Nat) : Int) =
    if by_ s (i + 1) < 128 then some (.int .i64 0) else if 192 ≤ by_ s (i + 1) then some (.int .i64 0) else
    if c * 64 + by_ s (i + 1) - 128 < 128 then some (.int .i64 0) else if 1114111 < c * 64 + by_ s (i + 1) - 128 then some (.int .i64 0) else if 55296 ≤ c * 64 + by_ s (i + 1) - 128 ∧ c * 64 + by_ s (i + 1) - 128 ≤ 57343 then some (.int .i64 0) else some (.int .i64 2) := by
  rw [L51_step hs (by omega) hb (by omega)]
  split
  · rfl
  split
  · rfl
  exact L51_end (.inl rfl)
theorem L51_three {K m : Nat} {s : ByteArray} {i c : Nat} (hs : s.size ≤ 1000000) (hb : i + 2 < s.size) (hc : c < 256) : f51_L0 kap K (m + 3) s (i : Int) ((3 : Nat) : Int) (c : Int) ((1 : Nat) : Int) =
    if by_ s (i + 1) < 128 then some (.int .i64 0) else if 192 ≤ by_ s (i + 1) then some (.int .i64 0) else
    if by_ s (i + 2) < 128 then some (.int .i64 0) else if 192 ≤ by_ s (i + 2) then some (.int .i64 0) else
    if (c * 64 + by_ s (i + 1) - 128) * 64 + by_ s (i + 2) - 128 < 2048 then some (.int .i64 0) else if 1114111 < (c * 64 + by_ s (i + 1) - 128) * 64 + by_ s (i + 2) - 128 then some (.int .i64 0) else if 55296 ≤ (c * 64 + by_ s (i + 1) - 128) * 64 + by_ s (i + 2) - 128 ∧ (c * 64 + by_ s (i + 1) - 128) * 64 + by_ s (i + 2) - 128 ≤ 57343 then some (.int .i64 0) else some (.int .i64 3) := by
  have h1 := by_lt s (i + 1)
  rw [L51_step hs (by omega) (by omega) (by omega)]
  split
  · rfl
  split
  · rfl
  rw [L51_step hs (by omega) (by omega) (by omega)]
  split
  · rfl
  split
  · rfl
  exact L51_end (.inr (.inl rfl))
theorem L51_four {K m : Nat} {s : ByteArray} {i c : Nat} (hs : s.size ≤ 1000000) (hb : i + 3 < s.size) (hc : c < 256) : f51_L0 kap K (m + 4) s (i : Int) ((4 : Nat) : Int) (c : Int) ((1 : Nat) : Int) =
    if by_ s (i + 1) < 128 then some (.int .i64 0) else if 192 ≤ by_ s (i + 1) then some (.int .i64 0) else
    if by_ s (i + 2) < 128 then some (.int .i64 0) else if 192 ≤ by_ s (i + 2) then some (.int .i64 0) else
    if by_ s (i + 3) < 128 then some (.int .i64 0) else if 192 ≤ by_ s (i + 3) then some (.int .i64 0) else
    if ((c * 64 + by_ s (i + 1) - 128) * 64 + by_ s (i + 2) - 128) * 64 + by_ s (i + 3) - 128 < 65536 then some (.int .i64 0) else if 1114111 < ((c * 64 + by_ s (i + 1) - 128) * 64 + by_ s (i + 2) - 128) * 64 + by_ s (i + 3) - 128 then some (.int .i64 0) else if 55296 ≤ ((c * 64 + by_ s (i + 1) - 128) * 64 + by_ s (i + 2) - 128) * 64 + by_ s (i + 3) - 128 ∧ ((c * 64 + by_ s (i + 1) - 128) * 64 + by_ s (i + 2) - 128) * 64 + by_ s (i + 3) - 128 ≤ 57343 then some (.int .i64 0) else some (.int .i64 4) := by
  have h1 := by_lt s (i + 1)
  have h2 := by_lt s (i + 2)
  rw [L51_step hs (by omega) (by omega) (by omega)]
  split
  · rfl
  split
  · rfl
  rw [L51_step hs (by omega) (by omega) (by omega)]
  split
  · rfl
  split
  · rfl
  rw [L51_step hs (by omega) (by omega) (by omega)]
  split
  · rfl
  split
  · rfl
  exact L51_end (.inr (.inr rfl))

/-- How many bytes a code point takes, by numbers. -/
def sizeN (n b0 b1 b2 b3 : Nat) : Nat := szOf (decodeN n b0 b1 b2 b3)
theorem szOf_bad : szOf (65533, 1) = 0 := rfl
theorem szOf_ok {c w : Nat} (h : w ≠ 1 ∨ c ≠ 65533) : szOf (c, w) = w := by
  unfold szOf
  rw [if_neg (by simp only [Prod.mk.injEq]; omega)]
theorem sizeS_eq (s : ByteArray) (i : Nat) : sizeS s i = sizeN (s.size - i) (by_ s i) (by_ s (i + 1)) (by_ s (i + 2)) (by_ s (i + 3)) := by
  unfold sizeS sizeN
  rw [decode_at, get_by, get_by, get_by, get_by]
theorem f51_num {K : Nat} {s : ByteArray} {i : Nat} (hs : s.size ≤ 1000000) (hi : i < s.size) : (bs (K + 5)).at kap 51 [.str s, .int .i64 (i : Int)] =
    if by_ s i < 128 then some (.int .i64 1) else if by_ s i < 192 then some (.int .i64 0) else
    if by_ s i < 224 then (if s.size < i + 2 then some (.int .i64 0) else f51_L0 kap (K + 5) (K + 5) s (i : Int) ((2 : Nat) : Int) ((by_ s i - 192 : Nat) : Int) ((1 : Nat) : Int)) else
    if by_ s i < 240 then (if s.size < i + 3 then some (.int .i64 0) else f51_L0 kap (K + 5) (K + 5) s (i : Int) ((3 : Nat) : Int) ((by_ s i - 224 : Nat) : Int) ((1 : Nat) : Int)) else
    if by_ s i < 248 then (if s.size < i + 4 then some (.int .i64 0) else f51_L0 kap (K + 5) (K + 5) s (i : Int) ((4 : Nat) : Int) ((by_ s i - 240 : Nat) : Int) ((1 : Nat) : Int)) else some (.int .i64 0) := by
  have hlt := by_lt s i
  rw [f51_eq, show ((i : Int)).toNat = i from by omega]
  simp only [show (UInt8.toNat (List.getD s.data.toList i 0)) = by_ s i from rfl]
  generalize by_ s i = b at *
  rw [i64w (x := (b : Int)) (by omega)]
  rw [show (decide ((0 : Int) ≤ (i : Int)) && decide ((i : Int) < (s.size : Int))) = true from by simp; omega]
  simp only [cond_true]
  rw [i64w (x := (i : Int) + 2) (by omega), i64w (x := (i : Int) + 3) (by omega), i64w (x := (i : Int) + 4) (by omega)]
  rw [i64w (x := (b : Int) - 192) (by omega), i64w (x := (b : Int) - 224) (by omega), i64w (x := (b : Int) - 240) (by omega)]
  have hd : ∀ (p q : Prop) [Decidable p] [Decidable q], (p ↔ q) → decide p = decide q := fun p q _ _ h => decide_eq_decide.2 h
  have bif_if : ∀ {α : Type} (p : Prop) [Decidable p] (x y : α), (bif decide p then x else y) = if p then x else y := fun p _ x y => by by_cases h : p <;> simp [h]
  simp only [bif_if]
  by_cases a1 : b < 128
  · rw [if_pos (by omega), if_pos a1]
  rw [if_neg (by omega), if_neg a1]
  by_cases a2 : b < 192
  · rw [if_pos a2, if_neg (by omega), if_neg (by omega), if_neg (by omega)]
  rw [if_neg a2, if_pos (by omega)]
  by_cases a3 : b < 224
  · rw [if_pos (by omega), if_pos a3]
    by_cases z : s.size < i + 2
    · rw [if_pos (by omega), if_pos z]
    · rw [if_neg (by omega), if_neg z, show ((b - 192 : Nat) : Int) = (b : Int) - 192 from by omega]; rfl
  rw [if_neg (by omega), if_neg a3, if_pos (by omega)]
  by_cases a4 : b < 240
  · rw [if_pos (by omega), if_pos a4]
    by_cases z : s.size < i + 3
    · rw [if_pos (by omega), if_pos z]
    · rw [if_neg (by omega), if_neg z, show ((b - 224 : Nat) : Int) = (b : Int) - 224 from by omega]; rfl
  rw [if_neg (by omega), if_neg a4, if_pos (by omega)]
  by_cases a5 : b < 248
  · rw [if_pos (by omega), if_pos a5]
    by_cases z : s.size < i + 4
    · rw [if_pos (by omega), if_pos z]
    · rw [if_neg (by omega), if_neg z, show ((b - 240 : Nat) : Int) = (b : Int) - 240 from by omega]; rfl
  rw [if_neg (by omega), if_neg a5]
end Go.Proofs.YtelniipccmeooaaDoor.Eng.U
