/- The engine, part 23: lists of texts and of numbers as values; loops over lists. -/
import Derived.Test.YtilbahgfjfcikaaDoorE22
set_option linter.unusedVariables false
namespace Go.Proofs.YtilbahgfjfcikaaDoor.Eng
open Go
def sv (p : List UInt8) : AV := .str (str p)
def svs (l : List (List UInt8)) : List AV := l.map sv
def iv (n : Int) : AV := .int .i64 n
def ivs (l : List Int) : List AV := l.map iv
def bv (b : Bool) : AV := .bool b
def bvs (l : List Bool) : List AV := l.map bv
theorem svs_len (l : List (List UInt8)) : (svs l).length = l.length := by simp [svs]
theorem ivs_len (l : List Int) : (ivs l).length = l.length := by simp [ivs]
theorem bvs_len (l : List Bool) : (bvs l).length = l.length := by simp [bvs]
theorem svs_app (a b : List (List UInt8)) : svs a ++ svs b = svs (a ++ b) := by simp [svs]
theorem svs_snoc (a : List (List UInt8)) (p : List UInt8) : svs a ++ [.str (str p)] = svs (a ++ [p]) := by simp [svs, sv]
theorem ivs_snoc (a : List Int) (p : Int) : ivs a ++ [.int .i64 p] = ivs (a ++ [p]) := by simp [ivs, iv]
theorem svs_take (l : List (List UInt8)) (n : Nat) : (svs l).take n = svs (l.take n) := by simp [svs]
theorem svs_drop (l : List (List UInt8)) (n : Nat) : (svs l).drop n = svs (l.drop n) := by simp [svs]
theorem svs_nil : svs [] = [] := rfl
theorem svs_at (l : List (List UInt8)) (i : Nat) (h : i < l.length) {β : Type} (K : ByteArray → Option β) : (((svs l)[i]?).bind fun y => cellS (AV.cells y) 0 K) = K (str l[i]) := by
  unfold svs
  rw [List.getElem?_map, List.getElem?_eq_getElem h]
  rfl
theorem svs_mid (a b : List (List UInt8)) (p : List UInt8) {β : Type} (K : ByteArray → Option β) : (((svs (a ++ p :: b))[a.length]?).bind fun y => cellS (AV.cells y) 0 K) = K (str p) := by
  rw [svs_at _ _ (by simp)]
  simp
theorem ivs_at (l : List Int) (i : Nat) (h : i < l.length) {β : Type} (K : Int → Option β) : (((ivs l)[i]?).bind fun y => cellI .i64 (AV.cells y) 0 K) = K l[i] := by
  unfold ivs
  rw [List.getElem?_map, List.getElem?_eq_getElem h]
  exact cellI_0 _ _ _
theorem ivs_mid (a b : List Int) (p : Int) {β : Type} (K : Int → Option β) : (((ivs (a ++ p :: b))[a.length]?).bind fun y => cellI .i64 (AV.cells y) 0 K) = K p := by
  rw [ivs_at _ _ (by simp)]
  simp
theorem bvs_at (l : List Bool) (i : Nat) (h : i < l.length) {β : Type} (K : Bool → Option β) : (((bvs l)[i]?).bind fun y => cellB (AV.cells y) 0 K) = K l[i] := by
  unfold bvs
  rw [List.getElem?_map, List.getElem?_eq_getElem h]
  rfl
theorem mid_len {α : Type} (a b : List α) (p : α) : (a ++ p :: b).length = a.length + b.length + 1 := by simp; omega
theorem mid_snoc {α : Type} (a b : List α) (p : α) : a ++ p :: b = (a ++ [p]) ++ b := by simp
theorem mid_byte (a b : List UInt8) (c : UInt8) : (a ++ c :: b).getD a.length 0 = c := by simp [List.getD_eq_getElem?_getD]
theorem mid_cut (a b : List UInt8) (c : UInt8) : ((a ++ c :: b).take (a.length + 1)).drop a.length = [c] := by
  rw [List.take_append, List.take_of_length_le (by omega)]
  simp
/-- What a byte is, as a number. -/
theorem byte_is (c : UInt8) (m : Nat) (h : m < 256) : decide (((c.toNat : Nat) : Int) = ((m : Nat) : Int)) = decide (c = UInt8.ofNat m) := by
  rw [decide_eq_decide]
  constructor
  · intro e
    have : c.toNat = m := by omega
    subst this
    simp
  · rintro rfl
    have : (UInt8.ofNat m).toNat = m := by rw [UInt8.toNat_ofNat']; omega
    rw [this]
theorem room16 {m : Nat} (h : m ≤ 1000000000) : (decide (m * 16 ≤ 140737488355328) && decide (m ≤ 9223372036854775807)) = true := by simp; omega
/-- A place, in its bounds. -/
theorem inb {i n : Nat} (h : i < n) : (decide ((0 : Int) ≤ ((i : Nat) : Int)) && decide (((i : Nat) : Int) < ((n : Nat) : Int))) = true := by simp; omega
theorem inbE {i n : Nat} (h : i ≤ n) : (decide ((0 : Int) ≤ ((i : Nat) : Int)) && decide (((i : Nat) : Int) ≤ ((n : Nat) : Int))) = true := by simp; omega
theorem nlt {i n : Nat} : decide (((i : Nat) : Int) < ((n : Nat) : Int)) = decide (i < n) := by rw [decide_eq_decide]; omega
theorem ngt {i n : Nat} : decide (((i : Nat) : Int) > ((n : Nat) : Int)) = decide (i > n) := by rw [decide_eq_decide]; omega
theorem nle {i n : Nat} : decide (((i : Nat) : Int) ≤ ((n : Nat) : Int)) = decide (i ≤ n) := by rw [decide_eq_decide]; omega
theorem nge {i n : Nat} : decide (((i : Nat) : Int) ≥ ((n : Nat) : Int)) = decide (i ≥ n) := by rw [decide_eq_decide]; omega
theorem neq_ {i n : Nat} : decide (((i : Nat) : Int) = ((n : Nat) : Int)) = decide (i = n) := by rw [decide_eq_decide]; omega
theorem dec0 {n : Nat} : decide ((0 : Int) ≤ ((n : Nat) : Int)) = true := by simp
section
variable {α : Type} {p q : Prop} [Decidable p] [Decidable q] {a b : α} {c d : Bool}
theorem bif_t (h : p) : (bif decide p then a else b) = a := by rw [decide_eq_true h]; rfl
theorem bif_f (h : ¬ p) : (bif decide p then a else b) = b := by rw [decide_eq_false h]; rfl
theorem bif_n : (bif !c then a else b) = (bif c then b else a) := by cases c <;> rfl
theorem bif_a {x : Option α} : (bif c && d then x else none) = (bif c then (bif d then x else none) else none) := by cases c <;> rfl
end
/-- One more. -/
theorem wrap1 {i : Nat} (h : i < 9223372036854775807) : IntKind.wrap .i64 (((i : Nat) : Int) + 1) = ((i + 1 : Nat) : Int) := by rw [i64w (by omega)]; omega
theorem wrapP {i j : Nat} (h : i < 4611686018427387904) (hj : j < 4611686018427387904) : IntKind.wrap .i64 (((i : Nat) : Int) + ((j : Nat) : Int)) = ((i + j : Nat) : Int) := by rw [i64w (by omega)]; omega
theorem wrapM {i : Nat} (h : i < 9223372036854775807) (h0 : 0 < i) : IntKind.wrap .i64 (((i : Nat) : Int) - 1) = ((i - 1 : Nat) : Int) := by rw [i64w (by omega)]; omega
end Go.Proofs.YtilbahgfjfcikaaDoor.Eng
