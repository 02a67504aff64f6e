/- The engine, part 2: what an abstract value, an object, a frame says of memory. -/
import Derived.Test.YtilbahgfjfcikaaDoorE1
import Derived.WalkKit
import Derived.Laws.Strings
import Derived.Laws.Slices
import Derived.Laws.Cells
import Derived.Laws.Rows
import Derived.Laws.Tables
import Derived.Laws.MakeOwn
import Derived.Laws.AppendOwnNone
import Derived.Laws.StructEq
import Derived.Deep.Slices
set_option linter.unusedVariables false
set_option linter.unusedSimpArgs false
namespace Go.Proofs.YtilbahgfjfcikaaDoor.Eng
open Go Go.RowKit

/-- Cells that hold what they hold for good. -/
abbrev Stab := Addr → Option Value
def Stab.le (S S' : Stab) : Prop := ∀ x v, S x = some v → S' x = some v
def Agree (S : Stab) (w : World) : Prop := ∀ x v, S x = some v → w.cell? x = some v

inductive V (S : Stab) : AV → Value → Prop
  | bool (b : Bool) : V S (.bool b) (.bool b)
  | int (k : IntKind) (n : Int) : V S (.int k n) (.int k n)
  | str (s : ByteArray) : V S (.str s) (.string s)
  | nilp : V S .nilp (.pointer none)
  | nilf : V S .nilf .nilFunc
  | nili : V S .nili .nilIface
  | nils : V S .nils (.slice none 0 0)
  | nilm : V S .nilm (.map none)
  | ifc (t : TypeId) (v : Value) : V S .ifc (.iface t v)
  | list0 (sz : Nat) (a : Addr) (cap : Nat) : V S (.list sz []) (.slice (some a) 0 cap)
  | listn (sz : Nat) : V S (.list sz []) (.slice none 0 0)
  | list (sz : Nat) (xs : List AV) (a : Addr) (cap : Nat) (f : Nat → Nat → Value) (h0 : xs.length ≤ cap)
      (h1 : ∀ (i : Nat) (x : AV), xs[i]? = some x → x.cells.length = sz)
      (h2 : ∀ (i : Nat) (x : AV) (j : Nat) (c : AV), xs[i]? = some x → x.cells[j]? = some c → c.leaf = true)
      (h3 : ∀ (i : Nat) (x : AV) (j : Nat) (c : AV), xs[i]? = some x → x.cells[j]? = some c → S (a.add (i * sz + j)) = some (f i j))
      (h4 : ∀ (i : Nat) (x : AV) (j : Nat) (c : AV), xs[i]? = some x → x.cells[j]? = some c → V S c (f i j)) : V S (.list sz xs) (.slice (some a) xs.length cap)
  | eptr (cs : List AV) (off : Nat) (a : Addr) (f : Nat → Value)
      (h2 : ∀ (j : Nat) (c : AV), cs[j]? = some c → c.leaf = true)
      (h3 : ∀ (j : Nat) (c : AV), cs[j]? = some c → S (a.add j) = some (f j))
      (h4 : ∀ (j : Nat) (c : AV), cs[j]? = some c → V S c (f j)) : V S (.eptr cs off) (.pointer (some (a.add off)))
  | agg (cs : List AV) (vs : List Value) (h1 : cs.length = vs.length)
      (h2 : ∀ (j : Nat) (c : AV), cs[j]? = some c → c.leaf = true)
      (h4 : ∀ (j : Nat) (c : AV) (v : Value), cs[j]? = some c → vs[j]? = some v → V S c v) : V S (.agg cs) (.agg vs.toArray)
  | func (fn : Fn) (first cap : List AV) (fv cv : List Value) (h1 : first.length = fv.length) (h2 : cap.length = cv.length)
      (h3 : ∀ (j : Nat) (c : AV) (v : Value), first[j]? = some c → fv[j]? = some v → V S c v)
      (h4 : ∀ (j : Nat) (c : AV) (v : Value), cap[j]? = some c → cv[j]? = some v → V S c v) : V S (.func fn first cap) (.func fn fv.toArray cv.toArray)

theorem V.mono {S S' : Stab} (h : S.le S') {x : AV} {v : Value} (hv : V S x v) : V S' x v := by
  induction hv with
  | bool b => exact .bool b
  | int k n => exact .int k n
  | str s => exact .str s
  | nilp => exact .nilp
  | nilf => exact .nilf
  | nili => exact .nili
  | nils => exact .nils
  | nilm => exact .nilm
  | ifc t v => exact .ifc t v
  | list0 sz a cap => exact .list0 sz a cap
  | listn sz => exact .listn sz
  | list sz xs a cap f h0 h1 h2 h3 h4 ih => exact .list sz xs a cap f h0 h1 h2 (fun i x j c hi hj => h _ _ (h3 i x j c hi hj)) ih
  | eptr cs off a f h2 h3 h4 ih => exact .eptr cs off a f h2 (fun j c hj => h _ _ (h3 j c hj)) ih
  | agg cs vs h1 h2 h4 ih => exact .agg cs vs h1 h2 ih
  | func fn first cap fv cv h1 h2 h3 h4 ih3 ih4 => exact .func fn first cap fv cv h1 h2 ih3 ih4

theorem V.one {S : Stab} {x : AV} {v : Value} (hv : V S x v) (hl : x.leaf = true) : v.oneCell' = true := by
  cases hv <;> first | rfl | (simp [AV.leaf] at hl)

/-- A slot's or a cell's value: pure, or one of the call's own names. -/
def cutV (n : Nat) : Value → Value
  | .slice a _ c => .slice a n c
  | v => v
def SV1 (P : Program) (S : Stab) (gv : Nat → Value) (ob : Nat → Option Ob) : AV → Value → Prop
  | .junk, v => True
  | .und, v => v = undef
  | .own r, v => v.oneCell' = true ∧ ∀ e xs fz, ob r = some (.row e xs fz) → v = gv r
  | .ownp r n, v => v.oneCell' = true ∧ ∀ e xs fz, ob r = some (.row e xs fz) → n ≤ xs.length ∧ v = cutV n (gv r)
  | .loc r off, v => v.oneCell' = true ∧ ∀ cs, ob r = some (.box cs) → ∃ g, gv r = .pointer (some ⟨g, 0, none⟩) ∧ v = .pointer (some ⟨g, off, none⟩)
  | .rloc r i off, v => v.oneCell' = true ∧ ∀ e xs fz, ob r = some (.row e xs fz) → i < xs.length ∧ ∃ g m c, gv r = .slice (some ⟨g, 0, none⟩) m c ∧ v = .pointer (some ⟨g, i * P.cellsOf e + off, none⟩)
  | .itr r, v => v.oneCell' = true ∧ ∀ s pos, ob r = some (.it s pos) → v = gv r
  | x, v => V S x v
def SV (P : Program) (S : Stab) (gv : Nat → Value) (ob : Nat → Option Ob) : AV → Value → Prop
  | .agg cs, v => ∃ vs : List Value, v = .agg vs.toArray ∧ cs.length = vs.length ∧ (∀ u ∈ vs, u.oneCell' = true) ∧ ∀ (j : Nat) (c : AV) (u : Value), cs[j]? = some c → vs[j]? = some u → SV1 P S gv ob c u
  | .tup cs, v => ∃ vs : List Value, v = .tuple vs.toArray ∧ cs.length = vs.length ∧ ∀ (j : Nat) (c : AV) (u : Value), cs[j]? = some c → vs[j]? = some u → SV1 P S gv ob c u
  | x, v => SV1 P S gv ob x v

def hblk : Value → Option Nat
  | .pointer (some a) => some a.block
  | .slice (some a) _ _ => some a.block
  | _ => none

def ObR (P : Program) (B : Nat) (S : Stab) (gv : Nat → Value) (ob : Nat → Option Ob) (w : World) (r : Nat) : Ob → Prop
  | .box cs => ∃ (g : Nat) (u : Array Value) (T : TypeId), gv r = .pointer (some ⟨g, 0, none⟩) ∧ B ≤ g ∧ w.heap[g]? = some (.cells u T (0, 0)) ∧ u.size = cs.length ∧
      (∀ (j : Nat) (v : Value), u[j]? = some v → v.oneCell' = true) ∧ (∀ (j : Nat) (c : AV) (v : Value), cs[j]? = some c → u[j]? = some v → SV1 P S gv ob c v) ∧ (∀ x v, S x = some v → x.block ≠ g)
  | .row e xs fz => ∃ us : List Value, w.ownsRow B e (P.cellsOf e) (gv r) xs.length us ∧ 0 < P.cellsOf e ∧ (∀ u ∈ us, u.oneCell' = true) ∧
      (∀ (i : Nat) (x : AV), xs[i]? = some x → x.cells.length = P.cellsOf e ∧ ∀ (j : Nat) (c : AV), x.cells[j]? = some c → c.leaf = true ∧ ∀ v, us[i * P.cellsOf e + j]? = some v → V S c v) ∧
      (∀ g, hblk (gv r) = some g → ∀ x v, S x = some v → x.block = g → fz = true ∧ x.spot = none ∧ x.off < xs.length * P.cellsOf e)
  | .it s pos => ∃ g : Nat, gv r = .pointer (some ⟨g, 0, none⟩) ∧ B ≤ g ∧ w.heap[g]? = some (.stringIter s pos)

structure Rel (P : Program) (S0 : Stab) (W : World) (S : Stab) (gv : Nat → Value) (fr : Fr) (a : Act) (w : World) : Prop where
  below : Below W.heap.size W w
  agree : Agree S w
  ext : S0.le S
  fresh : ∀ x v, S x = some v → S0 x = some v ∨ W.heap.size ≤ x.block
  len : a.tmps.size = fr.sl.length
  obl : 4 * fr.sl.length ≤ fr.ob.length
  defers : a.defers = []
  slot : ∀ t, t < fr.sl.length → SV P S gv fr.obj (fr.get t) (a.tmps.getD t undef)
  objs : ∀ r o, fr.obj r = some o → ObR P W.heap.size S gv fr.obj w r o
  dis : ∀ r r' o o' g, fr.obj r = some o → fr.obj r' = some o' → hblk (gv r) = some g → hblk (gv r') = some g → r = r'

variable {P : Program} {S0 S S' : Stab} {W w w' : World} {gv gv' : Nat → Value} {fr : Fr} {a : Act} {ob ob' : Nat → Option Ob}

/-- Two lists of objects under which whatever names of the one live in the other alike. -/
def Kin : Option Ob → Option Ob → Prop
  | _, none => True
  | some (.box _), some (.box _) => True
  | some (.row e xs _), some (.row e' xs' _) => e = e' ∧ xs.length = xs'.length
  | some (.it _ _), some (.it _ _) => True
  | _, _ => False

theorem SV1.mono (hS : S.le S') {x : AV} {v : Value} (hg : ∀ r ∈ x.name1, Kin (ob r) (ob' r) ∧ (ob' r ≠ none → gv' r = gv r)) (h : SV1 P S gv ob x v) : SV1 P S' gv' ob' x v := by
  cases x with
  | junk => trivial
  | und => exact h
  | own r =>
    obtain ⟨h1, h2⟩ := h
    obtain ⟨hk, he⟩ := hg r (by simp [AV.name1])
    refine ⟨h1, fun e xs fz ho => ?_⟩
    rw [ho] at hk he
    rw [he (by simp)]
    cases hr : ob r with
    | none => rw [hr] at hk; exact hk.elim
    | some o => cases o with
      | row e' xs' fz' => exact h2 _ _ _ hr
      | _ => rw [hr] at hk; exact hk.elim
  | ownp r n =>
    obtain ⟨h1, h2⟩ := h
    obtain ⟨hk, he⟩ := hg r (by simp [AV.name1])
    refine ⟨h1, fun e xs fz ho => ?_⟩
    rw [ho] at hk he
    rw [he (by simp)]
    cases hr : ob r with
    | none => rw [hr] at hk; exact hk.elim
    | some o => cases o with
      | row e' xs' fz' =>
        rw [hr] at hk
        obtain ⟨q1, q2⟩ := h2 _ _ _ hr
        exact ⟨by rw [← hk.2]; exact q1, q2⟩
      | _ => rw [hr] at hk; exact hk.elim
  | loc r off =>
    obtain ⟨h1, h2⟩ := h
    obtain ⟨hk, he⟩ := hg r (by simp [AV.name1])
    refine ⟨h1, fun cs ho => ?_⟩
    rw [ho] at hk he
    rw [he (by simp)]
    cases hr : ob r with
    | none => rw [hr] at hk; exact hk.elim
    | some o => cases o with
      | box cs' => exact h2 _ hr
      | _ => rw [hr] at hk; exact hk.elim
  | rloc r i off =>
    obtain ⟨h1, h2⟩ := h
    obtain ⟨hk, he⟩ := hg r (by simp [AV.name1])
    refine ⟨h1, fun e xs fz ho => ?_⟩
    rw [ho] at hk he
    rw [he (by simp)]
    cases hr : ob r with
    | none => rw [hr] at hk; exact hk.elim
    | some o => cases o with
      | row e' xs' fz' =>
        rw [hr] at hk
        obtain ⟨q1, q2⟩ := h2 _ _ _ hr
        exact ⟨by rw [← hk.2]; exact q1, by rw [← hk.1]; exact q2⟩
      | _ => rw [hr] at hk; exact hk.elim
  | itr r =>
    obtain ⟨h1, h2⟩ := h
    obtain ⟨hk, he⟩ := hg r (by simp [AV.name1])
    refine ⟨h1, fun s pos ho => ?_⟩
    rw [ho] at hk he
    rw [he (by simp)]
    cases hr : ob r with
    | none => rw [hr] at hk; exact hk.elim
    | some o => cases o with
      | it s' pos' => exact h2 _ _ hr
      | _ => rw [hr] at hk; exact hk.elim
  | _ => exact V.mono hS h

theorem name1_mem {c : AV} : ∀ {cs : List AV} {j : Nat}, cs[j]? = some c → ∀ r ∈ c.name1, r ∈ names1 cs
  | [], j, h, _, _ => by simp at h
  | x :: cs, 0, h, r, hr => by
    simp only [List.getElem?_cons_zero, Option.some.injEq] at h
    subst h
    simp only [names1, List.mem_append]
    exact .inl hr
  | x :: cs, j + 1, h, r, hr => by
    simp only [names1, List.mem_append]
    exact .inr (name1_mem (by simpa using h) r hr)

def AV.isC : AV → Bool
  | .agg _ | .tup _ => true
  | _ => false
theorem SV_eq {x : AV} (h : x.isC = false) (v : Value) : SV P S gv ob x v = SV1 P S gv ob x v := by cases x <;> first | rfl | (simp [AV.isC] at h)
theorem names_eq {x : AV} (h : x.isC = false) : x.names = x.name1 := by cases x <;> first | rfl | (simp [AV.isC] at h)
theorem SV.mono (hS : S.le S') {x : AV} {v : Value} (hg : ∀ r ∈ x.names, Kin (ob r) (ob' r) ∧ (ob' r ≠ none → gv' r = gv r)) (h : SV P S gv ob x v) : SV P S' gv' ob' x v := by
  by_cases hc : x.isC = true
  · cases x <;> first | (simp [AV.isC] at hc; done) | skip
    · obtain ⟨vs, e, hl, h1, h2⟩ := h
      exact ⟨vs, e, hl, h1, fun j c u hc hu => (h2 j c u hc hu).mono hS fun r hr => hg r (name1_mem hc r hr)⟩
    · obtain ⟨vs, e, hl, h2⟩ := h
      exact ⟨vs, e, hl, fun j c u hc hu => (h2 j c u hc hu).mono hS fun r hr => hg r (name1_mem hc r hr)⟩
  · have hc : x.isC = false := by simpa using hc
    rw [SV_eq hc] at h ⊢
    rw [names_eq hc] at hg
    exact h.mono hS hg

/-- A pure value is a slot's. -/
theorem V.toSV1 {x : AV} {v : Value} (h : V S x v) : SV1 P S gv ob x v := by
  cases h <;> first | (constructor; done) | skip
  all_goals first | exact .bool _ | exact .int _ _ | exact .str _ | exact .nilp | exact .nilf | exact .nili | exact .nils | exact .nilm | exact .ifc _ _ | exact .list0 _ _ _ | exact .listn _ | skip
  · rename_i h0 h1 h2 h3 h4; exact .list _ _ _ _ _ h0 h1 h2 h3 h4
  · rename_i h1 h2 h3; exact .eptr _ _ _ _ h1 h2 h3
  · rename_i h1 h2 h3; exact .agg _ _ h1 h2 h3
  · rename_i h1 h2 h3 h4; exact .func _ _ _ _ _ h1 h2 h3 h4
theorem V.toSV {x : AV} {v : Value} (h : V S x v) : SV P S gv ob x v := by
  cases x with
  | agg cs =>
    cases h with
    | agg _ vs h1 h2 h4 =>
      refine ⟨vs, rfl, h1, fun u hu => ?_, fun j c u hc hu => (h4 j c u hc hu).toSV1⟩
      obtain ⟨j, hj⟩ := List.getElem?_of_mem hu
      have hlt : j < cs.length := by rw [h1]; exact (List.getElem?_eq_some_iff.1 hj).1
      exact (h4 j cs[j] u (List.getElem?_eq_getElem hlt) hj).one (h2 j _ (List.getElem?_eq_getElem hlt))
  | tup cs => cases h
  | _ => exact V.toSV1 (P := P) (gv := gv) (ob := ob) (by assumption)
theorem V.pure {x : AV} {v : Value} (h : V S x v) : x.names = [] := by
  cases h with
  | agg cs vs h1 h2 h4 =>
    have : ∀ (l : List AV), (∀ c ∈ l, ∃ v, V S c v ∧ c.leaf = true) → names1 l = [] := by
      intro l
      induction l with
      | nil => intro _; rfl
      | cons c l ih =>
        intro hl
        obtain ⟨v, hv, hcl⟩ := hl c (by simp)
        simp only [names1, ih (fun c hc => hl c (by simp [hc])), List.append_nil]
        cases hv <;> first | rfl | (simp [AV.leaf] at hcl)
    refine this cs fun c hc => ?_
    obtain ⟨j, hj⟩ := List.getElem?_of_mem hc
    have hlt : j < vs.length := by rw [← h1]; exact (List.getElem?_eq_some_iff.1 hj).1
    exact ⟨vs[j], h4 j c _ hj (List.getElem?_eq_getElem hlt), h2 j c hj⟩
  | _ => rfl
/-- A slot's value that mentions nothing, and is no junk, is pure. -/
theorem SV1.toV {x : AV} {v : Value} (h : SV1 P S gv ob x v) (hp : x.pure1 = true) : V S x v := by
  cases x <;> first | exact h | (simp [AV.pure1] at hp)

theorem Fr.get_set (sl : List AV) (ob : List (Option Ob)) (t s : Nat) (v : AV) (hs : s < sl.length) : ({ sl := sl.set t v, ob := ob } : Fr).get s = if t = s then v else (sl.getD s .junk) := by
  simp only [Fr.get, List.getD_eq_getElem?_getD, List.getElem?_set]
  by_cases h : t = s
  · subst h; simp [hs]
  · simp [h]
theorem tmps_put (a : Act) (t s : Nat) (v : Value) (hs : s < a.tmps.size) : (a.put (some t) v).tmps.getD s undef = if t = s then v else a.tmps.getD s undef := by
  simp only [Act.put, Array.getD_eq_getD_getElem?, Array.getElem?_setIfInBounds]
  by_cases h : t = s
  · subst h; simp [hs]
  · simp [h]
end Go.Proofs.YtilbahgfjfcikaaDoor.Eng
