/- Several texts of this proof in one file: U38, Q08, Q08b, U38b, U38c, U38d, B38. -/
import Derived.Test.YteamddaglbleeaaDoorMUsageGreatest0
import Derived.Lib.Bytealg
/- slices.SortStableFunc at few numbers, in plain words. Written by gen/u38.py. -/
set_option linter.unusedVariables false
set_option linter.unusedSectionVars false
set_option linter.unusedSimpArgs false
namespace Go.Proofs.YteamddaglbleeaaDoor.Eng.U
open Go Go.Proofs Go.Proofs.YteamddaglbleeaaDoor.Eng
variable {E : Ext} [Core E] {k n k0 : Nat}

def nv (i : Nat) : AV := .int .i64 ((i : Nat) : Int)
def nvs (l : List Nat) : List AV := l.map nv
theorem nvs_len (l : List Nat) : (nvs l).length = l.length := by simp [nvs]
theorem nvs_mid {β : Type} (a b : List Nat) (x : Nat) (F : AV → Option β) : ((nvs (a ++ x :: b))[a.length]?).bind F = F (nv x) := by
  unfold nvs
  rw [List.getElem?_map]
  simp
theorem nvs_mid1 {β : Type} (a b : List Nat) (y x : Nat) (F : AV → Option β) : ((nvs (a ++ y :: x :: b))[a.length + 1]?).bind F = F (nv x) := by
  have := nvs_mid (a ++ [y]) b x F
  rw [List.length_append, List.length_singleton, List.append_assoc, List.singleton_append] at this
  exact this
theorem nvs_set (a b : List Nat) (x y : Nat) : (nvs (a ++ x :: b)).set a.length (nv y) = nvs (a ++ y :: b) := by simp [nvs]
theorem nvs_set1 (a b : List Nat) (y x z : Nat) : (nvs (a ++ y :: x :: b)).set (a.length + 1) (nv z) = nvs (a ++ y :: z :: b) := by
  have := nvs_set (a ++ [y]) b x z
  rw [List.length_append, List.length_singleton, List.append_assoc, List.singleton_append, List.append_assoc, List.singleton_append] at this
  exact this
theorem nv_int {β : Type} (x : Nat) (K : Int → Option β) : cellI .i64 (AV.cells (nv x)) 0 K = K ((x : Nat) : Int) := cellI_0 _ _ _
theorem nv_mk (x y : Nat) : mkElem 1 (splice (AV.cells (nv x)) 0 [(.int .i64 ((y : Nat) : Int))]) (nv x) = nv y := rfl
theorem nv_room (x : Nat) : (decide (0 + 1 ≤ (AV.cells (nv x)).length) && true) = true := rfl
def ltV (v : Nat → Nat → Int) (x y : Nat) : Bool := decide (v x y < 0)

theorem ins1_g (kap : FuncId → List AV → Option AV) (k : Nat) (L : List AV) (v : Nat → Nat → Int) (m : Nat) (hm : m ≤ 1000000) (hv : ∀ x y, x < m → y < m → kap usage_Greatest_1 [.int .i64 ((x : Nat) : Int), .int .i64 ((y : Nat) : Int), (.eptr [(.list 15 L)] 0)] = some (.int .i64 (v x y))) (b s8 : Int) (x : Nat) (hx : x < m) :
    ∀ (rp q : List Nat) (k1 : Nat), rp.length < k1 → rp.length + q.length ≤ 1000000 → (∀ y ∈ rp, y < m) →
    slices_insertionSortCmpFunc_int_at_usage_Greatest_1_L1 kap k k0 k1 0 b L s8 ((rp.length : Nat) : Int) (nvs (rp.reverse ++ x :: q)) =
    slices_insertionSortCmpFunc_int_at_usage_Greatest_1_L0 kap k k0 0 b L (IntKind.wrap .i64 (s8 + 1)) (nvs ((insR (ltV v) x rp).reverse ++ q))
  | [], q, k1 + 1, h, hq, hr => by
    rw [slices_insertionSortCmpFunc_int_at_usage_Greatest_1_L1_s, bif_f (by simp)]
    rfl
  | y :: rp, q, k1 + 1, h, hq, hr => by
    have hy := hr y (by simp)
    simp only [List.length_cons] at h hq
    have ih := ins1_g kap k L v m hm hv b s8 x hx rp (y :: q) k1 (by omega) (by simp only [List.length_cons]; omega) (fun z hz => hr z (by simp [hz]))
    have e0 : (y :: rp).reverse ++ x :: q = rp.reverse ++ y :: x :: q := by simp
    have hl : (nvs (rp.reverse ++ y :: x :: q)).length = rp.length + q.length + 2 := by rw [nvs_len]; simp; omega
    have hl2 : (nvs (rp.reverse ++ y :: y :: q)).length = rp.length + q.length + 2 := by rw [nvs_len]; simp; omega
    have at0 : ∀ F : AV → Option AV, ((nvs (rp.reverse ++ y :: x :: q))[rp.length]?).bind F = F (nv y) := fun F => by have := nvs_mid rp.reverse (x :: q) y F; rwa [List.length_reverse] at this
    have at1 : ∀ F : AV → Option AV, ((nvs (rp.reverse ++ y :: x :: q))[rp.length + 1]?).bind F = F (nv x) := fun F => by have := nvs_mid1 rp.reverse q y x F; rwa [List.length_reverse] at this
    have at2 : ∀ F : AV → Option AV, ((nvs (rp.reverse ++ y :: y :: q))[rp.length]?).bind F = F (nv y) := fun F => by have := nvs_mid rp.reverse (y :: q) y F; rwa [List.length_reverse] at this
    have st1 : (nvs (rp.reverse ++ y :: x :: q)).set (rp.length + 1) (nv y) = nvs (rp.reverse ++ y :: y :: q) := by have := nvs_set1 rp.reverse q y x y; rwa [List.length_reverse] at this
    have st2 : (nvs (rp.reverse ++ y :: y :: q)).set rp.length (nv x) = nvs (rp.reverse ++ x :: y :: q) := by have := nvs_set rp.reverse (y :: q) y x; rwa [List.length_reverse] at this
    have em : IntKind.wrap .i64 (((rp.length + 1 : Nat) : Int) - 1) = ((rp.length : Nat) : Int) := by rw [wrapM (by omega) (by omega)]; rfl
    rw [slices_insertionSortCmpFunc_int_at_usage_Greatest_1_L1_s, List.length_cons, e0, bif_t (by omega), hl, inb (by omega), cond_true, Int.toNat_natCast, at1, nv_int, em, inb (by omega), cond_true, Int.toNat_natCast, at0, nv_int, hv x y hx hy, callI_ok]
    unfold insR
    by_cases hc : v x y < 0
    · have hc' : ltV v x y = true := by unfold ltV; exact decide_eq_true hc
      rw [if_pos hc', decide_eq_true hc, cond_true, cond_true, at0, nv_int, cond_true, at1, nv_int, cond_true, at1, nv_room, cond_true, nv_mk, st1, hl2, inb (by omega), cond_true, at2, nv_room, cond_true, nv_mk, st2]
      refine ih.trans ?_
      simp
    · have hc' : ltV v x y = false := by unfold ltV; exact decide_eq_false hc
      rw [if_neg (by rw [hc']; simp), decide_eq_false hc, cond_false]
      simp
theorem ins0_g (kap : FuncId → List AV → Option AV) (k : Nat) (L : List AV) (v : Nat → Nat → Int) (m : Nat) (hm : m ≤ 1000) (hk : 2000 < k) (hv : ∀ x y, x < m → y < m → kap usage_Greatest_1 [.int .i64 ((x : Nat) : Int), .int .i64 ((y : Nat) : Int), (.eptr [(.list 15 L)] 0)] = some (.int .i64 (v x y))) :
    ∀ (rest acc : List Nat) (k0 : Nat), rest.length < k0 → acc.length + rest.length = m → (∀ y ∈ acc, y < m) → (∀ y ∈ rest, y < m) →
    slices_insertionSortCmpFunc_int_at_usage_Greatest_1_L0 kap k k0 0 ((m : Nat) : Int) L ((acc.length : Nat) : Int) (nvs (acc.reverse ++ rest)) = some (.lback (.tup []) [(.lrow 3 (nvs (sortR (ltV v) rest acc).reverse))])
  | [], acc, k0 + 1, h, hl, ha, hr => by
    rw [slices_insertionSortCmpFunc_int_at_usage_Greatest_1_L0_s, bif_f (by simp at hl; omega), List.append_nil]
    rfl
  | x :: rest, acc, k0 + 1, h, hl, ha, hr => by
    simp only [List.length_cons] at h hl
    have hx := hr x (by simp)
    have hp := insR_perm (ltV v) x acc
    have ih := ins0_g kap k L v m hm hk hv rest (insR (ltV v) x acc) k0 (by omega) (by rw [hp.length_eq, List.length_cons]; omega) (fun y hy => by
      rcases List.mem_cons.1 (hp.mem_iff.1 hy) with rfl | hy
      · exact hx
      · exact ha y hy) (fun y hy => hr y (by simp [hy]))
    rw [slices_insertionSortCmpFunc_int_at_usage_Greatest_1_L0_s, bif_t (by omega), ins1_g kap k L v m (by omega) hv ((m : Nat) : Int) ((acc.length : Nat) : Int) x hx acc rest k (by omega) (by omega) ha, wrap1 (by omega)]
    rw [hp.length_eq, List.length_cons] at ih
    exact ih
theorem sort_g (L : List AV) (v : Nat → Nat → Int) (m : Nat) (hm : m ≤ 12) (hk : 2000 < k) (hv : ∀ x y, x < m → y < m → kp E k n usage_Greatest_1 [.int .i64 ((x : Nat) : Int), .int .i64 ((y : Nat) : Int), (.eptr [(.list 15 L)] 0)] = some (.int .i64 (v x y))) :
    kp E k (n + 3) slices_SortStableFunc_int [(.lrow 3 (nvs (List.range m))), (.func (.func usage_Greatest_1) [] [(.eptr [(.list 15 L)] 0)])] = some (.lback (.tup []) [(.lrow 3 (nvs (isort (ltV v) m)))]) := by
  have hl : (nvs (List.range m)).length = m := by rw [nvs_len, List.length_range]
  have hins : kp E k (n + 1) slices_insertionSortCmpFunc_int [(.lrow 3 (nvs (List.range m))), (.int .i64 0), (.int .i64 ((m : Nat) : Int)), (.func (.func usage_Greatest_1) [] [(.eptr [(.list 15 L)] 0)])] = some (.lback (.tup []) [(.lrow 3 (nvs (isort (ltV v) m)))]) := by
    rw [slices_insertionSortCmpFunc_int_at_usage_Greatest_1_eq]
    cases m with
    | zero =>
      obtain ⟨k, rfl⟩ : ∃ j, k = j + 1 := ⟨k - 1, by omega⟩
      rw [slices_insertionSortCmpFunc_int_at_usage_Greatest_1_L0_s, bif_f (by decide)]
      rfl
    | succ m =>
      have hr : List.range (m + 1) = [0] ++ (List.range m).map (· + 1) := by rw [List.range_succ_eq_map]; rfl
      have := ins0_g (kp E k n) k L v (m + 1) (by omega) hk hv ((List.range m).map (· + 1)) [0] k (by simp; omega) (by simp; omega) (by simp) (by simp)
      rw [show ([0] : List Nat).reverse = [0] from rfl, ← hr] at this
      refine this.trans ?_
      unfold isort
      rw [hr]
      rfl
  have hil : (nvs (isort (ltV v) m)).length = m := by
    have hp : ∀ (l acc : List Nat), (sortR (ltV v) l acc).length = l.length + acc.length := by
      intro l
      induction l with
      | nil => intro acc; simp [sortR]
      | cons x l ih =>
        intro acc
        have := ih (insR (ltV v) x acc)
        rw [(insR_perm (ltV v) x acc).length_eq] at this
        show (sortR (ltV v) l (insR (ltV v) x acc)).length = _
        rw [this, List.length_cons, List.length_cons]; omega
    rw [nvs_len]; unfold isort
    rw [List.length_reverse, hp, List.length_range]; rfl
  have hst : kp E k (n + 2) slices_stableCmpFunc_int [(.lrow 3 (nvs (List.range m))), (.int .i64 ((m : Nat) : Int)), (.func (.func usage_Greatest_1) [] [(.eptr [(.list 15 L)] 0)])] = some (.lback (.tup []) [(.lrow 3 (nvs (isort (ltV v) m)))]) := by
    obtain ⟨k', hk'⟩ : ∃ j, k = j + 1 := ⟨k - 1, by omega⟩
    rw [slices_stableCmpFunc_int_at_usage_Greatest_1_eq]
    have hL0 := slices_stableCmpFunc_int_at_usage_Greatest_1_L0_s (kp E k (n + 1)) k k' ((m : Nat) : Int) L 20 0 20 (nvs (List.range m))
    rw [← hk'] at hL0
    have hL1 := slices_stableCmpFunc_int_at_usage_Greatest_1_L1_s (kp E k (n + 1)) k k' ((m : Nat) : Int) L 20 (nvs (isort (ltV v) m))
    rw [← hk'] at hL1
    rw [hL0, bif_f (by omega), hins, callX_ok, nxR_ok, hil, hl, beq_self_eq_true, cond_true, atNil_ok, callT_ok, atNil_ok, hL1, bif_f (by omega)]
  rw [slices_SortStableFunc_int_at_usage_Greatest_1_eq, hl, hst, callX_ok, nxR_ok, hil, beq_self_eq_true, cond_true, atNil_ok, callT_ok, atNil_ok]

end Go.Proofs.YteamddaglbleeaaDoor.Eng.U


/- Overlays in plain words: the order of keys, what is laid. No program. -/
set_option linter.unusedVariables false
set_option linter.unusedSimpArgs false
namespace Go.Proofs.YteamddaglbleeaaDoor.Eng.U
open Go Go.Proofs Go.Proofs.YteamddaglbleeaaDoor.Eng

theorem u8_lt_irrefl (a : UInt8) : ¬ a < a := fun h => by rw [UInt8.lt_iff_toNat_lt] at h; omega
theorem lt_irr : ∀ a : Tx, Op.bytesLess a a = false
  | [] => rfl
  | a :: x => by
    unfold Op.bytesLess
    rw [lt_irr x, decide_eq_false (u8_lt_irrefl a), Bool.and_false, Bool.or_false]
theorem lt_cons (a b : UInt8) (x y : Tx) : Op.bytesLess (a :: x) (b :: y) = true ↔ a.toNat < b.toNat ∨ a = b ∧ Op.bytesLess x y = true := by
  rw [Op.bytesLess, Bool.or_eq_true, Bool.and_eq_true, decide_eq_true_eq, beq_iff_eq, UInt8.lt_iff_toNat_lt]
theorem lt_tr : ∀ {a b c : Tx}, Op.bytesLess a b = true → Op.bytesLess b c = true → Op.bytesLess a c = true
  | _, _, [], _, h => by cases ‹Tx› <;> simp [Op.bytesLess] at h
  | [], _, _ :: _, _, _ => rfl
  | a :: x, [], c :: z, h, _ => by simp [Op.bytesLess] at h
  | a :: x, b :: y, c :: z, h1, h2 => by
    rw [lt_cons] at *
    rcases h1 with h1 | ⟨rfl, h1⟩
    · rcases h2 with h2 | ⟨rfl, h2⟩
      · left; omega
      · left; exact h1
    · rcases h2 with h2 | ⟨rfl, h2⟩
      · left; exact h2
      · right; exact ⟨rfl, lt_tr h1 h2⟩
theorem lt_tot : ∀ {a b : Tx}, Op.bytesLess a b = false → a ≠ b → Op.bytesLess b a = true
  | [], [], _, h => absurd rfl h
  | [], _ :: _, h, _ => by simp [Op.bytesLess] at h
  | _ :: _, [], _, _ => rfl
  | a :: x, b :: y, h, hn => by
    rw [lt_cons]
    have h' : ¬ (a.toNat < b.toNat ∨ a = b ∧ Op.bytesLess x y = true) := by rw [← lt_cons, h]; simp
    by_cases e : a = b
    · subst e
      right
      refine ⟨rfl, lt_tot ?_ fun e => hn (by rw [e])⟩
      cases hq : Op.bytesLess x y with
      | false => rfl
      | true => exact absurd (.inr ⟨rfl, hq⟩) h'
    · left
      have : a.toNat ≠ b.toNat := fun h => e (UInt8.toNat_inj.1 h)
      omega
theorem lt_asym {a b : Tx} (h : Op.bytesLess a b = true) : Op.bytesLess b a = false := by
  cases hq : Op.bytesLess b a with
  | false => rfl
  | true => have := lt_tr h hq; rw [lt_irr] at this; cases this
theorem not_le (a b : Tx) : (!(Op.bytesLess a b || decide (a = b))) = Op.bytesLess b a := by
  by_cases e : a = b
  · subst e; rw [decide_eq_true rfl, Bool.or_true, lt_irr]; rfl
  · rw [decide_eq_false e, Bool.or_false]
    cases h : Op.bytesLess a b with
    | true => rw [lt_asym h]; rfl
    | false => rw [lt_tot h e]; rfl

end Go.Proofs.YteamddaglbleeaaDoor.Eng.U


/- Overlays in plain words, part 2: laid one by one. No program. -/
set_option linter.unusedVariables false
set_option linter.unusedSimpArgs false
namespace Go.Proofs.YteamddaglbleeaaDoor.Eng.U
open Go Go.Proofs Go.Proofs.YteamddaglbleeaaDoor.Eng

end Go.Proofs.YteamddaglbleeaaDoor.Eng.U


/- What the stable sorts are handed, in plain words: usage.Greatest's and order.By's orders; ref40.Less. -/
set_option linter.unusedVariables false
set_option linter.unusedSimpArgs false
set_option linter.unusedSectionVars false
namespace Go.Proofs.YteamddaglbleeaaDoor.Eng.U
open Go Go.Proofs Go.Proofs.YteamddaglbleeaaDoor.Eng Go.Proofs.YteamddaglbleeaaDoor.P24 Go.Proofs.YteamddaglbleeaaDoor.P40
class HasCmp (E : Ext) : Prop where
  cmp : ∀ (k n : Nat) (a b : Tx), kp E k n strings_Compare [.str (str a), .str (str b)] = some (.int .i64 (Lib.compareBytes a b))
variable {E : Ext} [Core E] {k n : Nat}

def cmpI (a b : Int) : Int := if a < b then -1 else if a > b then 1 else 0
theorem cmpI_lt (a b : Int) : cmpI a b < 0 ↔ a < b := by
  unfold cmpI
  split
  · simp [*]
  · split <;> omega
theorem compareInt_k (a b : Int) : kp E k (n + 2) cmp_Compare_int [.int .i64 a, .int .i64 b] = some (.int .i64 (cmpI a b)) := by
  rw [cmp_Compare_int_eq, cmp_isNaN_int_eq, cmp_isNaN_int_eq, callB_ok, callB_ok, decide_eq_true rfl, decide_eq_true rfl]
  unfold cmpI
  by_cases h1 : a < b
  · rw [if_pos h1, decide_eq_true h1]; rfl
  · rw [if_neg h1, decide_eq_false h1]
    by_cases h2 : a > b
    · rw [if_pos h2, decide_eq_true h2]; rfl
    · rw [if_neg h2, decide_eq_false h2]; rfl
/-! By a field. -/
def datOf (l : List Item) (x : Nat) : Int := ((((l[x]?).getD default).data.length : Nat) : Int)
theorem datOf_at (l : List Item) {x : Nat} (h : x < l.length) : datOf l x = ((l[x].data.length : Nat) : Int) := by unfold datOf; rw [List.getElem?_eq_getElem h]; rfl
/-- The values of the closures. -/
def vG (l : List Item) (x y : Nat) : Int := cmpI (datOf l y) (datOf l x)
theorem swo_g (l : List Item) : Swo (ltV (vG l)) := by
  unfold ltV vG
  simp only [cmpI_lt]
  exact ⟨fun a b h => by simp only [decide_eq_true_eq, decide_eq_false_iff_not] at h ⊢; omega, fun a b d h g => by simp only [decide_eq_false_iff_not] at h g ⊢; omega⟩
theorem greatest1_k (l : List Item) (hl : l.length ≤ 1000000) (x y : Nat) (hx : x < l.length) (hy : y < l.length) : kp E k (n + 3) usage_Greatest_1 [.int .i64 ((x : Nat) : Int), .int .i64 ((y : Nat) : Int), .eptr [.list 15 (its l)] 0] = some (.int .i64 (vG l x y)) := by
  have c := compareInt_k (E := E) (k := k) (n := n) ((l[y].data.length : Nat) : Int) ((l[x].data.length : Nat) : Int)
  rw [usage_Greatest_1_eq, its_len, inb hy, cond_true, Int.toNat_natCast, its_at _ _ hy, cells_item, i_14, inb hx, cond_true, Int.toNat_natCast, its_at _ _ hx, cells_item, i_14, bys_len, bys_len, c, callI_ok]
  unfold vG
  rw [datOf_at _ hx, datOf_at _ hy]
end Go.Proofs.YteamddaglbleeaaDoor.Eng.U


/- usage.Greatest and order.By in plain words; the laws' loops; usage.Of. -/
set_option linter.unusedVariables false
set_option linter.unusedSimpArgs false
set_option linter.unusedSectionVars false
namespace Go.Proofs.YteamddaglbleeaaDoor.Eng.U
open Go Go.Proofs Go.Proofs.YteamddaglbleeaaDoor.Eng Go.Proofs.YteamddaglbleeaaDoor.P24 Go.Proofs.YteamddaglbleeaaDoor.P40
variable {E : Ext} [Core E] [HasParts E] [HasJoin E] [HasClone E] {k n : Nat}

/-! The row of places, as it is filled. -/
def fillV (m i : Nat) : List AV := nvs (List.range i) ++ List.replicate (m - i) (.int .i64 0)
theorem fillV_len {m i : Nat} (h : i ≤ m) : (fillV m i).length = m := by
  unfold fillV
  rw [List.length_append, nvs_len, List.length_range, List.length_replicate]
  omega
theorem fillV_0 (m : Nat) : List.replicate m (AV.int .i64 0) = fillV m 0 := by unfold fillV; simp [nvs]
theorem fillV_all (m : Nat) : fillV m m = nvs (List.range m) := by unfold fillV; simp
theorem fillV_split {m i : Nat} (h : i < m) : fillV m i = nvs (List.range i) ++ .int .i64 0 :: List.replicate (m - (i + 1)) (.int .i64 0) := by
  unfold fillV
  rw [show m - i = (m - (i + 1)) + 1 from by omega, List.replicate_succ]
theorem fillV_at {m i : Nat} (h : i < m) {β : Type} (F : AV → Option β) : ((fillV m i)[i]?).bind F = F (.int .i64 0) := by
  rw [fillV_split h, List.getElem?_append_right (by rw [nvs_len, List.length_range]; omega)]
  rw [nvs_len, List.length_range, Nat.sub_self]
  rfl
theorem fillV_set {m i : Nat} (h : i < m) : (fillV m i).set i (mkElem 1 (splice (AV.cells (.int .i64 0)) 0 [.int .i64 ((i : Nat) : Int)]) (.int .i64 0)) = fillV m (i + 1) := by
  have e : (nvs (List.range i)).length = i := by rw [nvs_len, List.length_range]
  rw [fillV_split h, List.set_append_right _ _ (by omega), e, Nat.sub_self]
  unfold fillV
  rw [List.range_succ]
  show nvs (List.range i) ++ nv i :: _ = nvs (List.range i ++ [i]) ++ _
  unfold nvs
  simp
theorem room1 : (decide (0 + 1 ≤ (AV.cells (AV.int .i64 0)).length) && true) = true := rfl
theorem nvs_ivs (s : List Nat) : nvs s = ivs (nats s) := by unfold nvs ivs nats; rw [List.map_map]; rfl
/-! usage.Greatest. -/
def tN (a : Int) (m : Nat) : Nat := if a ≤ 0 then 0 else min a.toNat m
theorem tN_eq (a : Int) (m : Nat) : (if (if ((m : Nat) : Int) < a then ((m : Nat) : Int) else a) > (0 : Int) then (if ((m : Nat) : Int) < a then ((m : Nat) : Int) else a) else (0 : Int)) = ((tN a m : Nat) : Int) := by
  unfold tN
  by_cases h1 : a ≤ 0
  · rw [if_pos h1]
    split <;> split <;> omega
  · rw [if_neg h1]
    split <;> split <;> omega
theorem tN_le (a : Int) (m : Nat) : tN a m ≤ m := by unfold tN; split <;> omega
theorem isortG_len (l : List Item) : (isort (ltV (vG l)) l.length).length = l.length := isort_len (swo_g l) _
theorem gr0 (kap : FuncId → List AV → Option AV) (l : List Item) (a : Int) (hl : l.length ≤ 12) (hS : kap slices_SortStableFunc_int [.lrow 3 (nvs (List.range l.length)), .func (.func usage_Greatest_1) [] [.eptr [.list 15 (its l)] 0]] = some (.lback (.tup []) [.lrow 3 (nvs (isort (ltV (vG l)) l.length))])) :
    ∀ (r i k0 : Nat), i + r = l.length → r < k0 →
    usage_Greatest_L0 kap k k0 a ((l.length : Nat) : Int) ((i : Nat) : Int) (its l) (fillV l.length i) = usage_Greatest_L1 kap k k ((tN a l.length : Nat) : Int) 0 (its l) [] (nvs ((isort (ltV (vG l)) l.length).take (tN a l.length)))
  | 0, i, k0 + 1, hi, hk0 => by
    have hlen : (nvs (isort (ltV (vG l)) l.length)).length = l.length := by rw [nvs_len, isortG_len]
    obtain rfl : i = l.length := by omega
    rw [usage_Greatest_L0_s, bif_f (by omega), fillV_all, hS, callX_ok, nxR_ok, hlen, nvs_len, List.length_range, beq_self_eq_true, cond_true, atNil_ok, callT_ok, atNil_ok, tN_eq, decide_eq_true (Int.natCast_nonneg _), decide_eq_true (by have := tN_le a l.length; omega), Bool.and_true, cond_true, Int.toNat_natCast, show List.take (tN a l.length) (nvs (isort (ltV (vG l)) l.length)) = nvs ((isort (ltV (vG l)) l.length).take (tN a l.length)) from by unfold nvs; rw [List.map_take]]
  | r + 1, i, k0 + 1, hi, hk0 => by
    have ih := gr0 kap l a hl hS r (i + 1) k0 (by omega) (by omega)
    rw [usage_Greatest_L0_s, bif_t (by omega), fillV_len (by omega), inb (by omega), cond_true, Int.toNat_natCast, fillV_at (by omega), room1, cond_true, fillV_set (by omega), wrap1 (by omega)]
    exact ih
theorem gr1 (l : List Item) (hl : l.length ≤ 12) (hsm : Small l) : ∀ (suf pre : List Nat) (out : List Item) (k0 : Nat), suf.length < k0 → (pre ++ suf).length ≤ 12 → out.length ≤ pre.length → (∀ i ∈ suf, i < l.length) →
    usage_Greatest_L1 (kp E k (n + 1)) k k0 (((pre ++ suf).length : Nat) : Int) ((pre.length : Nat) : Int) (its l) (its out) (ivs (nats (pre ++ suf))) = some (.list 15 (its (out ++ itemsAt l suf)))
  | [], pre, out, k0 + 1, h, hb, ho, hi => by
    rw [usage_Greatest_L1_s]
    simp (disch := first | omega | (simp only [List.length_append, List.length_cons, List.length_nil, List.length_take, List.length_drop]; done) | (simp only [List.length_append, List.length_cons, List.length_nil, List.length_take, List.length_drop]; omega) | fail) only [bif_t, bif_f, bif_n, bif_a, callB_ok, callI_ok, callS_ok, callL_ok, callF_ok, callT_ok, tupB_ok, tupI_ok, tupS_ok, tupL_ok, tupF_ok, atNil_ok, wrap1, wrapM, wrapP, Int.toNat_natCast, svs_len, ivs_len, bvs_len, str_size, svs_mid, ivs_mid, str_dec, str_ext, str_byte, mid_byte, mid_cut, List.length_nil, List.length_singleton, svs_snoc, ivs_snoc, svs_take, svs_drop, str_app, List.take_length, List.drop_zero, List.nil_append, cond_true, cond_false, Option.bind_some, Bool.not_true, Bool.not_false, Bool.true_and, Bool.and_true, bys_len, prs_len, its_len, cells_pair, cells_time, cells_head, cells_item, fold_pair, fold_time, fold_head, fold_ihead, fold_item, prs_mid, its_mid, bys_mid, byte_c, callG_pair, callG_time, callG_head, callG_item, tupG_pair, tupG_time, tupG_head, tupG_item, h_0, i_0, h_1, i_1, h_2, i_2, h_3, i_3, h_4, i_4, h_5, i_5, h_6, i_6, h_7, i_7, h_8, i_8, h_9, i_9, h_10, i_10, h_11, i_11, h_12, i_12, h_13, i_13, i_14, p_0, p_1, t_0, t_1, List.append_nil]
    simp [itemsAt]
  | i :: suf, pre, out, k0 + 1, h, hb, ho, hi => by
    have hm := mid_len pre suf i
    have hii := hi i (by simp)
    have hx := hsm _ (List.getElem_mem hii)
    have hc := copy_k (E := E) (k := k) (n := n) l[i] hx.1 hx.2
    have hn : nats (pre ++ i :: suf) = nats pre ++ ((i : Nat) : Int) :: nats suf := by simp [nats]
    have hnl := nats_len pre
    have hg : ∀ (K : Int → Option AV), (((ivs (nats (pre ++ i :: suf)))[pre.length]?).bind fun y => cellI .i64 (AV.cells y) 0 K) = K ((i : Nat) : Int) := fun K => by
      rw [hn, ← hnl]; exact ivs_mid _ _ _ _
    have hit : ∀ (F : AV → Option AV), ((its l)[i]?).bind F = F (elItem l[i]) := fun F => its_at _ _ hii F
    have hsn : ∀ x : Item, its out ++ [elItem x] = its (out ++ [x]) := fun x => by simp [its]
    have ih := gr1 l hl hsm suf (pre ++ [i]) (out ++ [l[i]]) k0 (by simpa using h) (by simpa using hb) (by simp; omega) (fun j hj => hi j (by simp [hj]))
    rw [← mid_snoc, show (pre ++ [i]).length = pre.length + 1 from by simp, hm] at ih
    rw [usage_Greatest_L1_s]
    simp (disch := first | omega | (simp only [List.length_append, List.length_cons, List.length_nil, List.length_take, List.length_drop]; done) | (simp only [List.length_append, List.length_cons, List.length_nil, List.length_take, List.length_drop]; omega) | fail) only [bif_t, bif_f, bif_n, bif_a, callB_ok, callI_ok, callS_ok, callL_ok, callF_ok, callT_ok, tupB_ok, tupI_ok, tupS_ok, tupL_ok, tupF_ok, atNil_ok, wrap1, wrapM, wrapP, Int.toNat_natCast, svs_len, ivs_len, bvs_len, str_size, svs_mid, ivs_mid, str_dec, str_ext, str_byte, mid_byte, mid_cut, List.length_nil, List.length_singleton, svs_snoc, ivs_snoc, svs_take, svs_drop, str_app, List.take_length, List.drop_zero, List.nil_append, cond_true, cond_false, Option.bind_some, Bool.not_true, Bool.not_false, Bool.true_and, Bool.and_true, bys_len, prs_len, its_len, cells_pair, cells_time, cells_head, cells_item, fold_pair, fold_time, fold_head, fold_ihead, fold_item, prs_mid, its_mid, bys_mid, byte_c, callG_pair, callG_time, callG_head, callG_item, tupG_pair, tupG_time, tupG_head, tupG_item, h_0, i_0, h_1, i_1, h_2, i_2, h_3, i_3, h_4, i_4, h_5, i_5, h_6, i_6, h_7, i_7, h_8, i_8, h_9, i_9, h_10, i_10, h_11, i_11, h_12, i_12, h_13, i_13, i_14, p_0, p_1, t_0, t_1, hm, hg, hit, hc, hsn, nats_len, ih]
    rw [itemsAt_cons l hii]
    simp
theorem greatest_k (l : List Item) (a : Int) (hl : l.length ≤ 12) (hk : 10000 < k) (hsm : Small l) : kp E k (n + 7) usage_Greatest [.list 15 (its l), .int .i64 a] = some (.list 15 (its (itemsAt l ((isort (ltV (vG l)) l.length).take (tN a l.length))))) := by
  have hS := sort_g (E := E) (k := k) (n := n + 3) (its l) (vG l) l.length hl (by omega) (fun x y hx hy => greatest1_k l (by omega) x y hx hy)
  have e0 := gr0 (k := k) (kp E k (n + 6)) l a hl hS l.length 0 k (by omega) (by omega)
  have htn := tN_le a l.length
  have ht : ((isort (ltV (vG l)) l.length).take (tN a l.length)).length = tN a l.length := by rw [List.length_take, isortG_len]; omega
  have e1 := gr1 (E := E) (k := k) (n := n + 5) l hl hsm ((isort (ltV (vG l)) l.length).take (tN a l.length)) [] [] k (by rw [ht]; omega) (by rw [List.nil_append, ht]; omega) (by simp) (fun i hi => isort_lt (swo_g l) (List.mem_of_mem_take hi))
  rw [List.nil_append, ht, ← nvs_ivs] at e1
  rw [usage_Greatest_eq, its_len, Int.toNat_natCast, List.length_replicate, fillV_0]
  simp (disch := first | omega | (simp only [List.length_append, List.length_cons, List.length_nil, List.length_take, List.length_drop]; done) | (simp only [List.length_append, List.length_cons, List.length_nil, List.length_take, List.length_drop]; omega) | fail) only [bif_t, bif_f, bif_n, bif_a, callB_ok, callI_ok, callS_ok, callL_ok, callF_ok, callT_ok, tupB_ok, tupI_ok, tupS_ok, tupL_ok, tupF_ok, atNil_ok, wrap1, wrapM, wrapP, Int.toNat_natCast, svs_len, ivs_len, bvs_len, str_size, svs_mid, ivs_mid, str_dec, str_ext, str_byte, mid_byte, mid_cut, List.length_nil, List.length_singleton, svs_snoc, ivs_snoc, svs_take, svs_drop, str_app, List.take_length, List.drop_zero, List.nil_append, cond_true, cond_false, Option.bind_some, Bool.not_true, Bool.not_false, Bool.true_and, Bool.and_true, bys_len, prs_len, its_len, cells_pair, cells_time, cells_head, cells_item, fold_pair, fold_time, fold_head, fold_ihead, fold_item, prs_mid, its_mid, bys_mid, byte_c, callG_pair, callG_time, callG_head, callG_item, tupG_pair, tupG_time, tupG_head, tupG_item, h_0, i_0, h_1, i_1, h_2, i_2, h_3, i_3, h_4, i_4, h_5, i_5, h_6, i_6, h_7, i_7, h_8, i_8, h_9, i_9, h_10, i_10, h_11, i_11, h_12, i_12, h_13, i_13, i_14, p_0, p_1, t_0, t_1]
  refine (e0.trans ?_)
  exact e1

/-! order.By. -/
end Go.Proofs.YteamddaglbleeaaDoor.Eng.U


/- The loops of UsageGreatest and OrderBy; usage.Of; both laws answer true. -/
set_option linter.unusedVariables false
set_option linter.unusedSimpArgs false
set_option linter.unusedSectionVars false
namespace Go.Proofs.YteamddaglbleeaaDoor.Eng.U
open Go Go.Proofs Go.Proofs.YteamddaglbleeaaDoor.Eng Go.Proofs.YteamddaglbleeaaDoor.P24 Go.Proofs.YteamddaglbleeaaDoor.P40
variable {E : Ext} [Core E] [HasParts E] [HasJoin E] [HasClone E] {k n : Nat}

def bI (b : Option Nat) : Int := match b with | none => -1 | some c => ((c : Nat) : Int)
theorem best_none {c : Nat → Nat → Bool} {t : Nat → Bool} {m : Nat} (h : best c t m = none) : best c t (m + 1) = if t m then none else some m := by simp only [best, h]
theorem best_some {c : Nat → Nat → Bool} {t : Nat → Bool} {m b : Nat} (h : best c t m = some b) : best c t (m + 1) = if !t m && c m b then some m else some b := by simp only [best, h]
theorem best_lt {c : Nat → Nat → Bool} (hc : Swo c) {t : Nat → Bool} {m b : Nat} (h : best c t m = some b) : b < m := ((best_spec hc t m).2 b h).1
theorem flags_none (m : Nat) : List.replicate m (AV.bool false) = bvs (flags m []) := by
  apply List.ext_getElem?
  intro j
  unfold bvs flags
  rw [List.getElem?_replicate, List.getElem?_map, List.getElem?_map]
  by_cases hj : j < m
  · rw [if_pos hj, List.getElem?_range hj]; rfl
  · rw [if_neg hj, List.getElem?_eq_none (by simp; omega)]; rfl
theorem ug1 (l X : List Item) (hl : l.length ≤ 12) (hXl : X.length ≤ 12) (hk : 10000 < k) (hX30 : ∀ x ∈ X, x.head.extra.length ≤ 30) (i : Nat) (hi : i < X.length) (taken : List Nat) (bb : Nat) (hb : best (ltV (vG l)) taken.contains l.length = some bb) (hbl : bb < l.length) (hX : X[i] = l[bb]) (k0 : Nat) :
    ∀ (r j k1 : Nat), j + r = l.length → r < k1 →
    law38_UsageGreatest_L1 (kp E k (n + 3)) k k0 k1 (its l) (its X) ((i : Nat) : Int) (bI (best (ltV (vG l)) taken.contains j)) ((j : Nat) : Int) (bvs (flags l.length taken)) = law38_UsageGreatest_L0 (kp E k (n + 3)) k k0 (its l) (its X) ((i + 1 : Nat) : Int) (bvs (flags l.length (taken ++ [bb])))
  | 0, j, k1 + 1, hj, hk1 => by
    obtain rfl : j = l.length := by omega
    have h30 := hX30 _ (List.getElem_mem hi)
    have hs := sameItem_k (E := E) (k := k) (n := n) X[i] l[bb] (by omega) (by omega)
    have g1 : ∀ (F : AV → Option AV), ((its X)[i]?).bind F = F (elItem X[i]) := fun F => its_at _ _ hi F
    have g2 : ∀ (F : AV → Option AV), ((its l)[bb]?).bind F = F (elItem l[bb]) := fun F => its_at _ _ hbl F
    rw [decide_eq_true hX] at hs
    rw [law38_UsageGreatest_L1_s, hb, show bI (some bb) = ((bb : Nat) : Int) from rfl]
    simp (disch := first | omega | (simp only [List.length_append, List.length_cons, List.length_nil, List.length_take, List.length_drop]; done) | (simp only [List.length_append, List.length_cons, List.length_nil, List.length_take, List.length_drop]; omega) | fail) only [bif_t, bif_f, bif_n, bif_a, callB_ok, callI_ok, callS_ok, callL_ok, callF_ok, callT_ok, tupB_ok, tupI_ok, tupS_ok, tupL_ok, tupF_ok, atNil_ok, wrap1, wrapM, wrapP, Int.toNat_natCast, svs_len, ivs_len, bvs_len, str_size, svs_mid, ivs_mid, str_dec, str_ext, str_byte, mid_byte, mid_cut, List.length_nil, List.length_singleton, svs_snoc, ivs_snoc, svs_take, svs_drop, str_app, List.take_length, List.drop_zero, List.nil_append, cond_true, cond_false, Option.bind_some, Bool.not_true, Bool.not_false, Bool.true_and, Bool.and_true, bys_len, prs_len, its_len, cells_pair, cells_time, cells_head, cells_item, fold_pair, fold_time, fold_head, fold_ihead, fold_item, prs_mid, its_mid, bys_mid, byte_c, callG_pair, callG_time, callG_head, callG_item, tupG_pair, tupG_time, tupG_head, tupG_item, h_0, i_0, h_1, i_1, h_2, i_2, h_3, i_3, h_4, i_4, h_5, i_5, h_6, i_6, h_7, i_7, h_8, i_8, h_9, i_9, h_10, i_10, h_11, i_11, h_12, i_12, h_13, i_13, i_14, p_0, p_1, t_0, t_1, flags_len, flags_get, flags_set, g1, g2, hs]
    rfl
  | r + 1, j, k1 + 1, hj, hk1 => by
    have ih := ug1 l X hl hXl hk hX30 i hi taken bb hb hbl hX k0 r (j + 1) k1 (by omega) (by omega)
    have hjl : j < l.length := by omega
    rw [law38_UsageGreatest_L1_s]
    cases hbj : best (ltV (vG l)) taken.contains j with
    | none =>
      rw [best_none hbj] at ih
      rw [show bI none = (-1 : Int) from rfl]
      cases ht : taken.contains j with
      | true =>
        rw [ht, if_pos rfl, show bI none = (-1 : Int) from rfl] at ih
        simp (disch := first | omega | (simp only [List.length_append, List.length_cons, List.length_nil, List.length_take, List.length_drop]; done) | (simp only [List.length_append, List.length_cons, List.length_nil, List.length_take, List.length_drop]; omega) | fail) only [bif_t, bif_f, bif_n, bif_a, callB_ok, callI_ok, callS_ok, callL_ok, callF_ok, callT_ok, tupB_ok, tupI_ok, tupS_ok, tupL_ok, tupF_ok, atNil_ok, wrap1, wrapM, wrapP, Int.toNat_natCast, svs_len, ivs_len, bvs_len, str_size, svs_mid, ivs_mid, str_dec, str_ext, str_byte, mid_byte, mid_cut, List.length_nil, List.length_singleton, svs_snoc, ivs_snoc, svs_take, svs_drop, str_app, List.take_length, List.drop_zero, List.nil_append, cond_true, cond_false, Option.bind_some, Bool.not_true, Bool.not_false, Bool.true_and, Bool.and_true, bys_len, prs_len, its_len, cells_pair, cells_time, cells_head, cells_item, fold_pair, fold_time, fold_head, fold_ihead, fold_item, prs_mid, its_mid, bys_mid, byte_c, callG_pair, callG_time, callG_head, callG_item, tupG_pair, tupG_time, tupG_head, tupG_item, h_0, i_0, h_1, i_1, h_2, i_2, h_3, i_3, h_4, i_4, h_5, i_5, h_6, i_6, h_7, i_7, h_8, i_8, h_9, i_9, h_10, i_10, h_11, i_11, h_12, i_12, h_13, i_13, i_14, p_0, p_1, t_0, t_1, flags_len, flags_at, ht, ih]
      | false =>
        rw [ht, if_neg (by simp), show bI (some j) = ((j : Nat) : Int) from rfl] at ih
        simp (disch := first | omega | (simp only [List.length_append, List.length_cons, List.length_nil, List.length_take, List.length_drop]; done) | (simp only [List.length_append, List.length_cons, List.length_nil, List.length_take, List.length_drop]; omega) | fail) only [bif_t, bif_f, bif_n, bif_a, callB_ok, callI_ok, callS_ok, callL_ok, callF_ok, callT_ok, tupB_ok, tupI_ok, tupS_ok, tupL_ok, tupF_ok, atNil_ok, wrap1, wrapM, wrapP, Int.toNat_natCast, svs_len, ivs_len, bvs_len, str_size, svs_mid, ivs_mid, str_dec, str_ext, str_byte, mid_byte, mid_cut, List.length_nil, List.length_singleton, svs_snoc, ivs_snoc, svs_take, svs_drop, str_app, List.take_length, List.drop_zero, List.nil_append, cond_true, cond_false, Option.bind_some, Bool.not_true, Bool.not_false, Bool.true_and, Bool.and_true, bys_len, prs_len, its_len, cells_pair, cells_time, cells_head, cells_item, fold_pair, fold_time, fold_head, fold_ihead, fold_item, prs_mid, its_mid, bys_mid, byte_c, callG_pair, callG_time, callG_head, callG_item, tupG_pair, tupG_time, tupG_head, tupG_item, h_0, i_0, h_1, i_1, h_2, i_2, h_3, i_3, h_4, i_4, h_5, i_5, h_6, i_6, h_7, i_7, h_8, i_8, h_9, i_9, h_10, i_10, h_11, i_11, h_12, i_12, h_13, i_13, i_14, p_0, p_1, t_0, t_1, flags_len, flags_at, ht, ih]
    | some b =>
      have hbb := best_lt (swo_g l) hbj
      rw [best_some hbj] at ih
      rw [show bI (some b) = ((b : Nat) : Int) from rfl]
      have g1 : ∀ (F : AV → Option AV), ((its l)[j]?).bind F = F (elItem l[j]) := fun F => its_at _ _ hjl F
      have g2 : ∀ (F : AV → Option AV), ((its l)[b]?).bind F = F (elItem (l[b]'(by omega))) := fun F => its_at _ _ (by omega) F
      have hv : ltV (vG l) j b = decide (((l[j].data.length : Nat) : Int) > (((l[b]'(by omega)).data.length : Nat) : Int)) := by
        unfold ltV vG
        rw [datOf_at l hjl, datOf_at l (show b < l.length by omega), Bool.eq_iff_iff, decide_eq_true_iff, decide_eq_true_iff]
        exact cmpI_lt _ _
      cases ht : taken.contains j with
      | true =>
        rw [ht, show (!true && ltV (vG l) j b) = false from rfl, if_neg (by simp), show bI (some b) = ((b : Nat) : Int) from rfl] at ih
        simp (disch := first | omega | (simp only [List.length_append, List.length_cons, List.length_nil, List.length_take, List.length_drop]; done) | (simp only [List.length_append, List.length_cons, List.length_nil, List.length_take, List.length_drop]; omega) | fail) only [bif_t, bif_f, bif_n, bif_a, callB_ok, callI_ok, callS_ok, callL_ok, callF_ok, callT_ok, tupB_ok, tupI_ok, tupS_ok, tupL_ok, tupF_ok, atNil_ok, wrap1, wrapM, wrapP, Int.toNat_natCast, svs_len, ivs_len, bvs_len, str_size, svs_mid, ivs_mid, str_dec, str_ext, str_byte, mid_byte, mid_cut, List.length_nil, List.length_singleton, svs_snoc, ivs_snoc, svs_take, svs_drop, str_app, List.take_length, List.drop_zero, List.nil_append, cond_true, cond_false, Option.bind_some, Bool.not_true, Bool.not_false, Bool.true_and, Bool.and_true, bys_len, prs_len, its_len, cells_pair, cells_time, cells_head, cells_item, fold_pair, fold_time, fold_head, fold_ihead, fold_item, prs_mid, its_mid, bys_mid, byte_c, callG_pair, callG_time, callG_head, callG_item, tupG_pair, tupG_time, tupG_head, tupG_item, h_0, i_0, h_1, i_1, h_2, i_2, h_3, i_3, h_4, i_4, h_5, i_5, h_6, i_6, h_7, i_7, h_8, i_8, h_9, i_9, h_10, i_10, h_11, i_11, h_12, i_12, h_13, i_13, i_14, p_0, p_1, t_0, t_1, flags_len, flags_at, ht, ih]
      | false =>
        rw [ht, Bool.not_false, Bool.true_and, hv] at ih
        by_cases hc : ((l[j].data.length : Nat) : Int) > (((l[b]'(by omega)).data.length : Nat) : Int)
        · rw [decide_eq_true hc, if_pos rfl, show bI (some j) = ((j : Nat) : Int) from rfl] at ih
          simp (disch := first | omega | (simp only [List.length_append, List.length_cons, List.length_nil, List.length_take, List.length_drop]; done) | (simp only [List.length_append, List.length_cons, List.length_nil, List.length_take, List.length_drop]; omega) | fail) only [bif_t, bif_f, bif_n, bif_a, callB_ok, callI_ok, callS_ok, callL_ok, callF_ok, callT_ok, tupB_ok, tupI_ok, tupS_ok, tupL_ok, tupF_ok, atNil_ok, wrap1, wrapM, wrapP, Int.toNat_natCast, svs_len, ivs_len, bvs_len, str_size, svs_mid, ivs_mid, str_dec, str_ext, str_byte, mid_byte, mid_cut, List.length_nil, List.length_singleton, svs_snoc, ivs_snoc, svs_take, svs_drop, str_app, List.take_length, List.drop_zero, List.nil_append, cond_true, cond_false, Option.bind_some, Bool.not_true, Bool.not_false, Bool.true_and, Bool.and_true, bys_len, prs_len, its_len, cells_pair, cells_time, cells_head, cells_item, fold_pair, fold_time, fold_head, fold_ihead, fold_item, prs_mid, its_mid, bys_mid, byte_c, callG_pair, callG_time, callG_head, callG_item, tupG_pair, tupG_time, tupG_head, tupG_item, h_0, i_0, h_1, i_1, h_2, i_2, h_3, i_3, h_4, i_4, h_5, i_5, h_6, i_6, h_7, i_7, h_8, i_8, h_9, i_9, h_10, i_10, h_11, i_11, h_12, i_12, h_13, i_13, i_14, p_0, p_1, t_0, t_1, flags_len, flags_at, ht, g1, g2, ih]
        · rw [decide_eq_false hc, if_neg (by simp), show bI (some b) = ((b : Nat) : Int) from rfl] at ih
          simp (disch := first | omega | (simp only [List.length_append, List.length_cons, List.length_nil, List.length_take, List.length_drop]; done) | (simp only [List.length_append, List.length_cons, List.length_nil, List.length_take, List.length_drop]; omega) | fail) only [bif_t, bif_f, bif_n, bif_a, callB_ok, callI_ok, callS_ok, callL_ok, callF_ok, callT_ok, tupB_ok, tupI_ok, tupS_ok, tupL_ok, tupF_ok, atNil_ok, wrap1, wrapM, wrapP, Int.toNat_natCast, svs_len, ivs_len, bvs_len, str_size, svs_mid, ivs_mid, str_dec, str_ext, str_byte, mid_byte, mid_cut, List.length_nil, List.length_singleton, svs_snoc, ivs_snoc, svs_take, svs_drop, str_app, List.take_length, List.drop_zero, List.nil_append, cond_true, cond_false, Option.bind_some, Bool.not_true, Bool.not_false, Bool.true_and, Bool.and_true, bys_len, prs_len, its_len, cells_pair, cells_time, cells_head, cells_item, fold_pair, fold_time, fold_head, fold_ihead, fold_item, prs_mid, its_mid, bys_mid, byte_c, callG_pair, callG_time, callG_head, callG_item, tupG_pair, tupG_time, tupG_head, tupG_item, h_0, i_0, h_1, i_1, h_2, i_2, h_3, i_3, h_4, i_4, h_5, i_5, h_6, i_6, h_7, i_7, h_8, i_8, h_9, i_9, h_10, i_10, h_11, i_11, h_12, i_12, h_13, i_13, i_14, p_0, p_1, t_0, t_1, flags_len, flags_at, ht, g1, g2, ih]
theorem take_snoc (s : List Nat) (i : Nat) (h : i < s.length) : s.take i ++ [s[i]] = s.take (i + 1) := by rw [List.take_add_one, List.getElem?_eq_getElem h]; rfl
theorem ug0 (l : List Item) (hl : l.length ≤ 12) (hk : 10000 < k) (h30 : ∀ x ∈ l, x.head.extra.length ≤ 30) (t : Nat) (ht : t ≤ l.length) : ∀ (r i k0 : Nat), i + r = t → r < k0 →
    law38_UsageGreatest_L0 (kp E k (n + 3)) k k0 (its l) (its (itemsAt l ((isort (ltV (vG l)) l.length).take t))) ((i : Nat) : Int) (bvs (flags l.length ((isort (ltV (vG l)) l.length).take i))) = some (.bool true)
  | 0, i, k0 + 1, hi, hk0 => by
    have hX : (itemsAt l ((isort (ltV (vG l)) l.length).take t)).length = t := by
      rw [itemsAt_len l _ (fun i hi => isort_lt (swo_g l) (List.mem_of_mem_take hi)), List.length_take, isortG_len]
      omega
    rw [law38_UsageGreatest_L0_s, its_len, hX, bif_f (by omega)]
  | r + 1, i, k0 + 1, hi, hk0 => by
    have hlt : ∀ i ∈ (isort (ltV (vG l)) l.length).take t, i < l.length := fun i hi => isort_lt (swo_g l) (List.mem_of_mem_take hi)
    have hS := isortG_len l
    have hT : ((isort (ltV (vG l)) l.length).take t).length = t := by rw [List.length_take, hS]; omega
    have hX : (itemsAt l ((isort (ltV (vG l)) l.length).take t)).length = t := by rw [itemsAt_len l _ hlt, hT]
    have his : i < (isort (ltV (vG l)) l.length).length := by omega
    have hb := best_isort (swo_g l) l.length i (by omega) ((isort (ltV (vG l)) l.length).take i).contains (fun q hq => by rw [Bool.eq_iff_iff, decide_eq_true_iff, List.contains_iff_mem])
    rw [List.getD_eq_getElem?_getD, List.getElem?_eq_getElem his, Option.getD_some] at hb
    have hsi : (isort (ltV (vG l)) l.length)[i] < l.length := isort_lt (swo_g l) (List.getElem_mem his)
    have hg := itemsAt_get l _ hlt i (by omega)
    rw [List.getElem?_eq_getElem (by omega), List.getElem_take, List.getElem?_eq_getElem hsi] at hg
    have hXi := Option.some.inj hg
    have e1 := ug1 (E := E) (k := k) (n := n) l _ hl (by omega) hk (fun x hx => h30 x (itemsAt_mem hx)) i (by omega) _ _ hb hsi hXi k0 l.length 0 k (by omega) (by omega)
    have ih := ug0 l hl hk h30 t ht r (i + 1) k0 (by omega) (by omega)
    rw [law38_UsageGreatest_L0_s, its_len, hX, bif_t (by omega)]
    refine e1.trans ?_
    rw [take_snoc _ _ his]
    exact ih
/-! Few. -/
def few38L (l : List Item) : Bool := l.all (fun x => decide (x.head.name.length ≤ 300)) && !manyGo l.length 0 l
theorem few38_loop (l : List Item) (hl : l.length < 1000000000000) (hlk : l.length < k) (hx : ∀ x ∈ l, x.head.extra.length < k ∧ x.head.extra.length < 1000000000000000) (hb : ∀ x ∈ l, BdI x) : ∀ (suf pre : List Item) (k0 : Nat), suf.length < k0 → l = pre ++ suf →
    law38_few_L0 (kp E k (n + 1)) k k0 (its l) ((pre.length : Nat) : Int) = some (.bool (suf.all (fun x => decide (x.head.name.length ≤ 300)) && !manyGo l.length 0 l))
  | [], pre, k0 + 1, hk, he => by
    rw [List.append_nil] at he
    have hm := many_k (E := E) (k := k) (n := n) l hl hlk hx
    rw [law38_few_L0_s]
    subst he
    simp (disch := first | omega | (simp only [List.length_append, List.length_cons, List.length_nil, List.length_take, List.length_drop]; done) | (simp only [List.length_append, List.length_cons, List.length_nil, List.length_take, List.length_drop]; omega) | fail) only [bif_t, bif_f, bif_n, bif_a, callB_ok, callI_ok, callS_ok, callL_ok, callF_ok, callT_ok, tupB_ok, tupI_ok, tupS_ok, tupL_ok, tupF_ok, atNil_ok, wrap1, wrapM, wrapP, Int.toNat_natCast, svs_len, ivs_len, bvs_len, str_size, svs_mid, ivs_mid, str_dec, str_ext, str_byte, mid_byte, mid_cut, List.length_nil, List.length_singleton, svs_snoc, ivs_snoc, svs_take, svs_drop, str_app, List.take_length, List.drop_zero, List.nil_append, cond_true, cond_false, Option.bind_some, Bool.not_true, Bool.not_false, Bool.true_and, Bool.and_true, bys_len, prs_len, its_len, cells_pair, cells_time, cells_head, cells_item, fold_pair, fold_time, fold_head, fold_ihead, fold_item, prs_mid, its_mid, bys_mid, byte_c, callG_pair, callG_time, callG_head, callG_item, tupG_pair, tupG_time, tupG_head, tupG_item, h_0, i_0, h_1, i_1, h_2, i_2, h_3, i_3, h_4, i_4, h_5, i_5, h_6, i_6, h_7, i_7, h_8, i_8, h_9, i_9, h_10, i_10, h_11, i_11, h_12, i_12, h_13, i_13, i_14, p_0, p_1, t_0, t_1, hm]
    rfl
  | x :: suf, pre, k0 + 1, hk, he => by
    have hm := mid_len pre suf x
    obtain ⟨b1, b2, _⟩ := hb x (by rw [he]; simp)
    have ih := few38_loop l hl hlk hx hb suf (pre ++ [x]) k0 (by simpa using hk) (by rw [he]; simp)
    rw [List.length_append, List.length_singleton] at ih
    have hg : ∀ F : AV → Option AV, ((its l)[pre.length]?).bind F = F (elItem x) := fun F => by rw [he]; exact its_mid _ _ _ _
    have hll : l.length = pre.length + suf.length + 1 := by rw [he]; exact hm
    rw [law38_few_L0_s]
    simp (disch := first | omega | (simp only [List.length_append, List.length_cons, List.length_nil, List.length_take, List.length_drop]; done) | (simp only [List.length_append, List.length_cons, List.length_nil, List.length_take, List.length_drop]; omega) | fail) only [bif_t, bif_f, bif_n, bif_a, callB_ok, callI_ok, callS_ok, callL_ok, callF_ok, callT_ok, tupB_ok, tupI_ok, tupS_ok, tupL_ok, tupF_ok, atNil_ok, wrap1, wrapM, wrapP, Int.toNat_natCast, svs_len, ivs_len, bvs_len, str_size, svs_mid, ivs_mid, str_dec, str_ext, str_byte, mid_byte, mid_cut, List.length_nil, List.length_singleton, svs_snoc, ivs_snoc, svs_take, svs_drop, str_app, List.take_length, List.drop_zero, List.nil_append, cond_true, cond_false, Option.bind_some, Bool.not_true, Bool.not_false, Bool.true_and, Bool.and_true, bys_len, prs_len, its_len, cells_pair, cells_time, cells_head, cells_item, fold_pair, fold_time, fold_head, fold_ihead, fold_item, prs_mid, its_mid, bys_mid, byte_c, callG_pair, callG_time, callG_head, callG_item, tupG_pair, tupG_time, tupG_head, tupG_item, h_0, i_0, h_1, i_1, h_2, i_2, h_3, i_3, h_4, i_4, h_5, i_5, h_6, i_6, h_7, i_7, h_8, i_8, h_9, i_9, h_10, i_10, h_11, i_11, h_12, i_12, h_13, i_13, i_14, p_0, p_1, t_0, t_1, hg, hll]
    rw [ih, List.all_cons, ← hll]
    by_cases h : x.head.name.length ≤ 300
    · rw [bif_f (by omega), decide_eq_true h]; simp
    · rw [bif_t (by omega), decide_eq_false h]; simp
theorem few38_k (l : List Item) (hl : l.length < 1000000000000) (hlk : l.length < k) (hx : ∀ x ∈ l, x.head.extra.length < k ∧ x.head.extra.length < 1000000000000000) (hb : ∀ x ∈ l, BdI x) : kp E k (n + 2) law38_few [.list 15 (its l)] = some (.bool (few38L l)) := by
  rw [law38_few_eq]
  exact few38_loop l hl hlk hx hb l [] k hlk rfl
theorem few38_is {l : List Item} (hb : ∀ x ∈ l, BdI x) (h : few38L l = true) : l.length ≤ 12 ∧ (∀ x ∈ l, FewI x) ∧ Small l := by
  unfold few38L at h
  simp only [Bool.and_eq_true, Bool.not_eq_true'] at h
  obtain ⟨h1, h2⟩ := many_few l.length l 0 hb (by omega) (by omega) h.2
  refine ⟨h1, h2, fun x hx => ?_⟩
  obtain ⟨_, _, _, _, a, b⟩ := h2 x hx
  omega
/-! The chapter's example. -/
def inD (s d : Tx) : Bool := if d = [46] then safeL s else decide (cleanL s = d) || inL s d
theorem usageIn_k (s d : Tx) (h1 : s.length ≤ 300) (h2 : d.length ≤ 700) (hk : 10000 < k) : kp E k (n + 6) usage_in [.str (str s), .str (str d)] = some (.bool (inD s d)) := by
  have e1 := clean_k (E := E) (k := k) (n := n) s (by omega) (by omega)
  have e2 := in_k (E := E) (k := k) (n := n) s d (by omega) (by omega)
  have e3 := safe_k (E := E) (k := k) (n := n) s (by omega) (by omega)
  rw [usage_in_eq]
  unfold inD
  simp (disch := first | omega | (simp only [List.length_append, List.length_cons, List.length_nil, List.length_take, List.length_drop]; done) | (simp only [List.length_append, List.length_cons, List.length_nil, List.length_take, List.length_drop]; omega) | fail) only [bif_t, bif_f, bif_n, bif_a, callB_ok, callI_ok, callS_ok, callL_ok, callF_ok, callT_ok, tupB_ok, tupI_ok, tupS_ok, tupL_ok, tupF_ok, atNil_ok, wrap1, wrapM, wrapP, Int.toNat_natCast, svs_len, ivs_len, bvs_len, str_size, svs_mid, ivs_mid, str_dec, str_ext, str_byte, mid_byte, mid_cut, List.length_nil, List.length_singleton, svs_snoc, ivs_snoc, svs_take, svs_drop, str_app, List.take_length, List.drop_zero, List.nil_append, cond_true, cond_false, Option.bind_some, Bool.not_true, Bool.not_false, Bool.true_and, Bool.and_true, bys_len, prs_len, its_len, cells_pair, cells_time, cells_head, cells_item, fold_pair, fold_time, fold_head, fold_ihead, fold_item, prs_mid, its_mid, bys_mid, byte_c, callG_pair, callG_time, callG_head, callG_item, tupG_pair, tupG_time, tupG_head, tupG_item, h_0, i_0, h_1, i_1, h_2, i_2, h_3, i_3, h_4, i_4, h_5, i_5, h_6, i_6, h_7, i_7, h_8, i_8, h_9, i_9, h_10, i_10, h_11, i_11, h_12, i_12, h_13, i_13, i_14, p_0, p_1, t_0, t_1, e1, e2, e3]
  by_cases h : d = [46]
  · simp [h]
  · by_cases h3 : cleanL s = d
    · simp [h, h3]
    · simp [h, h3]
def blk (a : Int) : Int := if a ≤ 0 then 0 else IntKind.wrap .i64 (IntKind.wrap .i64 (Int.tdiv (IntKind.wrap .i64 (a - 1)) 512) + 1)
theorem blocks_k (a : Int) : kp E k (n + 1) text_Blocks [.int .i64 a] = some (.int .i64 (blk a)) := by
  rw [text_Blocks_eq, bif_dec]
  unfold blk
  split <;> rfl
theorem add_k (d : Tx) (a b c : Int) (x : Item) : kp E k (n + 2) usage_Use_add [.lent [.str (str d), .int .i64 a, .int .i64 b, .int .i64 c], elItem x] = some (.lback (.tup []) [.lent [.str (str d), .int .i64 (IntKind.wrap .i64 (a + 1)), .int .i64 (IntKind.wrap .i64 (b + ((x.data.length : Nat) : Int))), .int .i64 (IntKind.wrap .i64 (c + blk ((x.data.length : Nat) : Int)))]]) := by
  refine (usage_Use_add_eq (E := E) k (n + 1) (str d) a b c x.head.kind (str x.head.name) (str x.head.link) x.head.mode x.head.uid x.head.gid x.head.size x.head.sec x.head.nano (str x.head.user) (str x.head.group) x.head.major x.head.minor (prs x.head.extra) (bys x.data)).trans ?_
  rw [bys_len, blocks_k, callI_ok]
def uAB : Item := ⟨⟨1, [97, 47, 98], [], 0, 0, 0, 3, 0, 0, [], [], 0, 0, []⟩, [97, 98, 99]⟩
def uAC : Item := ⟨⟨1, [97, 47, 99], [], 0, 0, 0, 4, 0, 0, [], [], 0, 0, []⟩, [97, 98, 99, 100]⟩
theorem of_end (kap : FuncId → List AV → Option AV) (k0 : Nat) (d b4 : ByteArray) (a b c x y z : Int) : usage_Of_L0 kap k (k0 + 1) (its [uAB, uAC]) 2 2 b4 x y z d a b c = some (.agg [.str d, .int .i64 a, .int .i64 b, .int .i64 c]) := by
  rw [usage_Of_L0_s, bif_f (by omega)]
theorem of_one (l : List Item) (i : Nat) (hi : i < l.length) (hl : l.length < 1000) (hk : 10000 < k) (d : Tx) (hd : d.length ≤ 700) (hn : (l[i]).head.name.length ≤ 300) (hin : inD (l[i]).head.name d = true) (k0 : Nat) (b4 : ByteArray) (a b c x y z : Int) :
    usage_Of_L0 (kp E k (n + 6)) k (k0 + 1) (its l) ((l.length : Nat) : Int) ((i : Nat) : Int) b4 x y z (str d) a b c = usage_Of_L0 (kp E k (n + 6)) k k0 (its l) ((l.length : Nat) : Int) ((i + 1 : Nat) : Int) b4 x y z (str d) (IntKind.wrap .i64 (a + 1)) (IntKind.wrap .i64 (b + (((l[i]).data.length : Nat) : Int))) (IntKind.wrap .i64 (c + blk (((l[i]).data.length : Nat) : Int))) := by
  have e1 := usageIn_k (E := E) (k := k) (n := n) l[i].head.name d hn hd hk
  have e2 := add_k (E := E) (k := k) (n := n + 4) d a b c l[i]
  have g : ∀ (F : AV → Option AV), ((its l)[i]?).bind F = F (elItem l[i]) := fun F => its_at _ _ hi F
  rw [hin] at e1
  rw [usage_Of_L0_s]
  simp (disch := first | omega | (simp only [List.length_append, List.length_cons, List.length_nil, List.length_take, List.length_drop]; done) | (simp only [List.length_append, List.length_cons, List.length_nil, List.length_take, List.length_drop]; omega) | fail) only [bif_t, bif_f, bif_n, bif_a, callB_ok, callI_ok, callS_ok, callL_ok, callF_ok, callT_ok, tupB_ok, tupI_ok, tupS_ok, tupL_ok, tupF_ok, atNil_ok, wrap1, wrapM, wrapP, Int.toNat_natCast, svs_len, ivs_len, bvs_len, str_size, svs_mid, ivs_mid, str_dec, str_ext, str_byte, mid_byte, mid_cut, List.length_nil, List.length_singleton, svs_snoc, ivs_snoc, svs_take, svs_drop, str_app, List.take_length, List.drop_zero, List.nil_append, cond_true, cond_false, Option.bind_some, Bool.not_true, Bool.not_false, Bool.true_and, Bool.and_true, bys_len, prs_len, its_len, cells_pair, cells_time, cells_head, cells_item, fold_pair, fold_time, fold_head, fold_ihead, fold_item, prs_mid, its_mid, bys_mid, byte_c, callG_pair, callG_time, callG_head, callG_item, tupG_pair, tupG_time, tupG_head, tupG_item, h_0, i_0, h_1, i_1, h_2, i_2, h_3, i_3, h_4, i_4, h_5, i_5, h_6, i_6, h_7, i_7, h_8, i_8, h_9, i_9, h_10, i_10, h_11, i_11, h_12, i_12, h_13, i_13, i_14, p_0, p_1, t_0, t_1, g, e1, e2, callX_ok, nxX_ok, nxS_ok, nxI_ok, atNil_ok, callT_ok]
theorem alive38_k (hk : 10000 < k) : kp E k (n + 8) law38_alive [] = some (.bool true) := by
  have hc := clean_k (E := E) (k := k) (n := n + 1) [97] (by decide) (by simp; omega)
  have s0 := fun k0 b4 a b c x y z => of_one (E := E) (k := k) (n := n) [uAB, uAC] 0 (by decide) (by decide) hk [97] (by decide) (by decide) (by decide +kernel) k0 b4 a b c x y z
  have s1 := fun k0 b4 a b c x y z => of_one (E := E) (k := k) (n := n) [uAB, uAC] 1 (by decide) (by decide) hk [97] (by decide) (by decide) (by decide +kernel) k0 b4 a b c x y z
  obtain ⟨k1, hk1⟩ : ∃ j, k = j + 3 := ⟨k - 3, by omega⟩
  have e : kp E k (n + 7) usage_Of [.list 15 (its [uAB, uAC]), .str (str [97])] = some (.agg [.str (str [97]), .int .i64 2, .int .i64 7, .int .i64 2]) := by
    rw [usage_Of_eq, hc, callS_ok, show cleanL [97] = [97] from by decide +kernel]
    refine (congrArg (fun z => usage_Of_L0 _ k z (its [uAB, uAC]) 2 0 (str []) 0 0 0 (str [97]) 0 0 0) hk1).trans ?_
    refine (s0 (k1 + 2) _ _ _ _ _ _ _).trans ?_
    refine (s1 (k1 + 1) _ _ _ _ _ _ _).trans ?_
    refine (of_end _ k1 _ _ _ _ _ _ _ _).trans ?_
    rfl
  rw [law38_alive_eq]
  refine (congrArg (fun z => callG 4 z _) e).trans ?_
  rfl
theorem usageGreatest_true (l : List Item) (a : Int) (hb : ∀ x ∈ l, BdI x) (hl : l.length < 1000000000000) (hlk : l.length < k) (hx : ∀ x ∈ l, x.head.extra.length < k ∧ x.head.extra.length < 1000000000000000) (hk : 10000 < k) : kp E k (n + 9) law38_UsageGreatest [.list 15 (its l), .int .i64 a] = some (.bool true) := by
  have hf := few38_k (E := E) (k := k) (n := n + 6) l hl hlk hx hb
  rw [law38_UsageGreatest_eq, alive38_k hk, callB_ok, hf, callB_ok]
  cases hfl : few38L l with
  | false => rfl
  | true =>
    obtain ⟨h12, hfi, hsm⟩ := few38_is hb hfl
    have e1 := greatest_k (E := E) (k := k) (n := n + 1) l a h12 hk hsm
    have htl := tN_le a l.length
    have hlen : (itemsAt l ((isort (ltV (vG l)) l.length).take (tN a l.length))).length = tN a l.length := by
      rw [itemsAt_len l _ (fun i hi => isort_lt (swo_g l) (List.mem_of_mem_take hi)), List.length_take, isortG_len]
      omega
    have e2 := ug0 (E := E) (k := k) (n := n + 5) l h12 hk (fun x hx => (hfi x hx).2.2.2.2.2) (tN a l.length) htl (tN a l.length) 0 k (by omega) (by omega)
    rw [e1, callL_ok, its_len, its_len, hlen, tN_eq, Int.toNat_natCast, flags_none]
    simp (disch := first | omega | (simp only [List.length_append, List.length_cons, List.length_nil, List.length_take, List.length_drop]; done) | (simp only [List.length_append, List.length_cons, List.length_nil, List.length_take, List.length_drop]; omega) | fail) only [bif_t, bif_f, bif_n, bif_a, callB_ok, callI_ok, callS_ok, callL_ok, callF_ok, callT_ok, tupB_ok, tupI_ok, tupS_ok, tupL_ok, tupF_ok, atNil_ok, wrap1, wrapM, wrapP, Int.toNat_natCast, svs_len, ivs_len, bvs_len, str_size, svs_mid, ivs_mid, str_dec, str_ext, str_byte, mid_byte, mid_cut, List.length_nil, List.length_singleton, svs_snoc, ivs_snoc, svs_take, svs_drop, str_app, List.take_length, List.drop_zero, List.nil_append, cond_true, cond_false, Option.bind_some, Bool.not_true, Bool.not_false, Bool.true_and, Bool.and_true, bys_len, prs_len, its_len, cells_pair, cells_time, cells_head, cells_item, fold_pair, fold_time, fold_head, fold_ihead, fold_item, prs_mid, its_mid, bys_mid, byte_c, callG_pair, callG_time, callG_head, callG_item, tupG_pair, tupG_time, tupG_head, tupG_item, h_0, i_0, h_1, i_1, h_2, i_2, h_3, i_3, h_4, i_4, h_5, i_5, h_6, i_6, h_7, i_7, h_8, i_8, h_9, i_9, h_10, i_10, h_11, i_11, h_12, i_12, h_13, i_13, i_14, p_0, p_1, t_0, t_1]
    exact e2

/-! OrderBy. -/
end Go.Proofs.YteamddaglbleeaaDoor.Eng.U


/- UsageGreatest and OrderBy over the given functions. -/
set_option linter.unusedVariables false
set_option linter.unusedSimpArgs false
set_option linter.unusedSectionVars false
namespace Go.Proofs.YteamddaglbleeaaDoor.Eng.U
open Go Go.Proofs Go.Proofs.YteamddaglbleeaaDoor.Eng Go.RowKit
noncomputable def ps38 : List Piece := [pParts, pJoin, pCloneP, pCloneB, pCmp]
noncomputable def ext38 : Ext := extOf ps38
instance core38 : Core ext38 := core_of (by kernel_rfl)
instance parts38 : HasParts ext38 := ⟨fun k n s hs => by
  have := kp_piece (ps := ps38) (p := pParts) (k := k) (n := n) (args := [.str (str s)]) rfl
  refine this.trans ?_
  show (bif decide ((str s).size < 1000000) then _ else none) = _
  rw [str_size, decide_eq_true hs]
  rfl⟩
instance join38 : HasJoin ext38 := ⟨fun k n l sep h1 h2 => by
  have := kp_piece (ps := ps38) (p := pJoin) (k := k) (n := n) (args := [.list 1 (svs l), .str (str sep)]) rfl
  refine this.trans ?_
  show (toStrs (svs l)).bind _ = _
  rw [toStrs_svs]
  show (bif (1 == 1) && decide (l.length ≤ 1000000) && decide ((sep.intercalate l).length ≤ 1000000000) then _ else none) = _
  rw [decide_eq_true h1, decide_eq_true h2]
  rfl⟩
instance clone38 : HasClone ext38 where
  pairs k n l h := (kp_piece (ps := ps38) (p := pCloneP) (k := k) (n := n) rfl).trans (clone_ans (by rw [prs_len]; exact h))
  bytes k n l h := (kp_piece (ps := ps38) (p := pCloneB) (k := k) (n := n) rfl).trans (clone_ans (by rw [bys_len]; exact h))
instance cmp38 : HasCmp ext38 where
  cmp k n a b := kp_piece (ps := ps38) (p := pCmp) (k := k) (n := n) (args := [.str (str a), .str (str b)]) rfl
theorem good38 (k : Nat) : (bs ext38 k).Good := good_of (fun p hp => by
  rcases List.mem_cons.1 hp with rfl | hp
  · exact parts_right
  rcases List.mem_cons.1 hp with rfl | hp
  · exact join_right
  rcases List.mem_cons.1 hp with rfl | hp
  · exact cloneP_right
  rcases List.mem_cons.1 hp with rfl | hp
  · exact cloneB_right
  · rw [List.mem_singleton.1 hp]; exact cmp_right) names_ok k
theorem greatest38 (l : List Item) (a : Int) (g : G_LapiItem l) (_ : -9223372036854775808 ≤ a ∧ a ≤ 9223372036854775807) : (bs ext38 10000000000000).kap 9 law38_UsageGreatest [.list 15 (its l), .int .i64 a] = some (.bool true) := by
  obtain ⟨h1, h2, h3⟩ := bd_of g
  exact usageGreatest_true (E := ext38) (k := 10000000000000) (n := 0) l a h1 h2 (by omega) (fun x hx => ⟨h3 x hx, by have := h3 x hx; omega⟩) (by omega)
end Go.Proofs.YteamddaglbleeaaDoor.Eng.U

