/- The kind of any flag, the flag of any kind, and what any full name tells: the printed functions of the program and of the reference answer alike, for every input. -/
import Derived.Test.YtelniipccmeooaaPItemKindsx2
import Derived.Test.YtelniipccmeooaaBase
set_option linter.unusedVariables false
set_option linter.unusedSimpArgs false
namespace Go.Proofs.Ytelniipccmeooaa.Pure
open Go.RowKit Go.Proofs.Ytelniipccmeooaa.PItemKinds Go.Proofs.YtelniipccmeooaaW.PrintWords Go.Proofs.YtelniipccmeooaaW.PrintLast Go.Proofs.Ytelniipccmeooaa.Base

theorem hasSuffix_slash (s : ByteArray) (hs : s.size ≤ 140737488351232) : strings_HasSuffix.f s (⟨#[47]⟩ : ByteArray) = some (slash s) := by
  unfold strings_HasSuffix.f stringslite_HasSuffix.f
  have h1 : (((⟨#[47]⟩ : ByteArray).size : Nat) : Int) = 1 := rfl
  simp only [h1]
  by_cases h : s.size = 0
  · rw [if_neg (by omega), slash_zero h]; rfl
  · have hw : wrap64 ((s.size : Int) - 1) = (s.size : Int) - 1 := wrap64_id (by omega) (by omega)
    have ht : ((s.size : Int) - 1).toNat = s.size - 1 := by omega
    rw [if_pos (by omega), hw, if_pos (by omega), if_pos (by omega), ht]
    have : ((⟨#[47]⟩ : ByteArray).toList) = [47] := by rw [toList_data]
    rw [this, drop_last (by omega)]
    rfl

theorem slash_ref (s : ByteArray) (hs : s.size ≤ 140737488351232) : oakumref09_Slash.f s = some (slash s) := by
  unfold oakumref09_Slash.f
  by_cases h : s.size = 0
  · have : s.toList = [] := by rw [toList_data]; exact List.eq_nil_of_length_eq_zero (by rw [size_data]; exact h)
    rw [if_pos this, slash_zero h]
  · have hn : ¬ s.toList = [] := by
      intro e; rw [toList_data] at e; have := size_data s; rw [e] at this; simp at this; omega
    have hw : wrap64 ((s.size : Int) - 1) = (s.size : Int) - 1 := wrap64_id (by omega) (by omega)
    rw [if_neg hn, hw, if_pos (by omega), if_pos (by omega), slash_last (by omega)]

/-- What a full name tells. -/
def told (kind : Int) (s : ByteArray) : Int × ByteArray :=
  let kd := if kind = 1 ∧ slash s = true then 6 else kind
  if kd = 6 ∧ slash s = true ∧ 1 < s.size then (6, s.extract 0 (s.size - 1)) else (kd, s)

theorem told_item (k : Nat) (kind : Int) (s : ByteArray) (hs : s.size ≤ 140737488351232) : item_Told.f (k + 1) kind s = some (told kind s) := by
  have hw : wrap64 ((s.size : Int) - 1) = (s.size : Int) - 1 ∨ s.size = 0 := by
    by_cases h : s.size = 0
    · exact .inr h
    · exact .inl (wrap64_id (by omega) (by omega))
  have ht : ((s.size : Int) - 1).toNat = s.size - 1 := by omega
  unfold item_Told.f
  rw [hasSuffix_slash s hs]
  simp only [Option.bind_some]
  unfold told
  generalize hsl : slash s = b
  have hz : b = true → s.size ≠ 0 := by
    intro hb h0; rw [slash_zero h0] at hsl; rw [hb] at hsl; cases hsl
  by_cases h1 : kind = 1
  · subst h1
    cases b with
    | true =>
      have hw : wrap64 ((s.size : Int) - 1) = (s.size : Int) - 1 := by rcases hw with h | h; exact h; exact absurd h (hz rfl)
      by_cases h2 : 1 < s.size
      · simp [item_Told.j0, hw, ht, h2, show (1 : Int) < (s.size : Int) by omega]; omega
      · simp [item_Told.j0, hw, ht, h2, show ¬ (1 : Int) < (s.size : Int) by omega]
    | false => simp [item_Told.j0]
  · by_cases h6 : kind = 6
    · subst h6
      cases b with
      | true =>
        have hw : wrap64 ((s.size : Int) - 1) = (s.size : Int) - 1 := by rcases hw with h | h; exact h; exact absurd h (hz rfl)
        by_cases h2 : 1 < s.size
        · simp [item_Told.j0, hw, ht, h2, show (1 : Int) < (s.size : Int) by omega]; omega
        · simp [item_Told.j0, hw, ht, h2, show ¬ (1 : Int) < (s.size : Int) by omega]
      | false => simp [item_Told.j0]
    · cases b <;> simp [item_Told.j0, h1, h6]

theorem size_one {s : ByteArray} (hb : slash s = true) : s.toList = [47] ↔ ¬ 1 < s.size := by
  rw [toList_data]
  have hl := size_data s
  unfold slash at hb
  generalize s.data.toList = l at *
  constructor
  · intro e; rw [e] at hl; simp at hl; omega
  · intro h
    rcases List.eq_nil_or_concat l with rfl | ⟨l', x, rfl⟩
    · simp at hb
    · have : l' = [] := by
        apply List.eq_nil_of_length_eq_zero
        simp at hl; omega
      subst this
      simp at hb ⊢; exact hb

theorem told_ref (k : Nat) (kind : Int) (s : ByteArray) (hs : s.size ≤ 140737488351232) : oakumref09_Told.f (k + 1) kind s = some (told kind s) := by
  have ht : ((s.size : Int) - 1).toNat = s.size - 1 := by omega
  have hz : slash s = true → s.size ≠ 0 := by
    intro hb h0; rw [slash_zero h0] at hb; cases hb
  have hone : slash s = true → (s.toList = [47] ↔ ¬ 1 < s.size) := size_one
  unfold oakumref09_Told.f told
  rw [slash_ref s hs]
  simp only [Option.bind_some]
  by_cases h1 : kind = 1
  · subst h1
    simp only [oakumref09_Told.j0, slash_ref s hs, Option.bind_some]
    generalize slash s = b at *
    cases b with
    | true =>
      have hw : wrap64 ((s.size : Int) - 1) = (s.size : Int) - 1 := wrap64_id (by omega) (by omega)
      have := hz rfl
      have ho := hone rfl
      by_cases h2 : 1 < s.size
      · simp [hw, ht, h2, ho]; omega
      · simp [hw, ht, h2, ho]
    | false => simp
  · simp only [oakumref09_Told.j0, slash_ref s hs, Option.bind_some]
    generalize slash s = b at *
    by_cases h6 : kind = 6
    · subst h6
      cases b with
      | true =>
        have hw : wrap64 ((s.size : Int) - 1) = (s.size : Int) - 1 := wrap64_id (by omega) (by omega)
        have := hz rfl
        have ho := hone rfl
        by_cases h2 : 1 < s.size
        · simp [hw, ht, h2, ho]; omega
        · simp [hw, ht, h2, ho]
      | false => simp
    · cases b <;> simp [h1, h6]

/-- The kind of a flag. -/
def kindOf (c : Int) : Int := if c = 0 ∨ c = 48 ∨ c = 55 then 1 else if 49 ≤ c ∧ c ≤ 54 then c - 47 else 0
theorem kind_ref (k : Nat) (c : Int) (h0 : 0 ≤ c) (h1 : c ≤ 255) : oakumref09_Kind.f (k + 1) c = some (kindOf c) := by
  have e1 : wrap64 c = c := wrap64_id (by omega) (by omega)
  have e2 : wrap64 (c - 47) = c - 47 := wrap64_id (by omega) (by omega)
  unfold oakumref09_Kind.f kindOf
  simp only [oakumref09_Kind.j0, e1, e2]
  by_cases a : c = 0
  · simp [a]
  · by_cases b : c = 55
    · simp [b]
    · by_cases d : c = 48
      · simp [d]
      · have n : ¬ (c = 0 ∨ c = 48 ∨ c = 55) := by omega
        simp only [a, b, d, beq_iff_eq, if_false, or_self]
        by_cases h : 49 ≤ c ∧ c ≤ 54
        · have g1 : c ≥ 48 := by omega
          simp only [h, and_self, if_true, g1]
        · simp only [h, if_false]
          by_cases g1 : c ≥ 48
          · have g2 : ¬ c ≤ 54 := by omega
            simp only [g1, g2, if_true, if_false]
          · simp only [g1, if_false]
theorem kind_item (k : Nat) (c : Int) (h0 : 0 ≤ c) (h1 : c ≤ 255) : item_Kind.f (k + 1) c = some (kindOf c) := by
  unfold item_Kind.f kindOf
  simp only [item_Kind.j0]
  by_cases a : c = 0
  · simp [a]
  · by_cases b : c = 48
    · simp [b]
    · by_cases d : c = 55
      · simp [d]
      · simp only [a, b, d, beq_iff_eq, if_false, or_self]
        by_cases h : 49 ≤ c ∧ c ≤ 54
        · have e : (c - 49) % 256 + 2 = c - 47 := by omega
          simp only [h, and_self, if_true, e]
          split; rfl
          split; rfl
          split; rfl
          split; rfl
          split; rfl
          split; rfl
          omega
        · have g1 : ¬ c = 49 := by omega
          have g2 : ¬ c = 50 := by omega
          have g3 : ¬ c = 51 := by omega
          have g4 : ¬ c = 52 := by omega
          have g5 : ¬ c = 53 := by omega
          have g6 : ¬ c = 54 := by omega
          simp only [h, g1, g2, g3, g4, g5, g6, if_false]

/-- The flag of a kind. -/
def flagOf (kd : Int) : Int := if 1 ≤ kd ∧ kd ≤ 7 then 47 + kd else 0
theorem flag_item (kd : Int) : item_Flag.f kd = some (flagOf kd) := by
  unfold item_Flag.f flagOf
  by_cases a : kd < 1
  · rw [if_pos a, if_neg (by omega)]
  · by_cases b : kd > 7
    · rw [if_neg a, if_pos b, if_neg (by omega)]
    · have : wrap64 (kd - 1) = kd - 1 := wrap64_id (by omega) (by omega)
      rw [if_neg a, if_neg b, if_pos (by omega), this]
      congr 1; omega

/-- What the law's loop has found among the flags below c. -/
def wantTo (kd c : Int) : Int := if 1 ≤ kd ∧ kd ≤ 7 ∧ 47 + kd < c then 47 + kd else 0

theorem loop (flag kind : Int) (full : ByteArray) (h0 : 0 ≤ flag) (h1 : flag ≤ 255) (hs : full.size ≤ 140737488351232) : ∀ (d k : Nat) (c : Int), 48 ≤ c → c ≤ 55 → 55 - c = d → d + 1 < k →
    oakumlaw09_ItemKinds.l0 k flag kind full (wantTo kind c) c = some true := by
  intro d
  induction d with
  | zero =>
    intro k c hc0 hc1 hd hk
    obtain ⟨k, rfl⟩ : ∃ m, k = m + 2 := ⟨k - 2, by omega⟩
    obtain rfl : c = 55 := by omega
    simp only [oakumlaw09_ItemKinds.l0]
    rw [if_neg (by omega), told_item k kind full hs, told_ref k kind full hs, kind_item k flag h0 h1, kind_ref k flag h0 h1, flag_item]
    have e : wantTo kind 55 = flagOf kind := by unfold wantTo flagOf; split <;> split <;> omega
    simp [e]
  | succ d ih =>
    intro k c hc0 hc1 hd hk
    obtain ⟨k, rfl⟩ : ∃ m, k = m + 2 := ⟨k - 2, by omega⟩
    have e1 : c % 256 = c := by omega
    have e2 : wrap64 (c + 1) = c + 1 := wrap64_id (by omega) (by omega)
    rw [oakumlaw09_ItemKinds.l0]
    rw [if_pos (by omega), e1, kind_ref k c (by omega) (by omega), e2]
    simp only [Option.bind_some]
    have hkc : kindOf c = c - 47 := by
      unfold kindOf
      by_cases q : c = 48
      · simp [q]
      · have n : ¬ (c = 0 ∨ c = 48 ∨ c = 55) := by omega
        have m : 49 ≤ c ∧ c ≤ 54 := by omega
        rw [if_neg n, if_pos m]
    by_cases hk : kindOf c = kind
    · rw [if_pos hk]
      have : c = wantTo kind (c + 1) := by unfold wantTo; rw [if_pos (by omega)]; omega
      have := ih (k + 1) (c + 1) (by omega) (by omega) (by omega) (by omega)
      rwa [← ‹c = wantTo kind (c + 1)›] at this
    · rw [if_neg hk]
      have e : wantTo kind c = wantTo kind (c + 1) := by
        unfold wantTo
        split <;> split <;> omega
      rw [e]
      exact ih (k + 1) (c + 1) (by omega) (by omega) (by omega) (by omega)

theorem alive (k : Nat) : oakumlaw09_alive.f (k + 1) = some true := by
  unfold oakumlaw09_alive.f
  rw [told_item k 1 _ (by decide)]
  have s1 : slash (⟨#[97, 47]⟩ : ByteArray) = true := by decide
  have s2 : slash (⟨#[47]⟩ : ByteArray) = true := by decide
  have e1 : told 1 (⟨#[97, 47]⟩ : ByteArray) = (6, ⟨#[97]⟩) := by
    have e0 : (⟨#[97, 47]⟩ : ByteArray).extract 0 ((⟨#[97, 47]⟩ : ByteArray).size - 1) = ⟨#[97]⟩ := bytes_ext (by rw [extract_list]; rfl)
    unfold told
    simp only [s1, and_self, if_true, true_and, e0]
    rfl
  have e2 : item_Fulls.f 6 (⟨#[47]⟩ : ByteArray) (⟨#[]⟩ : ByteArray) 0 0 0 0 0 0 (⟨#[]⟩ : ByteArray) (⟨#[]⟩ : ByteArray) 0 0 [] = some [(⟨#[47]⟩ : ByteArray), (⟨#[47]⟩ : ByteArray) ++ (⟨#[47]⟩ : ByteArray)] := by
    unfold item_Fulls.f
    rw [hasSuffix_slash _ (by decide), s2]
    rfl
  rw [e1, e2]
  simp [rdOf, toList_data]

theorem ItemKinds : oakumlaw09_ItemKinds.Pure := by
  intro flag kind full hf hk hs
  have hf' := wf_u8 hf
  refine ⟨10, ?_⟩
  unfold oakumlaw09_ItemKinds.f
  rw [alive 9]
  simp only [Option.bind_some, if_true]
  split
  · rfl
  · have h := loop flag kind full hf'.1 hf'.2 hs 7 10 48 (by omega) (by omega) (by omega) (by omega)
    have e : wantTo kind 48 = 0 := by unfold wantTo; rw [if_neg (by omega)]
    rwa [e] at h
end Go.Proofs.Ytelniipccmeooaa.Pure
