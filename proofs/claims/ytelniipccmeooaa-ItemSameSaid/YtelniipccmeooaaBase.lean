/- Plain facts on wrapped numbers and on byte arrays, as the printed functions speak of them. -/
import Derived.Test.YtelniipccmeooaaWMore
set_option linter.unusedVariables false
set_option linter.unusedSimpArgs false
namespace Go.Proofs.Ytelniipccmeooaa.Base
open Go.RowKit Go.Proofs.YtelniipccmeooaaW.PrintWords Go.Proofs.YtelniipccmeooaaW.PrintMore

theorem wrap64_id {x : Int} (h0 : -9223372036854775808 ≤ x) (h1 : x < 9223372036854775808) : wrap64 x = x := by
  unfold wrap64; omega
theorem toList_data (s : ByteArray) : s.toList = s.data.toList := ByteArray.toList_eq s
theorem size_data (s : ByteArray) : s.data.toList.length = s.size := by rw [Array.length_toList]; rfl
theorem bt_getD (s : ByteArray) (i : Int) : bt s i = ((s.data.toList.getD i.toNat 0).toNat : Int) := by
  unfold bt
  split
  · rename_i h
    have h' : i.toNat < s.data.toList.length := by rw [size_data]; exact h
    simp [List.getD_eq_getElem?_getD, List.getElem?_eq_getElem h']
    rfl
  · rename_i h
    have h' : s.data.toList.length ≤ i.toNat := by rw [size_data]; omega
    simp [List.getD_eq_getElem?_getD, List.getElem?_eq_none h']
theorem bytes_ext {a b : ByteArray} (h : a.data.toList = b.data.toList) : a = b := by
  cases a; cases b; simp at h; simp [h]
theorem extract_list (s : ByteArray) (a b : Nat) : (s.extract a b).data.toList = (s.data.toList.take b).drop a := by
  rw [ByteArray.data_extract, Array.toList_extract]
  simp [List.extract_eq_take_drop, List.drop_take]
theorem append_list (a b : ByteArray) : (a ++ b).data.toList = a.data.toList ++ b.data.toList := by
  simp [ByteArray.data_append]
theorem toList_inj {a b : ByteArray} : a.toList = b.toList ↔ a = b :=
  ⟨fun h => bytes_ext (by rwa [toList_data, toList_data] at h), fun h => by rw [h]⟩

/-- Does a text end in a slash? -/
def slash (s : ByteArray) : Bool := s.data.toList.getLast? == some 47
theorem slash_zero {s : ByteArray} (h : s.size = 0) : slash s = false := by
  have : s.data.toList = [] := List.eq_nil_of_length_eq_zero (by rw [size_data]; exact h)
  simp [slash, this]
theorem slash_last {s : ByteArray} (h : 0 < s.size) : slash s = (bt s ((s.size : Int) - 1) == 47) := by
  have hl : s.size - 1 < s.data.toList.length := by rw [size_data]; omega
  have e : ((s.size : Int) - 1).toNat = s.size - 1 := by omega
  rw [bt_getD, e, slash, List.getLast?_eq_getElem?, size_data, List.getElem?_eq_getElem hl, List.getD_eq_getElem?_getD, List.getElem?_eq_getElem hl]
  generalize s.data.toList[s.size - 1] = c
  rw [Bool.eq_iff_iff]
  simp [← UInt8.toNat_inj]
  omega
theorem drop_last {s : ByteArray} (h : 0 < s.size) : ((s.extract (s.size - 1) s.size).toList == [47]) = slash s := by
  rw [toList_data, extract_list, slash]
  have hl : s.size = s.data.toList.length := (size_data s).symm
  generalize s.data.toList = l at *
  rw [hl] at h ⊢
  rw [List.take_of_length_le (Nat.le_refl _)]
  rcases List.eq_nil_or_concat l with rfl | ⟨l', x, rfl⟩
  · simp at h
  · simp
theorem wf_u8 {x : Int} (h : (Lit.int .u8 x).wf = true) : 0 ≤ x ∧ x ≤ 255 := by
  simp [Lit.wf, IntKind.min, IntKind.max, IntKind.signed, IntKind.bits] at h; omega
theorem wf_u32 {x : Int} (h : (Lit.int .u32 x).wf = true) : 0 ≤ x ∧ x ≤ 4294967295 := by
  simp [Lit.wf, IntKind.min, IntKind.max, IntKind.signed, IntKind.bits] at h; omega
theorem wf_i64 {x : Int} (h : (Lit.int .i64 x).wf = true) : -9223372036854775808 ≤ x ∧ x ≤ 9223372036854775807 := by
  simp [Lit.wf, IntKind.min, IntKind.max, IntKind.signed, IntKind.bits] at h; omega
theorem wf_u64 {x : Int} (h : (Lit.int .u64 x).wf = true) : 0 ≤ x ∧ x ≤ 18446744073709551615 := by
  simp [Lit.wf, IntKind.min, IntKind.max, IntKind.signed, IntKind.bits] at h; omega
end Go.Proofs.Ytelniipccmeooaa.Base
