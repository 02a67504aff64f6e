/- slices.Clone, walked: at pairs and at bytes. -/
import Derived.OwnWalkIn
import Derived.WalkKit
import Derived.TacticsInMore
import Derived.Shelf.Abstract
import Derived.Lib.SliceRun
import Derived.Test.YtelniipccmeooaaDoorExt
import Derived.Test.YtelniipccmeooaaDoorApi
import Derived.Test.YtelniipccmeooaaDoorU40b
set_option linter.unusedVariables false
set_option linter.unusedSimpArgs false
set_option linter.unusedSectionVars false
namespace Go.Proofs.YtelniipccmeooaaDoor.S40
open Go Go.RowKit Go.Shelf Go.Proofs Go.Proofs.YtelniipccmeooaaDoor.Eng Go.Proofs.YtelniipccmeooaaDoor.Eng.U

theorem infoP : (Tryd.prog.info? 89).map (fun i => (i.zero, i.size, i.bytes)) = some (some (.agg #[.string ⟨#[]⟩, .string ⟨#[]⟩]), 2, 32) := by kernel_rfl
theorem infoB : (Tryd.prog.info? 5).map (fun i => (i.zero, i.size, i.bytes)) = some (some (.int .u8 0), 1, 1) := by kernel_rfl
theorem cell_alloc {w : World} {o : Obj} {x : Addr} {u : Value} (h : w.cell? x = some u) : (w.alloc o).cell? x = some u :=
  (World.cell?_of_block (Below.heap_alloc w o x.block (World.block_lt_of_cell? w x h))).trans h
set_option maxHeartbeats 2000000 in
set_option maxRecDepth 100000 in
theorem pairs_nil (w : World) : Calls Tryd.prog 77 #[.slice none 0 0] w fun e w' => e = .returned (.slice none 0 0) ∧ w' = w := by
  have hnil := fun (W : World) (a : Option Addr) (n c : Nat) => Go.Lib.run_eql_slice_nil (P := Tryd.prog) W 51 89 a n c 0 0 Tryd.underlying51
  go_enter Tryd.func77, Tryd.ntmps77
  go_wp2
  go_ret
  exact ⟨rfl, rfl⟩
set_option maxHeartbeats 2000000 in
set_option maxRecDepth 100000 in
theorem bytes_nil (w : World) : Calls Tryd.prog 78 #[.slice none 0 0] w fun e w' => e = .returned (.slice none 0 0) ∧ w' = w := by
  have hnil := fun (W : World) (a : Option Addr) (n c : Nat) => Go.Lib.run_eql_slice_nil (P := Tryd.prog) W 22 5 a n c 0 0 Tryd.underlying22
  go_enter Tryd.func78, Tryd.ntmps78
  go_wp2
  go_ret
  exact ⟨rfl, rfl⟩
set_option maxHeartbeats 2000000 in
set_option maxRecDepth 100000 in
theorem pairs_some (a : Addr) (m c : Nat) (news : List Value) (w : World) (hl : news.length = m * 2) (hnews : ∀ j u, news[j]? = some u → w.cell? (a.add j) = some u) (h1 : ∀ u ∈ news, u.oneCell' = true) (hm : m ≤ 1000000000) :
    Calls Tryd.prog 77 #[.slice (some a) m c] w fun e w' => ∃ v, e = .returned v ∧ w'.ownsRow w.heap.size 89 2 v m news ∧ Below w.heap.size w w' := by
  have hnil := fun (W : World) (a : Option Addr) (n c : Nat) => Go.Lib.run_eql_slice_nil (P := Tryd.prog) W 51 89 a n c 0 0 Tryd.underlying51
  obtain ⟨i0, hi, hz0, hz1, hz2⟩ := info_parts infoP
  refine (callsIn_wide (n := 3)).1 ?_
  refine callsIn_of_wp Tryd.func77 rfl trivial ?_ rfl
  simp only [Tryd.ntmps77, List.size_toArray, List.length_cons, List.length_nil, Nat.reduceAdd, Nat.reduceSub, Array.replicate_succ, Array.replicate_zero, List.push_toArray, List.append_toArray, List.nil_append, List.cons_append]
  have hrow : (w.alloc (.cells #[] 89)).ownsRow w.heap.size 89 2 (.slice (some ⟨w.heap.size, 0, none⟩) 0 0) 0 [] := World.ownsRow_made w #[] 0 (Nat.le_refl _) (Nat.zero_le _) rfl
  gi_wp2_with (gi_at_builtin; refine wpListIn_append_own _ rfl _ _ 51 rfl w.heap.size 89 i0 (.agg #[.string ⟨#[]⟩, .string ⟨#[]⟩]) 2 32 Tryd.underlying51 hi hz0 hz1 hz2 rfl (by decide) _ _ _ rfl hrow a m c news rfl hl (fun j u h => cell_alloc (hnews j u h)) h1 (by simp only [maxLen]; omega) (by omega) (by simp) ?_; intro v' w1 hown' hgrow _)
  refine bodyPost_ret (results_tmp rfl _ _ _) rfl ?_
  refine ⟨_, rfl, by simpa using hown', ((Below.refl _ w).alloc (Nat.le_refl _) _).grown hgrow (by simp) fun k e => ?_⟩
  have e : some w.heap.size = some k := e
  cases e
  exact Nat.le_refl _
set_option maxHeartbeats 2000000 in
set_option maxRecDepth 100000 in
theorem bytes_some (a : Addr) (m c : Nat) (news : List Value) (w : World) (hl : news.length = m * 1) (hnews : ∀ j u, news[j]? = some u → w.cell? (a.add j) = some u) (h1 : ∀ u ∈ news, u.oneCell' = true) (hm : m ≤ 1000000000) :
    Calls Tryd.prog 78 #[.slice (some a) m c] w fun e w' => ∃ v, e = .returned v ∧ w'.ownsRow w.heap.size 5 1 v m news ∧ Below w.heap.size w w' := by
  have hnil := fun (W : World) (a : Option Addr) (n c : Nat) => Go.Lib.run_eql_slice_nil (P := Tryd.prog) W 22 5 a n c 0 0 Tryd.underlying22
  obtain ⟨i0, hi, hz0, hz1, hz2⟩ := info_parts infoB
  refine (callsIn_wide (n := 3)).1 ?_
  refine callsIn_of_wp Tryd.func78 rfl trivial ?_ rfl
  simp only [Tryd.ntmps78, List.size_toArray, List.length_cons, List.length_nil, Nat.reduceAdd, Nat.reduceSub, Array.replicate_succ, Array.replicate_zero, List.push_toArray, List.append_toArray, List.nil_append, List.cons_append]
  have hrow : (w.alloc (.cells #[] 5)).ownsRow w.heap.size 5 1 (.slice (some ⟨w.heap.size, 0, none⟩) 0 0) 0 [] := World.ownsRow_made w #[] 0 (Nat.le_refl _) (Nat.zero_le _) rfl
  gi_wp2_with (gi_at_builtin; refine wpListIn_append_own _ rfl _ _ 22 rfl w.heap.size 5 i0 (.int .u8 0) 1 1 Tryd.underlying22 hi hz0 hz1 hz2 rfl (by decide) _ _ _ rfl hrow a m c news rfl hl (fun j u h => cell_alloc (hnews j u h)) h1 (by simp only [maxLen]; omega) (by omega) (by simp) ?_; intro v' w1 hown' hgrow _)
  refine bodyPost_ret (results_tmp rfl _ _ _) rfl ?_
  refine ⟨_, rfl, by simpa using hown', ((Below.refl _ w).alloc (Nat.le_refl _) _).grown hgrow (by simp) fun k e => ?_⟩
  have e : some w.heap.size = some k := e
  cases e
  exact Nat.le_refl _
end Go.Proofs.YtelniipccmeooaaDoor.S40
