/- The engine, part 9: places of elements; rows that are laid and that grow. -/
import Derived.Test.YtilbahgfjfcikaaDoorE8
import Derived.Laws.OwnMore
set_option linter.unusedVariables false
set_option linter.unusedSimpArgs false
namespace Go.Proofs.YtilbahgfjfcikaaDoor.Eng
open Go Go.RowKit
variable {P : Program} {S0 S S' : Stab} {W w w' : World} {gv gv' : Nat → Value} {fr : Fr} {a : Act} {ob ob' : Nat → Option Ob} {β : Type}

theorem indexAddrK_ok (h : Rel P S0 W S gv fr a w) {σ : Nat → Option Ob} (hσ : ∀ r o, σ r = some o → fr.obj r = some o) {T : TypeId} {x i : AV} {K : AV → Option β} {r : β} (hk : indexAddrK P σ T x i K = some r) {xv iv : Value} (hx : SV P S gv fr.obj x xv) (hi : SV P S gv fr.obj i iv) :
    ∃ v val, (Instr.indexAt T xv iv).run P w = .ok val w ∧ SV P S gv fr.obj v val ∧ K v = some r := by
  unfold indexAddrK at hk
  split at hk
  · rename_i e hu
    cases x with
    | list sz xs =>
      have hc := (some_of_bif hk).1
      replace hk := (some_of_bif hk).2
      simp only [Bool.and_eq_true, beq_iff_eq, Bool.not_eq_true', beq_eq_false_iff_ne] at hc
      obtain ⟨rfl, hz⟩ := hc
      obtain ⟨k, z, rfl, z0, z1, hk⟩ := idxOf_ok hk hi
      obtain ⟨y, hy, hk⟩ := Option.bind_eq_some_iff.1 hk
      have hV : V S (.list (P.cellsOf e) xs) xv := hx
      cases hV with
      | list0 _ a cap => simp at hy
      | listn _ => simp at hy
      | list _ _ ad cap f h0 h1 h2 h3 h4 =>
        refine ⟨_, _, run_indexAt_slice' hu (info_of_cells (by simpa using hz)) ad xs.length cap k z z0 z1, ?_, hk⟩
        have := V.eptr (S := S) y.cells 0 (ad.add (z.toNat * P.cellsOf e)) (f z.toNat) (fun j c hc => h2 _ y j c hy hc) (fun j c hc => by rw [Go.Deep.add_add]; exact h3 _ y j c hy hc) (fun j c hc => h4 _ y j c hy hc)
        rw [show (ad.add (z.toNat * P.cellsOf e)).add 0 = ad.add (z.toNat * P.cellsOf e) from rfl] at this
        exact this.toSV
    | own q =>
      simp only at hk
      split at hk
      · rename_i e' xs fz hq
        have he := beq_iff_eq.1 (some_of_bif hk).1
        replace hk := (some_of_bif hk).2
        subst he
        obtain ⟨k, z, rfl, z0, z1, hk⟩ := idxOf_ok hk hi
        have hq' := hσ _ _ hq
        obtain ⟨_, hxv⟩ := hx
        have hxv := hxv _ _ _ hq'
        obtain ⟨us, hown, hsz, _⟩ := h.objs q _ hq'
        rcases ownsRow_form hown with ⟨hv, hn⟩ | ⟨g, cap, hv, hb⟩
        · omega
        · rw [hxv, hv]
          refine ⟨.rloc q z.toNat 0, _, run_indexAt_slice' hu (info_of_cells (by simp; omega)) _ _ cap k z z0 z1, ⟨rfl, fun e2 xs2 fz2 h2 => ?_⟩, hk⟩
          rw [hq'] at h2; cases h2
          exact ⟨by omega, g, _, cap, hv, by rw [add_lit']; simp⟩
      · cases hk
    | ownp q n =>
      simp only at hk
      split at hk
      · rename_i e' xs fz hq
        have he := beq_iff_eq.1 (some_of_bif hk).1
        replace hk := (some_of_bif hk).2
        subst he
        obtain ⟨k, z, rfl, z0, z1, hk⟩ := idxOf_ok hk hi
        have hq' := hσ _ _ hq
        obtain ⟨_, hxv⟩ := hx
        obtain ⟨hn, hxv⟩ := hxv _ _ _ hq'
        obtain ⟨us, hown, hsz, _⟩ := h.objs q _ hq'
        rcases ownsRow_form hown with ⟨hv, hn0⟩ | ⟨g, cap, hv, hb⟩
        · omega
        · rw [hxv, hv]
          refine ⟨.rloc q z.toNat 0, _, run_indexAt_slice' hu (info_of_cells (by simp; omega)) _ n cap k z z0 z1, ⟨rfl, fun e2 xs2 fz2 h2 => ?_⟩, hk⟩
          rw [hq'] at h2; cases h2
          exact ⟨by omega, g, _, cap, hv, by rw [add_lit']; simp⟩
      · cases hk
    | _ => cases hk
  · rename_i n e hu
    have hz := (some_of_bif' hk).1
    replace hk := (some_of_bif' hk).2
    obtain ⟨k, z, rfl, z0, z1, hk⟩ := idxOf_ok hk hi
    cases x with
    | loc q off =>
      have hb := (some_of_bif hk).1
      replace hk := (some_of_bif hk).2
      unfold isBox at hb
      split at hb
      · rename_i cs hq
        obtain ⟨_, hxv⟩ := hx
        obtain ⟨g, hg, rfl⟩ := hxv cs (hσ _ _ hq)
        refine ⟨.loc q (off + z.toNat * P.cellsOf e), _, run_indexAt_array' hu (info_of_cells hz) _ k z z0 z1, ⟨rfl, fun cs' hc => ⟨g, hg, by rw [add_lit']⟩⟩, hk⟩
      · cases hb
    | eptr cs off =>
      have hV : V S (.eptr cs off) xv := hx
      cases hV with
      | eptr _ _ q f h2 h3 h4 =>
        refine ⟨_, _, run_indexAt_array' hu (info_of_cells hz) _ k z z0 z1, ?_, hk⟩
        rw [Go.Deep.add_add]
        exact (V.eptr cs (off + z.toNat * P.cellsOf e) q f h2 h3 h4).toSV
    | _ => cases hk
  · cases hk

/-- append onto a row of one's own: where the new row lies, and what the old one still holds. -/
theorem run_append_mine (base : Nat) (t ty e : TypeId) (i : TypeInfo) (z : Value) (ht : P.underlying t = some (.slice e)) (hi : P.info? e = some i) (hz : i.zero = some z) (hzs : z.cells.size = i.size) (hsz : 0 < i.size)
    (v : Value) (n : Nat) (xs : List Value) (hown : w.ownsRow base e i.size v n xs) (x : Value) (m : Nat) (news : List Value)
    (hx : (x = .slice none 0 0 ∧ m = 0) ∨ ∃ a c, x = .slice (some a) m c ∧ ∀ j u, news[j]? = some u → w.cell? (a.add j) = some u) (hl : news.length = m * i.size) (h1 : ∀ u ∈ news, u.oneCell' = true)
    (h63 : n + m ≤ maxLen) (hbytes : (n + m) * i.bytes ≤ 140737488355328) (hbase : base ≤ w.heap.size) :
    ∃ v' w', (Builtin.append_ #[t, t] ty #[v, x]).run P w = .ok v' w' ∧ w'.ownsRow base e i.size v' (n + m) (xs ++ news) ∧ w.grownBy w' v.ownBlock ∧
      (∀ g, hblk v' = some g → some g = hblk v ∨ w.heap.size ≤ g) ∧ (∀ g j u, hblk v = some g → xs[j]? = some u → w'.cell? ⟨g, j, none⟩ = some u) := by
  have hob : ∀ v : Value, v.oneCell' = true → (∃ a l c, v = .slice a l c) → v.ownBlock = hblk v := by
    rintro v _ ⟨a, l, c, rfl⟩; cases a <;> rfl
  have hold : ∀ g j u, hblk v = some g → xs[j]? = some u → w.cell? ⟨g, j, none⟩ = some u := by
    intro g j u hg hu
    rcases ownsRow_form hown with ⟨hv, _⟩ | ⟨g', cap, hv, _⟩
    · rw [hv] at hg; cases hg
    · rw [hv] at hg; cases hg
      exact cell_of_us hown hv hu
  rcases hx with ⟨rfl, rfl⟩ | ⟨ad, c, rfl, hnews⟩
  · have hn : news = [] := List.eq_nil_of_length_eq_zero (by simpa using hl)
    subst hn
    refine ⟨v, w, run_append_owned_none (P := P) (w := w) base t ty e i i.size ht hi v n xs hown, by simpa using hown, ⟨rfl, rfl, rfl, Nat.le_refl _, fun _ _ _ => rfl⟩, fun g hg => .inl hg.symm, hold⟩
  · have hnew : ∀ old, old < n + m → (w.drew.alloc (.cells (xs.toArray ++ news.toArray ++ Builtin.zeroCells z.cells (grownCap w (n + m) old e - (n + m))) e)).ownsRow base e i.size
        (.slice (some ⟨w.heap.size, 0, none⟩) (n + m) (grownCap w (n + m) old e)) (n + m) (xs ++ news) := by
      intro old ho
      refine ⟨by rw [List.length_append, hown.1, hl, Nat.add_mul], .inr ⟨w.heap.size, _, _, rfl, hbase, heap_alloc_new w.drew _, grownCap_ge w _ _ e, grownCap_le_maxLen w _ _ e h63, ?_, ?_⟩⟩
      · have hge := grownCap_ge w (n + m) old e
        simp only [Array.size_append, List.size_toArray, size_zeroCells, hzs, hown.1, hl, ← Nat.add_mul]
        congr 1
        omega
      · have : (xs ++ news).length = (n + m) * i.size := by rw [List.length_append, hown.1, hl, Nat.add_mul]
        simp only [Array.toList_append, List.append_assoc]
        rw [← List.append_assoc, ← this]
        exact List.take_left
    have hgrown : ∀ o, w.grownBy (w.drew.alloc o) v.ownBlock := fun o => ⟨rfl, rfl, rfl, by simp, fun k hk _ => Below.heap_alloc w.drew o k hk⟩
    have hkeep : ∀ o g j u, hblk v = some g → xs[j]? = some u → (w.drew.alloc o).cell? ⟨g, j, none⟩ = some u := by
      intro o g j u hg hu
      have := hold g j u hg hu
      exact (World.cell?_of_block (Below.heap_alloc w.drew o g (World.block_lt_of_cell? w ⟨g, j, none⟩ this))).trans this
    rcases hown.2 with ⟨hv, hn⟩ | ⟨g, cap, cur, hv, hbg, hg, hnc, hcm, hcs, htake⟩
    · subst hv; subst hn
      have hx : xs = [] := List.eq_nil_of_length_eq_zero (by simpa using hown.1)
      subst hx
      by_cases hm : m = 0
      · subst hm
        have hn : news = [] := List.eq_nil_of_length_eq_zero (by simpa using hl)
        subst hn
        obtain ⟨v', w', q1, q2, q3, q4⟩ := run_append_own (P := P) w base t ty e i z i.size i.bytes ht hi hz rfl rfl hzs hsz (.slice none 0 0) 0 [] hown ad 0 c [] (by simp) (by simp) (by simp) h63 hbytes hbase
        have hv' : v' = .slice none 0 0 := q4.2 ⟨rfl, rfl⟩
        subst hv'
        exact ⟨_, w', q1, q2, q3, fun g hg => (by simp [hblk] at hg), fun g j u hg _ => (by simp [hblk] at hg)⟩
      · have hr := run_append_nil (P := P) w t ty e i z ht hi hz ad m c news hl hnews (by omega) (by simp [maxLen] at h63; omega) (by have := hbytes; simp only [Nat.zero_add] at this; omega)
        have h2 := hnew 0 (by omega)
        simp only [Nat.zero_add, List.nil_append, Array.empty_append] at h2 ⊢
        exact ⟨_, _, hr, h2, hgrown _, fun g hg => (by cases hg; exact .inr (Nat.le_refl _)), fun g j u hg _ => (by simp [hblk] at hg)⟩
    · subst hv
      by_cases hroom : n + m ≤ cap
      · have hfit : n * i.size + news.length ≤ cur.size := by rw [hl, hcs, ← Nat.add_mul]; exact Nat.mul_le_mul_right _ hroom
        have hr := run_append_room (P := P) w t ty e i ht hi g n cap cur hg ad m c news hl hnews h1 hroom hfit
        have hlen : (xs ++ news).length = (n + m) * i.size := by rw [List.length_append, hown.1, hl, Nat.add_mul]
        refine ⟨_, _, hr, ⟨hlen, .inr ⟨g, cap, _, rfl, hbg, setRow_heap w g cur _ e _ hg, hroom, hcm, ?_, ?_⟩⟩, ⟨rfl, rfl, rfl, by simp, fun k _ hk => setRow_other w g k _ (fun e => hk (by simp [Value.ownBlock, e]))⟩, fun g' hg' => .inl hg'.symm, fun g' j u hg' hu => ?_⟩
        · simp only [List.size_toArray, List.length_append, List.length_take, List.length_drop, Array.length_toList]
          omega
        · rw [htake, ← hlen]
          exact List.take_left
        · cases hg'
          rw [cell_of_row _ g j _ e (0, 0) (setRow_heap w g cur _ e _ hg), List.getElem?_toArray, htake, List.append_assoc, List.getElem?_append_left (List.getElem?_eq_some_iff.1 hu).1]
          exact hu
      · have hr := run_append_grow (P := P) w t ty e i z ht hi hz ⟨g, 0, none⟩ n cap xs hown.1 (fun j u hu => hown.cells (g := g) rfl j u hu) ad m c news hl hnews (by omega) (by simp [maxLen] at h63; omega) (growslice_fits (by omega) hbytes)
        exact ⟨_, _, hr, hnew cap (by omega), hgrown _, fun g' hg' => (by cases hg'; exact .inr (Nat.le_refl _)), hkeep _⟩
end Go.Proofs.YtilbahgfjfcikaaDoor.Eng
