/- path.Parts, walked: what it answers is a new row of the texts between slashes that are neither empty nor a point. The iterator (strings.SplitSeq's) keeps its place in a box of its own: the law for a range over such a function stands here too. After the library's worked callers of range-over-func. -/
import Derived.RangeFuncBox
import Derived.RangeFuncLeaves
import Derived.Shelf.Abstract
import Derived.WalkKit
import Derived.OwnWalkIn
import Derived.TacticsInMore
import Derived.LoopNIn
import Derived.LoopIn
import Derived.Maps.AppendAt
import Derived.Test.YtelniipccmeooaaDoorShelf
import Derived.Test.YtelniipccmeooaaDoorE22
import Derived.Test.YtelniipccmeooaaDoorQ24
set_option linter.unusedVariables false
set_option linter.unusedSectionVars false
set_option linter.unusedSimpArgs false
namespace Go.Proofs.YtelniipccmeooaaDoor.S24
open Go Go.RowKit Go.Shelf Go.Proofs Go.Proofs.YtelniipccmeooaaDoor.P24 Go.Proofs.YtelniipccmeooaaDoor.Eng
attribute [local go_sem] Oper.semAt_some

theorem index_cut : ∀ l, Lib.indexByte l 47 = match cutAt l with | none => -1 | some (a, b) => (a.length : Int)
  | [] => rfl
  | c :: l => by
    rw [cutAt_cons]
    unfold Lib.indexByte
    by_cases h : c = 47
    · subst h; simp
    · rw [if_neg h, if_neg (by simpa using h), index_cut l]
      cases hc : cutAt l with
      | none => simp
      | some p =>
        simp only [Option.map_some, List.length_cons]
        rw [if_neg (by simp)]
        rfl
theorem str_cut0 (x y : List UInt8) : (str (x ++ 47 :: y)).extract 0 x.length = str x := by
  rw [str_ext, List.drop_zero, List.take_left' rfl]
theorem str_cut1 (x y : List UInt8) : (str (x ++ 47 :: y)).extract (x.length + 1) (x.length + y.length + 1) = str y := by
  rw [str_ext, List.take_of_length_le (by simp; omega), show x ++ 47 :: y = (x ++ [47]) ++ y from by simp, List.drop_left' (by simp)]
theorem str_toList (l : List UInt8) : (str l).data.toList = l := rfl

/-- What an iterator with boxes of its own gives to a body that never leaves. -/
def Gives (P : Program) (n : Nat) (g : Nat) (lb : Array Value) (bx : Nat → Prop) (Nn : Nat) (out : List (List UInt8)) (w : World) : Prop :=
  ∀ (l : Nat) (J : List (List UInt8) → World → Prop) (W : World), (∀ b, bx b → W.heap[b]? = w.heap[b]?) →
    (∀ pre W v b, bx b → J pre W → J pre (W.setCell ⟨b, 0, none⟩ v)) →
    (∀ pre x W1, J pre W1 → x.length < Nn → pre.length < Nn → YieldAt Fence.wide (n - 1) P l #[.string (str x)] W1 fun e W' => e = .returned (.bool true) ∧ J (pre ++ [x]) W' ∧ ∀ b, bx b → W'.heap[b]? = W1.heap[b]?) →
    J [] W → CallsIn Fence.wide n P g (#[.func (.yield l) #[] #[]] ++ lb) W fun e W' => (∃ v, e = .returned v) ∧ J out W'
theorem wpIn_rangeFunc_gives {P : Program} {n : Nat} {g : Operand} {ps : Array Tmp} {assign body : Code} {Q : Exit → Act → World → Prop} {a : Act} {w : World}
    {gf : Nat} {lb : Array Value} (hg : a.eval g = .func (.func gf) #[] lb) (eg : ∀ args w, (callFunc gf args).run P w = .ok (.enter gf args) w)
    {bx : Nat → Prop} {Nn : Nat} {out : List (List UInt8)} (hseq : Gives P (n - 1) gf lb bx Nn out w) (hps : ps.size = 1) (hbx : ∀ b, bx b → b < w.heap.size)
    (I : List (List UInt8) → World → Prop) (hI : OwnFrom w.heap.size I) (hIb : ∀ pre W v b, bx b → I pre W → I pre (W.setCell ⟨b, 0, none⟩ v)) (h0 : I [] w) (a₁ : List UInt8 → Act)
    (hassign : ∀ (l : Nat) (x : List UInt8) (W : World) (K : Act → World → Prop), K (a₁ x) W →
      assign.wpIn (Fence.wide.inRound l) (n - 1 - 1) P (Exit.then K (fun _ _ _ => False)) { tmps := (ps.zip #[Value.string (str x)]).foldl (fun t (p, v) => t.setIfInBounds p v) a.tmps, defers := [] } W)
    (hbody : ∀ (l : Nat) (pre : List (List UInt8)) (x : List UInt8) (W : World), I pre W → x.length < Nn → pre.length < Nn → body.wpIn (Fence.wide.inRound l) (n - 1 - 1) P (fun e _ W3 => e = .normal ∧ KeepsOthers W W3 ∧ (∀ b, bx b → W3.heap[b]? = W.heap[b]?) ∧ I (pre ++ [x]) W3) (a₁ x) W)
    (hdone : ∀ (D : Nat) (W : World), w.heap.size ≤ D → I out W → W.heap[D]? = some (.deferred (some [])) → Q .normal { a with defers := { target := .collected D, args := #[] } :: a.defers } W) :
    (Code.rangeFunc g ps assign body).wpIn Fence.wide n P Q a w := by
  refine wpIn_rangeFunc ?_
  intro fn hfn
  rw [show Fence.wide.round = none from rfl]
  obtain ⟨rec, hrec⟩ : ∃ rec : LoopState → Option Code → Loop, rec = fun st pe => { state := st, pending := pe, fn, tmps := a.tmps, params := ps, assign, body, defers := w.heap.size } := ⟨_, rfl⟩
  obtain ⟨W1, hW1⟩ : ∃ W1, (w.alloc (.deferred (some []))).alloc (.loop (rec .ready none)) = W1 := ⟨_, rfl⟩
  have hL1 : W1.heap[w.heap.size + 1]? = some (.loop (rec .ready none)) := by
    rw [← hW1]; have := World.alloc_heap_new (w.alloc (.deferred (some []))) (.loop (rec .ready none)); rwa [World.size_alloc] at this
  have hK1 : W1.heap[w.heap.size]? = some (.deferred (some [])) := by
    rw [← hW1]; exact (Below.heap_alloc _ _ _ (by simp)).trans (World.alloc_heap_new w _)
  have hI1 : I [] W1 := by rw [← hW1]; exact hI.alloc _ (hI.alloc _ h0)
  have hB1 : ∀ b, bx b → W1.heap[b]? = w.heap[b]? := fun b hb => by
    have := hbx b hb
    rw [← hW1]
    exact (Below.heap_alloc _ _ _ (by simp; omega)).trans (Below.heap_alloc _ _ _ this)
  refine ⟨w.heap.size + 1, [{ target := .collected w.heap.size, args := #[] }], W1, { target := .fn (.func gf) lb, args := #[.func (.yield (w.heap.size + 1)) #[] #[]] }, W1, gf,
    #[.func (.yield (w.heap.size + 1)) #[] #[]] ++ lb, W1, ?_, ?_, ?_, ?_, fun h => (by cases h), ?_⟩
  · rw [← hW1, hrec]; exact run_enterLoop_outer _ _ _ _ _
  · simp only [resolve, hg]
    simp [go_sem]
  · intro f' hf'; trivial
  · simp [invoke, go_sem, eg]
  · refine (hseq (w.heap.size + 1)
      (fun pre W => I pre W ∧ W.heap[w.heap.size + 1]? = some (.loop (rec .ready none)) ∧ W.heap[w.heap.size]? = some (.deferred (some [])))
      W1 hB1 (fun pre W v b hb hs => by
        have := hbx b hb
        exact ⟨hIb pre W v b hb hs.1, (Below.heap_setCell _ _ _ _ (by simp; omega)).trans hs.2.1, (Below.heap_setCell _ _ _ _ (by simp; omega)).trans hs.2.2⟩) ?_ ⟨hI1, hL1, hK1⟩).mono ?_
    · rintro pre x W ⟨hi, hl, hk⟩ hx hp
      have hlt : w.heap.size + 1 < W.heap.size := (Array.getElem?_eq_some_iff.1 hl).1
      have hy := run_yield (P := P) (args := #[.string (str x)]) hl (by rw [hrec]; exact hps.symm)
      rw [hrec] at hy
      refine ⟨fn, _, assign, body, hy, roundIn_of_wpIn hfn (hassign _ x W _ ⟨_, run_beginRound hl (by rw [hrec]), ?_⟩)⟩
      have hl2 : (W.putObj (w.heap.size + 1) (.loop { rec .ready none with state := .busy })).heap[w.heap.size + 1]? = some (.loop { rec .ready none with state := .busy }) := World.putObj_heap_same hlt
      have hk2 : (W.putObj (w.heap.size + 1) (.loop { rec .ready none with state := .busy })).heap[w.heap.size]? = some (.deferred (some [])) := (World.putObj_heap_other (by omega)).trans hk
      refine wpIn_mono (hbody _ pre x _ (hI.putObj _ hi (by omega) hl rfl) hx hp) ?_
      rintro e a3 W3 ⟨rfl, hk3, hb3, hi3⟩
      have hl3 := hk3.same _ _ hl2 rfl
      have hr := run_endRound (P := P) none hl3
      rw [hrec] at hr hl3
      refine ⟨_, _, hr, rfl, ⟨hI.putObj _ hi3 (by omega) hl3 rfl, ?_, (World.putObj_heap_other (by omega)).trans (hk3.same _ _ hk2 rfl)⟩, fun b hb => ?_⟩
      · rw [hrec]; exact World.putObj_heap_same (Array.getElem?_eq_some_iff.1 hl3).1
      · have := hbx b hb
        exact (World.putObj_heap_other (by omega)).trans ((hb3 b hb).trans (World.putObj_heap_other (by omega)))
    · rintro e W2 ⟨⟨v, rfl⟩, hi, hl, hk⟩
      exact ⟨none, _, by have := run_endLoop (P := P) hl (by rw [hrec]; simp); rw [hrec] at this; exact this, hdone _ _ (Nat.le_refl _) (hI.putObj _ hi (by omega) hl rfl) ((World.putObj_heap_other (by omega)).trans hk)⟩

/-- The text that a box holds. -/
def boxLen (b : Nat) (W : World) : Nat := match W.cell? ⟨b, 0, none⟩ with | some (.string s) => s.size | _ => 0

set_option maxHeartbeats 1000000 in
theorem split_seq (s sep : ByteArray) (w : World) : Calls Tryd.prog 75 #[.string s, .string sep, .int .i64 0] w fun e w' =>
    e = .returned (.func (.func 85) #[] #[.pointer (some ⟨w.heap.size + 1, 0, none⟩), .pointer (some ⟨w.heap.size, 0, none⟩), .pointer (some ⟨w.heap.size + 2, 0, none⟩)]) ∧
    w' = ((w.alloc (.cells #[.string s] 9)).alloc (.cells #[.string sep] 9)).alloc (.cells #[.int .i64 0] 3) := by
  go_enter Tryd.func75, Tryd.ntmps75
  go_wp2
  go_ret
  exact ⟨rfl, rfl⟩
set_option maxHeartbeats 1000000 in
theorem SplitSeq (s sep : ByteArray) (w : World) : Calls Tryd.prog 58 #[.string s, .string sep] w fun e w' =>
    e = .returned (.func (.func 85) #[] #[.pointer (some ⟨w.heap.size + 1, 0, none⟩), .pointer (some ⟨w.heap.size, 0, none⟩), .pointer (some ⟨w.heap.size + 2, 0, none⟩)]) ∧
    w' = ((w.alloc (.cells #[.string s] 9)).alloc (.cells #[.string sep] 9)).alloc (.cells #[.int .i64 0] 3) := by
  go_enter Tryd.func58, Tryd.ntmps58
  go_wp2_with (go_at_call 75; refine (split_seq _ _ _).mono ?_)
  rintro e w' ⟨rfl, rfl⟩
  go_wp2
  go_ret
  exact ⟨rfl, rfl⟩

/-- The iterator: every piece of the text, one after the other. -/
theorem iter_gives (b0 b1 b2 : Nat) (s : List UInt8) (Nn : Nat) (w : World) (h0 : Boxed w b0 9 (.string (str s))) (h1 : Boxed w b1 9 (.string ⟨#[47]⟩)) (h2 : Boxed w b2 3 (.int .i64 0)) (hn : b0 ≠ b1 ∧ b0 ≠ b2 ∧ b1 ≠ b2) (hN : s.length + 1 < Nn) (hN2 : s.length < 1000000) :
    Gives Tryd.prog 2 85 #[.pointer (some ⟨b1, 0, none⟩), .pointer (some ⟨b0, 0, none⟩), .pointer (some ⟨b2, 0, none⟩)] (fun b => b = b0 ∨ b = b1 ∨ b = b2) Nn (pieces s) w := by
  intro l J W hW hJ hY hJ0
  have h0 : Boxed W b0 9 (.string (str s)) := (hW b0 (.inl rfl)).trans h0
  have h1 : Boxed W b1 9 (.string ⟨#[47]⟩) := (hW b1 (.inr (.inl rfl))).trans h1
  have h2 : Boxed W b2 3 (.int .i64 0) := (hW b2 (.inr (.inr rfl))).trans h2
  have c0 := h0.cell
  have c1 := h1.cell
  have c2 := h2.cell
  refine callsIn_of_wp Tryd.func85 rfl trivial ?_ rfl
  simp only [Tryd.ntmps85, List.size_toArray, List.length_cons, List.length_nil, Nat.reduceAdd, Nat.reduceSub, Array.replicate_succ, Array.replicate_zero, List.push_toArray, List.append_toArray, List.nil_append, List.cons_append]
  gi_wp2
  gi_loopw [] (fun wr => ∃ (pre : List (List UInt8)) (rest : List UInt8), J pre wr ∧ pre ++ pieces rest = pieces s ∧ rest.length + pre.length ≤ s.length ∧ Boxed wr b0 9 (.string (str rest)) ∧ Boxed wr b1 9 (.string ⟨#[47]⟩) ∧ Boxed wr b2 3 (.int .i64 0)) (fun wr => boxLen b0 wr)
  case atStart => exact ⟨[], s, hJ0, rfl, by simp, h0, h1, h2⟩
  case round =>
    obtain ⟨pre, rest, hj, hps, hlen, k0, k1, k2⟩ := hrel
    have d0 := k0.cell
    have d1 := k1.cell
    have d2 := k2.cell
    have hix := index_cut rest
    gi_wp2_with (refine ⟨trivial, ?_⟩; gi_at_call 86; refine (callsIn_wide.2 (Tryd.strings_Index_one (str rest) 47 _)).mono ?_)
    rintro e w' ⟨rfl, rfl⟩
    rw [str_toList] at *
    cases hc : cutAt rest with
    | none =>
      rw [hc] at hix
      simp only at hix
      rw [hix]
      have hpc : pieces rest = [rest] := by rw [pieces_cut, hc]
      obtain ⟨fn, tmps, assign, body, hy, hR⟩ := hY pre rest _ hj (by omega) (by omega)
      gi_wp2
      refine hR.mono ?_
      rintro e W3 ⟨rfl, hJ3, hk3⟩
      gi_wp2
      go_end0
      refine ⟨⟨_, rfl⟩, ?_⟩
      rw [← hps, hpc]
      exact hJ3
    | some ab =>
      obtain ⟨x, y⟩ := ab
      rw [hc] at hix
      simp only at hix
      rw [hix]
      have hr := cutAt_eq hc
      have hpc : pieces rest = x :: pieces y := by rw [pieces_cut, hc]
      have hrl : rest.length = x.length + y.length + 1 := by rw [hr]; simp; omega
      have hsz : (str rest).size = x.length + y.length + 1 := hrl
      have e0 : (str rest).extract 0 x.length = str x := by rw [hr]; exact str_cut0 x y
      have e1 : (str rest).extract (x.length + 1) (x.length + y.length + 1) = str y := by rw [hr]; exact str_cut1 x y
      clear hr hc hix
      obtain ⟨fn, tmps, assign, body, hy, hR⟩ := hY pre x _ hj (by omega) (by omega)
      gi_wp2
      refine hR.mono ?_
      rintro e W3 ⟨rfl, hJ3, hk3⟩
      have q0 : Boxed W3 b0 9 (.string (str rest)) := (hk3 b0 (.inl rfl)).trans k0
      have q1 : Boxed W3 b1 9 (.string ⟨#[47]⟩) := (hk3 b1 (.inr (.inl rfl))).trans k1
      have q2 : Boxed W3 b2 3 (.int .i64 0) := (hk3 b2 (.inr (.inr rfl))).trans k2
      have g0 := q0.cell
      have g1 := q1.cell
      have f0 := q0.frozen
      gi_wp2
      go_roundw
      case rel =>
        refine ⟨pre ++ [x], y, hJ _ _ _ _ (.inl rfl) hJ3, by rw [← hps, hpc]; simp, by simp; omega, ?_, ?_, ?_⟩
        · rw [← e1]; exact q0.set _
        · exact (Below.heap_setCell _ _ _ _ (fun e => hn.1 e.symm)).trans q1
        · exact (Below.heap_setCell _ _ _ _ (fun e => hn.2.1 e.symm)).trans q2
      case measure =>
        have m1 : boxLen b0 (W3.setCell ⟨b0, 0, none⟩ (.string (str y))) = y.length := by
          unfold boxLen
          rw [(q0.set (.string (str y))).cell]
          rfl
        have m0 : ∀ W', W'.cell? ⟨b0, 0, none⟩ = some (.string (str rest)) → boxLen b0 W' = x.length + y.length + 1 := fun W' h => by unfold boxLen; rw [h]; exact hsz
        rw [m1, m0 _ d0]
        omega

theorem info9 : (Tryd.prog.info? 9).map (fun i => (i.zero, i.size, i.bytes)) = some (some (.string ⟨#[]⟩), 1, 16) := by kernel_rfl
theorem ownsRow_low {w : World} {b b' : Nat} {e : TypeId} {size : Nat} {v : Value} {n : Nat} {xs : List Value} (h : w.ownsRow b e size v n xs) (hb : b' ≤ b) : w.ownsRow b' e size v n xs := by
  refine ⟨h.1, ?_⟩
  rcases h.2 with h | ⟨g, cap, cur, hv, hg, r⟩
  · exact .inl h
  · exact .inr ⟨g, cap, cur, hv, by omega, r⟩
/-- 'out = append(out, ..)' with a row that lies beyond n₁, a box beyond n₀. -/
theorem appended2 {W w1 : World} {n₀ n₁ B : Nat} {t e : TypeId} {size : Nat} {v v' : Value} {k m : Nat} {xs ys : List Value} {tmp : Obj}
    (hv : Boxed W B t v) (hte : t ≠ e) (hrow : W.ownsRow n₁ e size v k xs) (h01 : n₀ ≤ n₁) (hn₁ : n₁ ≤ W.heap.size) (hB : n₀ ≤ B) (hB1 : B < n₁)
    (hown' : w1.ownsRow n₁ e size v' m ys) (hgrow : (W.alloc tmp).grownBy w1 v.ownBlock) :
    Boxed w1 B t v ∧ Boxed (w1.setCell ⟨B, 0, none⟩ v') B t v' ∧ (w1.setCell ⟨B, 0, none⟩ v').ownsRow n₁ e size v' m ys ∧ KeepsOthers W (w1.setCell ⟨B, 0, none⟩ v') ∧ Below n₀ W (w1.setCell ⟨B, 0, none⟩ v') ∧ ∀ b, b < n₁ → b ≠ B → (w1.setCell ⟨B, 0, none⟩ v').heap[b]? = W.heap[b]? := by
  have hv1 : Boxed w1 B t v := (hv.alloc tmp).kept hgrow (hv.not_row hte hrow)
  have hbk : ∀ j, v.ownBlock = some j → n₁ ≤ j := fun j ej => by
    rcases hrow.2 with ⟨rfl, _⟩ | ⟨g, cap, cur, rfl, hb, _, _⟩
    · simp [Value.ownBlock] at ej
    · obtain rfl : g = j := by simpa [Value.ownBlock] using ej
      exact hb
  refine ⟨hv1, hv1.set v', hown'.kept (grownBy_setCell' w1 B v') (.inr (hv1.not_row hte hown').symm), ?_, ?_, fun b hb hbB => ?_⟩
  · refine ((KeepsOthers.alloc W tmp).trans (KeepsOthers.of_grownBy hgrow fun j o ej hj => ?_)).trans (KeepsOthers.setCell _ _ _)
    rcases (hrow.alloc tmp).2 with ⟨rfl, _⟩ | ⟨g, cap, cur, rfl, _, hgb, _⟩
    · simp [Value.ownBlock] at ej
    · obtain rfl : g = j := by simpa [Value.ownBlock] using ej
      rw [hgb] at hj; cases hj; rfl
  · exact (((Below.refl n₀ W).alloc (by omega) tmp).grown hgrow (by simp; omega) fun j ej => by have := hbk j ej; omega).setCell (p := ⟨B, 0, none⟩) hB v'
  · refine (Below.heap_setCell _ _ _ _ hbB).trans ((hgrow.block b (by simp; omega) fun e => ?_).trans (Below.heap_alloc _ _ _ (by omega)))
    have := hbk b e.symm
    omega
theorem str_toList' (x : List UInt8) : (str x).toList = x := by rw [ByteArray.toList_eq]; rfl
theorem holdsRow_own' (B n₁ : Nat) : Own (fun (pre : List (List UInt8)) W => ∃ v, Boxed W B 34 v ∧ W.ownsRow n₁ 9 1 v (flt pre).length ((flt pre).map fun p => Value.string (str p))) := by
  intro pre X Y row ⟨v, hv, hr⟩ hg hrow
  obtain ⟨v', h1, h2, _⟩ := holdsRow_own (β := List (List UInt8)) n₁ B 34 9 1 (fun pre => (flt pre).length) (fun pre => (flt pre).map fun p => Value.string (str p)) (fun _ _ => True) pre X Y row ⟨v, hv, hr, trivial⟩ hg hrow
  exact ⟨v', h1, h2⟩
set_option maxHeartbeats 2000000 in
set_option maxRecDepth 100000 in
theorem Parts_walk (s : List UInt8) (w : World) (hN2 : s.length < 1000000) : Calls Tryd.prog 30 #[.string (str s)] w fun e W' =>
    ∃ v, e = .returned v ∧ W'.ownsRow w.heap.size 9 1 v (partsL s).length ((partsL s).map fun p => Value.string (str p)) ∧ Below w.heap.size w W' := by
  obtain ⟨i0, hi, hz0, hz1, hz2⟩ := info_parts info9
  refine (callsIn_wide (n := 3)).1 ?_
  refine callsIn_of_wp_marks Tryd.func30 rfl trivial ?_ rfl
  simp only [Tryd.ntmps30, List.size_toArray, List.length_cons, List.length_nil, Nat.reduceAdd, Nat.reduceSub, Array.replicate_succ, Array.replicate_zero, List.push_toArray, List.append_toArray, List.nil_append, List.cons_append]
  gi_wp2_with (refine ⟨trivial, ?_⟩; gi_at_call 58; refine (callsIn_wide.2 (SplitSeq (str s) ⟨#[47]⟩ _)).mono ?_; rintro e w' ⟨rfl, rfl⟩)
  generalize hw0 : w.alloc (.cells #[.slice none 0 0] 34) = w0
  have hs0 : w0.heap.size = w.heap.size + 1 := by rw [← hw0]; simp
  have b0 : Boxed w0 w.heap.size 34 (.slice none 0 0) := by rw [← hw0]; exact Boxed.new w _ _
  have hB0 : Below w.heap.size w w0 := by rw [← hw0]; exact (Below.refl _ w).alloc (Nat.le_refl _) _
  have s0 := Boxed.new w0 9 (.string (str s))
  have s1 := Boxed.new (w0.alloc (.cells #[.string (str s)] 9)) 9 (.string ⟨#[47]⟩)
  have s2 := Boxed.new ((w0.alloc (.cells #[.string (str s)] 9)).alloc (.cells #[.string ⟨#[47]⟩] 9)) 3 (.int .i64 0)
  have B0 := ((hB0.alloc (by omega) (.cells #[.string (str s)] 9)).alloc (by simp; omega) (.cells #[.string ⟨#[47]⟩] 9)).alloc (by simp; omega) (.cells #[.int .i64 0] 3)
  rw [World.size_alloc] at s1
  rw [World.size_alloc, World.size_alloc] at s2
  generalize hw1 : ((w0.alloc (.cells #[.string (str s)] 9)).alloc (.cells #[.string ⟨#[47]⟩] 9)).alloc (.cells #[.int .i64 0] 3) = w1 at *
  have hs1 : w1.heap.size = w.heap.size + 4 := by rw [← hw1]; simp; omega
  have t0 : Boxed w1 (w.heap.size + 1) 9 (.string (str s)) := by rw [← hw1, ← hs0]; exact (s0.alloc _).alloc _
  have t1 : Boxed w1 (w.heap.size + 2) 9 (.string ⟨#[47]⟩) := by rw [← hw1, show w.heap.size + 2 = w0.heap.size + 1 from by omega]; exact s1.alloc _
  have t2 : Boxed w1 (w.heap.size + 3) 3 (.int .i64 0) := by rw [show w.heap.size + 3 = w0.heap.size + 1 + 1 from by omega]; exact s2
  have tb : Boxed w1 w.heap.size 34 (.slice none 0 0) := by rw [← hw1]; exact ((b0.alloc _).alloc _).alloc _
  refine wpIn_rangeFunc_gives (gf := 85) (lb := #[.pointer (some ⟨w.heap.size + 2, 0, none⟩), .pointer (some ⟨w.heap.size + 1, 0, none⟩), .pointer (some ⟨w.heap.size + 3, 0, none⟩)]) ?hg (enters_of Tryd.func85 (by kernel_rfl) rfl)
    (iter_gives (w.heap.size + 1) (w.heap.size + 2) (w.heap.size + 3) s (s.length + 2) w1 t0 t1 t2 (by omega) (by omega) (by omega)) rfl (by rintro b (rfl | rfl | rfl) <;> omega)
    (fun pre W => (∃ v, Boxed W w.heap.size 34 v ∧ W.ownsRow (w.heap.size + 4) 9 1 v (flt pre).length ((flt pre).map fun p => Value.string (str p))) ∧ Below w.heap.size w W ∧ w.heap.size + 4 ≤ W.heap.size)
    ?hI ?hIb ⟨⟨_, tb, World.ownsRow_nil _ _ _ _⟩, B0, by omega⟩
    (fun x => { tmps := #[.string (str s), undef, .slice none 0 0, .pointer (some ⟨w.heap.size, 0, none⟩), .string (str x), .string (str s), .func (.func 85) #[] #[.pointer (some ⟨w.heap.size + 2, 0, none⟩), .pointer (some ⟨w.heap.size + 1, 0, none⟩), .pointer (some ⟨w.heap.size + 3, 0, none⟩)], .string (str x), undef, undef, undef, undef, undef, undef, undef, undef, undef, undef, undef], defers := [] }) ?assign ?body ?done
  case hI =>
    exact OwnFrom.and (Own.from (holdsRow_own' w.heap.size (w.heap.size + 4)) _) (OwnFrom.and (ownFrom_below (by omega) (by omega)) (fun _ _ _ _ hs hg _ => Nat.le_trans hs hg.size))
  case hIb =>
    rintro pre W v b hb ⟨⟨u, hu, hr⟩, hB, hsz⟩
    have hne : b ≠ w.heap.size ∧ b < w.heap.size + 4 ∧ w.heap.size ≤ b := by rcases hb with rfl | rfl | rfl <;> omega
    refine ⟨⟨u, hu.kept (grownBy_setCell' W b v) (fun e => hne.1 (by cases e; rfl)), hr.kept (grownBy_setCell' W b v) ?_⟩, hB.setCell (p := ⟨b, 0, none⟩) hne.2.2 v, by simpa [World.setCell] using hsz⟩
    rcases hr.2 with ⟨rfl, _⟩ | ⟨g, cap, cur, rfl, hg, _, _⟩
    · exact .inl rfl
    · refine .inr fun e => ?_
      obtain rfl : g = b := by simpa [Value.ownBlock] using e
      omega
  case hg =>
    rfl
  case assign =>
    intro l x W K hK
    gi_wp2
    exact hK
  case body =>
    rintro l pre x W ⟨⟨v, hv, hr⟩, hB, hsz⟩ hx hp
    have hc := hv.cell
    have hpl : (flt pre).length ≤ pre.length := flt_len pre
    gi_wp2_with (gi_at_builtin; refine wpListIn_append_own _ rfl _ _ 34 rfl (w.heap.size + 4) 9 i0 (.string ⟨#[]⟩) 1 16 Tryd.underlying34 hi hz0 hz1 hz2 rfl (by decide) _ _ _ rfl (hr.alloc _) ⟨W.heap.size, 0, none⟩ 1 1 [.string (str x)] rfl rfl (cell_one_new _ _ _) (by simp [Value.oneCell']) (by simp only [maxLen]; omega) (by omega) (by simp; omega) ?_; intro v' w1 hown' hgrow _; obtain ⟨g', cap', rfl⟩ := ownsRow_succ hown'; obtain ⟨hv1, hv2, hr2, hk2, hb2, hx2⟩ := appended2 hv (by decide) hr (by omega) hsz (Nat.le_refl _) (by omega) hown' hgrow; have hc1 := hv1.cell; have hf1 := hv1.frozen)
    · rename_i h
      have hg : good x = false := by rw [str_toList'] at h; subst h; rfl
      have e : flt (pre ++ [x]) = flt pre := by rw [flt_snoc, hg]; rfl
      refine ⟨KeepsOthers.refl _, ?_⟩
      rw [e]
      exact ⟨v, hv, hr⟩
    · rename_i h1 h2 _
      have hg : good x = true := by
        rw [str_toList'] at h1 h2
        unfold good
        simp only [Bool.and_eq_true, bne_iff_ne, ne_eq]
        refine ⟨h1, ?_⟩
        have := h2.2
        simpa using this
      have e : flt (pre ++ [x]) = flt pre ++ [x] := by rw [flt_snoc, hg]; rfl
      rw [e]
      refine ⟨⟨_, hv2, by simpa using hr2⟩, hB.trans hb2, ?_⟩
      have := hk2.size
      simp [World.setCell] at this
      omega
    · rename_i h1 h2
      have hg : good x = false := by
        rw [str_toList'] at h1 h2
        rcases h2 with h2 | h2
        · simp at h2; exact absurd h2 h1
        · have : x = [46] := by simpa using h2
          subst this
          rfl
      have e : flt (pre ++ [x]) = flt pre := by rw [flt_snoc, hg]; rfl
      refine ⟨KeepsOthers.refl _, ?_⟩
      rw [e]
      exact ⟨v, hv, hr⟩
  case done =>
    rintro D W hD ⟨⟨v, hv, hr⟩, hB, hsz⟩ hK
    have hc := hv.cell
    gi_wp2
    refine ⟨by simp, .inl ⟨_, _, rfl, run_takeDeferred hK, ?_⟩⟩
    exact ⟨_, results_tmp rfl _ _ _, v, rfl, ownsRow_low (ownsRow_putObj hr _ hK rfl) (by omega), hB.trans (belowK_b (w := w) (Nat.le_refl _) W D _ _ (by omega) hK rfl rfl)⟩
end Go.Proofs.YtelniipccmeooaaDoor.S24
