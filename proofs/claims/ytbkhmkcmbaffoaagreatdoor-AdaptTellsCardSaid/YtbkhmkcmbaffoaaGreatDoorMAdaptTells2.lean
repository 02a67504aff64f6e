/- Several texts of this proof in one file: S24, R24, U24, T24, V24, B24, B40c, R34, Q04b, U11d, U11e, Q11, V11, S05n, Z05d, Z05e, B05n, U34, U34b, U34c, U34d, RT, V00, U17m, U08c, U08d, V34, Q34, V34b, V34c, X34. -/
import Derived.RangeFuncBox
import Derived.RangeFuncLeaves
import Derived.Shelf.Abstract
import Derived.WalkKit
import Derived.OwnWalkIn
import Derived.TacticsInMore
import Derived.LoopNIn
import Derived.LoopIn
import Derived.Maps.AppendAt
import Derived.Test.YtbkhmkcmbaffoaaGreatDoorMAdaptTells0
import Derived.Test.YtbkhmkcmbaffoaaGreatDoorMEAdaptTells2
import Derived.Test.YtbkhmkcmbaffoaaGreatDoorMAdaptTells1
import Derived.Lib.ItoaMem
import Derived.BigCall
import Derived.WalkSmall
import Derived.Lib.OthersKept
import Derived.Lib.FrozenHead2
import Derived.Shelf.Strings.BuilderK
import Derived.Shelf.Strings.BuilderRune
/- path.Parts, walked: what it answers is a new row of the texts between slashes that are neither empty nor a point. The iterator (strings.SplitSeq's) keeps its place in a box of its own: the law for a range over such a function stands here too. After the library's worked callers of range-over-func. -/
set_option linter.unusedVariables false
set_option linter.unusedSectionVars false
set_option linter.unusedSimpArgs false
namespace Go.Proofs.YtbkhmkcmbaffoaaGreatDoor.S24
open Go Go.RowKit Go.Shelf Go.Proofs Go.Proofs.YtbkhmkcmbaffoaaGreatDoor.P24 Go.Proofs.YtbkhmkcmbaffoaaGreatDoor.Eng
attribute [local go_sem] Oper.semAt_some

theorem index_cut : ∀ l, Lib.indexByte l 47 = match cutAt l with | none => -1 | some (a, b) => (a.length : Int)
  | [] => rfl
  | c :: l => by
    rw [cutAt_cons]
    unfold Lib.indexByte
    by_cases h : c = 47
    · subst h; simp
    · rw [if_neg h, if_neg (by simpa using h), index_cut l]
      cases hc : cutAt l with
      | none => simp
      | some p =>
        simp only [Option.map_some, List.length_cons]
        rw [if_neg (by simp)]
        rfl
theorem str_cut0 (x y : List UInt8) : (str (x ++ 47 :: y)).extract 0 x.length = str x := by
  rw [str_ext, List.drop_zero, List.take_left' rfl]
theorem str_cut1 (x y : List UInt8) : (str (x ++ 47 :: y)).extract (x.length + 1) (x.length + y.length + 1) = str y := by
  rw [str_ext, List.take_of_length_le (by simp; omega), show x ++ 47 :: y = (x ++ [47]) ++ y from by simp, List.drop_left' (by simp)]
theorem str_toList (l : List UInt8) : (str l).data.toList = l := rfl

/-- What an iterator with boxes of its own gives to a body that never leaves. -/
def Gives (P : Program) (n : Nat) (g : Nat) (lb : Array Value) (bx : Nat → Prop) (Nn : Nat) (out : List (List UInt8)) (w : World) : Prop :=
  ∀ (l : Nat) (J : List (List UInt8) → World → Prop) (W : World), (∀ b, bx b → W.heap[b]? = w.heap[b]?) →
    (∀ pre W v b, bx b → J pre W → J pre (W.setCell ⟨b, 0, none⟩ v)) →
    (∀ pre x W1, J pre W1 → x.length < Nn → pre.length < Nn → YieldAt Fence.wide (n - 1) P l #[.string (str x)] W1 fun e W' => e = .returned (.bool true) ∧ J (pre ++ [x]) W' ∧ ∀ b, bx b → W'.heap[b]? = W1.heap[b]?) →
    J [] W → CallsIn Fence.wide n P g (#[.func (.yield l) #[] #[]] ++ lb) W fun e W' => (∃ v, e = .returned v) ∧ J out W'
theorem wpIn_rangeFunc_gives {P : Program} {n : Nat} {g : Operand} {ps : Array Tmp} {assign body : Code} {Q : Exit → Act → World → Prop} {a : Act} {w : World}
    {gf : Nat} {lb : Array Value} (hg : a.eval g = .func (.func gf) #[] lb) (eg : ∀ args w, (callFunc gf args).run P w = .ok (.enter gf args) w)
    {bx : Nat → Prop} {Nn : Nat} {out : List (List UInt8)} (hseq : Gives P (n - 1) gf lb bx Nn out w) (hps : ps.size = 1) (hbx : ∀ b, bx b → b < w.heap.size)
    (I : List (List UInt8) → World → Prop) (hI : OwnFrom w.heap.size I) (hIb : ∀ pre W v b, bx b → I pre W → I pre (W.setCell ⟨b, 0, none⟩ v)) (h0 : I [] w) (a₁ : List UInt8 → Act)
    (hassign : ∀ (l : Nat) (x : List UInt8) (W : World) (K : Act → World → Prop), K (a₁ x) W →
      assign.wpIn (Fence.wide.inRound l) (n - 1 - 1) P (Exit.then K (fun _ _ _ => False)) { tmps := (ps.zip #[Value.string (str x)]).foldl (fun t (p, v) => t.setIfInBounds p v) a.tmps, defers := [] } W)
    (hbody : ∀ (l : Nat) (pre : List (List UInt8)) (x : List UInt8) (W : World), I pre W → x.length < Nn → pre.length < Nn → body.wpIn (Fence.wide.inRound l) (n - 1 - 1) P (fun e _ W3 => e = .normal ∧ KeepsOthers W W3 ∧ (∀ b, bx b → W3.heap[b]? = W.heap[b]?) ∧ I (pre ++ [x]) W3) (a₁ x) W)
    (hdone : ∀ (D : Nat) (W : World), w.heap.size ≤ D → I out W → W.heap[D]? = some (.deferred (some [])) → Q .normal { a with defers := { target := .collected D, args := #[] } :: a.defers } W) :
    (Code.rangeFunc g ps assign body).wpIn Fence.wide n P Q a w := by
  refine wpIn_rangeFunc ?_
  intro fn hfn
  rw [show Fence.wide.round = none from rfl]
  obtain ⟨rec, hrec⟩ : ∃ rec : LoopState → Option Code → Loop, rec = fun st pe => { state := st, pending := pe, fn, tmps := a.tmps, params := ps, assign, body, defers := w.heap.size } := ⟨_, rfl⟩
  obtain ⟨W1, hW1⟩ : ∃ W1, (w.alloc (.deferred (some []))).alloc (.loop (rec .ready none)) = W1 := ⟨_, rfl⟩
  have hL1 : W1.heap[w.heap.size + 1]? = some (.loop (rec .ready none)) := by
    rw [← hW1]; have := World.alloc_heap_new (w.alloc (.deferred (some []))) (.loop (rec .ready none)); rwa [World.size_alloc] at this
  have hK1 : W1.heap[w.heap.size]? = some (.deferred (some [])) := by
    rw [← hW1]; exact (Below.heap_alloc _ _ _ (by simp)).trans (World.alloc_heap_new w _)
  have hI1 : I [] W1 := by rw [← hW1]; exact hI.alloc _ (hI.alloc _ h0)
  have hB1 : ∀ b, bx b → W1.heap[b]? = w.heap[b]? := fun b hb => by
    have := hbx b hb
    rw [← hW1]
    exact (Below.heap_alloc _ _ _ (by simp; omega)).trans (Below.heap_alloc _ _ _ this)
  refine ⟨w.heap.size + 1, [{ target := .collected w.heap.size, args := #[] }], W1, { target := .fn (.func gf) lb, args := #[.func (.yield (w.heap.size + 1)) #[] #[]] }, W1, gf,
    #[.func (.yield (w.heap.size + 1)) #[] #[]] ++ lb, W1, ?_, ?_, ?_, ?_, fun h => (by cases h), ?_⟩
  · rw [← hW1, hrec]; exact run_enterLoop_outer _ _ _ _ _
  · simp only [resolve, hg]
    simp [go_sem]
  · intro f' hf'; trivial
  · simp [invoke, go_sem, eg]
  · refine (hseq (w.heap.size + 1)
      (fun pre W => I pre W ∧ W.heap[w.heap.size + 1]? = some (.loop (rec .ready none)) ∧ W.heap[w.heap.size]? = some (.deferred (some [])))
      W1 hB1 (fun pre W v b hb hs => by
        have := hbx b hb
        exact ⟨hIb pre W v b hb hs.1, (Below.heap_setCell _ _ _ _ (by simp; omega)).trans hs.2.1, (Below.heap_setCell _ _ _ _ (by simp; omega)).trans hs.2.2⟩) ?_ ⟨hI1, hL1, hK1⟩).mono ?_
    · rintro pre x W ⟨hi, hl, hk⟩ hx hp
      have hlt : w.heap.size + 1 < W.heap.size := (Array.getElem?_eq_some_iff.1 hl).1
      have hy := run_yield (P := P) (args := #[.string (str x)]) hl (by rw [hrec]; exact hps.symm)
      rw [hrec] at hy
      refine ⟨fn, _, assign, body, hy, roundIn_of_wpIn hfn (hassign _ x W _ ⟨_, run_beginRound hl (by rw [hrec]), ?_⟩)⟩
      have hl2 : (W.putObj (w.heap.size + 1) (.loop { rec .ready none with state := .busy })).heap[w.heap.size + 1]? = some (.loop { rec .ready none with state := .busy }) := World.putObj_heap_same hlt
      have hk2 : (W.putObj (w.heap.size + 1) (.loop { rec .ready none with state := .busy })).heap[w.heap.size]? = some (.deferred (some [])) := (World.putObj_heap_other (by omega)).trans hk
      refine wpIn_mono (hbody _ pre x _ (hI.putObj _ hi (by omega) hl rfl) hx hp) ?_
      rintro e a3 W3 ⟨rfl, hk3, hb3, hi3⟩
      have hl3 := hk3.same _ _ hl2 rfl
      have hr := run_endRound (P := P) none hl3
      rw [hrec] at hr hl3
      refine ⟨_, _, hr, rfl, ⟨hI.putObj _ hi3 (by omega) hl3 rfl, ?_, (World.putObj_heap_other (by omega)).trans (hk3.same _ _ hk2 rfl)⟩, fun b hb => ?_⟩
      · rw [hrec]; exact World.putObj_heap_same (Array.getElem?_eq_some_iff.1 hl3).1
      · have := hbx b hb
        exact (World.putObj_heap_other (by omega)).trans ((hb3 b hb).trans (World.putObj_heap_other (by omega)))
    · rintro e W2 ⟨⟨v, rfl⟩, hi, hl, hk⟩
      exact ⟨none, _, by have := run_endLoop (P := P) hl (by rw [hrec]; simp); rw [hrec] at this; exact this, hdone _ _ (Nat.le_refl _) (hI.putObj _ hi (by omega) hl rfl) ((World.putObj_heap_other (by omega)).trans hk)⟩

/-- The text that a box holds. -/
def boxLen (b : Nat) (W : World) : Nat := match W.cell? ⟨b, 0, none⟩ with | some (.string s) => s.size | _ => 0

set_option maxHeartbeats 1000000 in
theorem split_seq (s sep : ByteArray) (w : World) : Calls Tryz.prog 258 #[.string s, .string sep, .int .i64 0] w fun e w' =>
    e = .returned (.func (.func 259) #[] #[.pointer (some ⟨w.heap.size + 1, 0, none⟩), .pointer (some ⟨w.heap.size, 0, none⟩), .pointer (some ⟨w.heap.size + 2, 0, none⟩)]) ∧
    w' = ((w.alloc (.cells #[.string s] 9)).alloc (.cells #[.string sep] 9)).alloc (.cells #[.int .i64 0] 3) := by
  go_enter Tryz.func258, Tryz.ntmps258
  go_wp2
  go_ret
  exact ⟨rfl, rfl⟩
set_option maxHeartbeats 1000000 in
theorem SplitSeq (s sep : ByteArray) (w : World) : Calls Tryz.prog 257 #[.string s, .string sep] w fun e w' =>
    e = .returned (.func (.func 259) #[] #[.pointer (some ⟨w.heap.size + 1, 0, none⟩), .pointer (some ⟨w.heap.size, 0, none⟩), .pointer (some ⟨w.heap.size + 2, 0, none⟩)]) ∧
    w' = ((w.alloc (.cells #[.string s] 9)).alloc (.cells #[.string sep] 9)).alloc (.cells #[.int .i64 0] 3) := by
  go_enter Tryz.func257, Tryz.ntmps257
  go_wp2_with (go_at_call 258; refine (split_seq _ _ _).mono ?_)
  rintro e w' ⟨rfl, rfl⟩
  go_wp2
  go_ret
  exact ⟨rfl, rfl⟩

/-- The iterator: every piece of the text, one after the other. -/
theorem iter_gives (b0 b1 b2 : Nat) (s : List UInt8) (Nn : Nat) (w : World) (h0 : Boxed w b0 9 (.string (str s))) (h1 : Boxed w b1 9 (.string ⟨#[47]⟩)) (h2 : Boxed w b2 3 (.int .i64 0)) (hn : b0 ≠ b1 ∧ b0 ≠ b2 ∧ b1 ≠ b2) (hN : s.length + 1 < Nn) (hN2 : s.length < 1000000) :
    Gives Tryz.prog 2 259 #[.pointer (some ⟨b1, 0, none⟩), .pointer (some ⟨b0, 0, none⟩), .pointer (some ⟨b2, 0, none⟩)] (fun b => b = b0 ∨ b = b1 ∨ b = b2) Nn (pieces s) w := by
  intro l J W hW hJ hY hJ0
  have h0 : Boxed W b0 9 (.string (str s)) := (hW b0 (.inl rfl)).trans h0
  have h1 : Boxed W b1 9 (.string ⟨#[47]⟩) := (hW b1 (.inr (.inl rfl))).trans h1
  have h2 : Boxed W b2 3 (.int .i64 0) := (hW b2 (.inr (.inr rfl))).trans h2
  have c0 := h0.cell
  have c1 := h1.cell
  have c2 := h2.cell
  refine callsIn_of_wp Tryz.func259 rfl trivial ?_ rfl
  simp only [Tryz.ntmps259, List.size_toArray, List.length_cons, List.length_nil, Nat.reduceAdd, Nat.reduceSub, Array.replicate_succ, Array.replicate_zero, List.push_toArray, List.append_toArray, List.nil_append, List.cons_append]
  gi_wp2
  gi_loopw [] (fun wr => ∃ (pre : List (List UInt8)) (rest : List UInt8), J pre wr ∧ pre ++ pieces rest = pieces s ∧ rest.length + pre.length ≤ s.length ∧ Boxed wr b0 9 (.string (str rest)) ∧ Boxed wr b1 9 (.string ⟨#[47]⟩) ∧ Boxed wr b2 3 (.int .i64 0)) (fun wr => boxLen b0 wr)
  case atStart => exact ⟨[], s, hJ0, rfl, by simp, h0, h1, h2⟩
  case round =>
    obtain ⟨pre, rest, hj, hps, hlen, k0, k1, k2⟩ := hrel
    have d0 := k0.cell
    have d1 := k1.cell
    have d2 := k2.cell
    have hix := index_cut rest
    gi_wp2_with (refine ⟨trivial, ?_⟩; gi_at_call 260; refine (callsIn_wide.2 (Tryz.strings_Index_one (str rest) 47 _)).mono ?_)
    rintro e w' ⟨rfl, rfl⟩
    rw [str_toList] at *
    cases hc : cutAt rest with
    | none =>
      rw [hc] at hix
      simp only at hix
      rw [hix]
      have hpc : pieces rest = [rest] := by rw [pieces_cut, hc]
      obtain ⟨fn, tmps, assign, body, hy, hR⟩ := hY pre rest _ hj (by omega) (by omega)
      gi_wp2
      refine hR.mono ?_
      rintro e W3 ⟨rfl, hJ3, hk3⟩
      gi_wp2
      go_end0
      refine ⟨⟨_, rfl⟩, ?_⟩
      rw [← hps, hpc]
      exact hJ3
    | some ab =>
      obtain ⟨x, y⟩ := ab
      rw [hc] at hix
      simp only at hix
      rw [hix]
      have hr := cutAt_eq hc
      have hpc : pieces rest = x :: pieces y := by rw [pieces_cut, hc]
      have hrl : rest.length = x.length + y.length + 1 := by rw [hr]; simp; omega
      have hsz : (str rest).size = x.length + y.length + 1 := hrl
      have e0 : (str rest).extract 0 x.length = str x := by rw [hr]; exact str_cut0 x y
      have e1 : (str rest).extract (x.length + 1) (x.length + y.length + 1) = str y := by rw [hr]; exact str_cut1 x y
      clear hr hc hix
      obtain ⟨fn, tmps, assign, body, hy, hR⟩ := hY pre x _ hj (by omega) (by omega)
      gi_wp2
      refine hR.mono ?_
      rintro e W3 ⟨rfl, hJ3, hk3⟩
      have q0 : Boxed W3 b0 9 (.string (str rest)) := (hk3 b0 (.inl rfl)).trans k0
      have q1 : Boxed W3 b1 9 (.string ⟨#[47]⟩) := (hk3 b1 (.inr (.inl rfl))).trans k1
      have q2 : Boxed W3 b2 3 (.int .i64 0) := (hk3 b2 (.inr (.inr rfl))).trans k2
      have g0 := q0.cell
      have g1 := q1.cell
      have f0 := q0.frozen
      gi_wp2
      go_roundw
      case rel =>
        refine ⟨pre ++ [x], y, hJ _ _ _ _ (.inl rfl) hJ3, by rw [← hps, hpc]; simp, by simp; omega, ?_, ?_, ?_⟩
        · rw [← e1]; exact q0.set _
        · exact (Below.heap_setCell _ _ _ _ (fun e => hn.1 e.symm)).trans q1
        · exact (Below.heap_setCell _ _ _ _ (fun e => hn.2.1 e.symm)).trans q2
      case measure =>
        have m1 : boxLen b0 (W3.setCell ⟨b0, 0, none⟩ (.string (str y))) = y.length := by
          unfold boxLen
          rw [(q0.set (.string (str y))).cell]
          rfl
        have m0 : ∀ W', W'.cell? ⟨b0, 0, none⟩ = some (.string (str rest)) → boxLen b0 W' = x.length + y.length + 1 := fun W' h => by unfold boxLen; rw [h]; exact hsz
        rw [m1, m0 _ d0]
        omega

theorem info9 : (Tryz.prog.info? 9).map (fun i => (i.zero, i.size, i.bytes)) = some (some (.string ⟨#[]⟩), 1, 16) := by kernel_rfl
theorem ownsRow_low {w : World} {b b' : Nat} {e : TypeId} {size : Nat} {v : Value} {n : Nat} {xs : List Value} (h : w.ownsRow b e size v n xs) (hb : b' ≤ b) : w.ownsRow b' e size v n xs := by
  refine ⟨h.1, ?_⟩
  rcases h.2 with h | ⟨g, cap, cur, hv, hg, r⟩
  · exact .inl h
  · exact .inr ⟨g, cap, cur, hv, by omega, r⟩
/-- 'out = append(out, ..)' with a row that lies beyond n₁, a box beyond n₀. -/
theorem appended2 {W w1 : World} {n₀ n₁ B : Nat} {t e : TypeId} {size : Nat} {v v' : Value} {k m : Nat} {xs ys : List Value} {tmp : Obj}
    (hv : Boxed W B t v) (hte : t ≠ e) (hrow : W.ownsRow n₁ e size v k xs) (h01 : n₀ ≤ n₁) (hn₁ : n₁ ≤ W.heap.size) (hB : n₀ ≤ B) (hB1 : B < n₁)
    (hown' : w1.ownsRow n₁ e size v' m ys) (hgrow : (W.alloc tmp).grownBy w1 v.ownBlock) :
    Boxed w1 B t v ∧ Boxed (w1.setCell ⟨B, 0, none⟩ v') B t v' ∧ (w1.setCell ⟨B, 0, none⟩ v').ownsRow n₁ e size v' m ys ∧ KeepsOthers W (w1.setCell ⟨B, 0, none⟩ v') ∧ Below n₀ W (w1.setCell ⟨B, 0, none⟩ v') ∧ ∀ b, b < n₁ → b ≠ B → (w1.setCell ⟨B, 0, none⟩ v').heap[b]? = W.heap[b]? := by
  have hv1 : Boxed w1 B t v := (hv.alloc tmp).kept hgrow (hv.not_row hte hrow)
  have hbk : ∀ j, v.ownBlock = some j → n₁ ≤ j := fun j ej => by
    rcases hrow.2 with ⟨rfl, _⟩ | ⟨g, cap, cur, rfl, hb, _, _⟩
    · simp [Value.ownBlock] at ej
    · obtain rfl : g = j := by simpa [Value.ownBlock] using ej
      exact hb
  refine ⟨hv1, hv1.set v', hown'.kept (grownBy_setCell' w1 B v') (.inr (hv1.not_row hte hown').symm), ?_, ?_, fun b hb hbB => ?_⟩
  · refine ((KeepsOthers.alloc W tmp).trans (KeepsOthers.of_grownBy hgrow fun j o ej hj => ?_)).trans (KeepsOthers.setCell _ _ _)
    rcases (hrow.alloc tmp).2 with ⟨rfl, _⟩ | ⟨g, cap, cur, rfl, _, hgb, _⟩
    · simp [Value.ownBlock] at ej
    · obtain rfl : g = j := by simpa [Value.ownBlock] using ej
      rw [hgb] at hj; cases hj; rfl
  · exact (((Below.refl n₀ W).alloc (by omega) tmp).grown hgrow (by simp; omega) fun j ej => by have := hbk j ej; omega).setCell (p := ⟨B, 0, none⟩) hB v'
  · refine (Below.heap_setCell _ _ _ _ hbB).trans ((hgrow.block b (by simp; omega) fun e => ?_).trans (Below.heap_alloc _ _ _ (by omega)))
    have := hbk b e.symm
    omega
theorem str_toList' (x : List UInt8) : (str x).toList = x := by rw [ByteArray.toList_eq]; rfl
theorem holdsRow_own' (B n₁ : Nat) : Own (fun (pre : List (List UInt8)) W => ∃ v, Boxed W B 88 v ∧ W.ownsRow n₁ 9 1 v (flt pre).length ((flt pre).map fun p => Value.string (str p))) := by
  intro pre X Y row ⟨v, hv, hr⟩ hg hrow
  obtain ⟨v', h1, h2, _⟩ := holdsRow_own (β := List (List UInt8)) n₁ B 88 9 1 (fun pre => (flt pre).length) (fun pre => (flt pre).map fun p => Value.string (str p)) (fun _ _ => True) pre X Y row ⟨v, hv, hr, trivial⟩ hg hrow
  exact ⟨v', h1, h2⟩
set_option maxHeartbeats 2000000 in
set_option maxRecDepth 100000 in
theorem Parts_walk (s : List UInt8) (w : World) (hN2 : s.length < 1000000) : Calls Tryz.prog 245 #[.string (str s)] w fun e W' =>
    ∃ v, e = .returned v ∧ W'.ownsRow w.heap.size 9 1 v (partsL s).length ((partsL s).map fun p => Value.string (str p)) ∧ Below w.heap.size w W' := by
  obtain ⟨i0, hi, hz0, hz1, hz2⟩ := info_parts info9
  refine (callsIn_wide (n := 3)).1 ?_
  refine callsIn_of_wp_marks Tryz.func245 rfl trivial ?_ rfl
  simp only [Tryz.ntmps245, List.size_toArray, List.length_cons, List.length_nil, Nat.reduceAdd, Nat.reduceSub, Array.replicate_succ, Array.replicate_zero, List.push_toArray, List.append_toArray, List.nil_append, List.cons_append]
  gi_wp2_with (refine ⟨trivial, ?_⟩; gi_at_call 257; refine (callsIn_wide.2 (SplitSeq (str s) ⟨#[47]⟩ _)).mono ?_; rintro e w' ⟨rfl, rfl⟩)
  generalize hw0 : w.alloc (.cells #[.slice none 0 0] 88) = w0
  have hs0 : w0.heap.size = w.heap.size + 1 := by rw [← hw0]; simp
  have b0 : Boxed w0 w.heap.size 88 (.slice none 0 0) := by rw [← hw0]; exact Boxed.new w _ _
  have hB0 : Below w.heap.size w w0 := by rw [← hw0]; exact (Below.refl _ w).alloc (Nat.le_refl _) _
  have s0 := Boxed.new w0 9 (.string (str s))
  have s1 := Boxed.new (w0.alloc (.cells #[.string (str s)] 9)) 9 (.string ⟨#[47]⟩)
  have s2 := Boxed.new ((w0.alloc (.cells #[.string (str s)] 9)).alloc (.cells #[.string ⟨#[47]⟩] 9)) 3 (.int .i64 0)
  have B0 := ((hB0.alloc (by omega) (.cells #[.string (str s)] 9)).alloc (by simp; omega) (.cells #[.string ⟨#[47]⟩] 9)).alloc (by simp; omega) (.cells #[.int .i64 0] 3)
  rw [World.size_alloc] at s1
  rw [World.size_alloc, World.size_alloc] at s2
  generalize hw1 : ((w0.alloc (.cells #[.string (str s)] 9)).alloc (.cells #[.string ⟨#[47]⟩] 9)).alloc (.cells #[.int .i64 0] 3) = w1 at *
  have hs1 : w1.heap.size = w.heap.size + 4 := by rw [← hw1]; simp; omega
  have t0 : Boxed w1 (w.heap.size + 1) 9 (.string (str s)) := by rw [← hw1, ← hs0]; exact (s0.alloc _).alloc _
  have t1 : Boxed w1 (w.heap.size + 2) 9 (.string ⟨#[47]⟩) := by rw [← hw1, show w.heap.size + 2 = w0.heap.size + 1 from by omega]; exact s1.alloc _
  have t2 : Boxed w1 (w.heap.size + 3) 3 (.int .i64 0) := by rw [show w.heap.size + 3 = w0.heap.size + 1 + 1 from by omega]; exact s2
  have tb : Boxed w1 w.heap.size 88 (.slice none 0 0) := by rw [← hw1]; exact ((b0.alloc _).alloc _).alloc _
  refine wpIn_rangeFunc_gives (gf := 259) (lb := #[.pointer (some ⟨w.heap.size + 2, 0, none⟩), .pointer (some ⟨w.heap.size + 1, 0, none⟩), .pointer (some ⟨w.heap.size + 3, 0, none⟩)]) ?hg (enters_of Tryz.func259 (by kernel_rfl) rfl)
    (iter_gives (w.heap.size + 1) (w.heap.size + 2) (w.heap.size + 3) s (s.length + 2) w1 t0 t1 t2 (by omega) (by omega) (by omega)) rfl (by rintro b (rfl | rfl | rfl) <;> omega)
    (fun pre W => (∃ v, Boxed W w.heap.size 88 v ∧ W.ownsRow (w.heap.size + 4) 9 1 v (flt pre).length ((flt pre).map fun p => Value.string (str p))) ∧ Below w.heap.size w W ∧ w.heap.size + 4 ≤ W.heap.size)
    ?hI ?hIb ⟨⟨_, tb, World.ownsRow_nil _ _ _ _⟩, B0, by omega⟩
    (fun x => { tmps := #[.string (str s), undef, .slice none 0 0, .pointer (some ⟨w.heap.size, 0, none⟩), .string (str x), .string (str s), .func (.func 259) #[] #[.pointer (some ⟨w.heap.size + 2, 0, none⟩), .pointer (some ⟨w.heap.size + 1, 0, none⟩), .pointer (some ⟨w.heap.size + 3, 0, none⟩)], .string (str x), undef, undef, undef, undef, undef, undef, undef, undef, undef, undef, undef], defers := [] }) ?assign ?body ?done
  case hI =>
    exact OwnFrom.and (Own.from (holdsRow_own' w.heap.size (w.heap.size + 4)) _) (OwnFrom.and (ownFrom_below (by omega) (by omega)) (fun _ _ _ _ hs hg _ => Nat.le_trans hs hg.size))
  case hIb =>
    rintro pre W v b hb ⟨⟨u, hu, hr⟩, hB, hsz⟩
    have hne : b ≠ w.heap.size ∧ b < w.heap.size + 4 ∧ w.heap.size ≤ b := by rcases hb with rfl | rfl | rfl <;> omega
    refine ⟨⟨u, hu.kept (grownBy_setCell' W b v) (fun e => hne.1 (by cases e; rfl)), hr.kept (grownBy_setCell' W b v) ?_⟩, hB.setCell (p := ⟨b, 0, none⟩) hne.2.2 v, by simpa [World.setCell] using hsz⟩
    rcases hr.2 with ⟨rfl, _⟩ | ⟨g, cap, cur, rfl, hg, _, _⟩
    · exact .inl rfl
    · refine .inr fun e => ?_
      obtain rfl : g = b := by simpa [Value.ownBlock] using e
      omega
  case hg =>
    rfl
  case assign =>
    intro l x W K hK
    gi_wp2
    exact hK
  case body =>
    rintro l pre x W ⟨⟨v, hv, hr⟩, hB, hsz⟩ hx hp
    have hc := hv.cell
    have hpl : (flt pre).length ≤ pre.length := flt_len pre
    gi_wp2_with (gi_at_builtin; refine wpListIn_append_own _ rfl _ _ 88 rfl (w.heap.size + 4) 9 i0 (.string ⟨#[]⟩) 1 16 Tryz.underlying88 hi hz0 hz1 hz2 rfl (by decide) _ _ _ rfl (hr.alloc _) ⟨W.heap.size, 0, none⟩ 1 1 [.string (str x)] rfl rfl (cell_one_new _ _ _) (by simp [Value.oneCell']) (by simp only [maxLen]; omega) (by omega) (by simp; omega) ?_; intro v' w1 hown' hgrow _; obtain ⟨g', cap', rfl⟩ := ownsRow_succ hown'; obtain ⟨hv1, hv2, hr2, hk2, hb2, hx2⟩ := appended2 hv (by decide) hr (by omega) hsz (Nat.le_refl _) (by omega) hown' hgrow; have hc1 := hv1.cell; have hf1 := hv1.frozen)
    · rename_i h
      have hg : good x = false := by rw [str_toList'] at h; subst h; rfl
      have e : flt (pre ++ [x]) = flt pre := by rw [flt_snoc, hg]; rfl
      refine ⟨KeepsOthers.refl _, ?_⟩
      rw [e]
      exact ⟨v, hv, hr⟩
    · rename_i h1 h2 _
      have hg : good x = true := by
        rw [str_toList'] at h1 h2
        unfold good
        simp only [Bool.and_eq_true, bne_iff_ne, ne_eq]
        refine ⟨h1, ?_⟩
        have := h2.2
        simpa using this
      have e : flt (pre ++ [x]) = flt pre ++ [x] := by rw [flt_snoc, hg]; rfl
      rw [e]
      refine ⟨⟨_, hv2, by simpa using hr2⟩, hB.trans hb2, ?_⟩
      have := hk2.size
      simp [World.setCell] at this
      omega
    · rename_i h1 h2
      have hg : good x = false := by
        rw [str_toList'] at h1 h2
        rcases h2 with h2 | h2
        · simp at h2; exact absurd h2 h1
        · have : x = [46] := by simpa using h2
          subst this
          rfl
      have e : flt (pre ++ [x]) = flt pre := by rw [flt_snoc, hg]; rfl
      refine ⟨KeepsOthers.refl _, ?_⟩
      rw [e]
      exact ⟨v, hv, hr⟩
  case done =>
    rintro D W hD ⟨⟨v, hv, hr⟩, hB, hsz⟩ hK
    have hc := hv.cell
    gi_wp2
    refine ⟨by simp, .inl ⟨_, _, rfl, run_takeDeferred hK, ?_⟩⟩
    exact ⟨_, results_tmp rfl _ _ _, v, rfl, ownsRow_low (ownsRow_putObj hr _ hK rfl) (by omega), hB.trans (belowK_b (w := w) (Nat.le_refl _) W D _ _ (by omega) hK rfl rfl)⟩
end Go.Proofs.YtbkhmkcmbaffoaaGreatDoor.S24


/- What functions answer, as the engine evaluates their code. Printed by gen2.py. -/
set_option linter.unusedVariables false
namespace Go.Proofs.YtbkhmkcmbaffoaaGreatDoor.Eng.U
open Go Go.Proofs Go.Proofs.YtbkhmkcmbaffoaaGreatDoor.Eng
/- strings.Clone -/
theorem strings_Clone_eq {E : Ext} [Core E] (k n : Nat) (a0 : ByteArray) : kp E k (n + 1) strings_Clone [(.str a0)] =
  (callS (kp E k n stringslite_Clone [(.str a0)]) fun vs2 => (some (.str vs2))) := (kp_at (by kernel_rfl)).trans (by kernel_rfl)
/- oakum/oakumref24.Left -/
/- oakum/oakumref24.Clean -/
/- strings.trimRightByte -/
/- strings.trimRightUnicode -/
/- oakum/path.Up -/
theorem path_Up_eq {E : Ext} [Core E] (k n : Nat) (a0 : ByteArray) : kp E k (n + 1) path_Up [(.str a0)] =
  (callL 1 (kp E k n path_stack [(.str a0)]) fun vl2 => (bif (decide ((((List.length vl2) : Nat) : Int) = (0 : Int))) then (callS (kp E k n path_Clean [(.str a0)]) fun vs4 => (callS (kp E k n path_Clean [(.str a0)]) fun vs6 => (some (.tup [(.str vs4), (.str vs6)])))) else (callB (kp E k n path_absolute [(.str a0)]) fun vq8 => (bif ((decide ((0 : Int) ≤ (IntKind.wrap .i64 ((((List.length vl2) : Nat) : Int) - (1 : Int))))) && (decide ((IntKind.wrap .i64 ((((List.length vl2) : Nat) : Int) - (1 : Int))) ≤ (((List.length vl2) : Nat) : Int)))) then (callS (kp E k n path_form [(.bool vq8), (.list 1 (List.drop 0 (List.take (Int.toNat (IntKind.wrap .i64 ((((List.length vl2) : Nat) : Int) - (1 : Int)))) vl2)))]) fun vs10 => (bif ((decide ((0 : Int) ≤ (IntKind.wrap .i64 ((((List.length vl2) : Nat) : Int) - (1 : Int))))) && (decide ((IntKind.wrap .i64 ((((List.length vl2) : Nat) : Int) - (1 : Int))) < (((List.length vl2) : Nat) : Int)))) then ((vl2[(Int.toNat (IntKind.wrap .i64 ((((List.length vl2) : Nat) : Int) - (1 : Int))))]?).bind fun vy11 => (cellS (AV.cells vy11) 0 fun vs12 => (some (.tup [(.str vs10), (.str vs12)])))) else none)) else none)))) := (kp_at (by kernel_rfl)).trans (by kernel_rfl)
/- oakum/oakumref24.Parts -/
/- oakum/oakumref24.Root -/
/- oakum/oakumref24.Form -/
/- strings.ContainsRune -/
/- slices.nextPowerOfTwo -/
/- strings.HasPrefix -/
theorem strings_HasPrefix_eq {E : Ext} [Core E] (k n : Nat) (a0 : ByteArray) (a1 : ByteArray) : kp E k (n + 1) strings_HasPrefix [(.str a0), (.str a1)] =
  (callB (kp E k n stringslite_HasPrefix [(.str a0), (.str a1)]) fun vq2 => (some (.bool vq2))) := (kp_at (by kernel_rfl)).trans (by kernel_rfl)
/- oakum/path.stack -/
noncomputable def path_stack_bd : Code := Tryz.f215.body.getD .skip
noncomputable def path_stack_L0 (kap : FuncId → List AV → Option AV) (k : Nat) (k0 : Nat) (s0 : ByteArray) (s7 : List AV) (s8 : Int) (s9 : Int) (x3 : List AV) : Option AV :=
  loop (fun fr K => code ((bs E0 k).cfg kap path_stack) (sel path_stack_bd [1, 1, 0, 1, 0, 0]) fr K) (canon ((bs E0 k).cfg kap path_stack) (firstReg (sel path_stack_bd [1, 1, 0, 1, 0, 0]))) k0 (mkFr 48 [(0, (.str s0)), (3, (.own 3)), (7, (.list 1 s7)), (8, (.int .i64 s8)), (9, (.int .i64 s9))] [(3, (.row 9 x3 false))]) (plug ((bs E0 k).cfg kap path_stack) (retK ((bs E0 k).cfg kap path_stack) [] Tryz.f215 [] some) [.blk 0, .seqR (sel path_stack_bd [1, 1, 1])])
theorem path_stack_L0_s (kap : FuncId → List AV → Option AV) (k : Nat) (k0 : Nat) (s0 : ByteArray) (s7 : List AV) (s8 : Int) (s9 : Int) (x3 : List AV) : path_stack_L0 kap k (k0 + 1) s0 s7 s8 s9 x3 =
  (bif (decide (s9 < s8)) then (bif ((decide ((0 : Int) ≤ s9)) && (decide (s9 < (((List.length s7) : Nat) : Int)))) then ((s7[(Int.toNat s9)]?).bind fun vy3 => (cellS (AV.cells vy3) 0 fun vs4 => (bif (!(decide (vs4 = (str [46, 46])))) then (bif (decide (((List.length x3) + 1) * 16 ≤ 140737488355328) && decide (((List.length x3) + 1) ≤ 9223372036854775807)) then (path_stack_L0 kap k k0 s0 s7 s8 (IntKind.wrap .i64 (s9 + (1 : Int))) (x3 ++ [(.str vs4)])) else none) else (bif (decide ((((List.length x3) : Nat) : Int) > (0 : Int))) then (bif ((decide ((0 : Int) ≤ (IntKind.wrap .i64 ((((List.length x3) : Nat) : Int) - (1 : Int))))) && (decide ((IntKind.wrap .i64 ((((List.length x3) : Nat) : Int) - (1 : Int))) < (((List.length x3) : Nat) : Int)))) then ((x3[(Int.toNat (IntKind.wrap .i64 ((((List.length x3) : Nat) : Int) - (1 : Int))))]?).bind fun vy5 => (cellS (AV.cells vy5) 0 fun vs6 => (bif (!(decide (vs6 = (str [46, 46])))) then (bif ((decide ((0 : Int) ≤ (IntKind.wrap .i64 ((((List.length x3) : Nat) : Int) - (1 : Int))))) && (decide ((IntKind.wrap .i64 ((((List.length x3) : Nat) : Int) - (1 : Int))) ≤ (((List.length x3) : Nat) : Int)))) then (path_stack_L0 kap k k0 s0 s7 s8 (IntKind.wrap .i64 (s9 + (1 : Int))) (List.take (Int.toNat (IntKind.wrap .i64 ((((List.length x3) : Nat) : Int) - (1 : Int)))) x3)) else none) else (callB (kap path_absolute [(.str s0)]) fun vq8 => (bif (!vq8) then (bif (decide (((List.length x3) + 1) * 16 ≤ 140737488355328) && decide (((List.length x3) + 1) ≤ 9223372036854775807)) then (path_stack_L0 kap k k0 s0 s7 s8 (IntKind.wrap .i64 (s9 + (1 : Int))) (x3 ++ [(.str vs4)])) else none) else (path_stack_L0 kap k k0 s0 s7 s8 (IntKind.wrap .i64 (s9 + (1 : Int))) x3)))))) else none) else (callB (kap path_absolute [(.str s0)]) fun vq10 => (bif (!vq10) then (bif (decide (((List.length x3) + 1) * 16 ≤ 140737488355328) && decide (((List.length x3) + 1) ≤ 9223372036854775807)) then (path_stack_L0 kap k k0 s0 s7 s8 (IntKind.wrap .i64 (s9 + (1 : Int))) (x3 ++ [(.str vs4)])) else none) else (path_stack_L0 kap k k0 s0 s7 s8 (IntKind.wrap .i64 (s9 + (1 : Int))) x3))))))) else none) else (some (.list 1 x3))) := by kernel_rfl
theorem path_stack_eq {E : Ext} [Core E] (k n : Nat) (a0 : ByteArray) : kp E k (n + 1) path_stack [(.str a0)] =
  (callL 1 (kp E k n path_Parts [(.str a0)]) fun vl2 => (path_stack_L0 (kp E k n) k k a0 vl2 (((List.length vl2) : Nat) : Int) (0 : Int) [])) := (kp_at (by kernel_rfl)).trans (by kernel_rfl)
/- oakum/path.Clean -/
theorem path_Clean_eq {E : Ext} [Core E] (k n : Nat) (a0 : ByteArray) : kp E k (n + 1) path_Clean [(.str a0)] =
  (callB (kp E k n path_absolute [(.str a0)]) fun vq2 => (callL 1 (kp E k n path_stack [(.str a0)]) fun vl4 => (callS (kp E k n path_form [(.bool vq2), (.list 1 vl4)]) fun vs6 => (some (.str vs6))))) := (kp_at (by kernel_rfl)).trans (by kernel_rfl)
/- oakum/path.form -/
theorem path_form_eq {E : Ext} [Core E] (k n : Nat) (a0 : Bool) (a1 : List AV) : kp E k (n + 1) path_form [(.bool a0), (.list 1 a1)] =
  (callS (kp E k n strings_Join [(.list 1 a1), (.str (str [47]))]) fun vs2 => (bif a0 then (bif (decide (1 + (ByteArray.size vs2) ≤ 9223372036854775807)) then (some (.str ((str [47]) ++ vs2))) else none) else (bif (decide (vs2 = (str []))) then (some (.str (str [46]))) else (some (.str vs2))))) := (kp_at (by kernel_rfl)).trans (by kernel_rfl)
/- oakum/path.absolute -/
theorem path_absolute_eq {E : Ext} [Core E] (k n : Nat) (a0 : ByteArray) : kp E k (n + 1) path_absolute [(.str a0)] =
  (callB (kp E k n strings_HasPrefix [(.str a0), (.str (str [47]))]) fun vq2 => (some (.bool vq2))) := (kp_at (by kernel_rfl)).trans (by kernel_rfl)
/- strings.splitSeq -/
/- strings.Index -/
end Go.Proofs.YtbkhmkcmbaffoaaGreatDoor.Eng.U


/- The functions of the Path laws in plain words. -/
set_option linter.unusedVariables false
set_option linter.unusedSectionVars false
set_option linter.unusedSimpArgs false
namespace Go.Proofs.YtbkhmkcmbaffoaaGreatDoor.Eng.U
open Go Go.Proofs Go.Proofs.YtbkhmkcmbaffoaaGreatDoor.Eng Go.Proofs.YtbkhmkcmbaffoaaGreatDoor.P24
variable {E : Ext} [Core E] {k n : Nat}

class HasParts (E : Ext) : Prop where
  parts : ∀ (k n : Nat) (s : List UInt8), s.length < 1000000 → kp E k n path_Parts [.str (str s)] = some (.list 1 (svs (partsL s)))
class HasJoin (E : Ext) : Prop where
  join : ∀ (k n : Nat) (l : List (List UInt8)) (sep : List UInt8), l.length ≤ 1000000 → (sep.intercalate l).length ≤ 1000000000 → kp E k n strings_Join [.list 1 (svs l), .str (str sep)] = some (.str (str (sep.intercalate l)))
theorem join_inter : ∀ l : List (List UInt8), ([47] : List UInt8).intercalate l = joinL l
  | [] => rfl
  | [p] => by simp [joinL, List.intercalate]
  | p :: q :: l => by
    have := join_inter (q :: l)
    simp only [joinL, List.intercalate, List.intersperse_cons_cons, List.flatten_cons] at this ⊢
    rw [this]
    simp

theorem prefix_k (s p : List UInt8) : kp E k (n + 1) stringslite_HasPrefix [.str (str s), .str (str p)] = some (.bool (decide (p <+: s))) := by
  rw [stringslite_HasPrefix_eq]
  rw [str_size, str_size, nge]
  by_cases h : p.length ≤ s.length
  · rw [dec0, Bool.true_and, decide_eq_true h, cond_true, cond_true, str_ext, str_dec]
    simp only [Int.toNat_natCast, List.drop_zero]
    congr 3
    rw [List.prefix_iff_eq_take]
    simp [eq_comm]
  · rw [decide_eq_false h, cond_false, decide_eq_false (fun hp => h hp.length_le)]
theorem hasPrefix_k (s p : List UInt8) : kp E k (n + 2) strings_HasPrefix [.str (str s), .str (str p)] = some (.bool (decide (p <+: s))) := by
  rw [strings_HasPrefix_eq, prefix_k, callB_ok]
theorem abs_prefix (s : List UInt8) : decide (([47] : List UInt8) <+: s) = isAbs s := by
  cases s with
  | nil => simp [isAbs]
  | cons c s =>
    simp only [isAbs, List.cons_prefix_cons, List.nil_prefix, and_true]
    rw [Bool.eq_iff_iff, decide_eq_true_eq, beq_iff_eq]
    exact eq_comm
theorem absolute_k (s : List UInt8) : kp E k (n + 3) path_absolute [.str (str s)] = some (.bool (isAbs s)) := by
  rw [path_absolute_eq, hasPrefix_k, callB_ok, abs_prefix]
/-! slices.Index, Contains, Equal; the law's own same. -/
/-! The parts, as the reference gathers them. -/
/-! The stack, as the program builds it. -/
theorem last_at (st : List (List UInt8)) (h : st ≠ []) {β : Type} (K : ByteArray → Option β) : (((svs st)[st.length - 1]?).bind fun y => cellS (AV.cells y) 0 K) = K (str (st.getLast h)) := by
  rw [svs_at st _ (by have := List.length_pos_iff.2 h; omega), List.getLast_eq_getElem]
theorem stack_loop [HasParts E] (s : List UInt8) : ∀ (suf pre st : List (List UInt8)) (k0 : Nat), suf.length < k0 → (pre ++ suf).length < 1000000 → st.length ≤ pre.length →
    path_stack_L0 (kp E k (n + 3)) k k0 (str s) (svs (pre ++ suf)) (((pre ++ suf).length : Nat) : Int) ((pre.length : Nat) : Int) (svs st) = some (.list 1 (svs (suf.foldl (push (isAbs s)) st)))
  | [], pre, st, k0 + 1, h, hb, hs => by
    rw [path_stack_L0_s]
    simp (disch := first | omega | (simp only [List.length_append, List.length_cons, List.length_nil, List.length_take, List.length_drop]; done) | (simp only [List.length_append, List.length_cons, List.length_nil, List.length_take, List.length_drop]; omega) | fail) only [bif_t, bif_f, bif_n, bif_a, callB_ok, callI_ok, callS_ok, callL_ok, callF_ok, callT_ok, tupB_ok, tupI_ok, tupS_ok, tupL_ok, tupF_ok, atNil_ok, wrap1, wrapM, wrapP, Int.toNat_natCast, svs_len, ivs_len, bvs_len, str_size, svs_mid, ivs_mid, str_dec, str_ext, str_byte, mid_byte, mid_cut, List.length_nil, List.length_singleton, svs_snoc, ivs_snoc, svs_take, svs_drop, str_app, List.take_length, List.drop_zero, List.nil_append, cond_true, cond_false, Option.bind_some, Bool.not_true, Bool.not_false, Bool.true_and, Bool.and_true, List.append_nil]
    rfl
  | p :: suf, pre, st, k0 + 1, h, hb, hs => by
    have hm := mid_len pre suf p
    have go : ∀ st' : List (List UInt8), st'.length ≤ pre.length + 1 → path_stack_L0 (kp E k (n + 3)) k k0 (str s) (svs (pre ++ p :: suf)) ((pre.length + suf.length + 1 : Nat) : Int) ((pre.length + 1 : Nat) : Int) (svs st') = some (.list 1 (svs (suf.foldl (push (isAbs s)) st'))) := by
      intro st' hs'
      have := stack_loop s suf (pre ++ [p]) st' k0 (by simpa using h) (by simpa using hb) (by simpa using hs')
      rw [← mid_snoc, hm] at this
      simpa using this
    rw [path_stack_L0_s]
    simp (disch := first | omega | (simp only [List.length_append, List.length_cons, List.length_nil, List.length_take, List.length_drop]; done) | (simp only [List.length_append, List.length_cons, List.length_nil, List.length_take, List.length_drop]; omega) | fail) only [bif_t, bif_f, bif_n, bif_a, callB_ok, callI_ok, callS_ok, callL_ok, callF_ok, callT_ok, tupB_ok, tupI_ok, tupS_ok, tupL_ok, tupF_ok, atNil_ok, wrap1, wrapM, wrapP, Int.toNat_natCast, svs_len, ivs_len, bvs_len, str_size, svs_mid, ivs_mid, str_dec, str_ext, str_byte, mid_byte, mid_cut, List.length_nil, List.length_singleton, svs_snoc, ivs_snoc, svs_take, svs_drop, str_app, List.take_length, List.drop_zero, List.nil_append, cond_true, cond_false, Option.bind_some, Bool.not_true, Bool.not_false, Bool.true_and, Bool.and_true, hm, absolute_k, go]
    rw [List.foldl_cons]
    unfold push
    by_cases hp : p = dd
    · rw [if_neg (by simp [hp]), decide_eq_true (show p = [46, 46] from hp), cond_true]
      by_cases hst : st = []
      · subst hst
        simp (disch := first | omega | (simp only [List.length_append, List.length_cons, List.length_nil, List.length_take, List.length_drop]; done) | (simp only [List.length_append, List.length_cons, List.length_nil, List.length_take, List.length_drop]; omega) | fail) only [bif_t, bif_f, bif_n, bif_a, callB_ok, callI_ok, callS_ok, callL_ok, callF_ok, callT_ok, tupB_ok, tupI_ok, tupS_ok, tupL_ok, tupF_ok, atNil_ok, wrap1, wrapM, wrapP, Int.toNat_natCast, svs_len, ivs_len, bvs_len, str_size, svs_mid, ivs_mid, str_dec, str_ext, str_byte, mid_byte, mid_cut, List.length_nil, List.length_singleton, svs_snoc, ivs_snoc, svs_take, svs_drop, str_app, List.take_length, List.drop_zero, List.nil_append, cond_true, cond_false, Option.bind_some, Bool.not_true, Bool.not_false, Bool.true_and, Bool.and_true]
        cases isAbs s <;> rfl
      · have hl := List.length_pos_iff.2 hst
        simp (disch := first | omega | (simp only [List.length_append, List.length_cons, List.length_nil, List.length_take, List.length_drop]; done) | (simp only [List.length_append, List.length_cons, List.length_nil, List.length_take, List.length_drop]; omega) | fail) only [bif_t, bif_f, bif_n, bif_a, callB_ok, callI_ok, callS_ok, callL_ok, callF_ok, callT_ok, tupB_ok, tupI_ok, tupS_ok, tupL_ok, tupF_ok, atNil_ok, wrap1, wrapM, wrapP, Int.toNat_natCast, svs_len, ivs_len, bvs_len, str_size, svs_mid, ivs_mid, str_dec, str_ext, str_byte, mid_byte, mid_cut, List.length_nil, List.length_singleton, svs_snoc, ivs_snoc, svs_take, svs_drop, str_app, List.take_length, List.drop_zero, List.nil_append, cond_true, cond_false, Option.bind_some, Bool.not_true, Bool.not_false, Bool.true_and, Bool.and_true, last_at st hst, hm, go]
        by_cases he : st.getLast hst = dd
        · rw [decide_eq_true (show st.getLast hst = [46, 46] from he), cond_true, if_neg (by rw [List.getLast?_eq_some_getLast hst, he]; simp)]
          cases isAbs s <;> rfl
        · rw [decide_eq_false (show ¬ st.getLast hst = [46, 46] from he), cond_false, if_pos ⟨hst, by rw [List.getLast?_eq_some_getLast hst]; simpa using he⟩, List.dropLast_eq_take]
    · rw [decide_eq_false (show ¬ p = [46, 46] from hp), cond_false, if_pos hp]
theorem stack_k [HasParts E] (s : List UInt8) (hb : s.length < 100000) (hk : s.length + 1 < k) : kp E k (n + 4) path_stack [.str (str s)] = some (.list 1 (svs (stk s))) := by
  rw [path_stack_eq, HasParts.parts _ _ _ (by omega), callL_ok, svs_len]
  have hl := parts_len s
  have := stack_loop (k := k) (n := n) (E := E) s (partsL s) [] [] k (by omega) (by simp; omega) (by simp)
  simp only [List.nil_append, List.length_nil] at this
  rw [stk_fold] at this
  exact this

/-! What is left, as the reference takes pairs off. -/
/-! Forms, and what is asked of names. -/
theorem form_k [HasJoin E] (root : Bool) (l : List (List UInt8)) (h1 : l.length ≤ 1000000) (h2 : l.flatten.length ≤ 1000000) : kp E k (n + 1) path_form [.bool root, .list 1 (svs l)] = some (.str (str (formL root l))) := by
  have hj := join_len l
  rw [path_form_eq, HasJoin.join _ _ _ _ h1 (by rw [join_inter]; omega), join_inter]
  simp (disch := first | omega | (simp only [List.length_append, List.length_cons, List.length_nil, List.length_take, List.length_drop]; done) | (simp only [List.length_append, List.length_cons, List.length_nil, List.length_take, List.length_drop]; omega) | fail) only [bif_t, bif_f, bif_n, bif_a, callB_ok, callI_ok, callS_ok, callL_ok, callF_ok, callT_ok, tupB_ok, tupI_ok, tupS_ok, tupL_ok, tupF_ok, atNil_ok, wrap1, wrapM, wrapP, Int.toNat_natCast, svs_len, ivs_len, bvs_len, str_size, svs_mid, ivs_mid, str_dec, str_ext, str_byte, mid_byte, mid_cut, List.length_nil, List.length_singleton, svs_snoc, ivs_snoc, svs_take, svs_drop, str_app, List.take_length, List.drop_zero, List.nil_append, cond_true, cond_false, Option.bind_some, Bool.not_true, Bool.not_false, Bool.true_and, Bool.and_true]
  unfold formL
  cases root with
  | true => rfl
  | false =>
    by_cases h : joinL l = []
    · rw [h]; rfl
    · rw [decide_eq_false h]; simp [h]
end Go.Proofs.YtbkhmkcmbaffoaaGreatDoor.Eng.U


/- The Path functions in plain words, part 2. -/
set_option linter.unusedVariables false
set_option linter.unusedSimpArgs false
set_option linter.unusedSectionVars false
namespace Go.Proofs.YtbkhmkcmbaffoaaGreatDoor.Eng.U
open Go Go.Proofs Go.Proofs.YtbkhmkcmbaffoaaGreatDoor.Eng Go.Proofs.YtbkhmkcmbaffoaaGreatDoor.P24
variable {E : Ext} [Core E] [HasParts E] [HasJoin E] {k n : Nat}

theorem clean_k (s : List UInt8) (hb : s.length < 100000) (hk : s.length + 10 < k) : kp E k (n + 5) path_Clean [.str (str s)] = some (.str (str (cleanL s))) := by
  have h := stk_sum s
  rw [path_Clean_eq, absolute_k, callB_ok, stack_k s hb (by omega), callL_ok, form_k _ _ (by omega) (by omega), callS_ok]
  rfl
theorem up_k (s : List UInt8) (hb : s.length < 100000) (hk : s.length + 20 < k) : kp E k (n + 6) path_Up [.str (str s)] = some (.tup [.str (str (upL s).1), .str (str (upL s).2)]) := by
  have h1 := stk_sum s
  rw [path_Up_eq, stack_k s (by omega) (by omega), callL_ok, clean_k s (by omega) (by omega), callS_ok, callS_ok, absolute_k, callB_ok]
  unfold upL
  by_cases hs : stk s = []
  · rw [if_pos hs, hs]
    simp (disch := first | omega | (simp only [List.length_append, List.length_cons, List.length_nil, List.length_take, List.length_drop]; done) | (simp only [List.length_append, List.length_cons, List.length_nil, List.length_take, List.length_drop]; omega) | fail) only [bif_t, bif_f, bif_n, bif_a, callB_ok, callI_ok, callS_ok, callL_ok, callF_ok, callT_ok, tupB_ok, tupI_ok, tupS_ok, tupL_ok, tupF_ok, atNil_ok, wrap1, wrapM, wrapP, Int.toNat_natCast, svs_len, ivs_len, bvs_len, str_size, svs_mid, ivs_mid, str_dec, str_ext, str_byte, mid_byte, mid_cut, List.length_nil, List.length_singleton, svs_snoc, ivs_snoc, svs_take, svs_drop, str_app, List.take_length, List.drop_zero, List.nil_append, cond_true, cond_false, Option.bind_some, Bool.not_true, Bool.not_false, Bool.true_and, Bool.and_true]
  · have hl := List.length_pos_iff.2 hs
    rw [if_neg hs]
    have hd : (stk s).dropLast.flatten.length ≤ (stk s).flatten.length := by
      rw [List.dropLast_eq_take]
      conv => rhs; rw [← List.take_append_drop ((stk s).length - 1) (stk s), List.flatten_append, List.length_append]
      omega
    have hf := form_k (E := E) (k := k) (n := n + 4) (isAbs s) (stk s).dropLast (by simp; omega) (by omega)
    rw [List.dropLast_eq_take] at hf
    simp (disch := first | omega | (simp only [List.length_append, List.length_cons, List.length_nil, List.length_take, List.length_drop]; done) | (simp only [List.length_append, List.length_cons, List.length_nil, List.length_take, List.length_drop]; omega) | fail) only [bif_t, bif_f, bif_n, bif_a, callB_ok, callI_ok, callS_ok, callL_ok, callF_ok, callT_ok, tupB_ok, tupI_ok, tupS_ok, tupL_ok, tupF_ok, atNil_ok, wrap1, wrapM, wrapP, Int.toNat_natCast, svs_len, ivs_len, bvs_len, str_size, svs_mid, ivs_mid, str_dec, str_ext, str_byte, mid_byte, mid_cut, List.length_nil, List.length_singleton, svs_snoc, ivs_snoc, svs_take, svs_drop, str_app, List.take_length, List.drop_zero, List.nil_append, cond_true, cond_false, Option.bind_some, Bool.not_true, Bool.not_false, Bool.true_and, Bool.and_true, hf, last_at _ hs]
    rw [List.dropLast_eq_take, List.getLast?_eq_some_getLast hs]
    rfl
theorem clean_len (s : List UInt8) : (cleanL s).length ≤ 2 * s.length + 3 := by
  have h := stk_sum s
  have h2 := join_len (stk s)
  unfold cleanL formL
  split
  · simp; omega
  · split
    · simp
    · omega
end Go.Proofs.YtbkhmkcmbaffoaaGreatDoor.Eng.U


/- The Path laws in plain words: each answers true. -/
set_option linter.unusedVariables false
set_option linter.unusedSimpArgs false
set_option linter.unusedSectionVars false
namespace Go.Proofs.YtbkhmkcmbaffoaaGreatDoor.Eng.U
open Go Go.Proofs Go.Proofs.YtbkhmkcmbaffoaaGreatDoor.Eng Go.Proofs.YtbkhmkcmbaffoaaGreatDoor.P24
variable {E : Ext} [Core E] [HasParts E] [HasJoin E] {k n : Nat}

end Go.Proofs.YtbkhmkcmbaffoaaGreatDoor.Eng.U


/- What the Path functions take as given: path.Parts (its iterator), strings.Join. -/
set_option linter.unusedVariables false
set_option linter.unusedSectionVars false
set_option linter.unusedSimpArgs false
namespace Go.Proofs.YtbkhmkcmbaffoaaGreatDoor.Eng.U
open Go Go.Proofs Go.Proofs.YtbkhmkcmbaffoaaGreatDoor.Eng Go.RowKit Go.Proofs.YtbkhmkcmbaffoaaGreatDoor.P24

def pParts : Piece := { f := path_Parts, ans := fun args => match args with
  | [.str s] => bif decide (s.size < 1000000) then some (.list 1 (svs (partsL s.data.toList))) else none
  | _ => none }
def pJoin : Piece := { f := strings_Join, ans := fun args => match args with
  | [.list sz xs, .str sep] => (toStrs xs).bind fun l => bif (sz == 1) && decide (l.length ≤ 1000000) && decide ((sep.data.toList.intercalate l).length ≤ 1000000000) then some (.str (str (sep.data.toList.intercalate l))) else none
  | _ => none }
theorem str_self24 (s : ByteArray) : str s.data.toList = s := by cases s; simp [str]
theorem svs_cells {S : Stab} (l : List (List UInt8)) (i : Nat) (x : AV) (hx : (svs l)[i]? = some x) : x.cells.length = 1 ∧ ∀ (j : Nat) (c : AV), x.cells[j]? = some c → c.leaf = true ∧ ∀ u, (l.map fun p => Value.string (str p))[i * 1 + j]? = some u → V S c u := by
  unfold svs at hx
  rw [List.getElem?_map] at hx
  obtain ⟨p, hp, rfl⟩ := Option.map_eq_some_iff.1 hx
  refine ⟨rfl, fun j c hc => ?_⟩
  cases j with
  | zero =>
    obtain rfl : AV.str (str p) = c := by simpa [sv, AV.cells] using hc
    refine ⟨rfl, fun u hu => ?_⟩
    rw [Nat.mul_one, Nat.add_zero, List.getElem?_map, hp] at hu
    cases hu
    exact .str _
  | succ j => simp [sv, AV.cells] at hc
theorem parts_right : pParts.Right := by
  refine ⟨⟨Tryz.f245, Tryz.func245, by kernel_rfl, by kernel_rfl⟩, fun args res h => ?_⟩
  unfold pParts at h
  dsimp only at h
  split at h
  · rename_i s
    obtain ⟨hs, h⟩ := some_of_bif h
    have hs := of_decide_eq_true hs
    cases h
    refine ok_row (e := 9) fun S w vals hag hG hV => ?_
    obtain ⟨v, rfl, hv⟩ := VL_1 hV
    obtain rfl := V_str hv
    have := S24.Parts_walk s.data.toList w hs
    rw [str_self24] at this
    refine this.mono ?_
    rintro e w' ⟨v, rfl, ho, hb⟩
    exact ⟨v, _, rfl, by rw [svs_len]; exact ho, svs_cells _, hb⟩
  · cases h
theorem join_right : pJoin.Right := by
  refine ⟨⟨Tryz.f246, Tryz.func246, by kernel_rfl, by kernel_rfl⟩, fun args res h => ?_⟩
  unfold pJoin at h
  dsimp only at h
  split at h
  · rename_i sz xs sep
    obtain ⟨l, hl, h⟩ := Option.bind_eq_some_iff.1 h
    obtain ⟨hc, h'⟩ := some_of_bif h
    clear h
    simp only [Bool.and_eq_true, beq_iff_eq, decide_eq_true_eq] at hc
    obtain ⟨⟨rfl, h1⟩, h2⟩ := hc
    obtain rfl := Option.some.inj h'
    obtain rfl := toStrs_some hl
    refine ok_pure ⟨rfl, rfl⟩ fun S w vals hag hG hV => ?_
    obtain ⟨v, u, rfl, hv, hu⟩ := VL_2 hV
    obtain rfl := V_str hu
    have key : ∀ (l : List (List UInt8)), (l.map str).map (fun s => s.data.toList) = l := by
      intro l
      rw [List.map_map]
      conv => rhs; rw [← List.map_id l]
      rfl
    have none_case : ∀ (a : Option Addr) (c : Nat), Calls Tryz.prog strings_Join #[.slice a 0 c, .string sep] w fun e w' => ∃ v, e = .returned v ∧ (∀ S', V S' (.str (str (sep.data.toList.intercalate ([] : List (List UInt8))))) v) ∧ Below w.heap.size w w' := by
      intro a c
      refine (Tryz.strings_Join_none a c sep w).mono ?_
      rintro e w' ⟨rfl, rfl⟩
      exact ⟨_, rfl, fun S' => V.str _, Below.refl _ _⟩
    cases l with
    | nil =>
      cases hv with
      | list0 _ a c => exact none_case _ _
      | listn _ => exact none_case _ _
      | list _ _ a c f => exact none_case _ _
    | cons p l =>
      have hv : V S (.list 1 (svs (p :: l))) v := hv
      generalize hxs : svs (p :: l) = xs at hv
      cases hv with
      | list0 _ a c => simp [svs] at hxs
      | listn _ => simp [svs] at hxs
      | list _ _ a c f g0 g1 g2 g3 g4 =>
        subst hxs
        have hcell : ∀ (j : Nat) (x : List UInt8), (p :: l)[j]? = some x → w.cell? (a.add (j * 1 + 0)) = some (.string (str x)) := by
          intro j x hx
          have hsx : (svs (p :: l))[j]? = some (sv x) := by unfold svs; rw [List.getElem?_map, hx]; rfl
          have h3 := g3 j (sv x) 0 (.str (str x)) hsx rfl
          have h4 := g4 j (sv x) 0 (.str (str x)) hsx rfl
          rw [V_str h4] at h3
          exact hag _ _ h3
        have ha : a.spot = none := by
          have := hcell 0 p rfl
          apply Classical.byContradiction
          intro hs
          obtain ⟨b, o, s⟩ := a
          cases s with
          | none => exact hs rfl
          | some s =>
            simp [Addr.add, World.cell?] at this
            split at this <;> cases this
        obtain ⟨b, o, s⟩ := a
        obtain rfl : s = none := ha
        have hlen : ((p :: l).map str).length = (svs (p :: l)).length := by simp [svs]
        have hlt : b < w.heap.size := by
          have := World.block_lt_of_cell? w _ (hcell 0 p rfl)
          simpa [Addr.add] using this
        have := Tryz.strings_Join b o c ((p :: l).map str) sep w (fun j x hx => by
          rw [List.getElem?_map] at hx
          obtain ⟨y, hy, rfl⟩ := Option.map_eq_some_iff.1 hx
          have := hcell j y hy
          rwa [add_lit', show o + (j * 1 + 0) = o + j from by omega] at this) hlt (by rw [hlen, svs_len]; omega) (by rw [hlen]; exact g0) (by rw [key]; unfold Lib.join; omega)
        rw [hlen, key] at this
        refine this.mono ?_
        rintro e w' ⟨rfl, hb⟩
        exact ⟨_, rfl, fun S' => V.str _, hb⟩
  · cases h
/-- The pieces of the Path laws. -/
def ps24 : List Piece := [pParts, pJoin]
def ext24 : Ext := extOf ps24
instance core24 : Core ext24 := core_of (by kernel_rfl)
instance parts24 : HasParts ext24 := ⟨fun k n s hs => by
  have := kp_piece (ps := ps24) (p := pParts) (k := k) (n := n) (args := [.str (str s)]) rfl
  refine this.trans ?_
  show (bif decide ((str s).size < 1000000) then _ else none) = _
  rw [str_size, decide_eq_true hs]
  rfl⟩
instance join24 : HasJoin ext24 := ⟨fun k n l sep h1 h2 => by
  have := kp_piece (ps := ps24) (p := pJoin) (k := k) (n := n) (args := [.list 1 (svs l), .str (str sep)]) rfl
  refine this.trans ?_
  show (toStrs (svs l)).bind _ = _
  rw [toStrs_svs]
  show (bif (1 == 1) && decide (l.length ≤ 1000000) && decide ((sep.intercalate l).length ≤ 1000000000) then _ else none) = _
  rw [decide_eq_true h1, decide_eq_true h2]
  rfl⟩
end Go.Proofs.YtbkhmkcmbaffoaaGreatDoor.Eng.U


/- slices.Clone as a given function. -/
set_option linter.unusedVariables false
set_option linter.unusedSimpArgs false
set_option linter.unusedSectionVars false
namespace Go.Proofs.YtbkhmkcmbaffoaaGreatDoor.Eng.U
open Go Go.Proofs Go.Proofs.YtbkhmkcmbaffoaaGreatDoor.Eng Go.RowKit

/-- A list that is handed in, by its cells. -/
theorem list_cells {S : Stab} {w : World} {sz : Nat} {xs : List AV} {v : Value} (hag : Agree S w) (hz : 0 < sz) (h : V S (.list sz xs) v) : v = .slice none 0 0 ∧ xs = [] ∨ ∃ (a : Addr) (c : Nat) (news : List Value), v = .slice (some a) xs.length c ∧ news.length = xs.length * sz ∧ (∀ j u, news[j]? = some u → w.cell? (a.add j) = some u) ∧ (∀ u ∈ news, u.oneCell' = true) ∧
    (∀ (i : Nat) (x : AV), xs[i]? = some x → x.cells.length = sz ∧ ∀ (j : Nat) (c : AV), x.cells[j]? = some c → c.leaf = true ∧ ∀ u, news[i * sz + j]? = some u → V S c u) := by
  cases h with
  | list0 _ a c => exact .inr ⟨a, c, [], rfl, by simp, by simp, by simp, by simp⟩
  | listn _ => exact .inl ⟨rfl, rfl⟩
  | list _ _ a c f h0 h1 h2 h3 h4 =>
    have key : ∀ k, k < xs.length * sz → ∃ y d, xs[k / sz]? = some y ∧ y.cells[k % sz]? = some d ∧ k / sz * sz + k % sz = k := by
      intro k hk
      have hd : k / sz < xs.length := Nat.div_lt_of_lt_mul (by rw [Nat.mul_comm]; exact hk)
      have hm : k % sz < sz := Nat.mod_lt _ hz
      have hm' : k % sz < (xs[k / sz]).cells.length := by rw [h1 _ _ (List.getElem?_eq_getElem hd)]; exact hm
      exact ⟨_, _, List.getElem?_eq_getElem hd, List.getElem?_eq_getElem hm', by rw [Nat.mul_comm]; exact Nat.div_add_mod _ _⟩
    have hget : ∀ k u, ((List.range (xs.length * sz)).map fun k => f (k / sz) (k % sz))[k]? = some u → k < xs.length * sz ∧ u = f (k / sz) (k % sz) := by
      intro k u hu
      rw [List.getElem?_map] at hu
      obtain ⟨i, hi, rfl⟩ := Option.map_eq_some_iff.1 hu
      obtain ⟨hlt, rfl⟩ := List.getElem?_eq_some_iff.1 hi
      rw [List.length_range] at hlt
      rw [List.getElem_range]
      exact ⟨hlt, rfl⟩
    refine .inr ⟨a, c, (List.range (xs.length * sz)).map fun k => f (k / sz) (k % sz), rfl, by simp, fun k u hu => ?_, fun u hu => ?_, fun i x hx => ⟨h1 i x hx, fun j d hd => ⟨h2 i x j d hx hd, fun u hu => ?_⟩⟩⟩
    · obtain ⟨hlt, rfl⟩ := hget k u hu
      obtain ⟨y, d, hy, hd, hkk⟩ := key k hlt
      have := h3 _ y _ d hy hd
      rw [hkk] at this
      exact hag _ _ this
    · obtain ⟨k, hk⟩ := List.getElem?_of_mem hu
      obtain ⟨hlt, rfl⟩ := hget k u hk
      obtain ⟨y, d, hy, hd, _⟩ := key k hlt
      exact (h4 _ y _ d hy hd).one (h2 _ y _ d hy hd)
    · obtain ⟨_, rfl⟩ := hget _ u hu
      have hj : j < sz := by rw [← h1 i x hx]; exact (List.getElem?_eq_some_iff.1 hd).1
      rw [show (i * sz + j) / sz = i from by rw [Nat.mul_comm, Nat.mul_add_div hz, Nat.div_eq_of_lt hj]; omega, show (i * sz + j) % sz = j from by rw [Nat.mul_comm, Nat.mul_add_mod, Nat.mod_eq_of_lt hj]]
      exact h4 i x j d hx hd
def pClone (f : FuncId) (sz : Nat) : Piece := { f := f, ans := fun args => match args with
  | [.list s xs] => bif (s == sz) && decide (xs.length ≤ 1000000000) then some (.list s xs) else none
  | _ => none }
theorem clone_right {f : FuncId} {sz : Nat} {e : TypeId} (hz : 0 < sz) (hE : Enters Tryz.prog f) (h0 : ∀ w, Calls Tryz.prog f #[.slice none 0 0] w fun en w' => en = .returned (.slice none 0 0) ∧ w' = w)
    (h1 : ∀ (a : Addr) (m c : Nat) (news : List Value) (w : World), news.length = m * sz → (∀ j u, news[j]? = some u → w.cell? (a.add j) = some u) → (∀ u ∈ news, u.oneCell' = true) → m ≤ 1000000000 →
      Calls Tryz.prog f #[.slice (some a) m c] w fun en w' => ∃ v, en = .returned v ∧ w'.ownsRow w.heap.size e sz v m news ∧ Below w.heap.size w w') : (pClone f sz).Right := by
  refine ⟨hE, fun args res h => ?_⟩
  unfold pClone at h
  dsimp only at h
  split at h
  · rename_i s xs
    obtain ⟨hc, h'⟩ := some_of_bif h
    clear h
    simp only [Bool.and_eq_true, beq_iff_eq, decide_eq_true_eq] at hc
    obtain ⟨rfl, hm⟩ := hc
    obtain rfl := Option.some.inj h'
    refine ok_row (e := e) fun S w vals hag hG hV => ?_
    obtain ⟨v, rfl, hv⟩ := VL_1 hV
    rcases list_cells hag hz hv with ⟨rfl, rfl⟩ | ⟨a, c, news, rfl, g1, g2, g3, g4⟩
    · refine (h0 w).mono ?_
      rintro en w' ⟨rfl, rfl⟩
      exact ⟨_, [], rfl, World.ownsRow_nil _ _ _ _, by simp, Below.refl _ _⟩
    · refine (h1 a xs.length c news w g1 g2 g3 hm).mono ?_
      rintro en w' ⟨v, rfl, ho, hb⟩
      exact ⟨v, news, rfl, ho, g4, hb⟩
  · cases h
def pCloneP : Piece := pClone slices_Clone_api_Pair 2
def pCloneB : Piece := pClone slices_Clone_byte 1
theorem cloneP_right : pCloneP.Right := clone_right (by omega) ⟨Tryz.f48, Tryz.func48, by kernel_rfl, by kernel_rfl⟩ S40.pairs_nil S40.pairs_some
theorem cloneB_right : pCloneB.Right := clone_right (by omega) ⟨Tryz.f88, Tryz.func88, by kernel_rfl, by kernel_rfl⟩ S40.bytes_nil S40.bytes_some
theorem clone_ans {f : FuncId} {sz : Nat} {xs : List AV} (h : xs.length ≤ 1000000000) : (pClone f sz).ans [.list sz xs] = some (.list sz xs) := by
  show (bif (sz == sz) && decide (xs.length ≤ 1000000000) then _ else none) = _
  rw [decide_eq_true h, beq_self_eq_true]
  rfl
end Go.Proofs.YtbkhmkcmbaffoaaGreatDoor.Eng.U


/- What functions answer, as the engine evaluates their code. Printed by gen2.py. -/
set_option linter.unusedVariables false
namespace Go.Proofs.YtbkhmkcmbaffoaaGreatDoor.Eng.U
open Go Go.Proofs Go.Proofs.YtbkhmkcmbaffoaaGreatDoor.Eng
/- oakum/oakumlaw34.AdaptHeads -/
/- oakum/oakumlaw34.AdaptTells -/
noncomputable def law34_AdaptTells_bd : Code := Tryz.f8.body.getD .skip
noncomputable def law34_AdaptTells_L0 (kap : FuncId → List AV → Option AV) (k : Nat) (k0 : Nat) (s6 : List AV) (s15 : Int) (b3_0 : Int) (b3_1 : ByteArray) (b3_2 : ByteArray) (b3_3 : Int) (b3_4 : Int) (b3_5 : Int) (b3_6 : Int) (b3_7 : Int) (b3_8 : Int) (b3_9 : ByteArray) (b3_10 : ByteArray) (b3_11 : Int) (b3_12 : Int) (b3_13 : List AV) (b5_0 : Int) (b5_1 : ByteArray) (b5_2 : ByteArray) (b5_3 : Int) (b5_4 : Int) (b5_5 : Int) (b5_6 : Int) (b5_7 : Int) (b5_8 : Int) (b5_9 : ByteArray) (b5_10 : ByteArray) (b5_11 : Int) (b5_12 : Int) (b5_13 : List AV) : Option AV :=
  loop (fun fr K => code ((bs E0 k).cfg kap law34_AdaptTells) (sel law34_AdaptTells_bd [1, 1, 1, 1, 1, 1, 1, 1, 1, 0, 1, 0, 0]) fr K) (canon ((bs E0 k).cfg kap law34_AdaptTells) (firstReg (sel law34_AdaptTells_bd [1, 1, 1, 1, 1, 1, 1, 1, 1, 0, 1, 0, 0]))) k0 (mkFr 170 [(3, (.loc 3 0)), (5, (.loc 5 0)), (6, (.list 1 s6)), (15, (.int .i64 s15))] [(3, (.box [(.int .i64 b3_0), (.str b3_1), (.str b3_2), (.int .i64 b3_3), (.int .i64 b3_4), (.int .i64 b3_5), (.int .i64 b3_6), (.int .i64 b3_7), (.int .i64 b3_8), (.str b3_9), (.str b3_10), (.int .i64 b3_11), (.int .i64 b3_12), (.list 2 b3_13)])), (5, (.box [(.int .i64 b5_0), (.str b5_1), (.str b5_2), (.int .i64 b5_3), (.int .i64 b5_4), (.int .i64 b5_5), (.int .i64 b5_6), (.int .i64 b5_7), (.int .i64 b5_8), (.str b5_9), (.str b5_10), (.int .i64 b5_11), (.int .i64 b5_12), (.list 2 b5_13)]))]) (plug ((bs E0 k).cfg kap law34_AdaptTells) (retK ((bs E0 k).cfg kap law34_AdaptTells) [] Tryz.f8 [] some) [.blk 0, .seqR (sel law34_AdaptTells_bd [1, 1, 1, 1, 1, 1, 1, 1, 1, 1])])
theorem law34_AdaptTells_L0_s (kap : FuncId → List AV → Option AV) (k : Nat) (k0 : Nat) (s6 : List AV) (s15 : Int) (b3_0 : Int) (b3_1 : ByteArray) (b3_2 : ByteArray) (b3_3 : Int) (b3_4 : Int) (b3_5 : Int) (b3_6 : Int) (b3_7 : Int) (b3_8 : Int) (b3_9 : ByteArray) (b3_10 : ByteArray) (b3_11 : Int) (b3_12 : Int) (b3_13 : List AV) (b5_0 : Int) (b5_1 : ByteArray) (b5_2 : ByteArray) (b5_3 : Int) (b5_4 : Int) (b5_5 : Int) (b5_6 : Int) (b5_7 : Int) (b5_8 : Int) (b5_9 : ByteArray) (b5_10 : ByteArray) (b5_11 : Int) (b5_12 : Int) (b5_13 : List AV) : law34_AdaptTells_L0 kap k (k0 + 1) s6 s15 b3_0 b3_1 b3_2 b3_3 b3_4 b3_5 b3_6 b3_7 b3_8 b3_9 b3_10 b3_11 b3_12 b3_13 b5_0 b5_1 b5_2 b5_3 b5_4 b5_5 b5_6 b5_7 b5_8 b5_9 b5_10 b5_11 b5_12 b5_13 =
  (bif (decide (s15 < (((List.length s6) : Nat) : Int))) then (bif ((decide ((0 : Int) ≤ s15)) && (decide (s15 < (((List.length s6) : Nat) : Int)))) then ((s6[(Int.toNat s15)]?).bind fun vy67 => (cellI .i64 (AV.cells vy67) 0 fun vn68 => (bif (decide (vn68 = (2 : Int))) then (law34_AdaptTells_L0 kap k k0 s6 (IntKind.wrap .i64 (s15 + (1 : Int))) b3_0 b3_1 b3_2 b3_3 b3_4 b3_5 b3_6 b3_7 b3_8 b3_9 b3_10 b3_11 b3_12 b3_13 b5_0 b3_1 b5_2 b5_3 b5_4 b5_5 b5_6 b5_7 b5_8 b5_9 b5_10 b5_11 b5_12 b5_13) else (bif (decide (vn68 = (3 : Int))) then (law34_AdaptTells_L0 kap k k0 s6 (IntKind.wrap .i64 (s15 + (1 : Int))) b3_0 b3_1 b3_2 b3_3 b3_4 b3_5 b3_6 b3_7 b3_8 b3_9 b3_10 b3_11 b3_12 b3_13 b5_0 b5_1 b3_2 b5_3 b5_4 b5_5 b5_6 b5_7 b5_8 b5_9 b5_10 b5_11 b5_12 b5_13) else (bif (decide (vn68 = (4 : Int))) then (law34_AdaptTells_L0 kap k k0 s6 (IntKind.wrap .i64 (s15 + (1 : Int))) b3_0 b3_1 b3_2 b3_3 b3_4 b3_5 b3_6 b3_7 b3_8 b3_9 b3_10 b3_11 b3_12 b3_13 b5_0 b5_1 b5_2 b3_3 b5_4 b5_5 b5_6 b5_7 b5_8 b5_9 b5_10 b5_11 b5_12 b5_13) else (bif (decide (vn68 = (5 : Int))) then (law34_AdaptTells_L0 kap k k0 s6 (IntKind.wrap .i64 (s15 + (1 : Int))) b3_0 b3_1 b3_2 b3_3 b3_4 b3_5 b3_6 b3_7 b3_8 b3_9 b3_10 b3_11 b3_12 b3_13 b5_0 b5_1 b5_2 b5_3 b3_4 b5_5 b5_6 b5_7 b5_8 b5_9 b5_10 b5_11 b5_12 b5_13) else (bif (decide (vn68 = (6 : Int))) then (law34_AdaptTells_L0 kap k k0 s6 (IntKind.wrap .i64 (s15 + (1 : Int))) b3_0 b3_1 b3_2 b3_3 b3_4 b3_5 b3_6 b3_7 b3_8 b3_9 b3_10 b3_11 b3_12 b3_13 b5_0 b5_1 b5_2 b5_3 b5_4 b3_5 b5_6 b5_7 b5_8 b5_9 b5_10 b5_11 b5_12 b5_13) else (bif (decide (vn68 = (8 : Int))) then (law34_AdaptTells_L0 kap k k0 s6 (IntKind.wrap .i64 (s15 + (1 : Int))) b3_0 b3_1 b3_2 b3_3 b3_4 b3_5 b3_6 b3_7 b3_8 b3_9 b3_10 b3_11 b3_12 b3_13 b5_0 b5_1 b5_2 b5_3 b5_4 b5_5 b5_6 b3_7 b3_8 b5_9 b5_10 b5_11 b5_12 b5_13) else (bif (decide (vn68 = (9 : Int))) then (law34_AdaptTells_L0 kap k k0 s6 (IntKind.wrap .i64 (s15 + (1 : Int))) b3_0 b3_1 b3_2 b3_3 b3_4 b3_5 b3_6 b3_7 b3_8 b3_9 b3_10 b3_11 b3_12 b3_13 b5_0 b5_1 b5_2 b5_3 b5_4 b5_5 b5_6 b5_7 b5_8 b3_9 b5_10 b5_11 b5_12 b5_13) else (bif (decide (vn68 = (10 : Int))) then (law34_AdaptTells_L0 kap k k0 s6 (IntKind.wrap .i64 (s15 + (1 : Int))) b3_0 b3_1 b3_2 b3_3 b3_4 b3_5 b3_6 b3_7 b3_8 b3_9 b3_10 b3_11 b3_12 b3_13 b5_0 b5_1 b5_2 b5_3 b5_4 b5_5 b5_6 b5_7 b5_8 b5_9 b3_10 b5_11 b5_12 b5_13) else (bif (decide (vn68 = (13 : Int))) then (law34_AdaptTells_L0 kap k k0 s6 (IntKind.wrap .i64 (s15 + (1 : Int))) b3_0 b3_1 b3_2 b3_3 b3_4 b3_5 b3_6 b3_7 b3_8 b3_9 b3_10 b3_11 b3_12 b3_13 b5_0 b5_1 b5_2 b5_3 b5_4 b5_5 b5_6 b5_7 b5_8 b5_9 b5_10 b5_11 b5_12 b3_13) else (law34_AdaptTells_L0 kap k k0 s6 (IntKind.wrap .i64 (s15 + (1 : Int))) b3_0 b3_1 b3_2 b3_3 b3_4 b3_5 b3_6 b3_7 b3_8 b3_9 b3_10 b3_11 b3_12 b3_13 b5_0 b5_1 b5_2 b5_3 b5_4 b5_5 b5_6 b5_7 b5_8 b5_9 b5_10 b5_11 b5_12 b5_13)))))))))))) else none) else (callB (kap ref08_SameHead [(.agg [(.int .i64 b5_0), (.str b5_1), (.str b5_2), (.int .i64 b5_3), (.int .i64 b5_4), (.int .i64 b5_5), (.int .i64 b5_6), (.int .i64 b5_7), (.int .i64 b5_8), (.str b5_9), (.str b5_10), (.int .i64 b5_11), (.int .i64 b5_12), (.list 2 b5_13)]), (.agg [(.int .i64 b3_0), (.str b3_1), (.str b3_2), (.int .i64 b3_3), (.int .i64 b3_4), (.int .i64 b3_5), (.int .i64 b3_6), (.int .i64 b3_7), (.int .i64 b3_8), (.str b3_9), (.str b3_10), (.int .i64 b3_11), (.int .i64 b3_12), (.list 2 b3_13)])]) fun vq70 => (some (.bool vq70)))) := by kernel_rfl
theorem law34_AdaptTells_eq {E : Ext} [Core E] (k n : Nat) (a0 : Int) (a1_0 : Int) (a1_1 : ByteArray) (a1_2 : ByteArray) (a1_3 : Int) (a1_4 : Int) (a1_5 : Int) (a1_6 : Int) (a1_7 : Int) (a1_8 : Int) (a1_9 : ByteArray) (a1_10 : ByteArray) (a1_11 : Int) (a1_12 : Int) (a1_13 : List AV) : kp E k (n + 1) law34_AdaptTells [(.int .i64 a0), (.agg [(.int .i64 a1_0), (.str a1_1), (.str a1_2), (.int .i64 a1_3), (.int .i64 a1_4), (.int .i64 a1_5), (.int .i64 a1_6), (.int .i64 a1_7), (.int .i64 a1_8), (.str a1_9), (.str a1_10), (.int .i64 a1_11), (.int .i64 a1_12), (.list 2 a1_13)])] =
  (callB (kp E k n law34_alive []) fun vq2 => (bif (!vq2) then (some (.bool false)) else (callB (kp E k n law17_Many [(.list 15 [(.agg [(.int .i64 a1_0), (.str a1_1), (.str a1_2), (.int .i64 a1_3), (.int .i64 a1_4), (.int .i64 a1_5), (.int .i64 a1_6), (.int .i64 a1_7), (.int .i64 a1_8), (.str a1_9), (.str a1_10), (.int .i64 a1_11), (.int .i64 a1_12), (.list 2 a1_13), (.list 1 [])])])]) fun vq4 => (bif vq4 then (some (.bool true)) else (bif (decide (a0 < (1 : Int))) then (some (.bool true)) else (bif (decide (a0 > (4 : Int))) then (some (.bool true)) else (callI .i64 (kp E k n item_Wrong [(.agg [(.int .i64 a1_0), (.str a1_1), (.str a1_2), (.int .i64 a1_3), (.int .i64 a1_4), (.int .i64 a1_5), (.int .i64 a1_6), (.int .i64 a1_7), (.int .i64 a1_8), (.str a1_9), (.str a1_10), (.int .i64 a1_11), (.int .i64 a1_12), (.list 2 a1_13)])]) fun vn6 => (bif (!(decide (vn6 = (0 : Int)))) then (some (.bool true)) else (callT (kp E k n adapt_Head [(.int .i64 a0), (.agg [(.int .i64 a1_0), (.str a1_1), (.str a1_2), (.int .i64 a1_3), (.int .i64 a1_4), (.int .i64 a1_5), (.int .i64 a1_6), (.int .i64 a1_7), (.int .i64 a1_8), (.str a1_9), (.str a1_10), (.int .i64 a1_11), (.int .i64 a1_12), (.list 2 a1_13)])]) fun vt8 => (tupG 14 vt8 fun vg9 vt10 => (cellI .i64 vg9 0 fun vn11 => (cellS vg9 1 fun vs12 => (cellS vg9 2 fun vs13 => (cellI .i64 vg9 3 fun vn14 => (cellI .i64 vg9 4 fun vn15 => (cellI .i64 vg9 5 fun vn16 => (cellI .i64 vg9 6 fun vn17 => (cellI .i64 vg9 7 fun vn18 => (cellI .i64 vg9 8 fun vn19 => (cellS vg9 9 fun vs20 => (cellS vg9 10 fun vs21 => (cellI .i64 vg9 11 fun vn22 => (cellI .i64 vg9 12 fun vn23 => (cellL 2 vg9 13 fun vl24 => (tupL 1 vt10 fun vl25 vt26 => (tupI .u8 vt26 fun vn27 vt28 => (atNil vt28 (callT (kp E k n rep_First [(.int .i64 a0), (.agg [(.int .i64 a1_0), (.str a1_1), (.str a1_2), (.int .i64 a1_3), (.int .i64 a1_4), (.int .i64 a1_5), (.int .i64 a1_6), (.int .i64 a1_7), (.int .i64 a1_8), (.str a1_9), (.str a1_10), (.int .i64 a1_11), (.int .i64 a1_12), (.list 2 a1_13)])]) fun vt30 => (tupI .i64 vt30 fun vn31 vt32 => (tupI .u8 vt32 fun vn33 vt34 => (atNil vt34 (bif (!(decide ((IntKind.wrap .i64 vn27) = (0 : Int)))) then (bif (decide ((IntKind.wrap .i64 vn27) = (16 : Int))) then (bif (!(decide (vn31 = (0 : Int)))) then (some (.bool (decide ((((List.length vl25) : Nat) : Int) = (0 : Int))))) else (some (.bool false))) else (some (.bool false))) else (callT (kp E k n rep_First [(.int .i64 a0), (.agg [(.int .i64 vn11), (.str vs12), (.str vs13), (.int .i64 vn14), (.int .i64 vn15), (.int .i64 vn16), (.int .i64 vn17), (.int .i64 vn18), (.int .i64 vn19), (.str vs20), (.str vs21), (.int .i64 vn22), (.int .i64 vn23), (.list 2 vl24)])]) fun vt36 => (tupI .i64 vt36 fun vn37 vt38 => (tupI .u8 vt38 fun vn39 vt40 => (atNil vt40 (callT (kp E k n adapt_Head [(.int .i64 a0), (.agg [(.int .i64 vn11), (.str vs12), (.str vs13), (.int .i64 vn14), (.int .i64 vn15), (.int .i64 vn16), (.int .i64 vn17), (.int .i64 vn18), (.int .i64 vn19), (.str vs20), (.str vs21), (.int .i64 vn22), (.int .i64 vn23), (.list 2 vl24)])]) fun vt42 => (tupG 14 vt42 fun vg43 vt44 => (cellI .i64 vg43 0 fun vn45 => (cellS vg43 1 fun vs46 => (cellS vg43 2 fun vs47 => (cellI .i64 vg43 3 fun vn48 => (cellI .i64 vg43 4 fun vn49 => (cellI .i64 vg43 5 fun vn50 => (cellI .i64 vg43 6 fun vn51 => (cellI .i64 vg43 7 fun vn52 => (cellI .i64 vg43 8 fun vn53 => (cellS vg43 9 fun vs54 => (cellS vg43 10 fun vs55 => (cellI .i64 vg43 11 fun vn56 => (cellI .i64 vg43 12 fun vn57 => (cellL 2 vg43 13 fun vl58 => (tupL 1 vt44 fun vl59 vt60 => (tupI .u8 vt60 fun vn61 vt62 => (atNil vt62 (callI .i64 (kp E k n item_Wrong [(.agg [(.int .i64 vn11), (.str vs12), (.str vs13), (.int .i64 vn14), (.int .i64 vn15), (.int .i64 vn16), (.int .i64 vn17), (.int .i64 vn18), (.int .i64 vn19), (.str vs20), (.str vs21), (.int .i64 vn22), (.int .i64 vn23), (.list 2 vl24)])]) fun vn64 => (bif (!(decide (vn64 = (0 : Int)))) then (some (.bool false)) else (bif (!(decide ((IntKind.wrap .i64 vn39) = (0 : Int)))) then (some (.bool false)) else (bif (!(decide (vn37 = (0 : Int)))) then (some (.bool false)) else (bif (!(decide ((IntKind.wrap .i64 vn61) = (0 : Int)))) then (some (.bool false)) else (bif (!(decide ((((List.length vl59) : Nat) : Int) = (0 : Int)))) then (some (.bool false)) else (callB (kp E k n ref08_SameHead [(.agg [(.int .i64 vn11), (.str vs12), (.str vs13), (.int .i64 vn14), (.int .i64 vn15), (.int .i64 vn16), (.int .i64 vn17), (.int .i64 vn18), (.int .i64 vn19), (.str vs20), (.str vs21), (.int .i64 vn22), (.int .i64 vn23), (.list 2 vl24)]), (.agg [(.int .i64 vn45), (.str vs46), (.str vs47), (.int .i64 vn48), (.int .i64 vn49), (.int .i64 vn50), (.int .i64 vn51), (.int .i64 vn52), (.int .i64 vn53), (.str vs54), (.str vs55), (.int .i64 vn56), (.int .i64 vn57), (.list 2 vl58)])]) fun vq66 => (bif (!vq66) then (some (.bool false)) else (bif (!((decide (vn31 = (0 : Int))) == (decide ((((List.length vl25) : Nat) : Int) = (0 : Int))))) then (some (.bool false)) else (law34_AdaptTells_L0 (kp E k n) k k vl25 (0 : Int) a1_0 a1_1 a1_2 a1_3 a1_4 a1_5 a1_6 a1_7 a1_8 a1_9 a1_10 a1_11 a1_12 a1_13 vn11 vs12 vs13 vn14 vn15 vn16 vn17 vn18 vn19 vs20 vs21 vn22 vn23 vl24))))))))))))))))))))))))))))))))))))))))))))))))))))))))))))))))) := (kp_at (by kernel_rfl)).trans (by kernel_rfl)
/- oakum/oakumlaw34.AdaptItems -/
/- oakum/oakumlaw34.alive -/
theorem law34_alive_eq {E : Ext} [Core E] (k n : Nat)  : kp E k (n + 1) law34_alive [] =
  (callT (kp E k n adapt_Head [(.int .i64 (2 : Int)), (.agg [(.int .i64 (1 : Int)), (.str (str [97])), (.str (str [])), (.int .i64 (0 : Int)), (.int .i64 (0 : Int)), (.int .i64 (0 : Int)), (.int .i64 (0 : Int)), (.int .i64 (1 : Int)), (.int .i64 (5 : Int)), (.str (str [])), (.str (str [])), (.int .i64 (0 : Int)), (.int .i64 (0 : Int)), (.list 2 [])])]) fun vt2 => (tupG 14 vt2 fun vg3 vt4 => (cellI .i64 vg3 0 fun vn5 => (cellS vg3 1 fun vs6 => (cellS vg3 2 fun vs7 => (cellI .i64 vg3 3 fun vn8 => (cellI .i64 vg3 4 fun vn9 => (cellI .i64 vg3 5 fun vn10 => (cellI .i64 vg3 6 fun vn11 => (cellI .i64 vg3 7 fun vn12 => (cellI .i64 vg3 8 fun vn13 => (cellS vg3 9 fun vs14 => (cellS vg3 10 fun vs15 => (cellI .i64 vg3 11 fun vn16 => (cellI .i64 vg3 12 fun vn17 => (cellL 2 vg3 13 fun vl18 => (tupL 1 vt4 fun vl19 vt20 => (tupI .u8 vt20 fun vn21 vt22 => (atNil vt22 (bif (decide ((IntKind.wrap .i64 vn21) = (0 : Int))) then (bif ((decide (vn12 = (1 : Int))) && ((decide (vn13 = (0 : Int))) && true)) then (bif (decide ((((List.length vl19) : Nat) : Int) = (1 : Int))) then (bif (decide ((0 : Int) < (((List.length vl19) : Nat) : Int))) then ((vl19[0]?).bind fun vy23 => (cellI .i64 (AV.cells vy23) 0 fun vn24 => (some (.bool (decide (vn24 = (8 : Int))))))) else none) else (some (.bool false))) else (some (.bool false))) else (some (.bool false)))))))))))))))))))))) := (kp_at (by kernel_rfl)).trans (by kernel_rfl)
/- oakum/adapt.Head -/
noncomputable def adapt_Head_bd : Code := Tryz.f33.body.getD .skip
noncomputable def adapt_Head_L0 (kap : FuncId → List AV → Option AV) (k : Nat) (k0 : Nat) (s0 : Int) (s10 : Int) (b3_0 : Int) (b3_1 : ByteArray) (b3_2 : ByteArray) (b3_3 : Int) (b3_4 : Int) (b3_5 : Int) (b3_6 : Int) (b3_7 : Int) (b3_8 : Int) (b3_9 : ByteArray) (b3_10 : ByteArray) (b3_11 : Int) (b3_12 : Int) (b3_13 : List AV) (b4_0 : Int) (b4_1 : ByteArray) (b4_2 : ByteArray) (b4_3 : Int) (b4_4 : Int) (b4_5 : Int) (b4_6 : Int) (b4_7 : Int) (b4_8 : Int) (b4_9 : ByteArray) (b4_10 : ByteArray) (b4_11 : Int) (b4_12 : Int) (x9 : List AV) : Option AV :=
  loop (fun fr K => code ((bs E0 k).cfg kap adapt_Head) (sel adapt_Head_bd [1, 1, 1, 1, 1, 0, 1, 0, 0]) fr K) (canon ((bs E0 k).cfg kap adapt_Head) (firstReg (sel adapt_Head_bd [1, 1, 1, 1, 1, 0, 1, 0, 0]))) k0 (mkFr 62 [(0, (.int .i64 s0)), (3, (.loc 3 0)), (4, (.loc 4 0)), (9, (.own 9)), (10, (.int .i64 s10))] [(3, (.box [(.int .i64 b3_0), (.str b3_1), (.str b3_2), (.int .i64 b3_3), (.int .i64 b3_4), (.int .i64 b3_5), (.int .i64 b3_6), (.int .i64 b3_7), (.int .i64 b3_8), (.str b3_9), (.str b3_10), (.int .i64 b3_11), (.int .i64 b3_12), (.list 2 b3_13)])), (4, (.box [(.int .i64 b4_0), (.str b4_1), (.str b4_2), (.int .i64 b4_3), (.int .i64 b4_4), (.int .i64 b4_5), (.int .i64 b4_6), (.int .i64 b4_7), (.int .i64 b4_8), (.str b4_9), (.str b4_10), (.int .i64 b4_11), (.int .i64 b4_12), .nils])), (9, (.row 3 x9 false))]) (plug ((bs E0 k).cfg kap adapt_Head) (retK ((bs E0 k).cfg kap adapt_Head) [] Tryz.f33 [] some) [.blk 0, .seqR (sel adapt_Head_bd [1, 1, 1, 1, 1, 1])])
theorem adapt_Head_L0_s (kap : FuncId → List AV → Option AV) (k : Nat) (k0 : Nat) (s0 : Int) (s10 : Int) (b3_0 : Int) (b3_1 : ByteArray) (b3_2 : ByteArray) (b3_3 : Int) (b3_4 : Int) (b3_5 : Int) (b3_6 : Int) (b3_7 : Int) (b3_8 : Int) (b3_9 : ByteArray) (b3_10 : ByteArray) (b3_11 : Int) (b3_12 : Int) (b3_13 : List AV) (b4_0 : Int) (b4_1 : ByteArray) (b4_2 : ByteArray) (b4_3 : Int) (b4_4 : Int) (b4_5 : Int) (b4_6 : Int) (b4_7 : Int) (b4_8 : Int) (b4_9 : ByteArray) (b4_10 : ByteArray) (b4_11 : Int) (b4_12 : Int) (x9 : List AV) : adapt_Head_L0 kap k (k0 + 1) s0 s10 b3_0 b3_1 b3_2 b3_3 b3_4 b3_5 b3_6 b3_7 b3_8 b3_9 b3_10 b3_11 b3_12 b3_13 b4_0 b4_1 b4_2 b4_3 b4_4 b4_5 b4_6 b4_7 b4_8 b4_9 b4_10 b4_11 b4_12 x9 =
  (bif (decide (s10 ≤ (14 : Int))) then (callB (kap adapt_can [(.int .i64 s0), (.agg [(.int .i64 b3_0), (.str b3_1), (.str b3_2), (.int .i64 b3_3), (.int .i64 b3_4), (.int .i64 b3_5), (.int .i64 b3_6), (.int .i64 b3_7), (.int .i64 b3_8), (.str b3_9), (.str b3_10), (.int .i64 b3_11), (.int .i64 b3_12), (.list 2 b3_13)]), (.int .i64 s10)]) fun vq12 => (bif vq12 then (adapt_Head_L0 kap k k0 s0 (IntKind.wrap .i64 (s10 + (1 : Int))) b3_0 b3_1 b3_2 b3_3 b3_4 b3_5 b3_6 b3_7 b3_8 b3_9 b3_10 b3_11 b3_12 b3_13 b4_0 b4_1 b4_2 b4_3 b4_4 b4_5 b4_6 b4_7 b4_8 b4_9 b4_10 b4_11 b4_12 x9) else (callT (kap adapt_field [(.int .i64 s0), (.agg [(.int .i64 b3_0), (.str b3_1), (.str b3_2), (.int .i64 b3_3), (.int .i64 b3_4), (.int .i64 b3_5), (.int .i64 b3_6), (.int .i64 b3_7), (.int .i64 b3_8), (.str b3_9), (.str b3_10), (.int .i64 b3_11), (.int .i64 b3_12), (.list 2 b3_13)]), (.int .i64 s10)]) fun vt14 => (tupG 14 vt14 fun vg15 vt16 => (cellI .i64 vg15 0 fun vn17 => (cellS vg15 1 fun vs18 => (cellS vg15 2 fun vs19 => (cellI .i64 vg15 3 fun vn20 => (cellI .i64 vg15 4 fun vn21 => (cellI .i64 vg15 5 fun vn22 => (cellI .i64 vg15 6 fun vn23 => (cellI .i64 vg15 7 fun vn24 => (cellI .i64 vg15 8 fun vn25 => (cellS vg15 9 fun vs26 => (cellS vg15 10 fun vs27 => (cellI .i64 vg15 11 fun vn28 => (cellI .i64 vg15 12 fun vn29 => (cellL 2 vg15 13 fun vl30 => (tupB vt16 fun vq31 vt32 => (atNil vt32 (bif (!vq31) then (some (.tup [(.agg [(.int .i64 (0 : Int)), (.str (str [])), (.str (str [])), (.int .i64 (0 : Int)), (.int .i64 (0 : Int)), (.int .i64 (0 : Int)), (.int .i64 (0 : Int)), (.int .i64 (0 : Int)), (.int .i64 (0 : Int)), (.str (str [])), (.str (str [])), (.int .i64 (0 : Int)), (.int .i64 (0 : Int)), (.list 2 [])]), (.list 1 []), (.int .u8 (16 : Int))])) else (bif (decide (((List.length x9) + 1) * 8 ≤ 140737488355328) && decide (((List.length x9) + 1) ≤ 9223372036854775807)) then (adapt_Head_L0 kap k k0 s0 (IntKind.wrap .i64 (s10 + (1 : Int))) vn17 vs18 vs19 vn20 vn21 vn22 vn23 vn24 vn25 vs26 vs27 vn28 vn29 vl30 b4_0 b4_1 b4_2 b4_3 b4_4 b4_5 b4_6 b4_7 b4_8 b4_9 b4_10 b4_11 b4_12 (x9 ++ [(.int .i64 (if (13 : Int) < s10 then (13 : Int) else s10))])) else none)))))))))))))))))))))) else (bif (decide ((((List.length b3_13) : Nat) : Int) = (0 : Int))) then (some (.tup [(.agg [(.int .i64 b3_0), (.str b3_1), (.str b3_2), (.int .i64 b3_3), (.int .i64 b3_4), (.int .i64 b3_5), (.int .i64 b3_6), (.int .i64 b3_7), (.int .i64 b3_8), (.str b3_9), (.str b3_10), (.int .i64 b3_11), (.int .i64 b3_12), (.list 2 [])]), (.list 1 x9), (.int .u8 (0 : Int))])) else (some (.tup [(.agg [(.int .i64 b3_0), (.str b3_1), (.str b3_2), (.int .i64 b3_3), (.int .i64 b3_4), (.int .i64 b3_5), (.int .i64 b3_6), (.int .i64 b3_7), (.int .i64 b3_8), (.str b3_9), (.str b3_10), (.int .i64 b3_11), (.int .i64 b3_12), (.list 2 b3_13)]), (.list 1 x9), (.int .u8 (0 : Int))])))) := by kernel_rfl
theorem adapt_Head_eq {E : Ext} [Core E] (k n : Nat) (a0 : Int) (a1_0 : Int) (a1_1 : ByteArray) (a1_2 : ByteArray) (a1_3 : Int) (a1_4 : Int) (a1_5 : Int) (a1_6 : Int) (a1_7 : Int) (a1_8 : Int) (a1_9 : ByteArray) (a1_10 : ByteArray) (a1_11 : Int) (a1_12 : Int) (a1_13 : List AV) : kp E k (n + 1) adapt_Head [(.int .i64 a0), (.agg [(.int .i64 a1_0), (.str a1_1), (.str a1_2), (.int .i64 a1_3), (.int .i64 a1_4), (.int .i64 a1_5), (.int .i64 a1_6), (.int .i64 a1_7), (.int .i64 a1_8), (.str a1_9), (.str a1_10), (.int .i64 a1_11), (.int .i64 a1_12), (.list 2 a1_13)])] =
  (callT (kp E k n rep_First [(.int .i64 a0), (.agg [(.int .i64 a1_0), (.str a1_1), (.str a1_2), (.int .i64 a1_3), (.int .i64 a1_4), (.int .i64 a1_5), (.int .i64 a1_6), (.int .i64 a1_7), (.int .i64 a1_8), (.str a1_9), (.str a1_10), (.int .i64 a1_11), (.int .i64 a1_12), (.list 2 a1_13)])]) fun vt2 => (tupI .i64 vt2 fun vn3 vt4 => (tupI .u8 vt4 fun vn5 vt6 => (atNil vt6 (bif (!(decide (vn5 = (0 : Int)))) then (some (.tup [(.agg [(.int .i64 (0 : Int)), (.str (str [])), (.str (str [])), (.int .i64 (0 : Int)), (.int .i64 (0 : Int)), (.int .i64 (0 : Int)), (.int .i64 (0 : Int)), (.int .i64 (0 : Int)), (.int .i64 (0 : Int)), (.str (str [])), (.str (str [])), (.int .i64 (0 : Int)), (.int .i64 (0 : Int)), (.list 2 [])]), (.list 1 []), (.int .u8 vn5)])) else (callL 2 (kp E k n slices_Clone_api_Pair [(.list 2 a1_13)]) fun vl8 => (callS (kp E k n strings_Clone [(.str a1_1)]) fun vs10 => (adapt_Head_L0 (kp E k n) k k a0 (1 : Int) a1_0 vs10 a1_2 a1_3 a1_4 a1_5 a1_6 a1_7 a1_8 a1_9 a1_10 a1_11 a1_12 vl8 (0 : Int) (str []) (str []) (0 : Int) (0 : Int) (0 : Int) (0 : Int) (0 : Int) (0 : Int) (str []) (str []) (0 : Int) (0 : Int) [])))))))) := (kp_at (by kernel_rfl)).trans (by kernel_rfl)
/- oakum/oakumref34.Head -/
/- oakum/adapt.Items -/
/- oakum/adapt.can -/
theorem adapt_can_eq {E : Ext} [Core E] (k n : Nat) (a0 : Int) (a1_0 : Int) (a1_1 : ByteArray) (a1_2 : ByteArray) (a1_3 : Int) (a1_4 : Int) (a1_5 : Int) (a1_6 : Int) (a1_7 : Int) (a1_8 : Int) (a1_9 : ByteArray) (a1_10 : ByteArray) (a1_11 : Int) (a1_12 : Int) (a1_13 : List AV) (a2 : Int) : kp E k (n + 1) adapt_can [(.int .i64 a0), (.agg [(.int .i64 a1_0), (.str a1_1), (.str a1_2), (.int .i64 a1_3), (.int .i64 a1_4), (.int .i64 a1_5), (.int .i64 a1_6), (.int .i64 a1_7), (.int .i64 a1_8), (.str a1_9), (.str a1_10), (.int .i64 a1_11), (.int .i64 a1_12), (.list 2 a1_13)]), (.int .i64 a2)] =
  (callT (kp E k n rep_Can [(.int .i64 a0), (.agg [(.int .i64 a1_0), (.str a1_1), (.str a1_2), (.int .i64 a1_3), (.int .i64 a1_4), (.int .i64 a1_5), (.int .i64 a1_6), (.int .i64 a1_7), (.int .i64 a1_8), (.str a1_9), (.str a1_10), (.int .i64 a1_11), (.int .i64 a1_12), (.list 2 a1_13)]), (.int .i64 a2)]) fun vt2 => (tupB vt2 fun vq3 vt4 => (tupI .u8 vt4 fun vn5 vt6 => (atNil vt6 (bif vq3 then (some (.bool (decide (vn5 = (0 : Int))))) else (some (.bool false))))))) := (kp_at (by kernel_rfl)).trans (by kernel_rfl)
/- oakum/adapt.field -/
noncomputable def adapt_field_bd : Code := Tryz.f81.body.getD .skip
noncomputable def adapt_field_L0 (kap : FuncId → List AV → Option AV) (k : Nat) (k0 : Nat) (s0 : Int) (s2 : Int) (b4_0 : Int) (b4_1 : ByteArray) (b4_2 : ByteArray) (b4_3 : Int) (b4_4 : Int) (b4_5 : Int) (b4_6 : Int) (b4_7 : Int) (b4_8 : Int) (b4_9 : ByteArray) (b4_10 : ByteArray) (b4_11 : Int) (b4_12 : Int) (b4_13 : List AV) (b6_0 : Int) (b6_1 : ByteArray) (b6_2 : ByteArray) (b6_3 : Int) (b6_4 : Int) (b6_5 : Int) (b6_6 : Int) (b6_7 : Int) (b6_8 : Int) (b6_9 : ByteArray) (b6_10 : ByteArray) (b6_11 : Int) (b6_12 : Int) : Option AV :=
  loop (fun fr K => code ((bs E0 k).cfg kap adapt_field) (sel adapt_field_bd [1, 1, 0, 1, 0, 1, 1, 1, 1, 1, 1, 1, 1, 1, 1, 1, 1, 1, 1, 1, 1, 1, 1, 1, 0, 0, 0, 0]) fr K) (canon ((bs E0 k).cfg kap adapt_field) (firstReg (sel adapt_field_bd [1, 1, 0, 1, 0, 1, 1, 1, 1, 1, 1, 1, 1, 1, 1, 1, 1, 1, 1, 1, 1, 1, 1, 1, 0, 0, 0, 0]))) k0 (mkFr 102 [(0, (.int .i64 s0)), (2, (.int .i64 s2)), (4, (.loc 4 0)), (6, (.loc 6 0))] [(4, (.box [(.int .i64 b4_0), (.str b4_1), (.str b4_2), (.int .i64 b4_3), (.int .i64 b4_4), (.int .i64 b4_5), (.int .i64 b4_6), (.int .i64 b4_7), (.int .i64 b4_8), (.str b4_9), (.str b4_10), (.int .i64 b4_11), (.int .i64 b4_12), (.list 2 b4_13)])), (6, (.box [(.int .i64 b6_0), (.str b6_1), (.str b6_2), (.int .i64 b6_3), (.int .i64 b6_4), (.int .i64 b6_5), (.int .i64 b6_6), (.int .i64 b6_7), (.int .i64 b6_8), (.str b6_9), (.str b6_10), (.int .i64 b6_11), (.int .i64 b6_12), .nils]))]) (plug ((bs E0 k).cfg kap adapt_field) (retK ((bs E0 k).cfg kap adapt_field) [] Tryz.f81 [] some) [.blk 1, .seqR (sel adapt_field_bd [1, 1, 0, 1, 0, 1, 1, 1, 1, 1, 1, 1, 1, 1, 1, 1, 1, 1, 1, 1, 1, 1, 1, 1, 0, 1]), .blk 0, .seqR (sel adapt_field_bd [1, 1, 1])])
theorem adapt_field_L0_s (kap : FuncId → List AV → Option AV) (k : Nat) (k0 : Nat) (s0 : Int) (s2 : Int) (b4_0 : Int) (b4_1 : ByteArray) (b4_2 : ByteArray) (b4_3 : Int) (b4_4 : Int) (b4_5 : Int) (b4_6 : Int) (b4_7 : Int) (b4_8 : Int) (b4_9 : ByteArray) (b4_10 : ByteArray) (b4_11 : Int) (b4_12 : Int) (b4_13 : List AV) (b6_0 : Int) (b6_1 : ByteArray) (b6_2 : ByteArray) (b6_3 : Int) (b6_4 : Int) (b6_5 : Int) (b6_6 : Int) (b6_7 : Int) (b6_8 : Int) (b6_9 : ByteArray) (b6_10 : ByteArray) (b6_11 : Int) (b6_12 : Int) : adapt_field_L0 kap k (k0 + 1) s0 s2 b4_0 b4_1 b4_2 b4_3 b4_4 b4_5 b4_6 b4_7 b4_8 b4_9 b4_10 b4_11 b4_12 b4_13 b6_0 b6_1 b6_2 b6_3 b6_4 b6_5 b6_6 b6_7 b6_8 b6_9 b6_10 b6_11 b6_12 =
  (bif (decide ((((List.length b4_13) : Nat) : Int) > (0 : Int))) then (callB (kap adapt_can [(.int .i64 s0), (.agg [(.int .i64 b4_0), (.str b4_1), (.str b4_2), (.int .i64 b4_3), (.int .i64 b4_4), (.int .i64 b4_5), (.int .i64 b4_6), (.int .i64 b4_7), (.int .i64 b4_8), (.str b4_9), (.str b4_10), (.int .i64 b4_11), (.int .i64 b4_12), (.list 2 b4_13)]), (.int .i64 s2)]) fun vq40 => (bif (!vq40) then (bif ((decide ((0 : Int) ≤ (IntKind.wrap .i64 ((((List.length b4_13) : Nat) : Int) - (1 : Int))))) && (decide ((IntKind.wrap .i64 ((((List.length b4_13) : Nat) : Int) - (1 : Int))) ≤ (((List.length b4_13) : Nat) : Int)))) then (adapt_field_L0 kap k k0 s0 s2 b4_0 b4_1 b4_2 b4_3 b4_4 b4_5 b4_6 b4_7 b4_8 b4_9 b4_10 b4_11 b4_12 (List.drop 0 (List.take (Int.toNat (IntKind.wrap .i64 ((((List.length b4_13) : Nat) : Int) - (1 : Int)))) b4_13)) b6_0 b6_1 b6_2 b6_3 b6_4 b6_5 b6_6 b6_7 b6_8 b6_9 b6_10 b6_11 b6_12) else none) else (callB (kap adapt_can [(.int .i64 s0), (.agg [(.int .i64 b4_0), (.str b4_1), (.str b4_2), (.int .i64 b4_3), (.int .i64 b4_4), (.int .i64 b4_5), (.int .i64 b4_6), (.int .i64 b4_7), (.int .i64 b4_8), (.str b4_9), (.str b4_10), (.int .i64 b4_11), (.int .i64 b4_12), (.list 2 b4_13)]), (.int .i64 s2)]) fun vq42 => (some (.tup [(.agg [(.int .i64 b4_0), (.str b4_1), (.str b4_2), (.int .i64 b4_3), (.int .i64 b4_4), (.int .i64 b4_5), (.int .i64 b4_6), (.int .i64 b4_7), (.int .i64 b4_8), (.str b4_9), (.str b4_10), (.int .i64 b4_11), (.int .i64 b4_12), (.list 2 b4_13)]), (.bool vq42)]))))) else (callB (kap adapt_can [(.int .i64 s0), (.agg [(.int .i64 b4_0), (.str b4_1), (.str b4_2), (.int .i64 b4_3), (.int .i64 b4_4), (.int .i64 b4_5), (.int .i64 b4_6), (.int .i64 b4_7), (.int .i64 b4_8), (.str b4_9), (.str b4_10), (.int .i64 b4_11), (.int .i64 b4_12), (.list 2 b4_13)]), (.int .i64 s2)]) fun vq44 => (some (.tup [(.agg [(.int .i64 b4_0), (.str b4_1), (.str b4_2), (.int .i64 b4_3), (.int .i64 b4_4), (.int .i64 b4_5), (.int .i64 b4_6), (.int .i64 b4_7), (.int .i64 b4_8), (.str b4_9), (.str b4_10), (.int .i64 b4_11), (.int .i64 b4_12), (.list 2 b4_13)]), (.bool vq44)])))) := by kernel_rfl
theorem adapt_field_eq {E : Ext} [Core E] (k n : Nat) (a0 : Int) (a1_0 : Int) (a1_1 : ByteArray) (a1_2 : ByteArray) (a1_3 : Int) (a1_4 : Int) (a1_5 : Int) (a1_6 : Int) (a1_7 : Int) (a1_8 : Int) (a1_9 : ByteArray) (a1_10 : ByteArray) (a1_11 : Int) (a1_12 : Int) (a1_13 : List AV) (a2 : Int) : kp E k (n + 1) adapt_field [(.int .i64 a0), (.agg [(.int .i64 a1_0), (.str a1_1), (.str a1_2), (.int .i64 a1_3), (.int .i64 a1_4), (.int .i64 a1_5), (.int .i64 a1_6), (.int .i64 a1_7), (.int .i64 a1_8), (.str a1_9), (.str a1_10), (.int .i64 a1_11), (.int .i64 a1_12), (.list 2 a1_13)]), (.int .i64 a2)] =
  (bif (decide (a2 = (2 : Int))) then (callT (kp E k n adapt_name [(.int .i64 a0), (.agg [(.int .i64 a1_0), (.str a1_1), (.str a1_2), (.int .i64 a1_3), (.int .i64 a1_4), (.int .i64 a1_5), (.int .i64 a1_6), (.int .i64 a1_7), (.int .i64 a1_8), (.str a1_9), (.str a1_10), (.int .i64 a1_11), (.int .i64 a1_12), (.list 2 a1_13)])]) fun vt2 => (tupG 14 vt2 fun vg3 vt4 => (cellI .i64 vg3 0 fun vn5 => (cellS vg3 1 fun vs6 => (cellS vg3 2 fun vs7 => (cellI .i64 vg3 3 fun vn8 => (cellI .i64 vg3 4 fun vn9 => (cellI .i64 vg3 5 fun vn10 => (cellI .i64 vg3 6 fun vn11 => (cellI .i64 vg3 7 fun vn12 => (cellI .i64 vg3 8 fun vn13 => (cellS vg3 9 fun vs14 => (cellS vg3 10 fun vs15 => (cellI .i64 vg3 11 fun vn16 => (cellI .i64 vg3 12 fun vn17 => (cellL 2 vg3 13 fun vl18 => (tupB vt4 fun vq19 vt20 => (atNil vt20 (some (.tup [(.agg [(.int .i64 vn5), (.str vs6), (.str vs7), (.int .i64 vn8), (.int .i64 vn9), (.int .i64 vn10), (.int .i64 vn11), (.int .i64 vn12), (.int .i64 vn13), (.str vs14), (.str vs15), (.int .i64 vn16), (.int .i64 vn17), (.list 2 vl18)]), (.bool vq19)])))))))))))))))))))) else (bif (decide (a2 = (3 : Int))) then (callS (kp E k n adapt_text [(.int .i64 a0), (.str a1_2), (.int .i64 (100 : Int))]) fun vs22 => (callI .i64 (kp E k n item_Wrong [(.agg [(.int .i64 a1_0), (.str a1_1), (.str vs22), (.int .i64 a1_3), (.int .i64 a1_4), (.int .i64 a1_5), (.int .i64 a1_6), (.int .i64 a1_7), (.int .i64 a1_8), (.str a1_9), (.str a1_10), (.int .i64 a1_11), (.int .i64 a1_12), (.list 2 a1_13)])]) fun vn24 => (bif (decide (vn24 = (0 : Int))) then (callB (kp E k n adapt_can [(.int .i64 a0), (.agg [(.int .i64 a1_0), (.str a1_1), (.str vs22), (.int .i64 a1_3), (.int .i64 a1_4), (.int .i64 a1_5), (.int .i64 a1_6), (.int .i64 a1_7), (.int .i64 a1_8), (.str a1_9), (.str a1_10), (.int .i64 a1_11), (.int .i64 a1_12), (.list 2 a1_13)]), (.int .i64 a2)]) fun vq26 => (some (.tup [(.agg [(.int .i64 a1_0), (.str a1_1), (.str vs22), (.int .i64 a1_3), (.int .i64 a1_4), (.int .i64 a1_5), (.int .i64 a1_6), (.int .i64 a1_7), (.int .i64 a1_8), (.str a1_9), (.str a1_10), (.int .i64 a1_11), (.int .i64 a1_12), (.list 2 a1_13)]), (.bool vq26)]))) else (some (.tup [(.agg [(.int .i64 a1_0), (.str a1_1), (.str vs22), (.int .i64 a1_3), (.int .i64 a1_4), (.int .i64 a1_5), (.int .i64 a1_6), (.int .i64 a1_7), (.int .i64 a1_8), (.str a1_9), (.str a1_10), (.int .i64 a1_11), (.int .i64 a1_12), (.list 2 a1_13)]), (.bool false)]))))) else (bif (decide (a2 = (4 : Int))) then (some (.tup [(.agg [(.int .i64 a1_0), (.str a1_1), (.str a1_2), (.int .i64 (Int.tmod a1_3 (4096 : Int))), (.int .i64 a1_4), (.int .i64 a1_5), (.int .i64 a1_6), (.int .i64 a1_7), (.int .i64 a1_8), (.str a1_9), (.str a1_10), (.int .i64 a1_11), (.int .i64 a1_12), (.list 2 a1_13)]), (.bool true)])) else (bif (decide (a2 = (5 : Int))) then (some (.tup [(.agg [(.int .i64 a1_0), (.str a1_1), (.str a1_2), (.int .i64 a1_3), (.int .i64 (65534 : Int)), (.int .i64 a1_5), (.int .i64 a1_6), (.int .i64 a1_7), (.int .i64 a1_8), (.str a1_9), (.str a1_10), (.int .i64 a1_11), (.int .i64 a1_12), (.list 2 a1_13)]), (.bool true)])) else (bif (decide (a2 = (6 : Int))) then (some (.tup [(.agg [(.int .i64 a1_0), (.str a1_1), (.str a1_2), (.int .i64 a1_3), (.int .i64 a1_4), (.int .i64 (65534 : Int)), (.int .i64 a1_6), (.int .i64 a1_7), (.int .i64 a1_8), (.str a1_9), (.str a1_10), (.int .i64 a1_11), (.int .i64 a1_12), (.list 2 a1_13)]), (.bool true)])) else (bif (decide (a2 = (8 : Int))) then (callG 2 (kp E k n adapt_when [(.int .i64 a0), (.agg [(.int .i64 a1_0), (.str a1_1), (.str a1_2), (.int .i64 a1_3), (.int .i64 a1_4), (.int .i64 a1_5), (.int .i64 a1_6), (.int .i64 a1_7), (.int .i64 a1_8), (.str a1_9), (.str a1_10), (.int .i64 a1_11), (.int .i64 a1_12), (.list 2 a1_13)])]) fun vg28 => (cellI .i64 vg28 0 fun vn29 => (cellI .i64 vg28 1 fun vn30 => (some (.tup [(.agg [(.int .i64 a1_0), (.str a1_1), (.str a1_2), (.int .i64 a1_3), (.int .i64 a1_4), (.int .i64 a1_5), (.int .i64 a1_6), (.int .i64 vn29), (.int .i64 vn30), (.str a1_9), (.str a1_10), (.int .i64 a1_11), (.int .i64 a1_12), (.list 2 a1_13)]), (.bool true)]))))) else (bif (decide (a2 = (9 : Int))) then (callS (kp E k n adapt_people [(.int .i64 a0), (.str a1_9)]) fun vs32 => (callI .i64 (kp E k n item_Wrong [(.agg [(.int .i64 a1_0), (.str a1_1), (.str a1_2), (.int .i64 a1_3), (.int .i64 a1_4), (.int .i64 a1_5), (.int .i64 a1_6), (.int .i64 a1_7), (.int .i64 a1_8), (.str vs32), (.str a1_10), (.int .i64 a1_11), (.int .i64 a1_12), (.list 2 a1_13)])]) fun vn34 => (some (.tup [(.agg [(.int .i64 a1_0), (.str a1_1), (.str a1_2), (.int .i64 a1_3), (.int .i64 a1_4), (.int .i64 a1_5), (.int .i64 a1_6), (.int .i64 a1_7), (.int .i64 a1_8), (.str vs32), (.str a1_10), (.int .i64 a1_11), (.int .i64 a1_12), (.list 2 a1_13)]), (.bool (decide (vn34 = (0 : Int))))])))) else (bif (decide (a2 = (10 : Int))) then (callS (kp E k n adapt_people [(.int .i64 a0), (.str a1_10)]) fun vs36 => (callI .i64 (kp E k n item_Wrong [(.agg [(.int .i64 a1_0), (.str a1_1), (.str a1_2), (.int .i64 a1_3), (.int .i64 a1_4), (.int .i64 a1_5), (.int .i64 a1_6), (.int .i64 a1_7), (.int .i64 a1_8), (.str a1_9), (.str vs36), (.int .i64 a1_11), (.int .i64 a1_12), (.list 2 a1_13)])]) fun vn38 => (some (.tup [(.agg [(.int .i64 a1_0), (.str a1_1), (.str a1_2), (.int .i64 a1_3), (.int .i64 a1_4), (.int .i64 a1_5), (.int .i64 a1_6), (.int .i64 a1_7), (.int .i64 a1_8), (.str a1_9), (.str vs36), (.int .i64 a1_11), (.int .i64 a1_12), (.list 2 a1_13)]), (.bool (decide (vn38 = (0 : Int))))])))) else (bif (decide (a2 = (13 : Int))) then (some (.tup [(.agg [(.int .i64 a1_0), (.str a1_1), (.str a1_2), (.int .i64 a1_3), (.int .i64 a1_4), (.int .i64 a1_5), (.int .i64 a1_6), (.int .i64 a1_7), (.int .i64 a1_8), (.str a1_9), (.str a1_10), (.int .i64 a1_11), (.int .i64 a1_12), (.list 2 [])]), (.bool true)])) else (bif (decide (a2 = (14 : Int))) then (adapt_field_L0 (kp E k n) k k a0 a2 a1_0 a1_1 a1_2 a1_3 a1_4 a1_5 a1_6 a1_7 a1_8 a1_9 a1_10 a1_11 a1_12 a1_13 (0 : Int) (str []) (str []) (0 : Int) (0 : Int) (0 : Int) (0 : Int) (0 : Int) (0 : Int) (str []) (str []) (0 : Int) (0 : Int)) else (some (.tup [(.agg [(.int .i64 a1_0), (.str a1_1), (.str a1_2), (.int .i64 a1_3), (.int .i64 a1_4), (.int .i64 a1_5), (.int .i64 a1_6), (.int .i64 a1_7), (.int .i64 a1_8), (.str a1_9), (.str a1_10), (.int .i64 a1_11), (.int .i64 a1_12), (.list 2 a1_13)]), (.bool false)])))))))))))) := (kp_at (by kernel_rfl)).trans (by kernel_rfl)
/- oakum/oakumref34.Name -/
/- oakum/oakumref34.text -/
/- oakum/oakumref34.can -/
/- oakum/adapt.Items$1 -/
/- oakum/adapt.name -/
noncomputable def adapt_name_bd : Code := Tryz.f129.body.getD .skip
noncomputable def adapt_name_L0 (kap : FuncId → List AV → Option AV) (k : Nat) (k0 : Nat) (s0 : Int) (s23 : Int) (s24 : Int) (b3_0 : Int) (b3_1 : ByteArray) (b3_2 : ByteArray) (b3_3 : Int) (b3_4 : Int) (b3_5 : Int) (b3_6 : Int) (b3_7 : Int) (b3_8 : Int) (b3_9 : ByteArray) (b3_10 : ByteArray) (b3_11 : Int) (b3_12 : Int) (b3_13 : List AV) (b4_0 : Int) (b4_1 : ByteArray) (b4_2 : ByteArray) (b4_3 : Int) (b4_4 : Int) (b4_5 : Int) (b4_6 : Int) (b4_7 : Int) (b4_8 : Int) (b4_9 : ByteArray) (b4_10 : ByteArray) (b4_11 : Int) (b4_12 : Int) : Option AV :=
  loop (fun fr K => code ((bs E0 k).cfg kap adapt_name) (sel adapt_name_bd [1, 1, 0, 1, 0, 0]) fr K) (canon ((bs E0 k).cfg kap adapt_name) (firstReg (sel adapt_name_bd [1, 1, 0, 1, 0, 0]))) k0 (mkFr 68 [(0, (.int .i64 s0)), (3, (.loc 3 0)), (4, (.loc 4 0)), (23, (.int .i64 s23)), (24, (.int .i64 s24))] [(3, (.box [(.int .i64 b3_0), (.str b3_1), (.str b3_2), (.int .i64 b3_3), (.int .i64 b3_4), (.int .i64 b3_5), (.int .i64 b3_6), (.int .i64 b3_7), (.int .i64 b3_8), (.str b3_9), (.str b3_10), (.int .i64 b3_11), (.int .i64 b3_12), (.list 2 b3_13)])), (4, (.box [(.int .i64 b4_0), (.str b4_1), (.str b4_2), (.int .i64 b4_3), (.int .i64 b4_4), (.int .i64 b4_5), (.int .i64 b4_6), (.int .i64 b4_7), (.int .i64 b4_8), (.str b4_9), (.str b4_10), (.int .i64 b4_11), (.int .i64 b4_12), .nils]))]) (plug ((bs E0 k).cfg kap adapt_name) (retK ((bs E0 k).cfg kap adapt_name) [] Tryz.f129 [] some) [.blk 0, .seqR (sel adapt_name_bd [1, 1, 1])])
theorem adapt_name_L0_s (kap : FuncId → List AV → Option AV) (k : Nat) (k0 : Nat) (s0 : Int) (s23 : Int) (s24 : Int) (b3_0 : Int) (b3_1 : ByteArray) (b3_2 : ByteArray) (b3_3 : Int) (b3_4 : Int) (b3_5 : Int) (b3_6 : Int) (b3_7 : Int) (b3_8 : Int) (b3_9 : ByteArray) (b3_10 : ByteArray) (b3_11 : Int) (b3_12 : Int) (b3_13 : List AV) (b4_0 : Int) (b4_1 : ByteArray) (b4_2 : ByteArray) (b4_3 : Int) (b4_4 : Int) (b4_5 : Int) (b4_6 : Int) (b4_7 : Int) (b4_8 : Int) (b4_9 : ByteArray) (b4_10 : ByteArray) (b4_11 : Int) (b4_12 : Int) : adapt_name_L0 kap k (k0 + 1) s0 s23 s24 b3_0 b3_1 b3_2 b3_3 b3_4 b3_5 b3_6 b3_7 b3_8 b3_9 b3_10 b3_11 b3_12 b3_13 b4_0 b4_1 b4_2 b4_3 b4_4 b4_5 b4_6 b4_7 b4_8 b4_9 b4_10 b4_11 b4_12 =
  (bif (decide (s24 < s23)) then (bif ((decide ((0 : Int) ≤ s24)) && (decide (s24 < (((ByteArray.size b3_1) : Nat) : Int)))) then (bif (!(decide ((byteAt b3_1 (Int.toNat s24)) = (47 : Int)))) then (adapt_name_L0 kap k k0 s0 s23 (IntKind.wrap .i64 (s24 + (1 : Int))) b3_0 b3_1 b3_2 b3_3 b3_4 b3_5 b3_6 b3_7 b3_8 b3_9 b3_10 b3_11 b3_12 b3_13 b4_0 b4_1 b4_2 b4_3 b4_4 b4_5 b4_6 b4_7 b4_8 b4_9 b4_10 b4_11 b4_12) else (bif ((decide ((0 : Int) ≤ (IntKind.wrap .i64 (s24 + (1 : Int))))) && (decide ((IntKind.wrap .i64 (s24 + (1 : Int))) ≤ (((ByteArray.size b3_1) : Nat) : Int)))) then (callG 14 (kap adapt_named [(.agg [(.int .i64 b3_0), (.str b3_1), (.str b3_2), (.int .i64 b3_3), (.int .i64 b3_4), (.int .i64 b3_5), (.int .i64 b3_6), (.int .i64 b3_7), (.int .i64 b3_8), (.str b3_9), (.str b3_10), (.int .i64 b3_11), (.int .i64 b3_12), (.list 2 b3_13)]), (.str (ByteArray.extract b3_1 (Int.toNat (IntKind.wrap .i64 (s24 + (1 : Int)))) (ByteArray.size b3_1)))]) fun vg22 => (cellI .i64 vg22 0 fun vn23 => (cellS vg22 1 fun vs24 => (cellS vg22 2 fun vs25 => (cellI .i64 vg22 3 fun vn26 => (cellI .i64 vg22 4 fun vn27 => (cellI .i64 vg22 5 fun vn28 => (cellI .i64 vg22 6 fun vn29 => (cellI .i64 vg22 7 fun vn30 => (cellI .i64 vg22 8 fun vn31 => (cellS vg22 9 fun vs32 => (cellS vg22 10 fun vs33 => (cellI .i64 vg22 11 fun vn34 => (cellI .i64 vg22 12 fun vn35 => (cellL 2 vg22 13 fun vl36 => (callI .i64 (kap item_Wrong [(.agg [(.int .i64 vn23), (.str vs24), (.str vs25), (.int .i64 vn26), (.int .i64 vn27), (.int .i64 vn28), (.int .i64 vn29), (.int .i64 vn30), (.int .i64 vn31), (.str vs32), (.str vs33), (.int .i64 vn34), (.int .i64 vn35), (.list 2 vl36)])]) fun vn38 => (bif (decide (vn38 = (0 : Int))) then (callB (kap adapt_can [(.int .i64 s0), (.agg [(.int .i64 vn23), (.str vs24), (.str vs25), (.int .i64 vn26), (.int .i64 vn27), (.int .i64 vn28), (.int .i64 vn29), (.int .i64 vn30), (.int .i64 vn31), (.str vs32), (.str vs33), (.int .i64 vn34), (.int .i64 vn35), (.list 2 vl36)]), (.int .i64 (2 : Int))]) fun vq40 => (bif vq40 then (some (.tup [(.agg [(.int .i64 vn23), (.str vs24), (.str vs25), (.int .i64 vn26), (.int .i64 vn27), (.int .i64 vn28), (.int .i64 vn29), (.int .i64 vn30), (.int .i64 vn31), (.str vs32), (.str vs33), (.int .i64 vn34), (.int .i64 vn35), (.list 2 vl36)]), (.bool true)])) else (adapt_name_L0 kap k k0 s0 s23 (IntKind.wrap .i64 (s24 + (1 : Int))) b3_0 b3_1 b3_2 b3_3 b3_4 b3_5 b3_6 b3_7 b3_8 b3_9 b3_10 b3_11 b3_12 b3_13 b4_0 b4_1 b4_2 b4_3 b4_4 b4_5 b4_6 b4_7 b4_8 b4_9 b4_10 b4_11 b4_12))) else (adapt_name_L0 kap k k0 s0 s23 (IntKind.wrap .i64 (s24 + (1 : Int))) b3_0 b3_1 b3_2 b3_3 b3_4 b3_5 b3_6 b3_7 b3_8 b3_9 b3_10 b3_11 b3_12 b3_13 b4_0 b4_1 b4_2 b4_3 b4_4 b4_5 b4_6 b4_7 b4_8 b4_9 b4_10 b4_11 b4_12)))))))))))))))))) else none)) else none) else (callT (kap path_Up [(.str b3_1)]) fun vt42 => (tupS vt42 fun vs43 vt44 => (tupS vt44 fun vs45 vt46 => (atNil vt46 (callS (kap utf_Cut [(.str vs45), (.int .i64 (99 : Int))]) fun vs48 => (callG 14 (kap adapt_named [(.agg [(.int .i64 b3_0), (.str b3_1), (.str b3_2), (.int .i64 b3_3), (.int .i64 b3_4), (.int .i64 b3_5), (.int .i64 b3_6), (.int .i64 b3_7), (.int .i64 b3_8), (.str b3_9), (.str b3_10), (.int .i64 b3_11), (.int .i64 b3_12), (.list 2 b3_13)]), (.str vs48)]) fun vg50 => (cellI .i64 vg50 0 fun vn51 => (cellS vg50 1 fun vs52 => (cellS vg50 2 fun vs53 => (cellI .i64 vg50 3 fun vn54 => (cellI .i64 vg50 4 fun vn55 => (cellI .i64 vg50 5 fun vn56 => (cellI .i64 vg50 6 fun vn57 => (cellI .i64 vg50 7 fun vn58 => (cellI .i64 vg50 8 fun vn59 => (cellS vg50 9 fun vs60 => (cellS vg50 10 fun vs61 => (cellI .i64 vg50 11 fun vn62 => (cellI .i64 vg50 12 fun vn63 => (cellL 2 vg50 13 fun vl64 => (callI .i64 (kap item_Wrong [(.agg [(.int .i64 vn51), (.str vs52), (.str vs53), (.int .i64 vn54), (.int .i64 vn55), (.int .i64 vn56), (.int .i64 vn57), (.int .i64 vn58), (.int .i64 vn59), (.str vs60), (.str vs61), (.int .i64 vn62), (.int .i64 vn63), (.list 2 vl64)])]) fun vn66 => (bif (decide (vn66 = (0 : Int))) then (callB (kap adapt_can [(.int .i64 s0), (.agg [(.int .i64 vn51), (.str vs52), (.str vs53), (.int .i64 vn54), (.int .i64 vn55), (.int .i64 vn56), (.int .i64 vn57), (.int .i64 vn58), (.int .i64 vn59), (.str vs60), (.str vs61), (.int .i64 vn62), (.int .i64 vn63), (.list 2 vl64)]), (.int .i64 (2 : Int))]) fun vq68 => (some (.tup [(.agg [(.int .i64 vn51), (.str vs52), (.str vs53), (.int .i64 vn54), (.int .i64 vn55), (.int .i64 vn56), (.int .i64 vn57), (.int .i64 vn58), (.int .i64 vn59), (.str vs60), (.str vs61), (.int .i64 vn62), (.int .i64 vn63), (.list 2 vl64)]), (.bool vq68)]))) else (some (.tup [(.agg [(.int .i64 vn51), (.str vs52), (.str vs53), (.int .i64 vn54), (.int .i64 vn55), (.int .i64 vn56), (.int .i64 vn57), (.int .i64 vn58), (.int .i64 vn59), (.str vs60), (.str vs61), (.int .i64 vn62), (.int .i64 vn63), (.list 2 vl64)]), (.bool false)]))))))))))))))))))))))))) := by kernel_rfl
theorem adapt_name_eq {E : Ext} [Core E] (k n : Nat) (a0 : Int) (a1_0 : Int) (a1_1 : ByteArray) (a1_2 : ByteArray) (a1_3 : Int) (a1_4 : Int) (a1_5 : Int) (a1_6 : Int) (a1_7 : Int) (a1_8 : Int) (a1_9 : ByteArray) (a1_10 : ByteArray) (a1_11 : Int) (a1_12 : Int) (a1_13 : List AV) : kp E k (n + 1) adapt_name [(.int .i64 a0), (.agg [(.int .i64 a1_0), (.str a1_1), (.str a1_2), (.int .i64 a1_3), (.int .i64 a1_4), (.int .i64 a1_5), (.int .i64 a1_6), (.int .i64 a1_7), (.int .i64 a1_8), (.str a1_9), (.str a1_10), (.int .i64 a1_11), (.int .i64 a1_12), (.list 2 a1_13)])] =
  (bif (decide (a0 = (3 : Int))) then (callS (kp E k n utf_Mend [(.str a1_1)]) fun vs2 => (callG 14 (kp E k n adapt_named [(.agg [(.int .i64 a1_0), (.str a1_1), (.str a1_2), (.int .i64 a1_3), (.int .i64 a1_4), (.int .i64 a1_5), (.int .i64 a1_6), (.int .i64 a1_7), (.int .i64 a1_8), (.str a1_9), (.str a1_10), (.int .i64 a1_11), (.int .i64 a1_12), (.list 2 a1_13)]), (.str vs2)]) fun vg4 => (cellI .i64 vg4 0 fun vn5 => (cellS vg4 1 fun vs6 => (cellS vg4 2 fun vs7 => (cellI .i64 vg4 3 fun vn8 => (cellI .i64 vg4 4 fun vn9 => (cellI .i64 vg4 5 fun vn10 => (cellI .i64 vg4 6 fun vn11 => (cellI .i64 vg4 7 fun vn12 => (cellI .i64 vg4 8 fun vn13 => (cellS vg4 9 fun vs14 => (cellS vg4 10 fun vs15 => (cellI .i64 vg4 11 fun vn16 => (cellI .i64 vg4 12 fun vn17 => (cellL 2 vg4 13 fun vl18 => (callB (kp E k n adapt_can [(.int .i64 a0), (.agg [(.int .i64 vn5), (.str vs6), (.str vs7), (.int .i64 vn8), (.int .i64 vn9), (.int .i64 vn10), (.int .i64 vn11), (.int .i64 vn12), (.int .i64 vn13), (.str vs14), (.str vs15), (.int .i64 vn16), (.int .i64 vn17), (.list 2 vl18)]), (.int .i64 (2 : Int))]) fun vq20 => (some (.tup [(.agg [(.int .i64 vn5), (.str vs6), (.str vs7), (.int .i64 vn8), (.int .i64 vn9), (.int .i64 vn10), (.int .i64 vn11), (.int .i64 vn12), (.int .i64 vn13), (.str vs14), (.str vs15), (.int .i64 vn16), (.int .i64 vn17), (.list 2 vl18)]), (.bool vq20)]))))))))))))))))))) else (adapt_name_L0 (kp E k n) k k a0 (((ByteArray.size a1_1) : Nat) : Int) (0 : Int) a1_0 a1_1 a1_2 a1_3 a1_4 a1_5 a1_6 a1_7 a1_8 a1_9 a1_10 a1_11 a1_12 a1_13 (0 : Int) (str []) (str []) (0 : Int) (0 : Int) (0 : Int) (0 : Int) (0 : Int) (0 : Int) (str []) (str []) (0 : Int) (0 : Int))) := (kp_at (by kernel_rfl)).trans (by kernel_rfl)
/- oakum/adapt.text -/
theorem adapt_text_eq {E : Ext} [Core E] (k n : Nat) (a0 : Int) (a1 : ByteArray) (a2 : Int) : kp E k (n + 1) adapt_text [(.int .i64 a0), (.str a1), (.int .i64 a2)] =
  (bif (decide (a0 = (3 : Int))) then (callS (kp E k n utf_Mend [(.str a1)]) fun vs2 => (some (.str vs2))) else (callS (kp E k n utf_Cut [(.str a1), (.int .i64 a2)]) fun vs4 => (some (.str vs4)))) := (kp_at (by kernel_rfl)).trans (by kernel_rfl)
/- oakum/adapt.when -/
theorem adapt_when_eq {E : Ext} [Core E] (k n : Nat) (a0 : Int) (a1_0 : Int) (a1_1 : ByteArray) (a1_2 : ByteArray) (a1_3 : Int) (a1_4 : Int) (a1_5 : Int) (a1_6 : Int) (a1_7 : Int) (a1_8 : Int) (a1_9 : ByteArray) (a1_10 : ByteArray) (a1_11 : Int) (a1_12 : Int) (a1_13 : List AV) : kp E k (n + 1) adapt_when [(.int .i64 a0), (.agg [(.int .i64 a1_0), (.str a1_1), (.str a1_2), (.int .i64 a1_3), (.int .i64 a1_4), (.int .i64 a1_5), (.int .i64 a1_6), (.int .i64 a1_7), (.int .i64 a1_8), (.str a1_9), (.str a1_10), (.int .i64 a1_11), (.int .i64 a1_12), (.list 2 a1_13)])] =
  (callB (kp E k n adapt_can [(.int .i64 a0), (.agg [(.int .i64 a1_0), (.str a1_1), (.str a1_2), (.int .i64 a1_3), (.int .i64 a1_4), (.int .i64 a1_5), (.int .i64 a1_6), (.int .i64 a1_7), (.int .i64 (0 : Int)), (.str a1_9), (.str a1_10), (.int .i64 a1_11), (.int .i64 a1_12), (.list 2 a1_13)]), (.int .i64 (8 : Int))]) fun vq2 => (bif (!vq2) then (bif (decide (a1_7 < (0 : Int))) then (some (.agg [(.int .i64 (0 : Int)), (.int .i64 (0 : Int))])) else (callI .i64 (kp E k n num_Most [(.int .i64 (12 : Int))]) fun vn4 => (some (.agg [(.int .i64 vn4), (.int .i64 (0 : Int))])))) else (some (.agg [(.int .i64 a1_7), (.int .i64 (0 : Int))])))) := (kp_at (by kernel_rfl)).trans (by kernel_rfl)
/- oakum/adapt.people -/
theorem adapt_people_eq {E : Ext} [Core E] (k n : Nat) (a0 : Int) (a1 : ByteArray) : kp E k (n + 1) adapt_people [(.int .i64 a0), (.str a1)] =
  (bif (decide (a0 = (1 : Int))) then (some (.str (str []))) else (callS (kp E k n adapt_text [(.int .i64 a0), (.str a1), (.int .i64 (32 : Int))]) fun vs2 => (some (.str vs2)))) := (kp_at (by kernel_rfl)).trans (by kernel_rfl)
/- oakum/adapt.named -/
theorem adapt_named_eq {E : Ext} [Core E] (k n : Nat) (a0_0 : Int) (a0_1 : ByteArray) (a0_2 : ByteArray) (a0_3 : Int) (a0_4 : Int) (a0_5 : Int) (a0_6 : Int) (a0_7 : Int) (a0_8 : Int) (a0_9 : ByteArray) (a0_10 : ByteArray) (a0_11 : Int) (a0_12 : Int) (a0_13 : List AV) (a1 : ByteArray) : kp E k (n + 1) adapt_named [(.agg [(.int .i64 a0_0), (.str a0_1), (.str a0_2), (.int .i64 a0_3), (.int .i64 a0_4), (.int .i64 a0_5), (.int .i64 a0_6), (.int .i64 a0_7), (.int .i64 a0_8), (.str a0_9), (.str a0_10), (.int .i64 a0_11), (.int .i64 a0_12), (.list 2 a0_13)]), (.str a1)] =
  (some (.agg [(.int .i64 a0_0), (.str a1), (.str a0_2), (.int .i64 a0_3), (.int .i64 a0_4), (.int .i64 a0_5), (.int .i64 a0_6), (.int .i64 a0_7), (.int .i64 a0_8), (.str a0_9), (.str a0_10), (.int .i64 a0_11), (.int .i64 a0_12), (.list 2 a0_13)])) := (kp_at (by kernel_rfl)).trans (by kernel_rfl)
end Go.Proofs.YtbkhmkcmbaffoaaGreatDoor.Eng.U


/- What is printed is read, in plain Lean. -/
set_option linter.unusedVariables false
set_option linter.unusedSimpArgs false
namespace Go.Proofs.YtbkhmkcmbaffoaaGreatDoor.P04
open Go

/-! No fewer bytes. -/
theorem printL_parts (s t : Int) : (printL s t).length = (if t = 0 then (Lib.itoa s).length else if s < 0 then 1 + (Lib.decDigits (-(s + 1)).toNat).length + 1 + (loopP 9 (1000000000 - t).toNat).length else (Lib.decDigits s.toNat).length + 1 + (loopP 9 t.toNat).length) := by
  unfold printL
  split
  · rfl
  · split
    · simp; omega
    · simp; omega
end Go.Proofs.YtbkhmkcmbaffoaaGreatDoor.P04


/- The records by the definition; what fits; the first field that can't be told. -/
set_option linter.unusedVariables false
set_option linter.unusedSectionVars false
set_option linter.unusedSimpArgs false
namespace Go.Proofs.YtbkhmkcmbaffoaaGreatDoor.Eng.U
open Go Go.RowKit Go.Proofs Go.Proofs.YtbkhmkcmbaffoaaGreatDoor.Eng Go.Proofs.YtbkhmkcmbaffoaaGreatDoor.S11 Go.Proofs.YtbkhmkcmbaffoaaGreatDoor.P04
variable {E : Ext} [Core E] [HasNum E] [HasTextV E] {k n : Nat}

/-! Pairs with keys of their own, in any order, come to the same overlay. -/
def optP (c : Bool) (p : Pair) : List Pair := bif c then [] else [p]
theorem addP_opt (c : Bool) (p : Pair) (l : List Pair) : addP c p l = l ++ optP c p := by cases c <;> simp [addP, optP]
/-! Bounds. -/
theorem opt_mem {c : Bool} {p q : Pair} (h : q ∈ optP c p) : q = p := by
  cases c with
  | true => simp [optP] at h
  | false => simpa [optP] using h
theorem opt_bd {c : Bool} {key val : Tx} {q : Pair} (hq : q ∈ optP c ⟨key, val⟩) (h1 : key.length ≤ 1000000) (h2 : val.length ≤ 1000000) : q.key.length ≤ 1000000 ∧ q.val.length ≤ 1000000 := by
  rw [opt_mem hq]
  exact ⟨h1, h2⟩
theorem itoa_le' (v : Int) (h0 : -9223372036854775808 ≤ v) (h1 : v ≤ 9223372036854775807) : (Lib.itoa v).length ≤ 22 := by
  by_cases hv : 0 ≤ v
  · obtain ⟨u, rfl⟩ := Int.eq_ofNat_of_zero_le hv
    have := dig_len u (by omega)
    rw [Lib.itoa_nonneg]
    omega
  · unfold Lib.itoa
    rw [if_pos (by omega), List.length_cons]
    have := dig_len (-v).toNat (by omega)
    have e : v.natAbs = (-v).toNat := by omega
    first | omega | (rw [e]; omega)
theorem loopP_le : ∀ (f u : Nat), (loopP f u).length ≤ f
  | 0, u => Nat.le_refl _
  | f + 1, u => by
    have := loopP_le f (u % 100000000 * 10)
    unfold loopP
    split
    · simp
    · rw [List.length_cons]; omega
theorem printL_le (s t : Int) (h0 : -9223372036854775808 ≤ s) (h1 : s ≤ 9223372036854775807) (ht : rightT t = true) : (printL s t).length ≤ 100 := by
  have hp := printL_parts s t
  have hl : ∀ u : Nat, (loopP 9 u).length ≤ 9 := loopP_le 9
  have hd : ∀ u : Nat, u ≤ 9223372036854775808 → (Lib.decDigits u).length ≤ 21 := dig_len
  rw [hp]
  split
  · have := itoa_le' s h0 h1
    omega
  · split
    · have := hd (-(s + 1)).toNat (by omega)
      have := hl (1000000000 - t).toNat
      omega
    · have := hd s.toNat (by omega)
      have := hl t.toNat
      omega
theorem raw_bd {h : Head} (ho : OkHd h) : ∀ q ∈ rawH h, q.key.length ≤ 1000000 ∧ q.val.length ≤ 1000000 := by
  intro q hq
  unfold rawH rawL at hq
  simp only [addP_opt, List.mem_append] at hq
  obtain ⟨b1, b2, b3, b4, b5, b6⟩ := ho.bd
  have hf : ((fulls h.kind h.name).headD []).length ≤ 400001 := by
    cases hl : fulls h.kind h.name with
    | nil => simp
    | cons f l =>
      have := fulls_mem (kind := h.kind) (s := h.name) (f := f) (by rw [hl]; simp)
      simpa using (by omega : f.length ≤ 400001)
  have hu := itoa_le' h.uid ho.uid.1 ho.uid.2
  have hg := itoa_le' h.gid ho.gid.1 ho.gid.2
  have hs := itoa_le' h.size ho.size.1 ho.size.2
  have ht : (bif rightT h.nano then printL h.sec h.nano else []).length ≤ 100 := by
    cases hr : rightT h.nano with
    | true => exact printL_le _ _ ho.sec.1 ho.sec.2 hr
    | false => simp
  rcases hq with (((((((hq | hq) | hq) | hq) | hq) | hq) | hq) | hq) | hq
  · exact b6 q hq
  all_goals exact opt_bd hq (by decide) (by omega)
theorem raw_len (h : Head) : (rawH h).length ≤ h.extra.length + 8 := by
  unfold rawH rawL
  have := fun c p l => addP_len c p l
  refine Nat.le_trans (addP_len _ _ _) ?_
  refine Nat.le_trans (Nat.succ_le_succ (addP_len _ _ _)) ?_
  refine Nat.le_trans (Nat.succ_le_succ (Nat.succ_le_succ (addP_len _ _ _))) ?_
  refine Nat.le_trans (Nat.succ_le_succ (Nat.succ_le_succ (Nat.succ_le_succ (addP_len _ _ _)))) ?_
  refine Nat.le_trans (Nat.succ_le_succ (Nat.succ_le_succ (Nat.succ_le_succ (Nat.succ_le_succ (addP_len _ _ _))))) ?_
  refine Nat.le_trans (Nat.succ_le_succ (Nat.succ_le_succ (Nat.succ_le_succ (Nat.succ_le_succ (Nat.succ_le_succ (addP_len _ _ _)))))) ?_
  refine Nat.le_trans (Nat.succ_le_succ (Nat.succ_le_succ (Nat.succ_le_succ (Nat.succ_le_succ (Nat.succ_le_succ (Nat.succ_le_succ (addP_len _ _ _))))))) ?_
  refine Nat.le_trans (Nat.succ_le_succ (Nat.succ_le_succ (Nat.succ_le_succ (Nat.succ_le_succ (Nat.succ_le_succ (Nat.succ_le_succ (Nat.succ_le_succ (addP_len _ _ _)))))))) ?_
  omega
theorem rec_bd {h : Head} (ho : OkHd h) : ∀ q ∈ recsL h, q.key.length ≤ 1000000 ∧ q.val.length ≤ 1000000 := fun q hq => raw_bd ho q (mem_layAll hq)
theorem rec_len {h : Head} (ho : OkHd h) : (recsL h).length ≤ 108 := by
  have h1 := lay_len (rawH h)
  have h2 := raw_len h
  have h3 := ho.ext
  unfold recsL
  omega
theorem recA_bd {h : Head} (ho : OkHd h) : (∀ q ∈ (recA h).1, q.key.length ≤ 1000000 ∧ q.val.length ≤ 1000000) ∧ (recA h).1.length ≤ 108 := by
  unfold recA
  split
  · split
    · exact ⟨rec_bd ho, rec_len ho⟩
    · exact ⟨fun q hq => by simp at hq, by simp⟩
  · exact ⟨fun q hq => by simp at hq, by simp⟩
/-! How many bytes they have. -/
def sumLen : List Pair → Nat
  | [] => 0
  | p :: l => lenP p + sumLen l
def fitsB (h : Head) : Bool := !decide ((recA h).2 = 0) || decide (sumLen (recA h).1 ≤ 65536)
theorem fits_loop (kap : FuncId → List AV → Option AV) (c : Int) (l : List Pair) (hl : l.length ≤ 1000) (hb : ∀ p ∈ l, lenP p ≤ 3000000) (hL : ∀ p ∈ l, kap pax_Len [.agg [.str (str p.key), .str (str p.val)]] = some (.int .i64 ((lenP p : Nat) : Int))) : ∀ (suf pre : List Pair) (s k0 : Nat), suf.length < k0 → l = pre ++ suf → s ≤ 4000000 →
    rep_fits_L0 kap k k0 c ((s : Nat) : Int) (prs l) ((l.length : Nat) : Int) ((pre.length : Nat) : Int) = some (.bool (!decide (c = 0) || decide (s + sumLen suf ≤ 65536)))
  | [], pre, s, k0 + 1, hk, he, hs => by
    have hll : l.length = pre.length := by rw [he]; simp
    have hd : decide (((s : Nat) : Int) ≤ 65536) = decide (s + sumLen [] ≤ 65536) := by rw [decide_eq_decide]; simp only [sumLen]; omega
    rw [rep_fits_L0_s, bif_f (by omega), hd]
    cases decide (c = 0) <;> rfl
  | p :: suf, pre, s, k0 + 1, hk, he, hs => by
    have hll : l.length = pre.length + suf.length + 1 := by rw [he]; exact mid_len pre suf p
    have hpm : p ∈ l := by rw [he]; simp
    have hg : ∀ F : AV → Option AV, ((prs l)[pre.length]?).bind F = F (elPair p) := fun F => by rw [he]; exact prs_mid _ _ _ _
    have hp := hb p hpm
    have hLp := hL p hpm
    rw [rep_fits_L0_s, bif_t (by omega), prs_len, inb (by omega), cond_true, Int.toNat_natCast, hg, cells_pair, p_0, p_1]
    by_cases hgt : s > 65536
    · have hd : decide (s + sumLen (p :: suf) ≤ 65536) = false := decide_eq_false (by omega)
      have hd2 : decide (((s : Nat) : Int) ≤ 65536) = false := decide_eq_false (by omega)
      rw [bif_t (by omega), hd, hd2]
      cases decide (c = 0) <;> rfl
    · have hw : IntKind.wrap .i64 (((s : Nat) : Int) + ((lenP p : Nat) : Int)) = ((s + lenP p : Nat) : Int) := by rw [i64w (by omega)]; omega
      have ih := fits_loop kap c l hl hb hL suf (pre ++ [p]) (s + lenP p) k0 (by simpa using hk) (by rw [he]; simp) (by omega)
      rw [List.length_append, List.length_singleton] at ih
      have hsum : s + lenP p + sumLen suf = s + sumLen (p :: suf) := by simp only [sumLen]; omega
      rw [bif_f (by omega), hLp, callI_ok, hw, wrap1 (by omega), ih, hsum]
theorem len_bd {p : Pair} (h : p.key.length ≤ 1000000 ∧ p.val.length ≤ 1000000) : lenP p ≤ 3000000 := by
  have h1 := (lenP_facts p h.1 h.2).2.1
  have h2 : restP p = p.key.length + p.val.length + 3 := rfl
  omega
theorem fits_k [HasRec E] (h : Head) (ho : OkHd h) (hk : 1000000 < k) : kp E k (n + 2) rep_fits [.agg (encHead h)] = some (.bool (fitsB h)) := by
  have e1 := HasRec.recs (E := E) k (n + 1) h ho
  obtain ⟨hb, hl⟩ := recA_bd ho
  have e2 := fits_loop (k := k) (kp E k (n + 1)) (recA h).2 (recA h).1 (by omega) (fun p hp => len_bd (hb p hp)) (fun p hp => paxLen_k (n := n) p (hb p hp).1 (hb p hp).2 (by omega)) (recA h).1 [] 0 k (by omega) rfl (by omega)
  unfold encHead at e1 ⊢
  rw [rep_fits_eq, e1, callT_ok, tupL_ok, tupI_ok, atNil_ok, prs_len]
  refine e2.trans ?_
  unfold fitsB
  rw [Nat.zero_add]
end Go.Proofs.YtbkhmkcmbaffoaaGreatDoor.Eng.U


/- The records by the definition; what fits; the first field that can't be told; the program's own answers. -/
set_option linter.unusedVariables false
set_option linter.unusedSectionVars false
set_option linter.unusedSimpArgs false
namespace Go.Proofs.YtbkhmkcmbaffoaaGreatDoor.Eng.U
open Go Go.RowKit Go.Proofs Go.Proofs.YtbkhmkcmbaffoaaGreatDoor.Eng Go.Proofs.YtbkhmkcmbaffoaaGreatDoor.S11 Go.Proofs.YtbkhmkcmbaffoaaGreatDoor.P04
variable {E : Ext} [Core E] [HasNum E] [HasTextV E] {k n : Nat}

def canX (d : Int) (h : Head) (f : Int) : Bool := canF d h f (fitsB h)
theorem canF_13 (d : Int) (h : Head) (f : Int) (x y : Bool) (hf : 1 ≤ f ∧ f ≤ 13) : canF d h f x = canF d h f y := by
  unfold canF
  rcases f13_cases hf with rfl | rfl | rfl | rfl | rfl | rfl | rfl | rfl | rfl | rfl | rfl | rfl | rfl <;> rfl
theorem canX_13 {d : Int} {h : Head} {f : Int} (hf : 1 ≤ f ∧ f ≤ 13) : canX d h f = canB d h f := canF_13 d h f _ _ hf
theorem canX_14 (d : Int) (h : Head) : canX d h 14 = (!decide (d = 3) || fitsB h) := by
  unfold canX canF
  cases decide (d = 3) <;> rfl
/-! The first field that can't be told. -/
def fgo (c : Int → Bool) : Nat → Int → Int
  | 0, i => 0
  | m + 1, i => bif c i then fgo c m (i + 1) else i
def firstF (c : Int → Bool) : Int := fgo c 14 1
theorem fgo_zero {c : Int → Bool} : ∀ (m : Nat) (i : Int), 1 ≤ i → (fgo c m i = 0 ↔ ∀ f, i ≤ f ∧ f < i + (m : Int) → c f = true)
  | 0, i, hi => ⟨fun _ f hf => by omega, fun _ => rfl⟩
  | m + 1, i, hi => by
    have ih := fgo_zero (c := c) m (i + 1) (by omega)
    unfold fgo
    cases hc : c i with
    | true =>
      rw [cond_true, ih]
      constructor
      · intro H f hf
        by_cases he : f = i
        · rw [he]; exact hc
        · exact H f (by omega)
      · intro H f hf
        exact H f (by omega)
    | false =>
      rw [cond_false]
      constructor
      · intro h0; omega
      · intro H
        rw [H i (by omega)] at hc
        cases hc
theorem firstF_zero {c : Int → Bool} : firstF c = 0 ↔ ∀ f, 1 ≤ f ∧ f ≤ 14 → c f = true := by
  unfold firstF
  rw [fgo_zero 14 1 (by omega)]
  exact ⟨fun H f hf => H f (by omega), fun H f hf => H f (by omega)⟩
/-! The program's own answers. -/
theorem repCan_X [HasRec E] (d : Int) (h : Head) (f : Int) (ho : OkHd h) (hk : 1000000 < k) : kp E k (n + 8) rep_can [.int .i64 d, .agg (encHead h), .int .i64 f] = some (.bool (canX d h f)) :=
  can_k d h f (fitsB h) ho.bd.1 ho.bd.2.1 ho.bd.2.2.1 ho.bd.2.2.2.1 hk fun _ _ => fits_k (n := n + 5) h ho hk
def diaB (d : Int) : Bool := decide (1 ≤ d) && decide (d ≤ 4)
theorem dia_iff {d : Int} : diaB d = true ↔ 1 ≤ d ∧ d ≤ 4 := by unfold diaB; simp
theorem dia_k (d : Int) : kp E k (n + 1) rep_Dialect [.int .i64 d] = some (.bool (diaB d)) := by
  rw [rep_Dialect_eq]
  unfold diaB
  by_cases h1 : 1 ≤ d
  · rw [bif_t h1, decide_eq_true h1, Bool.true_and]
  · rw [bif_f h1, decide_eq_false h1]; rfl
theorem repFirst_loop (kap : FuncId → List AV → Option AV) (d : Int) (h : Head) (hC : ∀ f, kap rep_can [.int .i64 d, .agg (encHead h), .int .i64 f] = some (.bool (canX d h f))) : ∀ (m : Nat) (i : Int) (k0 : Nat), m < k0 → 1 ≤ i → i + (m : Int) = 15 →
    rep_First_L0 kap k k0 d i h.kind (str h.name) (str h.link) h.mode h.uid h.gid h.size h.sec h.nano (str h.user) (str h.group) h.major h.minor (prs h.extra) = some (.tup [.int .i64 (fgo (canX d h) m i), .int .u8 0])
  | 0, i, k0 + 1, hk, h1, h2 => by
    rw [rep_First_L0_s, bif_f (by omega)]
    rfl
  | m + 1, i, k0 + 1, hk, h1, h2 => by
    have ih := repFirst_loop kap d h hC m (i + 1) k0 (by omega) (by omega) (by omega)
    have hc := hC i
    unfold encHead at hc
    rw [rep_First_L0_s, bif_t (by omega), hc, callB_ok, i64w (by omega)]
    unfold fgo
    cases canX d h i with
    | true => exact ih
    | false => rfl
theorem repFirst_k [HasRec E] (d : Int) (h : Head) (ho : OkHd h) (hk : 1000000 < k) : kp E k (n + 9) rep_First [.int .i64 d, .agg (encHead h)] = some (.tup (bif !diaB d then [.int .i64 0, .int .u8 2] else bif !decide (wrongH h = 0) then [.int .i64 0, .int .u8 15] else [.int .i64 (firstF (canX d h)), .int .u8 0])) := by
  have e := repFirst_loop (k := k) (kp E k (n + 8)) d h (fun f => repCan_X d h f ho hk) 14 1 k (by omega) (by omega) (by omega)
  have e2 := wrong_kv (E := E) (k := k) (n := n) h ho.bd hk
  unfold encHead at e2 ⊢
  rw [rep_First_eq, dia_k, callB_ok, e2, callI_ok]
  cases diaB d with
  | false => rfl
  | true =>
    cases decide (wrongH h = 0) with
    | false => rfl
    | true => exact e
theorem repCan_k [HasRec E] (d : Int) (h : Head) (f : Int) (ho : OkHd h) (hk : 1000000 < k) : kp E k (n + 9) rep_Can [.int .i64 d, .agg (encHead h), .int .i64 f] = some (.tup (bif !diaB d then [.bool false, .int .u8 2] else bif decide (f < 1) then [.bool false, .int .u8 2] else bif decide (f > 14) then [.bool false, .int .u8 2] else bif !decide (wrongH h = 0) then [.bool false, .int .u8 15] else [.bool (canX d h f), .int .u8 0])) := by
  have e := repCan_X (E := E) (k := k) (n := n) d h f ho hk
  have e2 := wrong_kv (E := E) (k := k) (n := n) h ho.bd hk
  unfold encHead at e e2 ⊢
  rw [rep_Can_eq, dia_k, callB_ok, e2, callI_ok, e, callB_ok]
  cases diaB d with
  | false => rfl
  | true =>
    cases decide (f < 1) with
    | true => rfl
    | false =>
      cases decide (f > 14) with
      | true => rfl
      | false => cases decide (wrongH h = 0) <;> rfl
end Go.Proofs.YtbkhmkcmbaffoaaGreatDoor.Eng.U


/- Records of a right head: an overlay; what Ustar can tell Pax can. In plain words. -/
set_option linter.unusedVariables false
set_option linter.unusedSectionVars false
set_option linter.unusedSimpArgs false
namespace Go.Proofs.YtbkhmkcmbaffoaaGreatDoor.Eng.U
open Go Go.RowKit Go.Proofs Go.Proofs.YtbkhmkcmbaffoaaGreatDoor.Eng Go.Lib Go.Proofs.YtbkhmkcmbaffoaaGreatDoor.S11 Go.Proofs.YtbkhmkcmbaffoaaGreatDoor.P04

/-! Texts that are right stay right with more bytes below 128. -/
/-! The pairs. -/
/-! What Ustar can tell. -/
end Go.Proofs.YtbkhmkcmbaffoaaGreatDoor.Eng.U


/- RepFields, RepRecords, RepOrder are true. -/
set_option linter.unusedVariables false
set_option linter.unusedSectionVars false
set_option linter.unusedSimpArgs false
namespace Go.Proofs.YtbkhmkcmbaffoaaGreatDoor.Eng.U
open Go Go.RowKit Go.Proofs Go.Proofs.YtbkhmkcmbaffoaaGreatDoor.Eng Go.Proofs.YtbkhmkcmbaffoaaGreatDoor.S11
variable {E : Ext} [Core E] [HasNum E] [HasTextV E] {k n : Nat}

def many11B (h : Head) : Bool := decide (manyW (((h.name.length + h.link.length + h.user.length + h.group.length : Nat)) : Int) h.extra > 300000) || decide (40 < h.extra.length)
theorem ok_of (h : Head) (g : G_apiHead h) (hm : many11B h = false) : OkHd h := by
  have g1 := g.name
  have g2 := g.link
  have g3 := g.user
  have g4 := g.group
  have g5 := g.extra
  unfold many11B at hm
  rw [Bool.or_eq_false_iff, decide_eq_false_iff_not, decide_eq_false_iff_not] at hm
  obtain ⟨h1, h2⟩ := manyW_few _ rfl h.extra (((h.name.length + h.link.length + h.user.length + h.group.length : Nat)) : Int) (fun p hp => ⟨(g.pairs p hp).key, (g.pairs p hp).val⟩) (by omega) (by omega)
  refine ⟨⟨by omega, by omega, by omega, by omega, by omega, fun p hp => ?_⟩, by omega, g.uid, g.gid, g.size, g.sec⟩
  have := h2 p hp
  omega
def hA : Head := ⟨7, [97], [], 0, 0, 0, 0, 0, 0, [], [], 0, 0, []⟩
end Go.Proofs.YtbkhmkcmbaffoaaGreatDoor.Eng.U


/- strings.Builder's WriteRune, and utf.Mend, walked: S05 in the names of any seat. -/
set_option linter.unusedVariables false
set_option linter.unusedSimpArgs false
namespace Go.Proofs.YtbkhmkcmbaffoaaGreatDoor.S05n
open Go Go.RowKit Go.Proofs Go.Shelf

theorem size63 : (Tryz.prog.info? 218).map (·.size) = some 2 := by kernel_rfl
theorem lies63 : liesAt Tryz.prog Tryz.prog.depth 218 (2 / Tryz.prog.cellsOf 218) 0 218 1 = true := by kernel_rfl

set_option maxHeartbeats 1000000 in
set_option maxRecDepth 100000 in
theorem copyCheck_used (b : Nat) (w : World) (h0 : w.cell? ⟨b, 0, none⟩ = some (.pointer (some ⟨b, 0, none⟩))) :
    Calls Tryz.prog 241 #[.pointer (some ⟨b, 0, none⟩)] w fun e w' => e = .returned (.tuple #[]) ∧ w' = w := by
  obtain ⟨j, hj, _⟩ := Option.map_eq_some_iff.1 size63
  go_enter Tryz.func241, Tryz.ntmps241
  go_wp2
  rw [Lib.run_neq_ptr_same w _ Tryz.underlying216 hj]
  go_wp2
  go_end0
  exact ⟨rfl, rfl⟩
set_option maxHeartbeats 1000000 in
set_option maxRecDepth 100000 in
theorem copyCheck_fresh (b : Nat) (w : World) (h0 : w.cell? ⟨b, 0, none⟩ = some (.pointer none)) (hsh : w.shape? b = some (218, 2)) (hfz : w.frozen? ⟨b, 0, none⟩ = false) :
    Calls Tryz.prog 241 #[.pointer (some ⟨b, 0, none⟩)] w fun e w' => e = .returned (.tuple #[]) ∧ w' = w.setCell ⟨b, 0, none⟩ (.pointer (some ⟨b, 0, none⟩)) := by
  obtain ⟨j, hj, hjs⟩ := Option.map_eq_some_iff.1 size63
  go_enter Tryz.func241, Tryz.ntmps241
  go_wp2
  rw [Lib.run_to_unsafe w ⟨b, 0, none⟩ Tryz.underlying216 Tryz.underlying243 hj (by rw [hjs]; decide) hsh (Nat.zero_lt_succ 1)]
  simp only [Result.andThen]
  rw [Oper.upon_value]
  go_wp2
  rw [run_callFunc_extern Tryz.func253 (by kernel_rfl) (by kernel_rfl) (by kernel_rfl) (e := Extern.AbiNoEscape.same) (by kernel_rfl)]
  rw [Lib.run_noEscape]
  simp only [Result.andThen]
  rw [Oper.upon_value]
  go_wp2
  rw [Lib.run_from_unsafe w ⟨b, 0, none⟩ Tryz.underlying243 Tryz.underlying216 hj hsh lies63]
  simp only [Result.andThen]
  rw [Oper.upon_value]
  go_wp2
  go_end0
  exact ⟨rfl, rfl⟩
theorem copyCheck_k (B b : Nat) (bs : List Value) (w : World) (h : Lib.IsBuilderF 218 5 B b bs w) :
    Calls Tryz.prog 241 #[.pointer (some ⟨b, 0, none⟩)] w fun e w' => e = .returned (.tuple #[]) ∧ (Lib.BuilderAtF 218 5 B b (.pointer (some ⟨b, 0, none⟩)) bs w' ∧ Below B w w' ∧ Lib.OthersKept 5 (some b) w w') := by
  rcases h with h | h
  · refine (copyCheck_fresh b w h.cell0 h.shape h.frozen0).mono ?_
    rintro e w' ⟨rfl, rfl⟩
    exact ⟨rfl, h.used _, (Below.refl B w).setCell (p := ⟨b, 0, none⟩) h.1 _, (Lib.OthersKept.refl _ _ w).setCell ⟨b, 0, none⟩ rfl _⟩
  · refine (copyCheck_used b w h.cell0).mono ?_
    rintro e w' ⟨rfl, rfl⟩
    exact ⟨rfl, h, Below.refl B _, Lib.OthersKept.refl _ _ _⟩


set_option maxHeartbeats 4000000 in
set_option maxRecDepth 100000 in
theorem WriteRune_k (B b : Nat) (bs : List Value) (r : Int) (hr0 : -2147483648 ≤ r) (hr1 : r ≤ 2147483647) (w : World) (h : Lib.IsBuilderF 218 5 B b bs w) (hlen : bs.length + 4 ≤ 140737488355328) (hBw : B ≤ w.heap.size) :
    Calls Tryz.prog 214 #[.pointer (some ⟨b, 0, none⟩), .int .i32 r] w fun e w' => e = .returned (.tuple #[.int .i64 (Lib.runeCells r).length, .nilIface]) ∧ (Lib.BuilderAtF 218 5 B b (.pointer (some ⟨b, 0, none⟩)) (bs ++ Lib.runeCells r) w' ∧ Below B w w' ∧ Lib.OthersKept 5 (some b) w w') := by
  have hk4 := Lib.runeCells_le r
  go_enter Tryz.func214, Tryz.ntmps214
  go_wp2_with (go_at_call 241; refine (copyCheck_k B b bs _ h).mono ?_)
  rintro e w1 ⟨rfl, h1, hb1, hk1⟩
  obtain ⟨hB, v, hbk, hown, hne⟩ := h1
  obtain ⟨ao, cap, rfl⟩ : ∃ ao cap, v = .slice ao bs.length cap := by
    rcases hown.2 with ⟨hv, h0⟩ | ⟨g, cap, cur, fz, hv, _⟩
    · exact ⟨none, 0, by rw [hv, h0]⟩
    · exact ⟨_, _, hv⟩
  have c0 : w1.cell? ⟨b, 0, none⟩ = some (.pointer (some ⟨b, 0, none⟩)) := by rw [Lib.cell_of_heap hbk]; rfl
  have c1 : w1.cell? ⟨b, 1, none⟩ = some (.slice ao bs.length cap) := by rw [Lib.cell_of_heap hbk]; rfl
  go_wp2_with (go_at_call 244; refine (Tryz.utf8_AppendRune_row B _ bs.length bs r hr0 hr1 _ hown hlen (by have := hb1.size; omega)).mono ?_)
  rintro e w2 ⟨v', rfl, hown', o, hgrow⟩
  have hlt : b < w1.heap.size := by
    rcases Nat.lt_or_ge b w1.heap.size with h' | h'
    · exact h'
    · simp [Array.getElem?_eq_none h'] at hbk
  have hb2 : w2.heap[b]? = some (.cells #[.pointer (some ⟨b, 0, none⟩), .slice ao bs.length cap] 218 (0, 0)) := by
    rw [hgrow.block b (by simp; omega) (fun e => hne e.symm), Lib.alloc_old w1 _ b hlt]
    exact hbk
  have d0 : w2.cell? ⟨b, 0, none⟩ = some (.pointer (some ⟨b, 0, none⟩)) := by rw [Lib.cell_of_heap hb2]; rfl
  have d1 : w2.cell? ⟨b, 1, none⟩ = some (.slice ao bs.length cap) := by rw [Lib.cell_of_heap hb2]; rfl
  have f1 : w2.frozen? ⟨b, 1, none⟩ = false := Lib.frozen_of_heap hb2 1
  obtain ⟨g, cap', rfl⟩ : ∃ g cap', v' = .slice (some ⟨g, 0, none⟩) (bs.length + (Lib.runeCells r).length) cap' := by
    rcases hown'.2 with ⟨_, h0⟩ | ⟨g, cap', cur, fz, hv, _⟩
    · omega
    · exact ⟨g, cap', hv⟩
  go_wp2
  go_ret2
  refine ⟨?_, ?_, ?_, ((hk1.alloc _).grown hgrow (Lib.ownsRowF_kind (hown.alloc _))).setCell ⟨b, 1, none⟩ rfl _⟩
  · have e : ((bs.length : Int) + ((Lib.runeCells r).length : Int) - (bs.length : Int)) = ((Lib.runeCells r).length : Int) := by omega
    simp [e]
  · exact Lib.BuilderAtF.put (T := 218) (e := 5) hB hb2 (bs' := bs ++ Lib.runeCells r) (by simpa using hown') (by decide)
  · exact ((hb1.alloc (by have := hb1.size; omega) _).grown hgrow (by have := hb1.size; simp; omega) (fun k hk => (hown.lt k hk).1)).setCell (p := ⟨b, 1, none⟩) hB _

/-- A text mended, from a place on. -/
def mendFrom (s : ByteArray) : Nat → Nat → List UInt8
  | 0, _ => []
  | fuel + 1, pos => if pos < s.size then Lib.encodeRune (Utf8.decode s pos).1 ++ mendFrom s fuel (pos + (Utf8.decode s pos).2) else []
theorem mendFrom_end (s : ByteArray) (fuel pos : Nat) (h : ¬ pos < s.size) : mendFrom s fuel pos = [] := by
  cases fuel with
  | zero => rfl
  | succ f => simp [mendFrom, h]
theorem width_pos (s : ByteArray) (pos : Nat) (h : pos < s.size) : 1 ≤ (Utf8.decode s pos).2 := by
  by_cases ha : (s[pos]'h).toNat < 128
  · rw [decode_ascii s pos h ha]
    exact Nat.le_refl _
  · exact (decode_high s pos h (by omega)).2
set_option maxHeartbeats 4000000 in
set_option maxRecDepth 1000000 in
theorem Mend_walk (s : ByteArray) (w : World) (hs : s.size ≤ 35184372088832) :
    Calls Tryz.prog 174 #[.string s] w fun e w' => e = .returned (.string ⟨(mendFrom s s.size 0).toArray⟩) ∧ Below w.heap.size w w' := by
  go_enter Tryz.func174, Tryz.ntmps174
  go_wp2
  go_loopw [] (fun wr => ∃ (pos fuel : Nat) (acc : List UInt8), Lib.IsBuilderF 218 5 w.heap.size w.heap.size (Lib.byteCells acc) wr ∧ wr.heap[w.heap.size + 1]? = some (.stringIter s pos) ∧ Below w.heap.size w wr ∧ acc ++ mendFrom s fuel pos = mendFrom s s.size 0 ∧ s.size ≤ pos + fuel ∧ acc.length ≤ 4 * pos) (fun wr => s.size - wr.iterPos (w.heap.size + 1))
  case atStart =>
    refine ⟨0, s.size, [], (Lib.IsBuilderF.of (Lib.fresh_isBuilder 218 5 w)).alloc _, ?_, ((Below.refl _ w).alloc (Nat.le_refl _) _).alloc (by simp) _, rfl, by omega, by simp⟩
    have := World.iter_heap (w.alloc (.cells #[.pointer none, .slice none 0 0] 218)) s 0
    simpa using this
  case round =>
    obtain ⟨pos, fuel, acc, hI, hit, hbw, hacc, hfu, hal⟩ := hrel
    have hsz : w.heap.size + 1 < wr.heap.size := (Array.getElem?_eq_some_iff.1 hit).1
    by_cases hp : pos < s.size
    · have hnx : ∀ ty, (Instr.next (.pointer (some ⟨w.heap.size + 1, 0, none⟩)) true ty).run Tryz.prog wr = _ := fun ty => Lib.run_next_any_at wr (w.heap.size + 1) s pos ty hit hp
      have hwd := width_pos s pos hp
      have hd1 := decode_le s pos
      have hI2 := hI.iterAt hit (pos + (Utf8.decode s pos).2)
      have hit2 := Lib.iterAt_heap wr (w.heap.size + 1) s pos (pos + (Utf8.decode s pos).2) hit
      have hbw2 := Lib.below_iterAt hbw (k := w.heap.size + 1) (by omega) s (pos + (Utf8.decode s pos).2)
      have hsz2 : w.heap.size ≤ (wr.iterAt (w.heap.size + 1) s (pos + (Utf8.decode s pos).2)).heap.size := by rw [Lib.iterAt_size]; omega
      obtain ⟨f, rfl⟩ : ∃ f, fuel = f + 1 := ⟨fuel - 1, by omega⟩
      go_wp2_with (go_at_call 214; refine (WriteRune_k w.heap.size w.heap.size _ _ (by omega) (by omega) _ hI2 (by rw [Lib.byteCells_length]; omega) hsz2).mono ?_)
      rintro e W1 ⟨rfl, h1, b1, k1⟩
      go_wp2
      go_roundw
      case rel =>
        have hl4 := Lib.runeCells_le ((Utf8.decode s pos).1 : Int)
        rw [Lib.runeCells_length] at hl4
        refine ⟨pos + (Utf8.decode s pos).2, f, acc ++ Lib.encodeRune (Utf8.decode s pos).1, ?_, k1.iter hit2 (by omega), hbw2.trans b1, ?_, by omega, by simp; omega⟩
        · rw [Lib.byteCells_append, Lib.byteCells_encodeRune]; exact Or.inr h1
        · rw [← hacc]; simp [mendFrom, hp]
      case measure =>
        simp only [World.iterPos, k1.iter hit2 (by omega), hit]
        omega
    · have hnx : ∀ ty, (Instr.next (.pointer (some ⟨w.heap.size + 1, 0, none⟩)) true ty).run Tryz.prog wr = _ := fun ty => Lib.run_next_end_at wr (w.heap.size + 1) s pos ty hit hp
      go_wp2_with (go_at_call 211; refine (Tryz.Builder_String_any_k w.heap.size w.heap.size acc _ hI (by omega)).mono ?_)
      rintro e W1 ⟨rfl, _, b1, _⟩
      go_wp2
      go_ret
      rw [mendFrom_end s fuel pos hp, List.append_nil] at hacc
      subst hacc
      exact ⟨rfl, hbw.trans b1⟩
end Go.Proofs.YtbkhmkcmbaffoaaGreatDoor.S05n


/- The Utf laws in plain words, part 4: what is mended, what is cut. U05e over the newer engine. -/
set_option linter.unusedVariables false
set_option linter.unusedSimpArgs false
namespace Go.Proofs.YtbkhmkcmbaffoaaGreatDoor.Eng.U
open Go Go.Proofs Go.Proofs.YtbkhmkcmbaffoaaGreatDoor.Eng Go.Lib
variable {kap : FuncId → List AV → Option AV} {E : Ext} [Core E] {n : Nat}

def mendL (s : ByteArray) : Nat → Nat → List UInt8
  | 0, _ => []
  | n + 1, pos => if pos < s.size then Lib.encodeRune (Utf8.decode s pos).1 ++ mendL s n (pos + (Utf8.decode s pos).2) else []
def mendS (s : ByteArray) : ByteArray := ⟨(mendL s s.size 0).toArray⟩

theorem size_len (s : ByteArray) : s.data.toList.length = s.size := by rw [Array.length_toList]; rfl
theorem extract_size (s : ByteArray) (i j : Nat) (h : i ≤ j) (hj : j ≤ s.size) : (s.extract i j).size = j - i := by simp [ByteArray.size_extract]; omega
/-- Where a text is cut. -/
def cutL (s : ByteArray) (c : Int) : Nat → Nat → Nat → Nat
  | 0, _, cur => cur
  | n + 1, pos, cur => if pos < s.size then (if (pos : Int) > c then cur else cutL s c n (nx s pos) pos) else cur
theorem cutL_le (s : ByteArray) (c : Int) : ∀ (n pos cur : Nat), cur ≤ s.size → cutL s c n pos cur ≤ s.size
  | 0, _, cur, h => h
  | n + 1, pos, cur, h => by
    unfold cutL
    split
    · split
      · exact h
      · exact cutL_le s c n _ _ (by omega)
    · exact h
def cut (s : ByteArray) (c : Int) : ByteArray := if c ≥ (s.size : Int) then s else s.extract 0 (cutL s c s.size 0 0)
theorem L19 {K : Nat} {s : ByteArray} {c : Int} (hs : s.size ≤ 1000000) : ∀ (n m pos cur : Nat), s.size ≤ pos + n → n < m → cur ≤ s.size → utf_Cut_L0 kap K m s c (cur : Int) s pos = some (.str (s.extract 0 (cutL s c n pos cur))) := by
  have hend : ∀ cur : Nat, cur ≤ s.size → (bif (decide ((0 : Int) ≤ (cur : Int)) && decide ((cur : Int) ≤ (s.size : Int))) then some (AV.str (s.extract 0 ((cur : Int)).toNat)) else none) = some (.str (s.extract 0 cur)) := fun cur h => by
    rw [show (decide ((0 : Int) ≤ (cur : Int)) && decide ((cur : Int) ≤ (s.size : Int))) = true from by simp; omega, show ((cur : Int)).toNat = cur from by omega]
    rfl
  intro n
  induction n with
  | zero =>
    intro m pos cur hn hm hc
    obtain ⟨m, rfl⟩ : ∃ m', m = m' + 1 := ⟨m - 1, by omega⟩
    rw [utf_Cut_L0_s, show decide (pos < s.size) = false from by simp; omega, cond_false]
    exact hend cur hc
  | succ n ih =>
    intro m pos cur hn hm hc
    obtain ⟨m, rfl⟩ : ∃ m', m = m' + 1 := ⟨m - 1, by omega⟩
    unfold cutL
    by_cases hlt : pos < s.size
    · have hw := nx_gt s pos
      rw [utf_Cut_L0_s, show decide (pos < s.size) = true from by simpa using hlt, cond_true, if_pos hlt]
      by_cases hg : (pos : Int) > c
      · rw [if_pos hg, decide_eq_true hg, cond_true]
        exact hend cur hc
      · rw [if_neg hg, decide_eq_false hg, cond_false]
        exact ih m (nx s pos) pos (by omega) (by omega) (by omega)
    · rw [utf_Cut_L0_s, show decide (pos < s.size) = false from by simpa using hlt, cond_false, if_neg hlt]
      exact hend cur hc
theorem utf_Cut_spec {K : Nat} {s : ByteArray} {c : Int} (hs : s.size ≤ 1000000) (hK : s.size < K) : kp E K (n + 1) utf_Cut [.str s, .int .i64 c] = some (.str (cut s c)) := by
  rw [utf_Cut_eq]
  unfold cut
  by_cases h : c ≥ (s.size : Int)
  · rw [if_pos h, decide_eq_true h]; rfl
  · rw [if_neg h, decide_eq_false h, cond_false]
    exact L19 hs s.size K 0 0 (by omega) hK (by omega)

end Go.Proofs.YtbkhmkcmbaffoaaGreatDoor.Eng.U


/- The Utf laws in plain words, part 5: what is mended is right and stays; how long what is cut is. U05g, U05h, U05k over the newer engine. -/
set_option linter.unusedVariables false
set_option linter.unusedSimpArgs false
namespace Go.Proofs.YtbkhmkcmbaffoaaGreatDoor.Eng.U
open Go Go.Proofs Go.Proofs.YtbkhmkcmbaffoaaGreatDoor.Eng Go.Lib

/-- The decoder, on what is left of a text. -/
def decL (l : List UInt8) : Nat × Nat := decodeN l.length (l.getD 0 0).toNat (l.getD 1 0).toNat (l.getD 2 0).toNat (l.getD 3 0).toNat
theorem dec_list (s : ByteArray) (i : Nat) : Utf8.decode s i = decL (s.data.toList.drop i) := by
  rw [decode_at, get_by, get_by, get_by, get_by]
  unfold decL by_
  rw [List.length_drop, size_len]
  have e : ∀ k, (s.data.toList.drop i).getD k 0 = s.data.toList.getD (i + k) 0 := fun k => by simp [List.getD_eq_getElem?_getD]
  rw [e, e, e, e]
  rfl
/-- What is written for a code point is read as that code point, whatever comes behind. -/
theorem dec_enc (r : Nat) (hr : r < 55296 ∨ (57343 < r ∧ r ≤ 1114111)) (l : List UInt8) : decL (Lib.encodeRune (r : Int) ++ l) = (r, (Lib.encodeRune (r : Int)).length) := by
  have tn : ∀ x : Nat, x < 256 → ((x : Int).toNat.toUInt8).toNat = x := fun x hx => by simp [Nat.toUInt8, UInt8.toNat_ofNat']; omega
  unfold Lib.encodeRune
  by_cases h1 : r < 128
  · rw [encodeRuneZ_one (by omega) (by omega)]
    unfold decL
    simp only [List.map_cons, List.map_nil, List.cons_append, List.nil_append, List.length_cons, List.length_nil, List.getD_cons_zero]
    rw [tn r (by omega)]
    unfold decodeN
    rw [if_pos h1]
  by_cases h2 : r < 2048
  · rw [encodeRuneZ_two (by omega) (by omega), show (192 + (r : Int) / 64) = ((192 + r / 64 : Nat) : Int) from by omega, show (128 + (r : Int) % 64) = ((128 + r % 64 : Nat) : Int) from by omega]
    unfold decL
    simp only [List.map_cons, List.map_nil, List.cons_append, List.nil_append, List.length_cons, List.length_nil, List.getD_cons_zero, List.getD_cons_succ]
    rw [tn _ (by omega), tn _ (by omega)]
    unfold decodeN
    rw [if_neg (by omega), if_pos ⟨by omega, by omega, by omega⟩, if_pos (by omega)]
    simp only [Prod.mk.injEq, and_true]
    omega
  by_cases h3 : r < 65536
  · rw [encodeRuneZ_three (by omega), show (224 + (r : Int) / 4096) = ((224 + r / 4096 : Nat) : Int) from by omega, show (128 + (r : Int) / 64 % 64) = ((128 + r / 64 % 64 : Nat) : Int) from by omega, show (128 + (r : Int) % 64) = ((128 + r % 64 : Nat) : Int) from by omega]
    unfold decL
    simp only [List.map_cons, List.map_nil, List.cons_append, List.nil_append, List.length_cons, List.length_nil, List.getD_cons_zero, List.getD_cons_succ]
    rw [tn _ (by omega), tn _ (by omega), tn _ (by omega)]
    unfold decodeN
    rw [if_neg (by omega), if_neg (by omega), if_pos ⟨by omega, ⟨by omega, by omega⟩, by omega, by omega⟩, if_pos (by omega)]
    simp only [Prod.mk.injEq, and_true]
    omega
  · rw [encodeRuneZ_four (by omega) (by omega), show (240 + (r : Int) / 262144) = ((240 + r / 262144 : Nat) : Int) from by omega, show (128 + (r : Int) / 4096 % 64) = ((128 + r / 4096 % 64 : Nat) : Int) from by omega, show (128 + (r : Int) / 64 % 64) = ((128 + r / 64 % 64 : Nat) : Int) from by omega, show (128 + (r : Int) % 64) = ((128 + r % 64 : Nat) : Int) from by omega]
    unfold decL
    simp only [List.map_cons, List.map_nil, List.cons_append, List.nil_append, List.length_cons, List.length_nil, List.getD_cons_zero, List.getD_cons_succ]
    rw [tn _ (by omega), tn _ (by omega), tn _ (by omega), tn _ (by omega)]
    unfold decodeN
    rw [if_neg (by omega), if_neg (by omega), if_neg (by omega), if_pos ⟨by omega, ⟨by omega, by omega⟩, ⟨by omega, by omega⟩, by omega, by omega⟩, if_pos (by omega)]
    simp only [Prod.mk.injEq, and_true]
    omega

def scalar (r : Nat) : Prop := r < 55296 ∨ (57343 < r ∧ r ≤ 1114111)
theorem dec_scalar (s : ByteArray) (i : Nat) : scalar (Utf8.decode s i).1 := by
  rw [decode_at]
  unfold scalar
  have h0 := by_lt s i
  rw [← get_by] at h0
  unfold decodeN
  repeat' split
  all_goals (simp only; omega)
/-- The code points of a text, from a place on. -/
def runesL (s : ByteArray) : Nat → Nat → List Nat
  | 0, _ => []
  | n + 1, pos => if pos < s.size then (Utf8.decode s pos).1 :: runesL s n (nx s pos) else []
def enc (r : Nat) : List UInt8 := Lib.encodeRune (r : Int)
theorem enc_len (r : Nat) : 1 ≤ (enc r).length := by
  unfold enc Lib.encodeRune Lib.encodeRuneZ
  rw [List.length_map]
  repeat' split
  all_goals simp
theorem mend_runes (s : ByteArray) : ∀ n pos, mendL s n pos = (runesL s n pos).flatMap enc
  | 0, _ => rfl
  | n + 1, pos => by
    unfold mendL runesL
    split
    · rw [List.flatMap_cons]
      exact congrArg _ (mend_runes s n _)
    · rfl
theorem runes_scalar (s : ByteArray) : ∀ n pos, ∀ r ∈ runesL s n pos, scalar r
  | 0, _, r, h => by simp [runesL] at h
  | n + 1, pos, r, h => by
    unfold runesL at h
    split at h
    · rcases List.mem_cons.1 h with rfl | h
      · exact dec_scalar s pos
      · exact runes_scalar s n _ r h
    · simp at h
theorem runes_ends (s : ByteArray) : ∀ n pos, (endsL s n pos).length = (runesL s n pos).length
  | 0, _ => rfl
  | n + 1, pos => by
    unfold endsL runesL
    split
    · simp only [List.length_cons, runes_ends s n]
    · rfl
theorem text_runes {s : ByteArray} : ∀ (rs : List Nat) (n pos : Nat), (∀ r ∈ rs, scalar r) → s.data.toList.drop pos = rs.flatMap enc → rs.length ≤ n → pos ≤ s.size → runesL s n pos = rs ∧ firstL s n pos = -1
  | [], n, pos, hr, hd, hn, hp => by
    have : s.size ≤ pos := by rw [← size_len]; simpa using hd
    cases n with
    | zero => exact ⟨rfl, rfl⟩
    | succ n =>
      unfold runesL firstL
      rw [if_neg (by omega), if_neg (by omega)]
      exact ⟨rfl, rfl⟩
  | r :: rs, 0, pos, hr, hd, hn, hp => by simp at hn
  | r :: rs, n + 1, pos, hr, hd, hn, hp => by
    rw [List.flatMap_cons] at hd
    have h1 := enc_len r
    have hlt : pos < s.size := by
      apply Classical.byContradiction
      intro h
      rw [List.drop_eq_nil_of_le (by rw [size_len]; omega)] at hd
      have := congrArg List.length hd
      simp only [List.length_nil, List.length_append] at this
      omega
    have hdec : Utf8.decode s pos = (r, (enc r).length) := by
      rw [dec_list, hd]
      exact dec_enc r (hr r (by simp)) _
    have hnb : ¬ bad s pos := by
      intro hb
      have hb' : Utf8.decode s pos = (65533, 1) := hb
      rw [hdec] at hb'
      simp only [Prod.mk.injEq] at hb'
      obtain ⟨rfl, hb'⟩ := hb'
      revert hb'
      decide
    have hnx : nx s pos = pos + (enc r).length := by unfold nx; rw [hdec]
    have hin := decode_in s pos hlt
    have hrest : s.data.toList.drop (nx s pos) = rs.flatMap enc := by
      rw [hnx, ← List.drop_drop, hd, List.drop_left]
    obtain ⟨e1, e2⟩ := text_runes rs n (nx s pos) (fun x hx => hr x (by simp [hx])) hrest (by simpa using hn) hin
    unfold runesL firstL
    rw [if_pos hlt, if_pos hlt, if_neg hnb, e1, e2, hdec]
    exact ⟨rfl, rfl⟩
theorem flat_len : ∀ rs : List Nat, rs.length ≤ (rs.flatMap enc).length
  | [] => by simp
  | r :: rs => by
    have := enc_len r
    have := flat_len rs
    simp only [List.flatMap_cons, List.length_append, List.length_cons]
    omega
def runes (s : ByteArray) : List Nat := runesL s s.size 0
theorem mendS_list (s : ByteArray) : (mendS s).data.toList = (runes s).flatMap enc := by
  show (mendL s s.size 0) = _
  exact mend_runes s s.size 0
theorem mended (s : ByteArray) : runes (mendS s) = runes s ∧ first (mendS s) = -1 :=
  text_runes (runes s) (mendS s).size 0 (runes_scalar s s.size 0) (by rw [List.drop_zero]; exact mendS_list s) (by rw [← size_len, mendS_list]; exact flat_len _) (by omega)
theorem enc_len4 (r : Nat) : (enc r).length ≤ 4 := by
  unfold enc Lib.encodeRune Lib.encodeRuneZ
  rw [List.length_map]
  repeat' split
  all_goals simp
theorem flat_len4 : ∀ rs : List Nat, (rs.flatMap enc).length ≤ 4 * rs.length
  | [] => by simp
  | r :: rs => by
    have := enc_len4 r
    have := flat_len4 rs
    simp only [List.flatMap_cons, List.length_append, List.length_cons]
    omega
theorem mend_size (s : ByteArray) : (mendS s).size ≤ 4 * s.size := by
  have h1 := flat_len4 (runes s)
  have h2 := endsL_length s s.size 0
  rw [runes_ends] at h2
  rw [← size_len, mendS_list]
  unfold runes at *
  omega
theorem cutL_c (s : ByteArray) (c : Int) : ∀ (n pos cur : Nat), (cur : Int) ≤ c → ((cutL s c n pos cur : Nat) : Int) ≤ c
  | 0, pos, cur, h => h
  | n + 1, pos, cur, h => by
    unfold cutL
    split
    · split
      · exact h
      · exact cutL_c s c n _ _ (by omega)
    · exact h
theorem cut_len (s : ByteArray) (c : Int) (h0 : 0 ≤ c) : ((cut s c).size : Int) ≤ c ∧ (cut s c).size ≤ s.size := by
  unfold cut
  split
  · rename_i h
    exact ⟨h, Nat.le_refl _⟩
  · have h1 := cutL_c s c s.size 0 0 h0
    have h2 := cutL_le s c s.size 0 0 (by omega)
    rw [extract_size s 0 _ (by omega) h2]
    omega
end Go.Proofs.YtbkhmkcmbaffoaaGreatDoor.Eng.U


/- utf.Mend as a given function. -/
set_option linter.unusedVariables false
set_option linter.unusedSectionVars false
set_option linter.unusedSimpArgs false
namespace Go.Proofs.YtbkhmkcmbaffoaaGreatDoor.Eng.U
open Go Go.RowKit Go.Proofs Go.Proofs.YtbkhmkcmbaffoaaGreatDoor.Eng Go.Proofs.YtbkhmkcmbaffoaaGreatDoor.Eng.Rdv

theorem mend_same (s : ByteArray) : ∀ n pos, S05n.mendFrom s n pos = mendL s n pos
  | 0, _ => rfl
  | n + 1, pos => by simp only [S05n.mendFrom, mendL, mend_same s n]
noncomputable def pMend : Piece := { f := utf_Mend, ans := fun args => match args with
  | [.str s] => bif decide (s.size ≤ 35184372088832) then some (.str (mendS s)) else none
  | _ => none }
theorem mendP_right : pMend.Right := by
  refine ⟨⟨Tryz.f174, Tryz.func174, by kernel_rfl, by kernel_rfl⟩, fun args res h => ?_⟩
  unfold pMend at h
  dsimp only at h
  split at h
  · rename_i s
    obtain ⟨hs, h2⟩ := some_of_bif h
    obtain rfl := Option.some.inj h2
    have hs : s.size ≤ 35184372088832 := by simpa using hs
    refine ok_pure ⟨rfl, rfl⟩ fun S w vals hag hG hV => ?_
    obtain ⟨v, rfl, h1⟩ := VL_1 hV
    obtain rfl := V_str h1
    refine (S05n.Mend_walk s w hs).mono ?_
    rintro e w' ⟨rfl, hb⟩
    rw [mend_same]
    exact ⟨_, rfl, fun S' => V.str _, hb⟩
  · cases h
class HasMend (E : Ext) : Prop where
  mend : ∀ (k n : Nat) (s : ByteArray), s.size ≤ 35184372088832 → kp E k n utf_Mend [.str s] = some (.str (mendS s))
end Go.Proofs.YtbkhmkcmbaffoaaGreatDoor.Eng.U


/- adapt: a name, a text, a time: by the program and by the definition. Written by gen/u34.py. -/
set_option linter.unusedVariables false
set_option linter.unusedSectionVars false
set_option linter.unusedSimpArgs false
namespace Go.Proofs.YtbkhmkcmbaffoaaGreatDoor.Eng.U
open Go Go.RowKit Go.Proofs Go.Proofs.YtbkhmkcmbaffoaaGreatDoor.Eng Go.Proofs.YtbkhmkcmbaffoaaGreatDoor.S11 Go.Proofs.YtbkhmkcmbaffoaaGreatDoor.P04 Go.Proofs.YtbkhmkcmbaffoaaGreatDoor.P24
variable {E : Ext} [Core E] [HasNum E] [HasTextV E] {k n : Nat}

/-! Texts mended and cut. -/
def mendT (s : Tx) : Tx := (mendS (str s)).data.toList
def cutT (s : Tx) (c : Int) : Tx := (cut (str s) c).data.toList
theorem str_own (s : ByteArray) : str s.data.toList = s := by unfold str; congr 1
theorem mend_k [HasMend E] (s : Tx) (hs : s.length ≤ 10000000) : kp E k n utf_Mend [.str (str s)] = some (.str (str (mendT s))) := by
  unfold mendT
  rw [str_own]
  exact HasMend.mend k n (str s) (by rw [str_size]; omega)
theorem utfCut_k (s : Tx) (c : Int) (hs : s.length ≤ 1000000) (hk : s.length < k) : kp E k (n + 1) utf_Cut [.str (str s), .int .i64 c] = some (.str (str (cutT s c))) := by
  unfold cutT
  rw [str_own]
  exact utf_Cut_spec (by rw [str_size]; exact hs) (by rw [str_size]; omega)
theorem mendT_len (s : Tx) : (mendT s).length ≤ 4 * s.length := by
  have h := mend_size (str s)
  rw [str_size] at h
  unfold mendT
  rw [size_len]
  exact h
theorem cutT_len (s : Tx) (c : Int) (h : 0 ≤ c) : ((cutT s c).length : Int) ≤ c ∧ (cutT s c).length ≤ s.length := by
  have h := cut_len (str s) c h
  rw [str_size] at h
  unfold cutT
  rw [size_len]
  exact h
theorem mendT_utf (s : Tx) : utfOk (mendT s) = true := by
  unfold utfOk mendT
  rw [str_own, (mended (str s)).2]
  rfl
/-! A head under another name, and whether it can be told. -/
def nameW (h : Head) (t : Tx) : Head := { h with name := t }
theorem ok_name {h : Head} (ho : OkHd h) {t : Tx} (ht : t.length ≤ 400000) : OkHd (nameW h t) := ⟨⟨ht, ho.bd.2⟩, ho.ext, ho.uid, ho.gid, ho.size, ho.sec⟩
def canW (d : Int) (h : Head) (f : Int) : Bool := decide (wrongH h = 0) && canX d h f
theorem aCan_k [HasRec E] (d : Int) (h : Head) (f : Int) (hd : 1 ≤ d ∧ d ≤ 4) (hf : 1 ≤ f ∧ f ≤ 14) (ho : OkHd h) (hk : 1000000 < k) : kp E k (n + 10) adapt_can [.int .i64 d, .agg (encHead h), .int .i64 f] = some (.bool (canW d h f)) := by
  have e := repCan_k (E := E) (k := k) (n := n) d h f ho hk
  rw [dia_iff.2 hd, decide_eq_false (show ¬ f < 1 by omega), decide_eq_false (show ¬ f > 14 by omega)] at e
  unfold encHead at e ⊢
  rw [adapt_can_eq, e]
  unfold canW
  cases decide (wrongH h = 0) with
  | false => rfl
  | true => cases canX d h f <;> rfl
/-! The name. -/
/-- The first end of a name, behind a slash, that does. -/
def pickGo (ok : Tx → Bool) : Tx → Option Tx
  | [] => none
  | c :: l => if c = 47 ∧ ok l = true then some l else pickGo ok l
theorem pickGo_len {ok : Tx → Bool} : ∀ {l t : Tx}, pickGo ok l = some t → t.length ≤ l.length ∧ ok t = true
  | [], t, h => by cases h
  | c :: l, t, h => by
    unfold pickGo at h
    split at h
    · rename_i hc
      cases h
      exact ⟨by simp, hc.2⟩
    · have := pickGo_len h
      exact ⟨by rw [List.length_cons]; omega, this.2⟩
def baseT (s : Tx) : Tx := (upL s).2
theorem byte_mid (a b : Tx) (c : UInt8) : byteAt (str (a ++ c :: b)) a.length = ((c.toNat : Nat) : Int) := by
  show (((a ++ c :: b).getD a.length 0).toNat : Int) = _
  rw [List.getD_eq_getElem?_getD, List.getElem?_append_right (Nat.le_refl _), Nat.sub_self]
  rfl
theorem ext_mid (a b : Tx) : ByteArray.extract (str (a ++ b)) a.length (str (a ++ b)).size = str b := by
  rw [str_size, str_ext, List.take_of_length_le (Nat.le_refl _), List.drop_left]
theorem aNamed_k (h : Head) (t : Tx) : kp E k (n + 1) adapt_named [.agg (encHead h), .str (str t)] = some (elHead (nameW h t)) := by
  unfold encHead
  rw [adapt_named_eq]
  rfl
theorem name_loop (kap : FuncId → List AV → Option AV) (d : Int) (h : Head) (a b : Tx) (hh : h.name.length ≤ 400000)
    (hN : ∀ t, kap adapt_named [.agg (encHead h), .str (str t)] = some (elHead (nameW h t)))
    (hW : ∀ t : Tx, t.length ≤ 400000 → kap item_Wrong [.agg (encHead (nameW h t))] = some (.int .i64 (wrongH (nameW h t))))
    (hC : ∀ t : Tx, t.length ≤ 400000 → kap adapt_can [.int .i64 d, .agg (encHead (nameW h t)), .int .i64 2] = some (.bool (canW d (nameW h t) 2)))
    (hU : kap path_Up [.str (str h.name)] = some (.tup [.str (str a), .str (str b)])) (hT : kap utf_Cut [.str (str b), .int .i64 99] = some (.str (str (cutT b 99))))
    (b0 b3 b4 b5 b6 b7 b8 b11 b12 : Int) (b1 b2 b9 b10 : ByteArray) : ∀ (suf pre : Tx) (k0 : Nat), suf.length < k0 → h.name = pre ++ suf →
    adapt_name_L0 kap k k0 d ((h.name.length : Nat) : Int) ((pre.length : Nat) : Int) h.kind (str h.name) (str h.link) h.mode h.uid h.gid h.size h.sec h.nano (str h.user) (str h.group) h.major h.minor (prs h.extra) b0 b1 b2 b3 b4 b5 b6 b7 b8 b9 b10 b11 b12 =
      some (match pickGo (fun t => canW d (nameW h t) 2) suf with | some t => .tup [elHead (nameW h t), .bool true] | none => .tup [elHead (nameW h (cutT b 99)), .bool (canW d (nameW h (cutT b 99)) 2)])
  | [], pre, k0 + 1, hk, he => by
    have hll : h.name.length = pre.length := by rw [he]; simp
    have hc := cutT_len b 99 (by omega)
    have hN := hN (cutT b 99)
    have hW := hW (cutT b 99) (by omega)
    have hC := hC (cutT b 99) (by omega)
    unfold encHead at hN hW hC
    rw [adapt_name_L0_s, bif_f (by omega), hU, callT_ok, tupS_ok, tupS_ok, atNil_ok, hT, callS_ok, hN, callG_head, h_0, h_1, h_2, h_3, h_4, h_5, h_6, h_7, h_8, h_9, h_10, h_11, h_12, h_13, hW, callI_ok, hC, callB_ok]
    show _ = some (AV.tup [elHead (nameW h (cutT b 99)), .bool (canW d (nameW h (cutT b 99)) 2)])
    have e : canW d (nameW h (cutT b 99)) 2 = (decide (wrongH (nameW h (cutT b 99)) = 0) && canX d (nameW h (cutT b 99)) 2) := rfl
    by_cases h0 : wrongH (nameW h (cutT b 99)) = 0
    · rw [bif_t h0]; rfl
    · rw [bif_f h0, e, decide_eq_false h0]; rfl
  | c :: suf, pre, k0 + 1, hk, he => by
    have hll : h.name.length = pre.length + suf.length + 1 := by rw [he]; exact mid_len pre suf c
    have ih := name_loop kap d h a b hh hN hW hC hU hT b0 b3 b4 b5 b6 b7 b8 b11 b12 b1 b2 b9 b10 suf (pre ++ [c]) k0 (by simpa using hk) (by rw [he]; simp)
    rw [List.length_append, List.length_singleton] at ih
    have hby : byteAt (str h.name) pre.length = ((c.toNat : Nat) : Int) := by rw [he]; exact byte_mid pre suf c
    have hex : ByteArray.extract (str h.name) (pre.length + 1) (str h.name).size = str suf := by
      have := ext_mid (pre ++ [c]) suf
      rw [List.length_append, List.length_singleton, List.append_assoc, List.singleton_append, ← he] at this
      exact this
    have hN := hN suf
    have hW := hW suf (by omega)
    have hC := hC suf (by omega)
    unfold encHead at hN hW hC
    rw [adapt_name_L0_s, bif_t (by omega), str_size, inb (by omega), cond_true, Int.toNat_natCast, hby, wrap1 (by omega)]
    unfold pickGo
    by_cases hc : c = 47
    · subst hc
      rw [show (!decide ((((47 : UInt8).toNat : Nat) : Int) = 47)) = false from rfl, cond_false, show (decide ((0 : Int) ≤ ((pre.length + 1 : Nat) : Int)) && decide (((pre.length + 1 : Nat) : Int) ≤ ((h.name.length : Nat) : Int))) = true by simp; omega, cond_true, Int.toNat_natCast]
      rw [str_size] at hex
      rw [hex, hN, callG_head, h_0, h_1, h_2, h_3, h_4, h_5, h_6, h_7, h_8, h_9, h_10, h_11, h_12, h_13, hW, callI_ok, hC, callB_ok]
      have e : canW d (nameW h suf) 2 = (decide (wrongH (nameW h suf) = 0) && canX d (nameW h suf) 2) := rfl
      by_cases h0 : wrongH (nameW h suf) = 0
      · rw [bif_t h0]
        cases hq : canW d (nameW h suf) 2 with
        | true => rw [if_pos ⟨rfl, rfl⟩]; rfl
        | false => rw [if_neg (by simp)]; exact ih
      · rw [bif_f h0, if_neg (by rw [e, decide_eq_false h0]; simp)]
        exact ih
    · have hn : ¬ ((c.toNat : Nat) : Int) = 47 := fun e => hc (by
        have : c.toNat = 47 := by omega
        exact UInt8.toNat_inj.1 this)
      rw [decide_eq_false hn, Bool.not_false, cond_true, if_neg (fun e => hc e.1)]
      exact ih
/-- The adapted name, and whether it does. -/
def nameF (d : Int) (h : Head) : Tx × Bool :=
  bif decide (d = 3) then (mendT h.name, canW d (nameW h (mendT h.name)) 2) else match pickGo (fun t => canW d (nameW h t) 2) h.name with
    | some t => (t, true)
    | none => (cutT (baseT h.name) 99, canW d (nameW h (cutT (baseT h.name) 99)) 2)
theorem base_len (s : Tx) : (baseT s).length ≤ 2 * s.length + 3 := by
  have h1 := stk_sum s
  have h2 := clean_len (s := s)
  unfold baseT upL
  split
  · exact h2
  · rename_i hs
    rw [List.getLast?_eq_some_getLast hs]
    show ((stk s).getLast hs).length ≤ _
    have h3 : ((stk s).getLast hs).length ≤ (stk s).flatten.length := by
      have := List.sublist_flatten_of_mem (List.getLast_mem hs)
      exact this.length_le
    omega
theorem aName_k [HasRec E] [HasMend E] [HasParts E] [HasJoin E] (d : Int) (h : Head) (hd : 1 ≤ d ∧ d ≤ 4) (ho : OkHd h) (hn : h.name.length ≤ 65536) (hk : 1000000 < k) : kp E k (n + 11) adapt_name [.int .i64 d, .agg (encHead h)] = some (.tup [elHead (nameW h (nameF d h).1), .bool (nameF d h).2]) := by
  have hml := mendT_len h.name
  unfold nameF
  by_cases h3 : d = 3
  · have e1 := mend_k (E := E) (k := k) (n := n + 10) h.name (by omega)
    have e2 := aNamed_k (E := E) (k := k) (n := n + 9) h (mendT h.name)
    have e3 := aCan_k (E := E) (k := k) (n := n) d (nameW h (mendT h.name)) 2 hd (by omega) (ok_name ho (by omega)) hk
    unfold encHead at e2 e3 ⊢
    rw [adapt_name_eq, bif_t h3, e1, callS_ok, e2, callG_head, h_0, h_1, h_2, h_3, h_4, h_5, h_6, h_7, h_8, h_9, h_10, h_11, h_12, h_13, e3, callB_ok, decide_eq_true h3]
    rfl
  · have hb := base_len h.name
    have e := name_loop (k := k) (kp E k (n + 10)) d h (upL h.name).1 (upL h.name).2 ho.bd.1 (fun t => aNamed_k (n := n + 9) h t) (fun t ht => wrong_kv (n := n + 2) (nameW h t) (ok_name ho ht).bd hk) (fun t ht => aCan_k (n := n) d (nameW h t) 2 hd (by omega) (ok_name ho ht) hk)
      (up_k (n := n + 4) h.name (by omega) (by omega)) (utfCut_k (n := n + 9) (baseT h.name) 99 (by omega) (by omega)) 0 0 0 0 0 0 0 0 0 (str []) (str []) (str []) (str []) h.name [] k (by omega) rfl
    unfold encHead
    rw [adapt_name_eq, bif_f h3, str_size, decide_eq_false h3, cond_false]
    refine e.trans ?_
    cases pickGo (fun t => canW d (nameW h t) 2) h.name <;> rfl
/-! By the definition. -/
end Go.Proofs.YtbkhmkcmbaffoaaGreatDoor.Eng.U


/- adapt: field by field, and a head; by the program and by the definition. -/
set_option linter.unusedVariables false
set_option linter.unusedSectionVars false
set_option linter.unusedSimpArgs false
namespace Go.Proofs.YtbkhmkcmbaffoaaGreatDoor.Eng.U
open Go Go.RowKit Go.Proofs Go.Proofs.YtbkhmkcmbaffoaaGreatDoor.Eng Go.Proofs.YtbkhmkcmbaffoaaGreatDoor.S11 Go.Proofs.YtbkhmkcmbaffoaaGreatDoor.P04 Go.Proofs.YtbkhmkcmbaffoaaGreatDoor.P24
variable {E : Ext} [Core E] [HasNum E] [HasTextV E] {k n : Nat}

structure Inv (h : Head) : Prop where
  r : RightH h
  o : OkHd h
theorem len_of {h : Head} (hr : RightH h) : h.name.length ≤ 65536 ∧ h.link.length ≤ 65536 ∧ h.user.length ≤ 65536 ∧ h.group.length ≤ 65536 := by
  have h2 := hr.a2
  have h3 := hr.a3
  have h9 := hr.a9
  have h10 := hr.a10
  unfold f2 nameOk at h2
  unfold f9 plainOk at h9
  unfold f10 plainOk at h10
  simp only [Bool.and_eq_true, decide_eq_true_eq] at h2 h9 h10
  refine ⟨h2.1.2.1, ?_, h9.1, h10.1⟩
  unfold f3 nameOk at h3
  cases hl : links h with
  | true =>
    rw [hl, cond_true] at h3
    simp only [Bool.and_eq_true, decide_eq_true_eq] at h3
    exact h3.2.1
  | false =>
    rw [hl, cond_false, decide_eq_true_eq] at h3
    rw [h3]
    simp
def textF (d : Int) (s : Tx) (m : Int) : Tx := bif decide (d = 3) then mendT s else cutT s m
def peopleF (d : Int) (s : Tx) : Tx := bif decide (d = 1) then [] else textF d s 32
def whenF (d : Int) (h : Head) : Head := bif canB d { h with nano := 0 } 8 then { h with nano := 0 } else { h with sec := (bif decide (h.sec < 0) then 0 else 68719476735), nano := 0 }
def extraW (h : Head) (l : List Pair) : Head := { h with extra := l }
def dropGo (p : List Pair → Bool) : Nat → List Pair → List Pair
  | 0, l => l
  | m + 1, l => bif decide (0 < l.length) && !p l then dropGo p m (l.take (l.length - 1)) else l
/-- A field adapted, or none. -/
def adF (d : Int) (h : Head) (f : Int) : Option Head :=
  if f = 2 then (bif (nameF d h).2 then some (nameW h (nameF d h).1) else none)
  else if f = 3 then (bif canW d { h with link := textF d h.link 100 } 3 then some { h with link := textF d h.link 100 } else none)
  else if f = 4 then some { h with mode := Int.tmod h.mode 4096 }
  else if f = 5 then some { h with uid := 65534 }
  else if f = 6 then some { h with gid := 65534 }
  else if f = 8 then some (whenF d h)
  else if f = 9 then (bif decide (wrongH { h with user := peopleF d h.user } = 0) then some { h with user := peopleF d h.user } else none)
  else if f = 10 then (bif decide (wrongH { h with group := peopleF d h.group } = 0) then some { h with group := peopleF d h.group } else none)
  else if f = 13 then some (extraW h [])
  else if f = 14 then (bif canW d (extraW h (dropGo (fun l => canW d (extraW h l) 14) h.extra.length h.extra)) 14 then some (extraW h (dropGo (fun l => canW d (extraW h l) 14) h.extra.length h.extra)) else none)
  else none
theorem textF_len (d : Int) (s : Tx) (m : Int) (hm : 0 ≤ m) : (textF d s m).length ≤ 4 * s.length := by
  unfold textF
  cases decide (d = 3) with
  | true => exact mendT_len s
  | false => have := cutT_len s m hm; rw [cond_false]; omega
theorem peopleF_len (d : Int) (s : Tx) : (peopleF d s).length ≤ 4 * s.length := by
  unfold peopleF
  cases decide (d = 1) with
  | true => simp
  | false => exact textF_len d s 32 (by omega)
/-! What is adapted stays right. -/
theorem okSt_take : ∀ (l : List Pair) (a : Option Tx) (j : Nat), okSt a l = true → okSt a (l.take j) = true
  | [], a, j, h => by simp; rfl
  | p :: l, a, 0, h => rfl
  | p :: l, a, j + 1, h => by
    rw [List.take_succ_cons]
    unfold okSt at h ⊢
    simp only [Bool.and_eq_true] at h ⊢
    exact ⟨h.1, okSt_take l _ j h.2⟩
theorem inv_take {h : Head} {l : List Pair} (j : Nat) (hi : Inv (extraW h l)) : Inv (extraW h (l.take j)) := by
  have h13 := hi.r.a13
  refine ⟨⟨hi.r.a1, hi.r.a2, hi.r.a3, hi.r.a4, hi.r.a5, hi.r.a6, hi.r.a7, hi.r.a8, hi.r.a9, hi.r.a10, hi.r.a11, hi.r.a12, ?_⟩, ⟨⟨hi.o.bd.1, hi.o.bd.2.1, hi.o.bd.2.2.1, hi.o.bd.2.2.2.1, ?_, fun p hp => hi.o.bd.2.2.2.2.2 p (List.mem_of_mem_take hp)⟩, ?_, hi.o.uid, hi.o.gid, hi.o.size, hi.o.sec⟩⟩
  · unfold f13 overOk at h13 ⊢
    simp only [Bool.and_eq_true, List.all_eq_true] at h13 ⊢
    exact ⟨⟨okSt_take l none j h13.1.1, fun p hp => h13.1.2 p (List.mem_of_mem_take hp)⟩, fun p hp => h13.2 p (List.mem_of_mem_take hp)⟩
  · have : (extraW h l).extra.length = l.length := rfl
    have h2 := hi.o.bd.2.2.2.2.1
    show (l.take j).length ≤ _
    rw [List.length_take]
    omega
  · have : (extraW h l).extra.length = l.length := rfl
    have h2 := hi.o.ext
    show (l.take j).length ≤ _
    rw [List.length_take]
    omega
theorem inv_drop {h : Head} (p : List Pair → Bool) : ∀ (m : Nat) (l : List Pair), Inv (extraW h l) → Inv (extraW h (dropGo p m l))
  | 0, l, hi => hi
  | m + 1, l, hi => by
    unfold dropGo
    cases (decide (0 < l.length) && !p l) with
    | true => exact inv_drop p m _ (inv_take _ hi)
    | false => exact hi
theorem canW_right {d : Int} {h : Head} {f : Int} (hc : canW d h f = true) : RightH h ∧ canX d h f = true := by
  unfold canW at hc
  rw [Bool.and_eq_true, decide_eq_true_eq] at hc
  exact ⟨rightH_of hc.1, hc.2⟩
theorem canW_of {d : Int} {h : Head} {f : Int} (hr : RightH h) : canW d h f = canX d h f := by
  unfold canW
  rw [decide_eq_true (right_wrong hr), Bool.true_and]
theorem ok_mk {h x : Head} (ho : OkHd h) (h1 : x.name.length ≤ 400000) (h2 : x.link.length ≤ 400000) (h3 : x.user.length ≤ 400000) (h4 : x.group.length ≤ 400000) (h5 : x.extra = h.extra) (h6 : InR x.uid) (h7 : InR x.gid) (h8 : InR x.size) (h9 : InR x.sec) : OkHd x :=
  ⟨⟨h1, h2, h3, h4, by rw [h5]; exact ho.bd.2.2.2.2.1, by rw [h5]; exact ho.bd.2.2.2.2.2⟩, by rw [h5]; exact ho.ext, h6, h7, h8, h9⟩
theorem inr_small (v : Int) (h : 0 ≤ v ∧ v ≤ 68719476735) : InR v := ⟨by omega, by omega⟩
theorem when_shape (d : Int) (h : Head) : ∃ s : Int, whenF d h = { h with sec := s, nano := 0 } ∧ (s = h.sec ∨ s = 0 ∨ s = 68719476735) := by
  unfold whenF
  cases canB d { h with nano := 0 } 8 with
  | true => exact ⟨h.sec, rfl, .inl rfl⟩
  | false =>
    cases decide (h.sec < 0) with
    | true => exact ⟨0, rfl, .inr (.inl rfl)⟩
    | false => exact ⟨68719476735, rfl, .inr (.inr rfl)⟩
theorem adF_inv {d : Int} {h : Head} {f : Int} {x : Head} (hf : 1 ≤ f ∧ f ≤ 14) (hi : Inv h) (hx : adF d h f = some x) : Inv x := by
  obtain ⟨l1, l2, l3, l4⟩ := len_of hi.r
  have r := hi.r
  have o := hi.o
  have hok : ∀ {y : Head}, decide (wrongH y = 0) = true → RightH y := fun hy => rightH_of (of_decide_eq_true hy)
  unfold adF at hx
  split at hx
  · cases hq : (nameF d h).2 with
    | false => rw [hq] at hx; cases hx
    | true =>
      rw [hq] at hx
      cases hx
      unfold nameF at hq ⊢
      cases h3 : decide (d = 3) with
      | true =>
        rw [h3] at hq
        have := mendT_len h.name
        exact ⟨(canW_right hq).1, ok_name o (by show (mendT h.name).length ≤ _; omega)⟩
      | false =>
        rw [h3] at hq
        cases hp : pickGo (fun t => canW d (nameW h t) 2) h.name with
        | some t =>
          obtain ⟨g1, g2⟩ := pickGo_len hp
          exact ⟨(canW_right g2).1, ok_name o (by show t.length ≤ _; omega)⟩
        | none =>
          rw [hp] at hq
          have := cutT_len (baseT h.name) 99 (by omega)
          exact ⟨(canW_right hq).1, ok_name o (by show (cutT (baseT h.name) 99).length ≤ _; omega)⟩
  split at hx
  · cases hq : canW d { h with link := textF d h.link 100 } 3 with
    | false => rw [hq] at hx; cases hx
    | true =>
      rw [hq] at hx
      cases hx
      have := textF_len d h.link 100 (by omega)
      exact ⟨(canW_right hq).1, ok_mk o (by show h.name.length ≤ _; omega) (by show (textF d h.link 100).length ≤ _; omega) (by show h.user.length ≤ _; omega) (by show h.group.length ≤ _; omega) rfl o.uid o.gid o.size o.sec⟩
  split at hx
  · cases hx
    refine ⟨⟨r.a1, r.a2, r.a3, ?_, r.a5, r.a6, r.a7, r.a8, r.a9, r.a10, r.a11, r.a12, r.a13⟩, ⟨o.bd, o.ext, o.uid, o.gid, o.size, o.sec⟩⟩
    have h4 : 0 ≤ h.mode := of_decide_eq_true r.a4
    exact decide_eq_true (Int.tmod_nonneg _ h4)
  split at hx
  · cases hx
    exact ⟨⟨r.a1, r.a2, r.a3, r.a4, rfl, r.a6, r.a7, r.a8, r.a9, r.a10, r.a11, r.a12, r.a13⟩, ⟨o.bd, o.ext, inr_small 65534 (by omega), o.gid, o.size, o.sec⟩⟩
  split at hx
  · cases hx
    exact ⟨⟨r.a1, r.a2, r.a3, r.a4, r.a5, rfl, r.a7, r.a8, r.a9, r.a10, r.a11, r.a12, r.a13⟩, ⟨o.bd, o.ext, o.uid, inr_small 65534 (by omega), o.size, o.sec⟩⟩
  split at hx
  · cases hx
    obtain ⟨s, e, hs⟩ := when_shape d h
    rw [e]
    refine ⟨⟨r.a1, r.a2, r.a3, r.a4, r.a5, r.a6, r.a7, rfl, r.a9, r.a10, r.a11, r.a12, r.a13⟩, ⟨o.bd, o.ext, o.uid, o.gid, o.size, ?_⟩⟩
    show -9223372036854775808 ≤ s ∧ s ≤ 9223372036854775807
    have := o.sec
    rcases hs with rfl | rfl | rfl
    · exact this
    · omega
    · omega
  split at hx
  · cases hq : decide (wrongH { h with user := peopleF d h.user } = 0) with
    | false => rw [hq] at hx; cases hx
    | true =>
      rw [hq] at hx
      cases hx
      have := peopleF_len d h.user
      exact ⟨hok hq, ok_mk o (by show h.name.length ≤ _; omega) (by show h.link.length ≤ _; omega) (by show (peopleF d h.user).length ≤ _; omega) (by show h.group.length ≤ _; omega) rfl o.uid o.gid o.size o.sec⟩
  split at hx
  · cases hq : decide (wrongH { h with group := peopleF d h.group } = 0) with
    | false => rw [hq] at hx; cases hx
    | true =>
      rw [hq] at hx
      cases hx
      have := peopleF_len d h.group
      exact ⟨hok hq, ok_mk o (by show h.name.length ≤ _; omega) (by show h.link.length ≤ _; omega) (by show h.user.length ≤ _; omega) (by show (peopleF d h.group).length ≤ _; omega) rfl o.uid o.gid o.size o.sec⟩
  split at hx
  · cases hx
    exact inv_take (h := h) (l := h.extra) 0 ⟨r, o⟩
  split at hx
  · cases hq : canW d (extraW h (dropGo (fun l => canW d (extraW h l) 14) h.extra.length h.extra)) 14 with
    | false => rw [hq] at hx; cases hx
    | true =>
      rw [hq] at hx
      cases hx
      exact inv_drop _ _ _ ⟨r, o⟩
  · cases hx
end Go.Proofs.YtbkhmkcmbaffoaaGreatDoor.Eng.U


/- adapt: a head adapted, by the program and by the definition. Written by gen/u34c.py. -/
set_option linter.unusedVariables false
set_option linter.unusedSectionVars false
set_option linter.unusedSimpArgs false
namespace Go.Proofs.YtbkhmkcmbaffoaaGreatDoor.Eng.U
open Go Go.RowKit Go.Proofs Go.Proofs.YtbkhmkcmbaffoaaGreatDoor.Eng Go.Proofs.YtbkhmkcmbaffoaaGreatDoor.S11 Go.Proofs.YtbkhmkcmbaffoaaGreatDoor.P04 Go.Proofs.YtbkhmkcmbaffoaaGreatDoor.P24
variable {E : Ext} [Core E] [HasNum E] [HasTextV E] {k n : Nat}

class HasSClone (E : Ext) : Prop where
  str : ∀ (k n : Nat) (s : ByteArray), s.size ≤ 281474976710656 → kp E k n stringslite_Clone [.str s] = some (.str s)
class HasPClone (E : Ext) : Prop where
  pairs : ∀ (k n : Nat) (l : List Pair), l.length ≤ 1000000000 → kp E k n slices_Clone_api_Pair [.list 2 (prs l)] = some (.list 2 (prs l))
theorem aText_k [HasMend E] (d : Int) (s : Tx) (m : Int) (hs : s.length ≤ 400000) (hk : 1000000 < k) : kp E k (n + 2) adapt_text [.int .i64 d, .str (str s), .int .i64 m] = some (.str (str (textF d s m))) := by
  rw [adapt_text_eq, mend_k (n := n + 1) s (by omega), utfCut_k (n := n) s m (by omega) (by omega), callS_ok, callS_ok]
  unfold textF
  cases decide (d = 3) <;> rfl
theorem aPeople_k [HasMend E] (d : Int) (s : Tx) (hs : s.length ≤ 400000) (hk : 1000000 < k) : kp E k (n + 3) adapt_people [.int .i64 d, .str (str s)] = some (.str (str (peopleF d s))) := by
  rw [adapt_people_eq, aText_k (n := n) d s 32 hs hk, callS_ok]
  unfold peopleF
  cases decide (d = 1) <;> rfl
theorem inv_nano {h : Head} (hi : Inv h) : Inv { h with nano := 0 } := ⟨⟨hi.r.a1, hi.r.a2, hi.r.a3, hi.r.a4, hi.r.a5, hi.r.a6, hi.r.a7, rfl, hi.r.a9, hi.r.a10, hi.r.a11, hi.r.a12, hi.r.a13⟩, ⟨hi.o.bd, hi.o.ext, hi.o.uid, hi.o.gid, hi.o.size, hi.o.sec⟩⟩
theorem aWhen_k [HasRec E] (d : Int) (h : Head) (hd : 1 ≤ d ∧ d ≤ 4) (hi : Inv h) (hk : 1000000 < k) : kp E k (n + 11) adapt_when [.int .i64 d, .agg (encHead h)] = some (.agg [.int .i64 (whenF d h).sec, .int .i64 (whenF d h).nano]) := by
  have e := aCan_k (E := E) (k := k) (n := n) d { h with nano := 0 } 8 hd (by omega) (inv_nano hi).o hk
  rw [canW_of (inv_nano hi).r, canX_13 (by omega)] at e
  unfold encHead
  rw [adapt_when_eq]
  refine (congrArg (fun x => callB x _) e).trans ?_
  rw [callB_ok]
  unfold whenF
  cases canB d { h with nano := 0 } 8 with
  | true => rfl
  | false =>
    rw [Bool.not_false, cond_true, most12 (n := n + 9), callI_ok]
    cases hs : decide (h.sec < 0) <;> rfl
theorem prs_take (l : List Pair) (j : Nat) : (prs l).take j = prs (l.take j) := by unfold prs; rw [List.map_take]
theorem aDrop_loop (kap : FuncId → List AV → Option AV) (d : Int) (h : Head) (hC : ∀ l, Inv (extraW h l) → kap adapt_can [.int .i64 d, .agg (encHead (extraW h l)), .int .i64 14] = some (.bool (canW d (extraW h l) 14)))
    (b0 b3 b4 b5 b6 b7 b8 b11 b12 : Int) (b1 b2 b9 b10 : ByteArray) : ∀ (m : Nat) (l : List Pair) (k0 : Nat), l.length ≤ m → m < k0 → Inv (extraW h l) →
    adapt_field_L0 kap k k0 d 14 h.kind (str h.name) (str h.link) h.mode h.uid h.gid h.size h.sec h.nano (str h.user) (str h.group) h.major h.minor (prs l) b0 b1 b2 b3 b4 b5 b6 b7 b8 b9 b10 b11 b12 = some (.tup [elHead (extraW h (dropGo (fun l => canW d (extraW h l) 14) m l)), .bool (canW d (extraW h (dropGo (fun l => canW d (extraW h l) 14) m l)) 14)])
  | m, l, k0 + 1, hl, hk, hi => by
    have hC' := hC l hi
    have hlen : l.length ≤ 100 := hi.o.ext
    rw [adapt_field_L0_s, prs_len]
    by_cases h0 : l.length = 0
    · have hz : dropGo (fun l => canW d (extraW h l) 14) m l = l := by
        cases m with
        | zero => rfl
        | succ m => unfold dropGo; rw [decide_eq_false (by omega)]; rfl
      rw [bif_f (by omega), hz]
      refine (congrArg (fun x => callB x _) hC').trans ?_
      rw [callB_ok]
      rfl
    · obtain ⟨m, rfl⟩ : ∃ m', m = m' + 1 := ⟨m - 1, by omega⟩
      have hw : IntKind.wrap .i64 (((l.length : Nat) : Int) - 1) = ((l.length - 1 : Nat) : Int) := by rw [i64w (by omega)]; omega
      have ih := aDrop_loop kap d h hC b0 b3 b4 b5 b6 b7 b8 b11 b12 b1 b2 b9 b10 m (l.take (l.length - 1)) k0 (by rw [List.length_take]; omega) (by omega) (inv_take _ hi)
      rw [bif_t (by omega)]
      refine (congrArg (fun x => callB x _) hC').trans ?_
      rw [callB_ok]
      unfold dropGo
      rw [decide_eq_true (show 0 < l.length by omega), Bool.true_and]
      cases hq : canW d (extraW h l) 14 with
      | false =>
        rw [Bool.not_false, cond_true, cond_true, hw, show (decide ((0 : Int) ≤ ((l.length - 1 : Nat) : Int)) && decide (((l.length - 1 : Nat) : Int) ≤ ((l.length : Nat) : Int))) = true by simp, cond_true, Int.toNat_natCast, List.drop_zero, prs_take]
        exact ih
      | true =>
        rw [Bool.not_true, cond_false, cond_false]
        refine (congrArg (fun x => callB x _) hC').trans ?_
        rw [callB_ok]
        rfl
theorem f14_cases {f : Int} (hf : 1 ≤ f ∧ f ≤ 14) : f = 1 ∨ f = 2 ∨ f = 3 ∨ f = 4 ∨ f = 5 ∨ f = 6 ∨ f = 7 ∨ f = 8 ∨ f = 9 ∨ f = 10 ∨ f = 11 ∨ f = 12 ∨ f = 13 ∨ f = 14 := by omega
theorem ok_link {h : Head} (hi : Inv h) (d : Int) : OkHd { h with link := textF d h.link 100 } := by
  obtain ⟨l1, l2, l3, l4⟩ := len_of hi.r
  have := textF_len d h.link 100 (by omega)
  exact ok_mk hi.o (by show h.name.length ≤ _; omega) (by show (textF d h.link 100).length ≤ _; omega) (by show h.user.length ≤ _; omega) (by show h.group.length ≤ _; omega) rfl hi.o.uid hi.o.gid hi.o.size hi.o.sec
theorem ok_user {h : Head} (hi : Inv h) (d : Int) : OkHd { h with user := peopleF d h.user } := by
  obtain ⟨l1, l2, l3, l4⟩ := len_of hi.r
  have := peopleF_len d h.user
  exact ok_mk hi.o (by show h.name.length ≤ _; omega) (by show h.link.length ≤ _; omega) (by show (peopleF d h.user).length ≤ _; omega) (by show h.group.length ≤ _; omega) rfl hi.o.uid hi.o.gid hi.o.size hi.o.sec
theorem ok_group {h : Head} (hi : Inv h) (d : Int) : OkHd { h with group := peopleF d h.group } := by
  obtain ⟨l1, l2, l3, l4⟩ := len_of hi.r
  have := peopleF_len d h.group
  exact ok_mk hi.o (by show h.name.length ≤ _; omega) (by show h.link.length ≤ _; omega) (by show h.user.length ≤ _; omega) (by show (peopleF d h.group).length ≤ _; omega) rfl hi.o.uid hi.o.gid hi.o.size hi.o.sec
theorem aField_k [HasRec E] [HasMend E] [HasParts E] [HasJoin E] (d : Int) (h : Head) (f : Int) (hd : 1 ≤ d ∧ d ≤ 4) (hf : 1 ≤ f ∧ f ≤ 14) (hi : Inv h) (hk : 1000000 < k) :
    ∃ (y : Head) (q : Bool), kp E k (n + 12) adapt_field [.int .i64 d, .agg (encHead h), .int .i64 f] = some (.tup [elHead y, .bool q]) ∧ adF d h f = (bif q then some y else none) := by
  obtain ⟨l1, l2, l3, l4⟩ := len_of hi.r
  have o := hi.o
  unfold encHead
  rw [adapt_field_eq]
  unfold adF
  rcases f14_cases hf with rfl | rfl | rfl | rfl | rfl | rfl | rfl | rfl | rfl | rfl | rfl | rfl | rfl | rfl
  · exact ⟨h, false, rfl, rfl⟩
  · have e := aName_k (E := E) (k := k) (n := n) d h hd o l1 hk
    refine ⟨nameW h (nameF d h).1, (nameF d h).2, ?_, rfl⟩
    rw [bif_t rfl]
    refine (congrArg (fun x => callT x _) e).trans ?_
    rw [callT_ok, tupG_head, h_0, h_1, h_2, h_3, h_4, h_5, h_6, h_7, h_8, h_9, h_10, h_11, h_12, h_13, tupB_ok, atNil_ok]
    rfl
  · have e1 := aText_k (E := E) (k := k) (n := n + 9) d h.link 100 (by omega) hk
    have e2 := wrong_kv (E := E) (k := k) (n := n + 3) { h with link := textF d h.link 100 } (ok_link hi d).bd hk
    have e3 := aCan_k (E := E) (k := k) (n := n + 1) d { h with link := textF d h.link 100 } 3 hd (by omega) (ok_link hi d) hk
    refine ⟨{ h with link := textF d h.link 100 }, canW d { h with link := textF d h.link 100 } 3, ?_, rfl⟩
    rw [bif_f (by omega), bif_t rfl, e1, callS_ok]
    refine (congrArg (fun x => callI .i64 x _) e2).trans ?_
    rw [callI_ok]
    have ew : canW d { h with link := textF d h.link 100 } 3 = (decide (wrongH { h with link := textF d h.link 100 } = 0) && canX d { h with link := textF d h.link 100 } 3) := rfl
    by_cases h0 : wrongH { h with link := textF d h.link 100 } = 0
    · rw [bif_t h0]
      refine (congrArg (fun x => callB x _) e3).trans ?_
      rw [callB_ok]
      rfl
    · rw [bif_f h0, ew, decide_eq_false h0]
      rfl
  · exact ⟨{ h with mode := Int.tmod h.mode 4096 }, true, rfl, rfl⟩
  · exact ⟨{ h with uid := 65534 }, true, rfl, rfl⟩
  · exact ⟨{ h with gid := 65534 }, true, rfl, rfl⟩
  · exact ⟨h, false, rfl, rfl⟩
  · have e := aWhen_k (E := E) (k := k) (n := n) d h hd hi hk
    refine ⟨whenF d h, true, ?_, rfl⟩
    obtain ⟨s, es, _⟩ := when_shape d h
    rw [bif_f (by omega), bif_f (by omega), bif_f (by omega), bif_f (by omega), bif_f (by omega), bif_t rfl]
    refine (congrArg (fun x => callG 2 x _) e).trans ?_
    rw [es]
    rfl
  · have e1 := aPeople_k (E := E) (k := k) (n := n + 8) d h.user (by omega) hk
    have e2 := wrong_kv (E := E) (k := k) (n := n + 3) { h with user := peopleF d h.user } (ok_user hi d).bd hk
    refine ⟨{ h with user := peopleF d h.user }, decide (wrongH { h with user := peopleF d h.user } = 0), ?_, rfl⟩
    rw [bif_f (by omega), bif_f (by omega), bif_f (by omega), bif_f (by omega), bif_f (by omega), bif_f (by omega), bif_t rfl, e1, callS_ok]
    refine (congrArg (fun x => callI .i64 x _) e2).trans ?_
    rw [callI_ok]
    rfl
  · have e1 := aPeople_k (E := E) (k := k) (n := n + 8) d h.group (by omega) hk
    have e2 := wrong_kv (E := E) (k := k) (n := n + 3) { h with group := peopleF d h.group } (ok_group hi d).bd hk
    refine ⟨{ h with group := peopleF d h.group }, decide (wrongH { h with group := peopleF d h.group } = 0), ?_, rfl⟩
    rw [bif_f (by omega), bif_f (by omega), bif_f (by omega), bif_f (by omega), bif_f (by omega), bif_f (by omega), bif_f (by omega), bif_t rfl, e1, callS_ok]
    refine (congrArg (fun x => callI .i64 x _) e2).trans ?_
    rw [callI_ok]
    rfl
  · exact ⟨h, false, rfl, rfl⟩
  · exact ⟨h, false, rfl, rfl⟩
  · exact ⟨extraW h [], true, rfl, rfl⟩
  · have e := aDrop_loop (k := k) (kp E k (n + 11)) d h (fun l hl => aCan_k (n := n + 1) d (extraW h l) 14 hd (by omega) hl.o hk) 0 0 0 0 0 0 0 0 0 (str []) (str []) (str []) (str []) h.extra.length h.extra k (Nat.le_refl _) (by have := o.ext; omega) hi
    refine ⟨extraW h (dropGo (fun l => canW d (extraW h l) 14) h.extra.length h.extra), canW d (extraW h (dropGo (fun l => canW d (extraW h l) 14) h.extra.length h.extra)) 14, ?_, rfl⟩
    rw [bif_f (by omega), bif_f (by omega), bif_f (by omega), bif_f (by omega), bif_f (by omega), bif_f (by omega), bif_f (by omega), bif_f (by omega), bif_f (by omega), bif_t rfl]
    exact e
/-! A head. -/
def zeroHd : Head := ⟨0, [], [], 0, 0, 0, 0, 0, 0, [], [], 0, 0, []⟩
def adGo (d : Int) : Nat → Int → Head → List Int → Option (Head × List Int)
  | 0, f, h, l => some (h, l)
  | m + 1, f, h, l => bif canX d h f then adGo d m (f + 1) h l else match adF d h f with
    | some x => adGo d m (f + 1) x (l ++ [if 13 < f then 13 else f])
    | none => none
def adH (d : Int) (h : Head) : Option (Head × List Int) := adGo d 14 1 h []
def aAns : Option (Head × List Int) → AV
  | some (x, l) => .tup [elHead x, .list 1 (ivs l), .int .u8 0]
  | none => .tup [elHead zeroHd, .list 1 [], .int .u8 16]
theorem ivs_room {l : List Int} (h : l.length ≤ 1000) : (decide (((ivs l).length + 1) * 8 ≤ 140737488355328) && decide (((ivs l).length + 1) ≤ 9223372036854775807)) = true := by rw [ivs_len]; simp; omega
theorem aHead_loop (kap : FuncId → List AV → Option AV) (d : Int) (hC : ∀ h f, Inv h → 1 ≤ f ∧ f ≤ 14 → kap adapt_can [.int .i64 d, .agg (encHead h), .int .i64 f] = some (.bool (canW d h f)))
    (hF : ∀ h f, Inv h → 1 ≤ f ∧ f ≤ 14 → ∃ (y : Head) (q : Bool), kap adapt_field [.int .i64 d, .agg (encHead h), .int .i64 f] = some (.tup [elHead y, .bool q]) ∧ adF d h f = (bif q then some y else none))
    (b0 b3 b4 b5 b6 b7 b8 b11 b12 : Int) (b1 b2 b9 b10 : ByteArray) : ∀ (m : Nat) (f : Int) (h : Head) (l : List Int) (k0 : Nat), m < k0 → 1 ≤ f → f + (m : Int) = 15 → l.length + m ≤ 100 → Inv h →
    adapt_Head_L0 kap k k0 d f h.kind (str h.name) (str h.link) h.mode h.uid h.gid h.size h.sec h.nano (str h.user) (str h.group) h.major h.minor (prs h.extra) b0 b1 b2 b3 b4 b5 b6 b7 b8 b9 b10 b11 b12 (ivs l) = some (aAns (adGo d m f h l))
  | 0, f, h, l, k0 + 1, hk, h1, h2, hl, hi => by
    rw [adapt_Head_L0_s, bif_f (by omega), prs_len]
    by_cases h0 : h.extra.length = 0
    · have he : h.extra = [] := List.length_eq_zero_iff.1 h0
      rw [bif_t (by omega)]
      show _ = some (AV.tup [elHead h, .list 1 (ivs l), .int .u8 0])
      unfold elHead encHead
      rw [he]
      rfl
    · rw [bif_f (by omega)]
      rfl
  | m + 1, f, h, l, k0 + 1, hk, h1, h2, hl, hi => by
    have hC' := hC h f hi (by omega)
    obtain ⟨y, q, hF', hq⟩ := hF h f hi (by omega)
    rw [canW_of hi.r] at hC'
    rw [adapt_Head_L0_s, bif_t (by omega)]
    refine (congrArg (fun x => callB x _) hC').trans ?_
    rw [callB_ok, i64w (by omega)]
    unfold adGo
    cases hc : canX d h f with
    | true => exact aHead_loop kap d hC hF b0 b3 b4 b5 b6 b7 b8 b11 b12 b1 b2 b9 b10 m (f + 1) h l k0 (by omega) (by omega) (by omega) (by omega) hi
    | false =>
      rw [cond_false, cond_false, hq]
      refine (congrArg (fun x => callT x _) hF').trans ?_
      rw [callT_ok, tupG_head, h_0, h_1, h_2, h_3, h_4, h_5, h_6, h_7, h_8, h_9, h_10, h_11, h_12, h_13, tupB_ok, atNil_ok]
      cases q with
      | false => rfl
      | true =>
        have hy : adF d h f = some y := hq
        have ih := aHead_loop kap d hC hF b0 b3 b4 b5 b6 b7 b8 b11 b12 b1 b2 b9 b10 m (f + 1) y (l ++ [if 13 < f then 13 else f]) k0 (by omega) (by omega) (by omega) (by rw [List.length_append, List.length_singleton]; omega) (adF_inv (by omega) hi hy)
        rw [← ivs_snoc] at ih
        rw [Bool.not_true, cond_false, ivs_room (by omega), cond_true]
        exact ih
theorem aHead_k [HasRec E] [HasMend E] [HasParts E] [HasJoin E] [HasSClone E] [HasPClone E] (d : Int) (h : Head) (ho : OkHd h) (hk : 1000000 < k) : kp E k (n + 13) adapt_Head [.int .i64 d, .agg (encHead h)] =
    some (bif !diaB d then .tup [elHead zeroHd, .list 1 [], .int .u8 2] else bif !decide (wrongH h = 0) then .tup [elHead zeroHd, .list 1 [], .int .u8 15] else aAns (adH d h)) := by
  have e1 := repFirst_k (E := E) (k := k) (n := n + 3) d h ho hk
  have e2 := HasPClone.pairs (E := E) k (n + 12) h.extra (by have := ho.ext; omega)
  have e3 : kp E k (n + 12) strings_Clone [.str (str h.name)] = some (.str (str h.name)) := by rw [strings_Clone_eq, HasSClone.str k (n + 11) (str h.name) (by rw [str_size]; have := ho.bd.1; omega), callS_ok]
  unfold encHead at e1 ⊢
  rw [adapt_Head_eq, e1]
  cases hdb : diaB d with
  | false => rfl
  | true =>
    have hd := dia_iff.1 hdb
    by_cases h0 : wrongH h = 0
    · have hi : Inv h := ⟨rightH_of h0, ho⟩
      have e := aHead_loop (k := k) (kp E k (n + 12)) d (fun h f hi hf => aCan_k (n := n + 2) d h f hd hf hi.o hk) (fun h f hi hf => aField_k (n := n) d h f hd hf hi hk) 0 0 0 0 0 0 0 0 0 (str []) (str []) (str []) (str []) 14 1 h [] k (by omega) (by omega) (by omega) (by simp) hi
      rw [decide_eq_true h0]
      show (callT (some (AV.tup [.int .i64 (firstF (canX d h)), .int .u8 0])) _) = some (aAns (adH d h))
      rw [callT_ok, tupI_ok, tupI_ok, atNil_ok, show (!decide ((0 : Int) = 0)) = false from rfl, cond_false, e2, callL_ok, e3, callS_ok]
      exact e
    · rw [decide_eq_false h0]
      rfl
end Go.Proofs.YtbkhmkcmbaffoaaGreatDoor.Eng.U


/- adapt: a head adapted, by the definition. Written by gen/u34d.py. -/
set_option linter.unusedVariables false
set_option linter.unusedSectionVars false
set_option linter.unusedSimpArgs false
namespace Go.Proofs.YtbkhmkcmbaffoaaGreatDoor.Eng.U
open Go Go.RowKit Go.Proofs Go.Proofs.YtbkhmkcmbaffoaaGreatDoor.Eng Go.Proofs.YtbkhmkcmbaffoaaGreatDoor.S11 Go.Proofs.YtbkhmkcmbaffoaaGreatDoor.P04 Go.Proofs.YtbkhmkcmbaffoaaGreatDoor.P24
variable {E : Ext} [Core E] [HasNum E] [HasTextV E] {k n : Nat}

end Go.Proofs.YtbkhmkcmbaffoaaGreatDoor.Eng.U


/- What functions answer, as the engine evaluates their code. Printed by gen2.py. -/
set_option linter.unusedVariables false
namespace Go.Proofs.YtbkhmkcmbaffoaaGreatDoor.Eng.U
open Go Go.Proofs Go.Proofs.YtbkhmkcmbaffoaaGreatDoor.Eng
/- oakum/oakumlaw17.Many -/
noncomputable def law17_Many_bd : Code := Tryz.f32.body.getD .skip
noncomputable def law17_Many_L0 (kap : FuncId → List AV → Option AV) (k : Nat) (k0 : Nat) (s0 : List AV) (s3 : Int) (s4 : Int) : Option AV :=
  loop (fun fr K => code ((bs E0 k).cfg kap law17_Many) (sel law17_Many_bd [1, 1, 0, 1, 0, 0]) fr K) (canon ((bs E0 k).cfg kap law17_Many) (firstReg (sel law17_Many_bd [1, 1, 0, 1, 0, 0]))) k0 (mkFr 77 [(0, (.list 15 s0)), (3, (.int .i64 s3)), (4, (.int .i64 s4))] []) (plug ((bs E0 k).cfg kap law17_Many) (retK ((bs E0 k).cfg kap law17_Many) [] Tryz.f32 [] some) [.blk 0, .seqR (sel law17_Many_bd [1, 1, 1])])
noncomputable def law17_Many_L1 (kap : FuncId → List AV → Option AV) (k : Nat) (k0 : Nat) (k1 : Nat) (s0 : List AV) (s3 : Int) (s4 : Int) (s6 : Int) (b5_0 : Int) (b5_1 : ByteArray) (b5_2 : ByteArray) (b5_3 : Int) (b5_4 : Int) (b5_5 : Int) (b5_6 : Int) (b5_7 : Int) (b5_8 : Int) (b5_9 : ByteArray) (b5_10 : ByteArray) (b5_11 : Int) (b5_12 : Int) (b5_13 : List AV) : Option AV :=
  loop (fun fr K => code ((bs E0 k).cfg kap law17_Many) (sel law17_Many_bd [1, 1, 0, 1, 0, 0, 1, 0, 0, 1, 1, 0, 1, 0, 0]) fr K) (canon ((bs E0 k).cfg kap law17_Many) (firstReg (sel law17_Many_bd [1, 1, 0, 1, 0, 0, 1, 0, 0, 1, 1, 0, 1, 0, 0]))) k1 (mkFr 77 [(0, (.list 15 s0)), (3, (.int .i64 s3)), (4, (.int .i64 s4)), (5, (.loc 5 0)), (6, (.int .i64 s6))] [(5, (.box [(.int .i64 b5_0), (.str b5_1), (.str b5_2), (.int .i64 b5_3), (.int .i64 b5_4), (.int .i64 b5_5), (.int .i64 b5_6), (.int .i64 b5_7), (.int .i64 b5_8), (.str b5_9), (.str b5_10), (.int .i64 b5_11), (.int .i64 b5_12), (.list 2 b5_13)]))]) (plug ((bs E0 k).cfg kap law17_Many) (retK ((bs E0 k).cfg kap law17_Many) [] Tryz.f32 [] some) [.blk 2, .seqR (sel law17_Many_bd [1, 1, 0, 1, 0, 0, 1, 0, 0, 1, 1, 1]), .blk 1, .seqR (sel law17_Many_bd [1, 1, 0, 1, 0, 0, 1, 1]), .lp (sel law17_Many_bd [1, 1, 0, 1, 0, 0]) k0, .blk 0, .seqR (sel law17_Many_bd [1, 1, 1])])
theorem law17_Many_L0_s (kap : FuncId → List AV → Option AV) (k : Nat) (k0 : Nat) (s0 : List AV) (s3 : Int) (s4 : Int) : law17_Many_L0 kap k (k0 + 1) s0 s3 s4 =
  (bif (decide (s4 < (((List.length s0) : Nat) : Int))) then (bif ((decide ((0 : Int) ≤ s4)) && (decide (s4 < (((List.length s0) : Nat) : Int)))) then ((s0[(Int.toNat s4)]?).bind fun vy1 => (cellI .i64 (AV.cells vy1) 0 fun vn2 => (cellS (AV.cells vy1) 1 fun vs3 => (cellS (AV.cells vy1) 2 fun vs4 => (cellI .i64 (AV.cells vy1) 3 fun vn5 => (cellI .i64 (AV.cells vy1) 4 fun vn6 => (cellI .i64 (AV.cells vy1) 5 fun vn7 => (cellI .i64 (AV.cells vy1) 6 fun vn8 => (cellI .i64 (AV.cells vy1) 7 fun vn9 => (cellI .i64 (AV.cells vy1) 8 fun vn10 => (cellS (AV.cells vy1) 9 fun vs11 => (cellS (AV.cells vy1) 10 fun vs12 => (cellI .i64 (AV.cells vy1) 11 fun vn13 => (cellI .i64 (AV.cells vy1) 12 fun vn14 => (cellL 2 (AV.cells vy1) 13 fun vl15 => (bif ((decide ((0 : Int) ≤ s4)) && (decide (s4 < (((List.length s0) : Nat) : Int)))) then ((s0[(Int.toNat s4)]?).bind fun vy16 => (cellL 1 (AV.cells vy16) 14 fun vl17 => (law17_Many_L1 kap k k0 k s0 (IntKind.wrap .i64 ((IntKind.wrap .i64 ((IntKind.wrap .i64 ((IntKind.wrap .i64 ((IntKind.wrap .i64 (s3 + (((ByteArray.size vs3) : Nat) : Int))) + (((ByteArray.size vs4) : Nat) : Int))) + (((ByteArray.size vs11) : Nat) : Int))) + (((ByteArray.size vs12) : Nat) : Int))) + (((List.length vl17) : Nat) : Int))) s4 (0 : Int) vn2 vs3 vs4 vn5 vn6 vn7 vn8 vn9 vn10 vs11 vs12 vn13 vn14 vl15))) else none)))))))))))))))) else none) else (some (.bool (decide ((((List.length s0) : Nat) : Int) > (12 : Int)))))) := by kernel_rfl
theorem law17_Many_L1_s (kap : FuncId → List AV → Option AV) (k : Nat) (k0 : Nat) (k1 : Nat) (s0 : List AV) (s3 : Int) (s4 : Int) (s6 : Int) (b5_0 : Int) (b5_1 : ByteArray) (b5_2 : ByteArray) (b5_3 : Int) (b5_4 : Int) (b5_5 : Int) (b5_6 : Int) (b5_7 : Int) (b5_8 : Int) (b5_9 : ByteArray) (b5_10 : ByteArray) (b5_11 : Int) (b5_12 : Int) (b5_13 : List AV) : law17_Many_L1 kap k k0 (k1 + 1) s0 s3 s4 s6 b5_0 b5_1 b5_2 b5_3 b5_4 b5_5 b5_6 b5_7 b5_8 b5_9 b5_10 b5_11 b5_12 b5_13 =
  (bif (decide (s6 < (((List.length b5_13) : Nat) : Int))) then (bif ((decide ((0 : Int) ≤ s6)) && (decide (s6 < (((List.length b5_13) : Nat) : Int)))) then ((b5_13[(Int.toNat s6)]?).bind fun vy18 => (cellS (AV.cells vy18) 0 fun vs19 => (bif ((decide ((0 : Int) ≤ s6)) && (decide (s6 < (((List.length b5_13) : Nat) : Int)))) then ((b5_13[(Int.toNat s6)]?).bind fun vy20 => (cellS (AV.cells vy20) 1 fun vs21 => (law17_Many_L1 kap k k0 k1 s0 (IntKind.wrap .i64 ((IntKind.wrap .i64 (s3 + (((ByteArray.size vs19) : Nat) : Int))) + (((ByteArray.size vs21) : Nat) : Int))) s4 (IntKind.wrap .i64 (s6 + (1 : Int))) b5_0 b5_1 b5_2 b5_3 b5_4 b5_5 b5_6 b5_7 b5_8 b5_9 b5_10 b5_11 b5_12 b5_13))) else none))) else none) else (bif (decide ((((List.length b5_13) : Nat) : Int) > (30 : Int))) then (some (.bool true)) else (bif (decide (s3 > (300000 : Int))) then (some (.bool true)) else (law17_Many_L0 kap k k0 s0 s3 (IntKind.wrap .i64 (s4 + (1 : Int))))))) := by kernel_rfl
theorem law17_Many_eq {E : Ext} [Core E] (k n : Nat) (a0 : List AV) : kp E k (n + 1) law17_Many [(.list 15 a0)] =
  (law17_Many_L0 (kp E k n) k k a0 (0 : Int) (0 : Int)) := (kp_at (by kernel_rfl)).trans (by kernel_rfl)
end Go.Proofs.YtbkhmkcmbaffoaaGreatDoor.Eng.U


/- How many bytes pairs have together; a pair that is right. -/
set_option linter.unusedVariables false
set_option linter.unusedSimpArgs false
namespace Go.Proofs.YtbkhmkcmbaffoaaGreatDoor.Eng.U
open Go Go.Proofs Go.Proofs.YtbkhmkcmbaffoaaGreatDoor.Eng

def sumP : List Pair → Nat
  | [] => 0
  | p :: l => p.key.length + p.val.length + sumP l
theorem sum_mem : ∀ (l : List Pair) (p : Pair), p ∈ l → p.key.length + p.val.length ≤ sumP l
  | q :: l, p, h => by
    simp only [sumP]
    rcases List.mem_cons.1 h with rfl | h
    · omega
    · have := sum_mem l p h; omega
end Go.Proofs.YtbkhmkcmbaffoaaGreatDoor.Eng.U


/- Whether there are many items: in plain words. -/
set_option linter.unusedVariables false
set_option linter.unusedSectionVars false
set_option linter.unusedSimpArgs false
namespace Go.Proofs.YtbkhmkcmbaffoaaGreatDoor.Eng.U
open Go Go.Proofs Go.Proofs.YtbkhmkcmbaffoaaGreatDoor.Eng Go.Proofs.YtbkhmkcmbaffoaaGreatDoor.P04
variable {E : Ext} [Core E] {k n k0 : Nat}

def restI (x : Item) : Nat := x.head.name.length + x.head.link.length + x.head.user.length + x.head.group.length + x.data.length
def sumI : List Item → Nat
  | [] => 0
  | x :: l => restI x + sumP x.head.extra + sumI l
theorem many1 (kap : FuncId → List AV → Option AV) (all : List Pair) (hp : ∀ p ∈ all, p.key.length ≤ 140737488351232 ∧ p.val.length ≤ 140737488351232) (hl : all.length ≤ 5000000000000) (S0 : List AV) (S4 : Int) (b0 : Int) (b1 b2 : ByteArray) (b3 b4 b5 b6 b7 b8 : Int) (b9 b10 : ByteArray) (b11 b12 : Int) :
    ∀ (suf pre : List Pair) (k1 : Nat) (s : Int), suf.length < k1 → pre ++ suf = all →
    (30 < all.length → law17_Many_L1 kap k k0 k1 S0 s S4 ((pre.length : Nat) : Int) b0 b1 b2 b3 b4 b5 b6 b7 b8 b9 b10 b11 b12 (prs all) = some (.bool true)) ∧
    (all.length ≤ 30 → ∀ m : Nat, s = (m : Int) → m + suf.length * 300000000000000 ≤ 1000000000000000000 → law17_Many_L1 kap k k0 k1 S0 s S4 ((pre.length : Nat) : Int) b0 b1 b2 b3 b4 b5 b6 b7 b8 b9 b10 b11 b12 (prs all) =
      bif decide (300000 < m + sumP suf) then some (.bool true) else law17_Many_L0 kap k k0 S0 ((m + sumP suf : Nat) : Int) (IntKind.wrap .i64 (S4 + 1)))
  | [], pre, k1 + 1, s, h, he => by
    rw [List.append_nil] at he
    subst he
    rw [law17_Many_L1_s, prs_len, bif_f (by omega)]
    refine ⟨fun h30 => by rw [bif_t (by omega)], fun h30 m hs hm => ?_⟩
    subst hs
    rw [bif_f (by omega), show decide (((m : Nat) : Int) > (300000 : Int)) = decide (300000 < m + sumP []) from by rw [decide_eq_decide]; simp only [sumP]; omega]
    rfl
  | p :: suf, pre, k1 + 1, s, h, he => by
    have hlen : all.length = pre.length + suf.length + 1 := by rw [← he, mid_len]
    obtain ⟨p1, p2⟩ := hp p (by rw [← he]; simp)
    have at1 : ∀ F : AV → Option AV, ((prs all)[pre.length]?).bind F = F (elPair p) := fun F => by rw [← he]; exact prs_mid pre suf p F
    have ih := fun s => many1 kap all hp hl S0 S4 b0 b1 b2 b3 b4 b5 b6 b7 b8 b9 b10 b11 b12 suf (pre ++ [p]) k1 s (by simpa using h) (by simpa using he)
    rw [List.length_append, List.length_singleton] at ih
    rw [law17_Many_L1_s, prs_len, bif_t (by omega), inb (by omega), cond_true, Int.toNat_natCast, at1, cells_pair, p_0, cond_true, at1, cells_pair, p_1, wrap1 (by omega), str_size, str_size]
    refine ⟨fun h30 => (ih _).1 h30, fun h30 m hs hm => ?_⟩
    subst hs
    simp only [List.length_cons] at hm
    rw [i64w (x := (m : Int) + ((p.key.length : Nat) : Int)) (by omega), i64w (by omega)]
    refine ((ih _).2 h30 (m + p.key.length + p.val.length) (by omega) (by omega)).trans ?_
    simp only [sumP, Nat.add_assoc]
theorem many0 (k : Nat) (kap : FuncId → List AV → Option AV) (l : List Item) (hg : ∀ x ∈ l, G_apiItem x) (hl : l.length ≤ 1000000000000) (hk : 5000000000000 < k) :
    ∀ (suf pre : List Item) (k0 m : Nat), suf.length < k0 → pre ++ suf = l → m ≤ 300000 →
    ∃ b, law17_Many_L0 kap k k0 (its l) ((m : Nat) : Int) ((pre.length : Nat) : Int) = some (.bool b) ∧ (b = false → l.length ≤ 12 ∧ m + sumI suf ≤ 300000 ∧ ∀ x ∈ suf, x.head.extra.length ≤ 30)
  | [], pre, k0 + 1, m, h, he, hm => by
    rw [List.append_nil] at he
    subst he
    rw [law17_Many_L0_s, its_len, bif_f (by omega)]
    refine ⟨_, rfl, fun hb => ⟨?_, by simpa [sumI] using hm, fun x hx => by cases hx⟩⟩
    rw [decide_eq_false_iff_not] at hb
    omega
  | x :: suf, pre, k0 + 1, m, h, he, hm => by
    have hlen : l.length = pre.length + suf.length + 1 := by rw [← he, mid_len]
    have gx := hg x (by rw [← he]; simp)
    have gh := gx.head
    have at1 : ∀ F : AV → Option AV, ((its l)[pre.length]?).bind F = F (elItem x) := fun F => by rw [← he]; exact its_mid pre suf x F
    have hex := gh.extra
    have g1 := gh.name
    have g2 := gh.link
    have g3 := gh.user
    have g4 := gh.group
    have g5 := gx.data
    rw [law17_Many_L0_s, its_len, bif_t (by omega), inb (by omega), cond_true, Int.toNat_natCast, at1, cells_item]
    rw [i_0, i_1, i_2, i_3, i_4, i_5, i_6, i_7, i_8, i_9, i_10, i_11, i_12, i_13, cond_true, at1, cells_item, i_14, bys_len, str_size, str_size, str_size, str_size]
    rw [i64w (x := (m : Int) + ((x.head.name.length : Nat) : Int)) (by omega), i64w (x := (m : Int) + ((x.head.name.length : Nat) : Int) + ((x.head.link.length : Nat) : Int)) (by omega), i64w (x := (m : Int) + ((x.head.name.length : Nat) : Int) + ((x.head.link.length : Nat) : Int) + ((x.head.user.length : Nat) : Int)) (by omega), i64w (x := (m : Int) + ((x.head.name.length : Nat) : Int) + ((x.head.link.length : Nat) : Int) + ((x.head.user.length : Nat) : Int) + ((x.head.group.length : Nat) : Int)) (by omega), i64w (by omega)]
    have e : ((m : Nat) : Int) + ((x.head.name.length : Nat) : Int) + ((x.head.link.length : Nat) : Int) + ((x.head.user.length : Nat) : Int) + ((x.head.group.length : Nat) : Int) + ((x.data.length : Nat) : Int) = ((m + restI x : Nat) : Int) := by unfold restI; omega
    rw [e]
    have hr : restI x ≤ 1000000000000000 := by unfold restI; omega
    obtain ⟨c1, c2⟩ := many1 (k := k) (k0 := k0) kap x.head.extra (fun p hp => ⟨(gh.pairs p hp).key, (gh.pairs p hp).val⟩) (by omega) (its l) ((pre.length : Nat) : Int) x.head.kind (str x.head.name) (str x.head.link) x.head.mode x.head.uid x.head.gid x.head.size x.head.sec x.head.nano (str x.head.user) (str x.head.group) x.head.major x.head.minor x.head.extra [] k ((m + restI x : Nat) : Int) (by omega) rfl
    by_cases h30 : 30 < x.head.extra.length
    · exact ⟨true, c1 h30, fun hb => by cases hb⟩
    · have c := c2 (by omega) (m + restI x) rfl (by omega)
      by_cases hmany : 300000 < m + restI x + sumP x.head.extra
      · rw [bif_t hmany] at c
        exact ⟨true, c, fun hb => by cases hb⟩
      · rw [bif_f hmany, wrap1 (by omega)] at c
        obtain ⟨b, hb1, hb2⟩ := many0 k kap l hg hl hk suf (pre ++ [x]) k0 (m + restI x + sumP x.head.extra) (by simpa using h) (by simpa using he) (by omega)
        rw [List.length_append, List.length_singleton] at hb1
        refine ⟨b, c.trans hb1, fun hb => ?_⟩
        obtain ⟨d1, d2, d3⟩ := hb2 hb
        refine ⟨d1, by simp only [sumI]; omega, fun y hy => ?_⟩
        rcases List.mem_cons.1 hy with rfl | hy
        · omega
        · exact d3 y hy
theorem many_k (l : List Item) (hg : G_LapiItem l) (hk : 5000000000000 < k) : ∃ b, kp E k (n + 1) law17_Many [.list 15 (its l)] = some (.bool b) ∧ (b = false → l.length ≤ 12 ∧ sumI l ≤ 300000 ∧ ∀ x ∈ l, x.head.extra.length ≤ 30) := by
  rw [law17_Many_eq]
  have hl := hg.1
  obtain ⟨b, h1, h2⟩ := many0 k (kp E k n) l hg.2 (by omega) hk l [] k 0 (by omega) rfl (by omega)
  exact ⟨b, h1, fun hb => by have := h2 hb; simpa using this⟩
end Go.Proofs.YtbkhmkcmbaffoaaGreatDoor.Eng.U


/- Overlays, the program's side: laid one by one; what is said of a head, both sides. -/
set_option linter.unusedVariables false
set_option linter.unusedSectionVars false
set_option linter.unusedSimpArgs false
namespace Go.Proofs.YtbkhmkcmbaffoaaGreatDoor.Eng.U
open Go Go.Proofs Go.Proofs.YtbkhmkcmbaffoaaGreatDoor.Eng Go.Proofs.YtbkhmkcmbaffoaaGreatDoor.P04
variable {E : Ext} [Core E] {k n : Nat}

class HasIns (E : Ext) : Prop where
  cmp : ∀ (k n : Nat) (a b : Tx), kp E k n strings_Compare [.str (str a), .str (str b)] = some (.int .i64 (Lib.compareBytes a b))
section
variable [HasIns E]
end
/-! What pairs say of a head. -/
end Go.Proofs.YtbkhmkcmbaffoaaGreatDoor.Eng.U


/- What pairs say of a head: the whole, both sides; two heads that are the same. -/
set_option linter.unusedVariables false
set_option linter.unusedSectionVars false
set_option linter.unusedSimpArgs false
namespace Go.Proofs.YtbkhmkcmbaffoaaGreatDoor.Eng.U
open Go Go.Proofs Go.Proofs.YtbkhmkcmbaffoaaGreatDoor.Eng Go.Proofs.YtbkhmkcmbaffoaaGreatDoor.P04
variable {E : Ext} [Core E] [HasNum E] {k n : Nat}

theorem sameHead_k (a b : Head) (ha : a.extra.length ≤ 1000000) (hk : a.extra.length < k) : kp E k (n + 2) ref08_SameHead [.agg (encHead a), .agg (encHead b)] = some (.bool (decide (a = b))) := by
  unfold encHead
  rw [ref08_SameHead_eq, pSame_k (n := n) a.extra b.extra ha hk, callB_ok, str_dec, str_dec, str_dec, str_dec]
  have e : decide (a = b) = (decide (a.kind = b.kind) && (decide (a.name = b.name) && (decide (a.link = b.link) && (decide (a.mode = b.mode) && (decide (a.uid = b.uid) && (decide (a.gid = b.gid) && (decide (a.size = b.size) && ((decide (a.sec = b.sec) && (decide (a.nano = b.nano) && true)) && (decide (a.user = b.user) && (decide (a.group = b.group) && (decide (a.major = b.major) && (decide (a.minor = b.minor) && decide (a.extra = b.extra))))))))))))) := by
    rw [Bool.eq_iff_iff]
    simp only [Bool.and_eq_true, decide_eq_true_eq, and_true]
    constructor
    · rintro rfl; simp
    · rintro ⟨h1, h2, h3, h4, h5, h6, h7, ⟨h8, h9⟩, h10, h11, h12, h13, h14⟩
      cases a; cases b
      simp only at h1 h2 h3 h4 h5 h6 h7 h8 h9 h10 h11 h12 h13 h14
      subst h1 h2 h3 h4 h5 h6 h7 h8 h9 h10 h11 h12 h13 h14
      rfl
  rw [e]
  generalize decide (a.kind = b.kind) = x1
  generalize decide (a.name = b.name) = x2
  generalize decide (a.link = b.link) = x3
  generalize decide (a.mode = b.mode) = x4
  generalize decide (a.uid = b.uid) = x5
  generalize decide (a.gid = b.gid) = x6
  generalize decide (a.size = b.size) = x7
  generalize (decide (a.sec = b.sec) && (decide (a.nano = b.nano) && true)) = x8
  generalize decide (a.user = b.user) = x9
  generalize decide (a.group = b.group) = x10
  generalize decide (a.major = b.major) = x11
  generalize decide (a.minor = b.minor) = x12
  generalize decide (a.extra = b.extra) = x13
  cases x1
  · rfl
  cases x2
  · rfl
  cases x3
  · rfl
  cases x4
  · rfl
  cases x5
  · rfl
  cases x6
  · rfl
  cases x7
  · rfl
  cases x8
  · rfl
  cases x9
  · rfl
  cases x10
  · rfl
  cases x11
  · rfl
  cases x12
  · rfl
  rfl
end Go.Proofs.YtbkhmkcmbaffoaaGreatDoor.Eng.U


/- AdaptHeads is true. -/
set_option linter.unusedVariables false
set_option linter.unusedSectionVars false
set_option linter.unusedSimpArgs false
namespace Go.Proofs.YtbkhmkcmbaffoaaGreatDoor.Eng.U
open Go Go.RowKit Go.Proofs Go.Proofs.YtbkhmkcmbaffoaaGreatDoor.Eng Go.Proofs.YtbkhmkcmbaffoaaGreatDoor.S11 Go.Proofs.YtbkhmkcmbaffoaaGreatDoor.P04 Go.Proofs.YtbkhmkcmbaffoaaGreatDoor.P24
variable {E : Ext} [Core E] [HasNum E] [HasTextV E] [HasRec E] [HasMend E] [HasParts E] [HasJoin E] [HasSClone E] [HasPClone E] {k n : Nat}

theorem adGo_inv {d : Int} : ∀ (m : Nat) (f : Int) (h : Head) (l : List Int) (x : Head) (l' : List Int), 1 ≤ f → f + (m : Int) ≤ 15 → Inv h → adGo d m f h l = some (x, l') → Inv x ∧ l'.length ≤ l.length + m
  | 0, f, h, l, x, l', h1, h2, hi, e => by
    cases e
    exact ⟨hi, by omega⟩
  | m + 1, f, h, l, x, l', h1, h2, hi, e => by
    unfold adGo at e
    cases hc : canX d h f with
    | true =>
      rw [hc] at e
      have := adGo_inv m (f + 1) h l x l' (by omega) (by omega) hi e
      exact ⟨this.1, by omega⟩
    | false =>
      rw [hc] at e
      cases ha : adF d h f with
      | none => rw [ha] at e; cases e
      | some y =>
        rw [ha] at e
        have := adGo_inv m (f + 1) y _ x l' (by omega) (by omega) (adF_inv (by omega) hi ha) e
        rw [List.length_append, List.length_singleton] at this
        exact ⟨this.1, by omega⟩
def hB34 : Head := ⟨1, [97], [], 0, 0, 0, 0, 1, 5, [], [], 0, 0, []⟩
theorem okB34 : OkHd hB34 := okHd_iff.1 (by decide)
theorem wrongB34 : wrongH hB34 = 0 := right_wrong ⟨rfl, by rfl, rfl, rfl, rfl, rfl, rfl, rfl, rfl, rfl, rfl, rfl, by rfl⟩
theorem adB34 : adH 2 hB34 = some ({ hB34 with nano := 0 }, [8]) := by rfl
theorem alive34 (hk : 1000000 < k) : kp E k (n + 14) law34_alive [] = some (.bool true) := by
  have e := aHead_k (E := E) (k := k) (n := n) 2 hB34 okB34 hk
  rw [decide_eq_true wrongB34, adB34] at e
  rw [law34_alive_eq]
  refine (congrArg (fun x => callT x _) e).trans ?_
  rfl
theorem many34_k (h : Head) (s : Tx) (g : G_apiHead h) (gs : s.length ≤ 140737488351232) (hk : 5000000000000 < k) : ∃ b, kp E k (n + 1) law17_Many [.list 15 [.agg [.int .i64 h.kind, .str (str h.name), .str (str h.link), .int .i64 h.mode, .int .i64 h.uid, .int .i64 h.gid, .int .i64 h.size, .int .i64 h.sec, .int .i64 h.nano, .str (str h.user), .str (str h.group), .int .i64 h.major, .int .i64 h.minor, .list 2 (prs h.extra), .list 1 (bys s)]]] = some (.bool b) ∧ (b = false → OkHd h) := by
  obtain ⟨b, h1, h2⟩ := many_k (E := E) (k := k) (n := n) [⟨h, s⟩] ⟨by simp, fun x hx => by
    obtain rfl : x = ⟨h, s⟩ := by simpa using hx
    exact ⟨g, gs⟩⟩ hk
  refine ⟨b, h1, fun hb => ?_⟩
  obtain ⟨_, h3, h4⟩ := h2 hb
  have h5 := h4 ⟨h, s⟩ (by simp)
  simp only [sumI, restI] at h3
  have hp : ∀ p ∈ h.extra, p.key.length ≤ 1000000 ∧ p.val.length ≤ 1000000 := fun p hp => by have := sum_mem h.extra p hp; omega
  have h5 : h.extra.length ≤ 30 := h5
  exact ⟨⟨by omega, by omega, by omega, by omega, by omega, hp⟩, by omega, g.uid, g.gid, g.size, g.sec⟩
end Go.Proofs.YtbkhmkcmbaffoaaGreatDoor.Eng.U


/- adapt: what is adapted can be told; what changed; what stays: in plain words. Written by gen/q34.py. -/
set_option linter.unusedVariables false
set_option linter.unusedSectionVars false
set_option linter.unusedSimpArgs false
namespace Go.Proofs.YtbkhmkcmbaffoaaGreatDoor.Eng.U
open Go Go.RowKit Go.Proofs Go.Proofs.YtbkhmkcmbaffoaaGreatDoor.Eng Go.Proofs.YtbkhmkcmbaffoaaGreatDoor.S11 Go.Proofs.YtbkhmkcmbaffoaaGreatDoor.P04 Go.Proofs.YtbkhmkcmbaffoaaGreatDoor.P24

/-- Of what a field is adapted to: one of these. -/
theorem adF_shape {d : Int} {h : Head} {f : Int} {x : Head} (hx : adF d h f = some x) :
    (f = 2 ∧ ∃ v, x = { h with name := v }) ∨ (f = 3 ∧ ∃ v, x = { h with link := v }) ∨ (f = 4 ∧ ∃ v, x = { h with mode := v }) ∨ (f = 5 ∧ ∃ v, x = { h with uid := v }) ∨ (f = 6 ∧ ∃ v, x = { h with gid := v }) ∨
    (f = 8 ∧ ∃ v w, x = { h with sec := v, nano := w }) ∨ (f = 9 ∧ ∃ v, x = { h with user := v }) ∨ (f = 10 ∧ ∃ v, x = { h with group := v }) ∨ (f = 13 ∧ ∃ v, x = { h with extra := v }) ∨ (f = 14 ∧ ∃ v, x = { h with extra := v }) := by
  unfold adF at hx
  split at hx
  · rename_i hf
    cases hq : (nameF d h).2 with
    | false => rw [hq] at hx; cases hx
    | true => rw [hq] at hx; cases hx; exact .inl ⟨hf, _, rfl⟩
  split at hx
  · rename_i hf
    cases hq : canW d { h with link := textF d h.link 100 } 3 with
    | false => rw [hq] at hx; cases hx
    | true => rw [hq] at hx; cases hx; exact .inr (.inl ⟨hf, _, rfl⟩)
  split at hx
  · rename_i hf
    cases hx; exact .inr (.inr (.inl ⟨hf, _, rfl⟩))
  split at hx
  · rename_i hf
    cases hx; exact .inr (.inr (.inr (.inl ⟨hf, _, rfl⟩)))
  split at hx
  · rename_i hf
    cases hx; exact .inr (.inr (.inr (.inr (.inl ⟨hf, _, rfl⟩))))
  split at hx
  · rename_i hf
    cases hx
    obtain ⟨s, e, _⟩ := when_shape d h
    exact .inr (.inr (.inr (.inr (.inr (.inl ⟨hf, s, 0, e⟩)))))
  split at hx
  · rename_i hf
    cases hq : decide (wrongH { h with user := peopleF d h.user } = 0) with
    | false => rw [hq] at hx; cases hx
    | true => rw [hq] at hx; cases hx; exact .inr (.inr (.inr (.inr (.inr (.inr (.inl ⟨hf, _, rfl⟩))))))
  split at hx
  · rename_i hf
    cases hq : decide (wrongH { h with group := peopleF d h.group } = 0) with
    | false => rw [hq] at hx; cases hx
    | true => rw [hq] at hx; cases hx; exact .inr (.inr (.inr (.inr (.inr (.inr (.inr (.inl ⟨hf, _, rfl⟩)))))))
  split at hx
  · rename_i hf
    cases hx; exact .inr (.inr (.inr (.inr (.inr (.inr (.inr (.inr (.inl ⟨hf, _, rfl⟩))))))))
  split at hx
  · rename_i hf
    cases hq : canW d (extraW h (dropGo (fun l => canW d (extraW h l) 14) h.extra.length h.extra)) 14 with
    | false => rw [hq] at hx; cases hx
    | true => rw [hq] at hx; cases hx; exact .inr (.inr (.inr (.inr (.inr (.inr (.inr (.inr (.inr ⟨hf, _, rfl⟩))))))))
  · cases hx
/-- Another field can be told just as before. -/
theorem cb_name (d : Int) (h : Head) (v : Tx) (j : Int) (hj : j ≠ 2) : canB d { h with name := v } j = canB d h j := by
  unfold canB canF
  (simp only [decide_eq_false hj, cond_false]) <;> rfl
theorem cb_link (d : Int) (h : Head) (v : Tx) (j : Int) (hj : j ≠ 3) : canB d { h with link := v } j = canB d h j := by
  unfold canB canF
  (simp only [decide_eq_false hj, cond_false]) <;> rfl
theorem cb_mode (d : Int) (h : Head) (v : Int) (j : Int) (hj : j ≠ 4) : canB d { h with mode := v } j = canB d h j := by
  unfold canB canF
  (simp only [decide_eq_false hj, cond_false]) <;> rfl
theorem cb_uid (d : Int) (h : Head) (v : Int) (j : Int) (hj : j ≠ 5) : canB d { h with uid := v } j = canB d h j := by
  unfold canB canF
  (simp only [decide_eq_false hj, cond_false]) <;> rfl
theorem cb_gid (d : Int) (h : Head) (v : Int) (j : Int) (hj : j ≠ 6) : canB d { h with gid := v } j = canB d h j := by
  unfold canB canF
  (simp only [decide_eq_false hj, cond_false]) <;> rfl
theorem cb_user (d : Int) (h : Head) (v : Tx) (j : Int) (hj : j ≠ 9) : canB d { h with user := v } j = canB d h j := by
  unfold canB canF
  (simp only [decide_eq_false hj, cond_false]) <;> rfl
theorem cb_group (d : Int) (h : Head) (v : Tx) (j : Int) (hj : j ≠ 10) : canB d { h with group := v } j = canB d h j := by
  unfold canB canF
  (simp only [decide_eq_false hj, cond_false]) <;> rfl
theorem cb_extra (d : Int) (h : Head) (v : List Pair) (j : Int) (hj : j ≠ 13) : canB d { h with extra := v } j = canB d h j := by
  unfold canB canF
  (simp only [decide_eq_false hj, cond_false]) <;> rfl
theorem cb_time (d : Int) (h : Head) (v w : Int) (j : Int) (hj : j ≠ 8) : canB d { h with sec := v, nano := w } j = canB d h j := by
  unfold canB canF
  (simp only [decide_eq_false hj, cond_false]) <;> rfl
theorem adF_other {d : Int} {h : Head} {f j : Int} {x : Head} (hx : adF d h f = some x) (hj : 1 ≤ j ∧ j ≤ 13) (hne : j ≠ f) (h3 : f = 14 → d = 3) : canB d x j = canB d h j := by
  rcases adF_shape hx with ⟨rfl, v, rfl⟩ | ⟨rfl, v, rfl⟩ | ⟨rfl, v, rfl⟩ | ⟨rfl, v, rfl⟩ | ⟨rfl, v, rfl⟩ | ⟨rfl, v, w, rfl⟩ | ⟨rfl, v, rfl⟩ | ⟨rfl, v, rfl⟩ | ⟨rfl, v, rfl⟩ | ⟨rfl, v, rfl⟩
  · exact cb_name d h v j hne
  · exact cb_link d h v j hne
  · exact cb_mode d h v j hne
  · exact cb_uid d h v j hne
  · exact cb_gid d h v j hne
  · exact cb_time d h v w j hne
  · exact cb_user d h v j hne
  · exact cb_group d h v j hne
  · exact cb_extra d h v j hne
  · by_cases h13 : j = 13
    · subst h13
      rw [h3 rfl]
      rfl
    · exact cb_extra d h v j h13
theorem text_can (d : Int) (s : Tx) (m : Nat) : textB d (textF d s m) m = true := by
  unfold textB textF
  by_cases h3 : d = 3
  · rw [decide_eq_true h3, cond_true, cond_true, mendT_utf]
    cases decide ((mendT s).length ≤ m) <;> rfl
  · have := (cutT_len s (m : Int) (by omega)).1
    rw [decide_eq_false h3, cond_false, decide_eq_true (by omega)]
    rfl
theorem people_can (d : Int) (s : Tx) : peopleB d (peopleF d s) = true := by
  unfold peopleB peopleF
  by_cases h1 : d = 1
  · rw [decide_eq_true h1]; rfl
  · rw [decide_eq_false h1]
    exact text_can d s 32
/-- What is adapted can be told. -/
theorem adF_can {d : Int} {h : Head} {f : Int} {x : Head} (hr : RightH h) (hx : adF d h f = some x) : canX d x f = true := by
  unfold adF at hx
  split at hx
  · rename_i hf
    subst hf
    cases hq : (nameF d h).2 with
    | false => rw [hq] at hx; cases hx
    | true =>
      rw [hq] at hx
      cases hx
      unfold nameF at hq ⊢
      cases h3 : decide (d = 3) with
      | true =>
        rw [h3] at hq
        exact (canW_right hq).2
      | false =>
        rw [h3] at hq
        cases hp : pickGo (fun t => canW d (nameW h t) 2) h.name with
        | some t => exact (canW_right (pickGo_len hp).2).2
        | none =>
          rw [hp] at hq
          exact (canW_right hq).2
  split at hx
  · rename_i hf
    subst hf
    cases hq : canW d { h with link := textF d h.link 100 } 3 with
    | false => rw [hq] at hx; cases hx
    | true => rw [hq] at hx; cases hx; exact (canW_right hq).2
  split at hx
  · rename_i hf
    subst hf
    cases hx
    have h4 : 0 ≤ h.mode := of_decide_eq_true hr.a4
    have hb := Int.tmod_lt_of_pos h.mode (show (0 : Int) < 4096 by omega)
    show smallB d (Int.tmod h.mode 4096) = true
    unfold smallB
    rw [decide_eq_true (show Int.tmod h.mode 4096 ≤ 16777215 by omega)]
    rfl
  split at hx
  · rename_i hf
    subst hf
    cases hx
    show ownerB d 65534 = true
    unfold ownerB
    cases decide (d = 3) <;> rfl
  split at hx
  · rename_i hf
    subst hf
    cases hx
    show ownerB d 65534 = true
    unfold ownerB
    cases decide (d = 3) <;> rfl
  split at hx
  · rename_i hf
    subst hf
    cases hx
    unfold whenF
    cases hq : canB d { h with nano := 0 } 8 with
    | true => exact hq
    | false =>
      show whenB d (bif decide (h.sec < 0) then 0 else 68719476735) 0 = true
      unfold whenB
      cases decide (d = 3) <;> cases decide (d = 4) <;> cases decide (h.sec < 0) <;> rfl
  split at hx
  · rename_i hf
    subst hf
    cases hq : decide (wrongH { h with user := peopleF d h.user } = 0) with
    | false => rw [hq] at hx; cases hx
    | true =>
      rw [hq] at hx
      cases hx
      exact people_can d h.user
  split at hx
  · rename_i hf
    subst hf
    cases hq : decide (wrongH { h with group := peopleF d h.group } = 0) with
    | false => rw [hq] at hx; cases hx
    | true =>
      rw [hq] at hx
      cases hx
      exact people_can d h.group
  split at hx
  · rename_i hf
    subst hf
    cases hx
    show extraB d [] = true
    unfold extraB
    cases decide (d = 3) <;> rfl
  split at hx
  · rename_i hf
    subst hf
    cases hq : canW d (extraW h (dropGo (fun l => canW d (extraW h l) 14) h.extra.length h.extra)) 14 with
    | false => rw [hq] at hx; cases hx
    | true => rw [hq] at hx; cases hx; exact (canW_right hq).2
  · cases hx
theorem can14_3 {d : Int} {h : Head} (hc : canX d h 14 = false) : d = 3 := by
  rw [canX_14] at hc
  by_cases h3 : d = 3
  · exact h3
  · rw [decide_eq_false h3] at hc; cases hc
theorem adGo_can {d : Int} : ∀ (m : Nat) (f : Int) (h : Head) (l : List Int) (x : Head) (l' : List Int), 1 ≤ f → f + (m : Int) = 15 → Inv h → (∀ j, 1 ≤ j ∧ j < f → canX d h j = true) → adGo d m f h l = some (x, l') → ∀ j, 1 ≤ j ∧ j ≤ 14 → canX d x j = true
  | 0, f, h, l, x, l', h1, h2, hi, hp, e => by
    cases e
    exact fun j hj => hp j (by omega)
  | m + 1, f, h, l, x, l', h1, h2, hi, hp, e => by
    unfold adGo at e
    cases hc : canX d h f with
    | true =>
      rw [hc] at e
      refine adGo_can m (f + 1) h l x l' (by omega) (by omega) hi (fun j hj => ?_) e
      by_cases he : j = f
      · rw [he]; exact hc
      · exact hp j (by omega)
    | false =>
      rw [hc] at e
      cases ha : adF d h f with
      | none => rw [ha] at e; cases e
      | some y =>
        rw [ha] at e
        refine adGo_can m (f + 1) y _ x l' (by omega) (by omega) (adF_inv (by omega) hi ha) (fun j hj => ?_) e
        by_cases he : j = f
        · rw [he]; exact adF_can hi.r ha
        · have hp := hp j (by omega)
          rw [canX_13 (by omega)] at hp ⊢
          rw [adF_other ha (by omega) he fun h14 => can14_3 (by rw [← h14]; exact hc)]
          exact hp
theorem adGo_all {d : Int} : ∀ (m : Nat) (f : Int) (h : Head) (l : List Int), f + (m : Int) = 15 → (∀ j, f ≤ j ∧ j ≤ 14 → canX d h j = true) → adGo d m f h l = some (h, l)
  | 0, f, h, l, h2, hp => rfl
  | m + 1, f, h, l, h2, hp => by
    unfold adGo
    rw [hp f (by omega), cond_true]
    exact adGo_all m (f + 1) h l (by omega) fun j hj => hp j (by omega)
theorem adGo_len {d : Int} : ∀ (m : Nat) (f : Int) (h : Head) (l : List Int) (x : Head) (l' : List Int), f + (m : Int) = 15 → adGo d m f h l = some (x, l') → l.length ≤ l'.length ∧ (l.length = l'.length → ∀ j, f ≤ j ∧ j ≤ 14 → canX d h j = true)
  | 0, f, h, l, x, l', h2, e => by
    cases e
    exact ⟨Nat.le_refl _, fun _ j hj => by omega⟩
  | m + 1, f, h, l, x, l', h2, e => by
    unfold adGo at e
    cases hc : canX d h f with
    | true =>
      rw [hc] at e
      obtain ⟨g1, g2⟩ := adGo_len m (f + 1) h l x l' (by omega) e
      refine ⟨g1, fun hl j hj => ?_⟩
      by_cases he : j = f
      · rw [he]; exact hc
      · exact g2 hl j (by omega)
    | false =>
      rw [hc] at e
      cases ha : adF d h f with
      | none => rw [ha] at e; cases e
      | some y =>
        rw [ha] at e
        obtain ⟨g1, g2⟩ := adGo_len m (f + 1) y _ x l' (by omega) e
        rw [List.length_append, List.length_singleton] at g1
        exact ⟨by omega, fun hl => by omega⟩
/-! What changed is told. -/
/-- A field put back. -/
def backH (h o : Head) (f : Int) : Head :=
  if f = 2 then { o with name := h.name } else if f = 3 then { o with link := h.link } else if f = 4 then { o with mode := h.mode } else if f = 5 then { o with uid := h.uid } else if f = 6 then { o with gid := h.gid }
  else if f = 8 then { o with sec := h.sec, nano := h.nano } else if f = 9 then { o with user := h.user } else if f = 10 then { o with group := h.group } else if f = 13 then { o with extra := h.extra } else o
/-- Two heads that are one but for the fields told. -/
structure Alike (h x : Head) (l : List Int) : Prop where
  rest : (x.kind, x.size, x.major, x.minor) = (h.kind, h.size, h.major, h.minor)
  name : 2 ∈ l ∨ x.name = h.name
  link : 3 ∈ l ∨ x.link = h.link
  mode : 4 ∈ l ∨ x.mode = h.mode
  uid : 5 ∈ l ∨ x.uid = h.uid
  gid : 6 ∈ l ∨ x.gid = h.gid
  time : 8 ∈ l ∨ (x.sec, x.nano) = (h.sec, h.nano)
  user : 9 ∈ l ∨ x.user = h.user
  group : 10 ∈ l ∨ x.group = h.group
  extra : 13 ∈ l ∨ x.extra = h.extra
theorem alike_self (h : Head) : Alike h h [] := ⟨rfl, .inr rfl, .inr rfl, .inr rfl, .inr rfl, .inr rfl, .inr rfl, .inr rfl, .inr rfl, .inr rfl⟩
theorem in_app {l : List Int} {a : Int} {p : Prop} (b : Int) (h : a ∈ l ∨ p) : a ∈ l ++ [b] ∨ p := h.imp (fun h => List.mem_append_left _ h) fun h => h
theorem in_last {l : List Int} {a : Int} {p : Prop} : a ∈ l ++ [a] ∨ p := .inl (by simp)
theorem alike_step {d : Int} {h0 h : Head} {f : Int} {x : Head} {l : List Int} (ha : Alike h0 h l) (hx : adF d h f = some x) : Alike h0 x (l ++ [if 13 < f then 13 else f]) := by
  obtain ⟨a0, a1, a2, a3, a4, a5, a6, a7, a8, a9⟩ := ha
  rcases adF_shape hx with ⟨rfl, v, rfl⟩ | ⟨rfl, v, rfl⟩ | ⟨rfl, v, rfl⟩ | ⟨rfl, v, rfl⟩ | ⟨rfl, v, rfl⟩ | ⟨rfl, v, w, rfl⟩ | ⟨rfl, v, rfl⟩ | ⟨rfl, v, rfl⟩ | ⟨rfl, v, rfl⟩ | ⟨rfl, v, rfl⟩
  · exact ⟨a0, in_last, in_app _ a2, in_app _ a3, in_app _ a4, in_app _ a5, in_app _ a6, in_app _ a7, in_app _ a8, in_app _ a9⟩
  · exact ⟨a0, in_app _ a1, in_last, in_app _ a3, in_app _ a4, in_app _ a5, in_app _ a6, in_app _ a7, in_app _ a8, in_app _ a9⟩
  · exact ⟨a0, in_app _ a1, in_app _ a2, in_last, in_app _ a4, in_app _ a5, in_app _ a6, in_app _ a7, in_app _ a8, in_app _ a9⟩
  · exact ⟨a0, in_app _ a1, in_app _ a2, in_app _ a3, in_last, in_app _ a5, in_app _ a6, in_app _ a7, in_app _ a8, in_app _ a9⟩
  · exact ⟨a0, in_app _ a1, in_app _ a2, in_app _ a3, in_app _ a4, in_last, in_app _ a6, in_app _ a7, in_app _ a8, in_app _ a9⟩
  · exact ⟨a0, in_app _ a1, in_app _ a2, in_app _ a3, in_app _ a4, in_app _ a5, in_last, in_app _ a7, in_app _ a8, in_app _ a9⟩
  · exact ⟨a0, in_app _ a1, in_app _ a2, in_app _ a3, in_app _ a4, in_app _ a5, in_app _ a6, in_last, in_app _ a8, in_app _ a9⟩
  · exact ⟨a0, in_app _ a1, in_app _ a2, in_app _ a3, in_app _ a4, in_app _ a5, in_app _ a6, in_app _ a7, in_last, in_app _ a9⟩
  · exact ⟨a0, in_app _ a1, in_app _ a2, in_app _ a3, in_app _ a4, in_app _ a5, in_app _ a6, in_app _ a7, in_app _ a8, in_last⟩
  · exact ⟨a0, in_app _ a1, in_app _ a2, in_app _ a3, in_app _ a4, in_app _ a5, in_app _ a6, in_app _ a7, in_app _ a8, in_last⟩
theorem adGo_alike {d : Int} {h0 : Head} : ∀ (m : Nat) (f : Int) (h : Head) (l : List Int) (x : Head) (l' : List Int), Alike h0 h l → adGo d m f h l = some (x, l') → Alike h0 x l'
  | 0, f, h, l, x, l', ha, e => by cases e; exact ha
  | m + 1, f, h, l, x, l', ha, e => by
    unfold adGo at e
    cases hc : canX d h f with
    | true =>
      rw [hc] at e
      exact adGo_alike m (f + 1) h l x l' ha e
    | false =>
      rw [hc] at e
      cases hq : adF d h f with
      | none => rw [hq] at e; cases e
      | some y =>
        rw [hq] at e
        exact adGo_alike m (f + 1) y _ x l' (alike_step ha hq) e
theorem back_fold {α : Type} (π : Head → α) (w : Int) (h : Head) (hs : ∀ x f, f ≠ w → π (backH h x f) = π x) (hh : ∀ x, π (backH h x w) = π h) : ∀ (l : List Int) (x : Head), (w ∈ l ∨ π x = π h) → π (l.foldl (backH h) x) = π h
  | [], x, hx => by
    rcases hx with hx | hx
    · cases hx
    · exact hx
  | f :: l, x, hx => by
    rw [List.foldl_cons]
    refine back_fold π w h hs hh l _ ?_
    by_cases hf : f = w
    · rw [hf]; exact .inr (hh x)
    · rcases hx with hx | hx
      · rcases List.mem_cons.1 hx with e | hx
        · exact absurd e.symm hf
        · exact .inl hx
      · exact .inr ((hs x f hf).trans hx)
theorem bk_name (h x : Head) (f : Int) (hf : f ≠ 2) : (backH h x f).name = x.name := by unfold backH; (repeat' split) <;> first | rfl | (exfalso; omega)
theorem bk_link (h x : Head) (f : Int) (hf : f ≠ 3) : (backH h x f).link = x.link := by unfold backH; (repeat' split) <;> first | rfl | (exfalso; omega)
theorem bk_mode (h x : Head) (f : Int) (hf : f ≠ 4) : (backH h x f).mode = x.mode := by unfold backH; (repeat' split) <;> first | rfl | (exfalso; omega)
theorem bk_uid (h x : Head) (f : Int) (hf : f ≠ 5) : (backH h x f).uid = x.uid := by unfold backH; (repeat' split) <;> first | rfl | (exfalso; omega)
theorem bk_gid (h x : Head) (f : Int) (hf : f ≠ 6) : (backH h x f).gid = x.gid := by unfold backH; (repeat' split) <;> first | rfl | (exfalso; omega)
theorem bk_user (h x : Head) (f : Int) (hf : f ≠ 9) : (backH h x f).user = x.user := by unfold backH; (repeat' split) <;> first | rfl | (exfalso; omega)
theorem bk_group (h x : Head) (f : Int) (hf : f ≠ 10) : (backH h x f).group = x.group := by unfold backH; (repeat' split) <;> first | rfl | (exfalso; omega)
theorem bk_extra (h x : Head) (f : Int) (hf : f ≠ 13) : (backH h x f).extra = x.extra := by unfold backH; (repeat' split) <;> first | rfl | (exfalso; omega)
theorem bk_time (h x : Head) (f : Int) (hf : f ≠ 8) : ((backH h x f).sec, (backH h x f).nano) = (x.sec, x.nano) := by unfold backH; (repeat' split) <;> first | rfl | (exfalso; omega)
theorem bk_rest (h x : Head) (f : Int) : ((backH h x f).kind, (backH h x f).size, (backH h x f).major, (backH h x f).minor) = (x.kind, x.size, x.major, x.minor) := by unfold backH; (repeat' split) <;> rfl
theorem head_ext2 {a b : Head} (e0 : (a.kind, a.size, a.major, a.minor) = (b.kind, b.size, b.major, b.minor)) (e1 : a.name = b.name) (e2 : a.link = b.link) (e3 : a.user = b.user) (e4 : a.group = b.group) (e5 : a.uid = b.uid) (e6 : a.gid = b.gid) (e7 : a.mode = b.mode) (e8 : (a.sec, a.nano) = (b.sec, b.nano)) (e9 : a.extra = b.extra) : a = b := by
  cases a
  cases b
  simp only [Prod.mk.injEq] at e0 e1 e2 e3 e4 e5 e6 e7 e8 e9
  obtain ⟨d0, d1, d2, d3⟩ := e0
  obtain ⟨d4, d5⟩ := e8
  subst d0 d1 d2 d3 d4 d5 e1 e2 e3 e4 e5 e6 e7 e9
  rfl
theorem back_rest (h : Head) : ∀ (l : List Int) (x : Head), (x.kind, x.size, x.major, x.minor) = (h.kind, h.size, h.major, h.minor) → ((l.foldl (backH h) x).kind, (l.foldl (backH h) x).size, (l.foldl (backH h) x).major, (l.foldl (backH h) x).minor) = (h.kind, h.size, h.major, h.minor)
  | [], x, hx => hx
  | f :: l, x, hx => by
    rw [List.foldl_cons]
    exact back_rest h l _ ((bk_rest h x f).trans hx)
/-- With what changed put back it is what it was. -/
theorem back_all {h x : Head} {l : List Int} (ha : Alike h x l) : l.foldl (backH h) x = h :=
  head_ext2 (back_rest h l x ha.rest)
    (back_fold (fun x => x.name) 2 h (bk_name h) (fun x => rfl) l x ha.name) (back_fold (fun x => x.link) 3 h (bk_link h) (fun x => rfl) l x ha.link)
    (back_fold (fun x => x.user) 9 h (bk_user h) (fun x => rfl) l x ha.user) (back_fold (fun x => x.group) 10 h (bk_group h) (fun x => rfl) l x ha.group)
    (back_fold (fun x => x.uid) 5 h (bk_uid h) (fun x => rfl) l x ha.uid) (back_fold (fun x => x.gid) 6 h (bk_gid h) (fun x => rfl) l x ha.gid)
    (back_fold (fun x => x.mode) 4 h (bk_mode h) (fun x => rfl) l x ha.mode) (back_fold (fun x => (x.sec, x.nano)) 8 h (bk_time h) (fun x => rfl) l x ha.time)
    (back_fold (fun x => x.extra) 13 h (bk_extra h) (fun x => rfl) l x ha.extra)
end Go.Proofs.YtbkhmkcmbaffoaaGreatDoor.Eng.U


/- AdaptTells is true. -/
set_option linter.unusedVariables false
set_option linter.unusedSectionVars false
set_option linter.unusedSimpArgs false
namespace Go.Proofs.YtbkhmkcmbaffoaaGreatDoor.Eng.U
open Go Go.RowKit Go.Proofs Go.Proofs.YtbkhmkcmbaffoaaGreatDoor.Eng Go.Proofs.YtbkhmkcmbaffoaaGreatDoor.S11 Go.Proofs.YtbkhmkcmbaffoaaGreatDoor.P04 Go.Proofs.YtbkhmkcmbaffoaaGreatDoor.P24
variable {E : Ext} [Core E] [HasNum E] [HasTextV E] [HasRec E] [HasMend E] [HasParts E] [HasJoin E] [HasSClone E] [HasPClone E] {k n : Nat}

theorem tells_loop (kap : FuncId → List AV → Option AV) (h : Head) (l : List Int) (hl : l.length ≤ 100000) (hS : kap ref08_SameHead [.agg (encHead h), .agg (encHead h)] = some (.bool true)) :
    ∀ (suf pre : List Int) (o : Head) (k0 : Nat), suf.length < k0 → l = pre ++ suf → suf.foldl (backH h) o = h →
    law34_AdaptTells_L0 kap k k0 (ivs l) ((pre.length : Nat) : Int) h.kind (str h.name) (str h.link) h.mode h.uid h.gid h.size h.sec h.nano (str h.user) (str h.group) h.major h.minor (prs h.extra) o.kind (str o.name) (str o.link) o.mode o.uid o.gid o.size o.sec o.nano (str o.user) (str o.group) o.major o.minor (prs o.extra) = some (.bool true)
  | [], pre, o, k0 + 1, hk, he, ho => by
    have hll : l.length = pre.length := by rw [he]; simp
    have ho : o = h := ho
    subst ho
    unfold encHead at hS
    rw [law34_AdaptTells_L0_s, ivs_len, bif_f (by omega), hS, callB_ok]
  | f :: suf, pre, o, k0 + 1, hk, he, ho => by
    have hll : l.length = pre.length + suf.length + 1 := by rw [he]; exact mid_len pre suf f
    have hg : ∀ K : Int → Option AV, (((ivs l)[pre.length]?).bind fun y => cellI .i64 (AV.cells y) 0 K) = K f := fun K => by rw [he]; exact ivs_mid _ _ _ _
    have ih := fun (o' : Head) (ho' : o' = backH h o f) => tells_loop kap h l hl hS suf (pre ++ [f]) o' k0 (by simpa using hk) (by rw [he]; simp) (by rw [ho']; exact ho)
    rw [List.length_append, List.length_singleton] at ih
    rw [law34_AdaptTells_L0_s, ivs_len, bif_t (by omega), inb (by omega), cond_true, Int.toNat_natCast, hg, wrap1 (by omega)]
    have hb : backH h o f = backH h o f := rfl
    conv at hb => rhs; unfold backH
    by_cases h2 : f = 2
    · rw [if_pos h2] at hb; rw [bif_t h2]; exact ih { o with name := h.name } hb.symm
    rw [if_neg h2] at hb; rw [bif_f h2]
    by_cases h3 : f = 3
    · rw [if_pos h3] at hb; rw [bif_t h3]; exact ih { o with link := h.link } hb.symm
    rw [if_neg h3] at hb; rw [bif_f h3]
    by_cases h4 : f = 4
    · rw [if_pos h4] at hb; rw [bif_t h4]; exact ih { o with mode := h.mode } hb.symm
    rw [if_neg h4] at hb; rw [bif_f h4]
    by_cases h5 : f = 5
    · rw [if_pos h5] at hb; rw [bif_t h5]; exact ih { o with uid := h.uid } hb.symm
    rw [if_neg h5] at hb; rw [bif_f h5]
    by_cases h6 : f = 6
    · rw [if_pos h6] at hb; rw [bif_t h6]; exact ih { o with gid := h.gid } hb.symm
    rw [if_neg h6] at hb; rw [bif_f h6]
    by_cases h8 : f = 8
    · rw [if_pos h8] at hb; rw [bif_t h8]; exact ih { o with sec := h.sec, nano := h.nano } hb.symm
    rw [if_neg h8] at hb; rw [bif_f h8]
    by_cases h9 : f = 9
    · rw [if_pos h9] at hb; rw [bif_t h9]; exact ih { o with user := h.user } hb.symm
    rw [if_neg h9] at hb; rw [bif_f h9]
    by_cases h10 : f = 10
    · rw [if_pos h10] at hb; rw [bif_t h10]; exact ih { o with group := h.group } hb.symm
    rw [if_neg h10] at hb; rw [bif_f h10]
    by_cases h13 : f = 13
    · rw [if_pos h13] at hb; rw [bif_t h13]; exact ih { o with extra := h.extra } hb.symm
    rw [if_neg h13] at hb; rw [bif_f h13]
    exact ih o hb.symm
theorem first_ans (d : Int) (h : Head) (hd : 1 ≤ d ∧ d ≤ 4) (hi : Inv h) (hk : 1000000 < k) : kp E k (n + 9) rep_First [.int .i64 d, .agg (encHead h)] = some (.tup [.int .i64 (firstF (canX d h)), .int .u8 0]) := by
  have e := repFirst_k (E := E) (k := k) (n := n) d h hi.o hk
  rw [dia_iff.2 hd, decide_eq_true (right_wrong hi.r)] at e
  exact e
theorem head_ans (d : Int) (h : Head) (hd : 1 ≤ d ∧ d ≤ 4) (hi : Inv h) (hk : 1000000 < k) : kp E k (n + 13) adapt_Head [.int .i64 d, .agg (encHead h)] = some (aAns (adH d h)) := by
  have e := aHead_k (E := E) (k := k) (n := n) d h hi.o hk
  rw [dia_iff.2 hd, decide_eq_true (right_wrong hi.r)] at e
  exact e
theorem same_self' (x : Head) (hx : x.extra.length ≤ 1000000) (hk : 1000000 < k) : kp E k (n + 2) ref08_SameHead [.agg (encHead x), .agg (encHead x)] = some (.bool true) := by
  have := sameHead_k (E := E) (k := k) (n := n) x x hx (by omega)
  rwa [decide_eq_true rfl] at this
theorem adaptTells_true (d : Int) (h : Head) (g : G_apiHead h) (hk : 10000000000000 ≤ k) : kp E k (n + 15) law34_AdaptTells [.int .i64 d, .agg (encHead h)] = some (.bool true) := by
  have ha := alive34 (E := E) (k := k) (n := n) (by omega)
  obtain ⟨b, hm, hb⟩ := many34_k (E := E) (k := k) (n := n + 13) h [] g (by simp) (by omega)
  have hm' : kp E k (n + 14) law17_Many [.list 15 [.agg [.int .i64 h.kind, .str (str h.name), .str (str h.link), .int .i64 h.mode, .int .i64 h.uid, .int .i64 h.gid, .int .i64 h.size, .int .i64 h.sec, .int .i64 h.nano, .str (str h.user), .str (str h.group), .int .i64 h.major, .int .i64 h.minor, .list 2 (prs h.extra), .list 1 []]]] = some (.bool b) := hm
  unfold encHead
  rw [law34_AdaptTells_eq, ha, callB_ok, Bool.not_true, cond_false, hm', callB_ok]
  cases b with
  | true => rfl
  | false =>
  have ho := hb rfl
  rw [cond_false]
  by_cases hd1 : d < 1
  · rw [bif_t hd1]
  by_cases hd4 : d > 4
  · rw [bif_f hd1, bif_t hd4]
  have hd : 1 ≤ d ∧ d ≤ 4 := by omega
  have hw := wrong_kv (E := E) (k := k) (n := n + 6) h ho.bd (by omega)
  rw [bif_f hd1, bif_f hd4]
  refine (congrArg (fun x => callI .i64 x _) hw).trans ?_
  rw [callI_ok]
  by_cases h0 : wrongH h = 0
  · have hi : Inv h := ⟨rightH_of h0, ho⟩
    have e1 := head_ans (E := E) (k := k) (n := n + 1) d h hd hi (by omega)
    have e2 := first_ans (E := E) (k := k) (n := n + 5) d h hd hi (by omega)
    rw [decide_eq_true h0, Bool.not_true, cond_false]
    refine (congrArg (fun x => callT x _) e1).trans ?_
    cases hq : adH d h with
    | none =>
      have hne : firstF (canX d h) ≠ 0 := fun hz => by
        have := adGo_all (d := d) 14 1 h [] (by omega) fun j hj => firstF_zero.1 hz j (by omega)
        unfold adH at hq
        rw [this] at hq
        cases hq
      show (callT (some (AV.tup [elHead zeroHd, .list 1 [], .int .u8 16])) _) = _
      rw [callT_ok, tupG_head, h_0, h_1, h_2, h_3, h_4, h_5, h_6, h_7, h_8, h_9, h_10, h_11, h_12, h_13, tupL_ok, tupI_ok, atNil_ok]
      refine (congrArg (fun x => callT x _) e2).trans ?_
      rw [callT_ok, tupI_ok, tupI_ok, atNil_ok, decide_eq_false hne]
      rfl
    | some r =>
      obtain ⟨x, l⟩ := r
      obtain ⟨hix, hlx⟩ := adGo_inv 14 1 h [] x l (by omega) (by omega) hi hq
      have hcan := adGo_can 14 1 h [] x l (by omega) (by omega) hi (fun j hj => by omega) hq
      have hlen := adGo_len 14 1 h [] x l (by omega) hq
      have hal := adGo_alike 14 1 h [] x l (alike_self h) hq
      have e3 := first_ans (E := E) (k := k) (n := n + 5) d x hd hix (by omega)
      have e4 := head_ans (E := E) (k := k) (n := n + 1) d x hd hix (by omega)
      have e5 := wrong_kv (E := E) (k := k) (n := n + 6) x hix.o.bd (by omega)
      have e6 := same_self' (E := E) (k := k) (n := n + 12) x (by have := hix.o.ext; omega) (by omega)
      have e7 := same_self' (E := E) (k := k) (n := n + 12) h (by have := ho.ext; omega) (by omega)
      rw [firstF_zero.2 hcan] at e3
      rw [show adH d x = some (x, []) from adGo_all 14 1 x [] (by omega) fun j hj => hcan j (by omega)] at e4
      rw [right_wrong hix.r] at e5
      show (callT (some (AV.tup [elHead x, .list 1 (ivs l), .int .u8 0])) _) = _
      rw [callT_ok, tupG_head, h_0, h_1, h_2, h_3, h_4, h_5, h_6, h_7, h_8, h_9, h_10, h_11, h_12, h_13, tupL_ok, tupI_ok, atNil_ok]
      refine (congrArg (fun x => callT x _) e2).trans ?_
      rw [callT_ok, tupI_ok, tupI_ok, atNil_ok, show (!decide (IntKind.wrap .i64 0 = 0)) = false from rfl, cond_false]
      refine (congrArg (fun x => callT x _) e3).trans ?_
      rw [callT_ok, tupI_ok, tupI_ok, atNil_ok]
      refine (congrArg (fun x => callT x _) e4).trans ?_
      show (callT (some (AV.tup [elHead x, .list 1 [], .int .u8 0])) _) = _
      rw [callT_ok, tupG_head, h_0, h_1, h_2, h_3, h_4, h_5, h_6, h_7, h_8, h_9, h_10, h_11, h_12, h_13, tupL_ok, tupI_ok, atNil_ok]
      refine (congrArg (fun x => callI .i64 x _) e5).trans ?_
      rw [callI_ok, show (!decide ((0 : Int) = 0)) = false from rfl, cond_false, show (!decide (IntKind.wrap .i64 0 = 0)) = false from rfl, cond_false, cond_false, cond_false, show (!decide (((([] : List AV).length : Nat) : Int) = 0)) = false from rfl, cond_false]
      refine (congrArg (fun x => callB x _) e6).trans ?_
      have hsame : (decide (firstF (canX d h) = 0) == decide (((l.length : Nat) : Int) = 0)) = true := by
        rw [beq_iff_eq, decide_eq_decide]
        constructor
        · intro hz
          have := adGo_all (d := d) 14 1 h [] (by omega) fun j hj => firstF_zero.1 hz j (by omega)
          unfold adH at hq
          rw [this] at hq
          cases hq
          rfl
        · intro hz
          exact firstF_zero.2 fun j hj => hlen.2 (by simp; omega) j hj
      rw [callB_ok, Bool.not_true, cond_false, ivs_len, hsame, Bool.not_true, cond_false]
      exact tells_loop (k := k) (kp E k (n + 14)) h l (by simp at hlx; omega) e7 l [] x k (by simp at hlx; omega) rfl (back_all hal)
  · rw [decide_eq_false h0]; rfl
end Go.Proofs.YtbkhmkcmbaffoaaGreatDoor.Eng.U


/- AdaptItems is true. -/
set_option linter.unusedVariables false
set_option linter.unusedSectionVars false
set_option linter.unusedSimpArgs false
namespace Go.Proofs.YtbkhmkcmbaffoaaGreatDoor.Eng.U
open Go Go.RowKit Go.Proofs Go.Proofs.YtbkhmkcmbaffoaaGreatDoor.Eng Go.Proofs.YtbkhmkcmbaffoaaGreatDoor.S11 Go.Proofs.YtbkhmkcmbaffoaaGreatDoor.P04 Go.Proofs.YtbkhmkcmbaffoaaGreatDoor.P24

class HasBClone (E : Ext) : Prop where
  bytes : ∀ (k n : Nat) (l : Tx), l.length ≤ 1000000000 → kp E k n slices_Clone_byte [.list 1 (bys l)] = some (.list 1 (bys l))
variable {E : Ext} [Core E] [HasNum E] [HasTextV E] [HasRec E] [HasMend E] [HasParts E] [HasJoin E] [HasSClone E] [HasPClone E] [HasBClone E] {k n : Nat}

/-! What becomes of items. -/
def outL (d : Int) : List Item → List Item
  | [] => []
  | x :: l => match adH d x.head with
    | none => outL d l
    | some (h, f) => ⟨h, x.data⟩ :: outL d l
/-! The program. -/
structure ItOk (x : Item) : Prop where
  ok : OkHd x.head
  dat : x.data.length ≤ 400000
/-! The law. -/
end Go.Proofs.YtbkhmkcmbaffoaaGreatDoor.Eng.U


/- The library's functions, rep.Records, utf.Mend, path.Parts, the clones, given together; the Adapt laws over them. -/
set_option linter.unusedVariables false
set_option linter.unusedSectionVars false
set_option linter.unusedSimpArgs false
namespace Go.Proofs.YtbkhmkcmbaffoaaGreatDoor.Eng.U
open Go Go.RowKit Go.Proofs Go.Proofs.YtbkhmkcmbaffoaaGreatDoor.Eng

/-- internal/stringslite.Clone. -/
def pSClone : Piece := { f := stringslite_Clone, ans := fun args => match args with
  | [.str s] => bif decide (s.size ≤ 281474976710656) then some (.str s) else none
  | _ => none }
theorem sclone_right : pSClone.Right := by
  refine ⟨⟨Tryz.f128, Tryz.func128, by kernel_rfl, by kernel_rfl⟩, fun args res h => ?_⟩
  unfold pSClone at h
  dsimp only at h
  split at h
  · rename_i s
    obtain ⟨hs, h2⟩ := some_of_bif h
    obtain rfl := Option.some.inj h2
    have hs : s.size ≤ 281474976710656 := by simpa using hs
    refine ok_pure ⟨rfl, rfl⟩ fun S w vals hag hG hV => ?_
    obtain ⟨v, rfl, h1⟩ := VL_1 hV
    obtain rfl := V_str h1
    refine (Tryz.stringslite_Clone s w hs).mono ?_
    rintro e w' ⟨rfl, hb⟩
    exact ⟨_, rfl, fun S' => V.str _, hb⟩
  · cases h
noncomputable def ps34 : List Piece := [pFmt, pItoa, pCutP, pTrimR, pIndex, pIndexByte, pRepeat, pPInt, pPUint, pDec, pAny, pRec, pMend, pParts, pJoin, pCloneP, pCloneB, pSClone]
noncomputable def ext34 : Ext := extOf ps34
instance core34 : Core ext34 := core_of (by kernel_rfl)
instance num34 : HasNum ext34 := num_of rfl rfl rfl rfl rfl rfl rfl rfl rfl
instance text34 : HasText ext34 where
  dec k n s := ⟨_, _, (kp_piece (ps := ps34) (p := pDec) (k := k) (n := n) (args := [.str (str s)]) rfl).trans rfl⟩
  idx k n s hs := by
    have h := kp_piece (ps := ps34) (p := pAny) (k := k) (n := n) (args := [.str (str s), .str (str [61, 0])]) rfl
    have e : pAny.ans [.str (str s), .str (str [61, 0])] = (bif decide (str [61, 0] = str [61, 0]) && decide ((str s).size ≤ 1000000) then (bif decide (8 < (str s).size) then some (.int .i64 (Lib.indexAny (str s).data.toList [61, 0])) else (bs ext09a 100).kap 3 strings_IndexAny [.str (str s), .str (str [61, 0])]) else none) := rfl
    rw [e, str_size, decide_eq_true rfl, decide_eq_true hs, Bool.true_and, cond_true] at h
    by_cases h8 : 8 < s.length
    · rw [decide_eq_true h8, cond_true] at h
      exact ⟨_, h⟩
    · rw [decide_eq_false h8, cond_false] at h
      obtain ⟨r, hr⟩ := any_short (E := ext09a) (k := 100) (n := 0) (by kernel_rfl) (by kernel_rfl) (by omega) s (by omega)
      exact ⟨r, h.trans hr⟩
instance textV34 : HasTextV ext34 where
  dec k n s := (kp_piece (ps := ps34) (p := pDec) (k := k) (n := n) (args := [.str s]) rfl).trans rfl
  idx k n s hs := by
    have h := kp_piece (ps := ps34) (p := pAny) (k := k) (n := n) (args := [.str (str s), .str (str [61, 0])]) rfl
    have e : pAny.ans [.str (str s), .str (str [61, 0])] = (bif decide (str [61, 0] = str [61, 0]) && decide ((str s).size ≤ 1000000) then (bif decide (8 < (str s).size) then some (.int .i64 (Lib.indexAny (str s).data.toList [61, 0])) else (bs ext09a 100).kap 3 strings_IndexAny [.str (str s), .str (str [61, 0])]) else none) := rfl
    rw [e, str_size, decide_eq_true rfl, decide_eq_true hs, Bool.true_and, cond_true] at h
    by_cases h8 : 8 < s.length
    · rw [decide_eq_true h8, cond_true] at h
      exact ⟨_, h, any_long_v s⟩
    · rw [decide_eq_false h8, cond_false] at h
      obtain ⟨r, hr, hv⟩ := any_short_v (E := ext09a) (k := 100) (n := 0) (by kernel_rfl) (by kernel_rfl) (by omega) s (by omega)
      exact ⟨r, h.trans hr, hv⟩
instance rec34 : HasRec ext34 := ⟨fun k n h ho => by
  have e := kp_piece (ps := ps34) (p := pRec) (k := k) (n := n) (args := [.agg (encHead h)]) rfl
  refine e.trans ?_
  show ((toHead (encHead h)).bind fun h => bif okHd h then some (AV.tup [.list 2 (prs (recA h).1), .int .u8 (recA h).2]) else none) = _
  rw [toHead_enc, Option.bind_some, okHd_iff.2 ho, cond_true]⟩
theorem good34 (k : Nat) : (bs ext34 k).Good := good_of (fun p hp => by
  simp only [ps34, List.mem_cons, List.not_mem_nil, or_false] at hp
  rcases hp with rfl | rfl | rfl | rfl | rfl | rfl | rfl | rfl | rfl | rfl | rfl | rfl | rfl | rfl | rfl | rfl | rfl | rfl
  · exact fmt_right
  · exact itoa_right
  · exact cutP_right
  · exact trimR_right
  · exact index_right
  · exact indexByte_right
  · exact repeat_right
  · exact pInt_right
  · exact pUint_right
  · exact dec_right
  · exact any_right
  · exact rec_right
  · exact mendP_right
  · exact parts_right
  · exact join_right
  · exact cloneP_right
  · exact cloneB_right
  · exact sclone_right) names_ok k
instance mend34 : HasMend ext34 := ⟨fun k n s hs => by
  refine (kp_piece (ps := ps34) (p := pMend) (k := k) (n := n) (args := [.str s]) rfl).trans ?_
  show (bif decide (s.size ≤ 35184372088832) then _ else none) = _
  rw [decide_eq_true hs]
  rfl⟩
instance parts34 : HasParts ext34 := ⟨fun k n s hs => by
  refine (kp_piece (ps := ps34) (p := pParts) (k := k) (n := n) (args := [.str (str s)]) rfl).trans ?_
  show (bif decide ((str s).size < 1000000) then _ else none) = _
  rw [str_size, decide_eq_true hs]
  rfl⟩
instance join34 : HasJoin ext34 := ⟨fun k n l sep h1 h2 => by
  refine (kp_piece (ps := ps34) (p := pJoin) (k := k) (n := n) (args := [.list 1 (svs l), .str (str sep)]) rfl).trans ?_
  show (toStrs (svs l)).bind _ = _
  rw [toStrs_svs]
  show (bif (1 == 1) && decide (l.length ≤ 1000000) && decide ((sep.intercalate l).length ≤ 1000000000) then _ else none) = _
  rw [decide_eq_true h1, decide_eq_true h2]
  rfl⟩
instance sclone34 : HasSClone ext34 := ⟨fun k n s hs => by
  refine (kp_piece (ps := ps34) (p := pSClone) (k := k) (n := n) (args := [.str s]) rfl).trans ?_
  show (bif decide (s.size ≤ 281474976710656) then _ else none) = _
  rw [decide_eq_true hs]
  rfl⟩
instance pclone34 : HasPClone ext34 := ⟨fun k n l h => (kp_piece (ps := ps34) (p := pCloneP) (k := k) (n := n) rfl).trans (clone_ans (by rw [prs_len]; exact h))⟩
theorem tells34 (d : Int) (h : Head) (gd : -9223372036854775808 ≤ d ∧ d ≤ 9223372036854775807) (g : G_apiHead h) : (bs ext34 10000000000000).kap 15 law34_AdaptTells [.int .i64 d, .agg (encHead h)] = some (.bool true) :=
  adaptTells_true (E := ext34) (n := 0) (k := 10000000000000) d h g (by omega)
instance bclone34 : HasBClone ext34 := ⟨fun k n l h => (kp_piece (ps := ps34) (p := pCloneB) (k := k) (n := n) rfl).trans (clone_ans (by rw [bys_len]; exact h))⟩
end Go.Proofs.YtbkhmkcmbaffoaaGreatDoor.Eng.U

