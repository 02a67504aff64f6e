/- ItemSame, walked: on the way on which the statement holds. Written by wip/gen/gen_is.py. -/
import Derived.Test.YtelniipccmeooaaPItemSamex
import Derived.Test.YtelniipccmeooaaLazy
import Derived.Test.YtelniipccmeooaaBase
import Derived.Test.YtelniipccmeooaaPhase
import Derived.Lib.Hide
import Derived.Laws.CopyOwn
set_option linter.unusedVariables false
set_option linter.unusedSimpArgs false
namespace Go.Proofs.Ytelniipccmeooaa.PItemSame
open Go.RowKit Go.Proofs.YtelniipccmeooaaW.PrintWords Go.Proofs.YtelniipccmeooaaW.PrintLast Go.Proofs.YtelniipccmeooaaW.PrintMore
attribute [local go_sem] max2_int min2_int max_two min_two max_three min_three max_four min_four
def ItemSame.T5 : Bool × List (List Nat × List Nat) := (true, [([], []), ([], []), ([0, 1], [0, 1]), ([], []), ([], []), ([3, 4, 2], [3, 4]), ([2, 5], [2, 5]), ([6, 5], [6]), ([7], [7]), ([7], [7]), ([8, 9, 7, 7], [7, 8, 9]), ([10, 7], [7, 10]), ([7, 11], [7, 11])])
def ItemSame.B5 : List Nat := [0, 0, 3, 0, 0, 31, 63, 127, 255, 255, 1023, 2047, 4095]
theorem ItemSame.tab5 : rtab .any (opsOf Try.f6 5) = ItemSame.T5 := by kernel_rfl
theorem ItemSame.bits5 : waitsOk ItemSame.T5.2 ItemSame.B5 = true := by kernel_rfl
def ItemSame.T7 : Bool × List (List Nat × List Nat) := (true, [([], []), ([0], [0]), ([], []), ([2, 1], [2]), ([], []), ([], []), ([4, 1, 3, 0, 1, 4, 5], [1, 4]), ([5, 3, 6, 0, 1, 2, 3, 4, 5, 6], [3, 5])])
def ItemSame.B7 : List Nat := [0, 1, 0, 7, 0, 0, 63, 127]
theorem ItemSame.tab7 : rtab .any (opsOf Try.f6 7) = ItemSame.T7 := by kernel_rfl
theorem ItemSame.bits7 : waitsOk ItemSame.T7.2 ItemSame.B7 = true := by kernel_rfl
def ItemSame.T13 : Bool × List (List Nat × List Nat) := (true, [([], []), ([0], [0]), ([], []), ([], []), ([3], [3]), ([], []), ([4, 5], [4, 5]), ([6], [6]), ([7], [7]), ([1, 2, 0, 1, 2, 3, 4, 5, 6, 7, 8], [1, 2]), ([9, 8, 0, 1, 2, 3, 4, 5, 6, 7, 8], [8, 9])])
def ItemSame.B13 : List Nat := [0, 1, 0, 0, 8, 0, 56, 120, 248, 511, 1023]
theorem ItemSame.tab13 : rtab .any (opsOf Try.f6 13) = ItemSame.T13 := by kernel_rfl
theorem ItemSame.bits13 : waitsOk ItemSame.T13.2 ItemSame.B13 = true := by kernel_rfl
theorem ItemSame.ld {ev : Operand → Value} {o : Oper} (W : World) (g : Nat) (cs : Array Value) (hcs : cs.size = 15) (x : Operand) (ho : o.op = .load 48 x) (hx : ev x = .pointer (some ⟨g, 0, none⟩)) (hg : W.heap[g]? = some (.cells cs 48 (0, 0))) : (execOp ev o).run Try.prog W = .ok (.value (.agg cs)) W := by
  have hi : (Try.prog.info? 48).map (·.size) = some cs.size := by rw [hcs]; kernel_rfl
  unfold execOp
  simp only [ho, hx, Instr.loadAt, Instr.sureAddr, Sem.run_bind, Sem.run_pure, Result.andThen_ok, run_loadVar_row W g 48 48 cs (0, 0) _ hg Try.underlying48 rfl hi]
structure ItemSame.St where
  (c d g5 g6 : Value) (m : Nat)
structure ItemSame.F (w : World) (CA Z : Array Value) (mk : Value → Value → Value) (l13 : List S55) (l14 : List Int) (l : List Bool) (s : ItemSame.St) (w' : World) : Prop where
  hA : w'.heap[w.heap.size]? = some (.cells CA 48 (0, 0))
  bel : Below w.heap.size w w'
  hm : s.m ≤ w'.heap.size
  hc : l.getD 1 false = true → ∃ p q, s.c = mk p q ∧ Kd.R k55 55 w' w.heap.size (fun k => k < s.m) p l13 ∧ Kd.R (Kd.int .u8) 5 w' w.heap.size (fun k => k < s.m) q l14
  hd : l.getD 3 false = true → ∃ p q, s.d = mk p q ∧ Kd.R k55 55 w' w.heap.size (fun k => s.m ≤ k) p l13 ∧ Kd.R (Kd.int .u8) 5 w' w.heap.size (fun k => s.m ≤ k) q l14
  h5 : l.getD 4 false = true → ∃ g, s.g5 = .pointer (some ⟨g, 0, none⟩) ∧ w'.heap[g]? = some (.cells Z 48 (0, 0)) ∧ w.heap.size < g
  h6 : l.getD 5 false = true → ∃ g, s.g6 = .pointer (some ⟨g, 0, none⟩) ∧ w'.heap[g]? = some (.cells Z 48 (0, 0)) ∧ w.heap.size < g
  b5 : ∀ g, s.g5 = .pointer (some ⟨g, 0, none⟩) → g < w'.heap.size
  b6 : ∀ g, s.g6 = .pointer (some ⟨g, 0, none⟩) → g < w'.heap.size
  ne : ∀ g g', s.g5 = .pointer (some ⟨g, 0, none⟩) → s.g6 = .pointer (some ⟨g', 0, none⟩) → g ≠ g'
theorem ItemSame.lt_ {W : World} {g : Nat} {o : Obj} (h : W.heap[g]? = some o) : g < W.heap.size := (Array.getElem?_eq_some_iff.1 h).1
theorem ItemSame.keep_ {W W' : World} {g : Nat} {o : Obj} (h : W.heap[g]? = some o) (hb : Below W.heap.size W W') : W'.heap[g]? = some o := (hb.block g (ItemSame.lt_ h)).trans h
theorem ItemSame.set_ne {l : List Bool} {i j : Nat} (h : i ≠ j) : (l.set i true).getD j false = l.getD j false := by
  simp [List.getD_eq_getElem?_getD, List.getElem?_set, h]
section
variable {w X X' : World} {CA Z : Array Value} {mk : Value → Value → Value} {l13 : List S55} {l14 : List Int} {l : List Bool} {s : ItemSame.St}
theorem ItemSame.F.step (h : ItemSame.F w CA Z mk l13 l14 l s X) (hb : Below X.heap.size X X') : ItemSame.F w CA Z mk l13 l14 l s X' where
  hA := ItemSame.keep_ h.hA hb
  bel := below_step h.bel hb
  hm := Nat.le_trans h.hm (below_size hb)
  hc := fun e => by obtain ⟨p, q, h1, h2, h3⟩ := h.hc e; exact ⟨p, q, h1, Kd.R_below h2 hb, Kd.R_below h3 hb⟩
  hd := fun e => by obtain ⟨p, q, h1, h2, h3⟩ := h.hd e; exact ⟨p, q, h1, Kd.R_below h2 hb, Kd.R_below h3 hb⟩
  h5 := fun e => by obtain ⟨g, h1, h2, h3⟩ := h.h5 e; exact ⟨g, h1, ItemSame.keep_ h2 hb, h3⟩
  h6 := fun e => by obtain ⟨g, h1, h2, h3⟩ := h.h6 e; exact ⟨g, h1, ItemSame.keep_ h2 hb, h3⟩
  b5 := fun g e => Nat.lt_of_lt_of_le (h.b5 g e) (below_size hb)
  b6 := fun g e => Nat.lt_of_lt_of_le (h.b6 g e) (below_size hb)
  ne := h.ne
theorem ItemSame.r_lo {α : Type} {d : Kd α} {e base : Nat} {v : Value} {r : List α} (h : Kd.R d e X' X.heap.size (fun _ => True) v r) (hb : base ≤ X.heap.size) : Kd.R d e X' base (fun k => X.heap.size ≤ k ∧ k < X'.heap.size) v r :=
  Kd.R_lower (Kd.R_mono (Kd.R_bound h) (fun k hk => ⟨hk.2.1, hk.2.2.1⟩)) hb
theorem ItemSame.F.setC {p q : Value} (h : ItemSame.F w CA Z mk l13 l14 l s X) (h3 : l.getD 3 false = false) (hb : Below X.heap.size X X') (hp : Kd.R k55 55 X' X.heap.size (fun _ => True) p l13) (hq : Kd.R (Kd.int .u8) 5 X' X.heap.size (fun _ => True) q l14) :
    ItemSame.F w CA Z mk l13 l14 (l.set 1 true) { s with c := mk p q, m := X'.heap.size } X' :=
  have g := h.step hb
  { hA := g.hA, bel := g.bel, hm := Nat.le_refl _,
    hc := fun _ => ⟨p, q, rfl, Kd.R_mono (ItemSame.r_lo hp (below_size h.bel)) (fun _ hk => hk.2), Kd.R_mono (ItemSame.r_lo hq (below_size h.bel)) (fun _ hk => hk.2)⟩,
    hd := fun e => by rw [ItemSame.set_ne (by decide), h3] at e; cases e
    h5 := fun e => g.h5 (by rw [ItemSame.set_ne (by decide)] at e; exact e), h6 := fun e => g.h6 (by rw [ItemSame.set_ne (by decide)] at e; exact e), b5 := g.b5, b6 := g.b6, ne := g.ne }
theorem ItemSame.F.setD {p q : Value} (h : ItemSame.F w CA Z mk l13 l14 l s X) (hb : Below X.heap.size X X') (hp : Kd.R k55 55 X' X.heap.size (fun _ => True) p l13) (hq : Kd.R (Kd.int .u8) 5 X' X.heap.size (fun _ => True) q l14) :
    ItemSame.F w CA Z mk l13 l14 (l.set 3 true) { s with d := mk p q } X' :=
  have g := h.step hb
  { hA := g.hA, bel := g.bel, hm := g.hm,
    hc := fun e => g.hc (by rw [ItemSame.set_ne (by decide)] at e; exact e),
    hd := fun _ => ⟨p, q, rfl, Kd.R_mono (ItemSame.r_lo hp (below_size h.bel)) (fun _ hk => Nat.le_trans h.hm hk.1), Kd.R_mono (ItemSame.r_lo hq (below_size h.bel)) (fun _ hk => Nat.le_trans h.hm hk.1)⟩
    h5 := fun e => g.h5 (by rw [ItemSame.set_ne (by decide)] at e; exact e), h6 := fun e => g.h6 (by rw [ItemSame.set_ne (by decide)] at e; exact e), b5 := g.b5, b6 := g.b6, ne := g.ne }
theorem ItemSame.F.set5 {n : Nat} (hn : n = X.heap.size) (h : ItemSame.F w CA Z mk l13 l14 l s X) (hb : Below X.heap.size X X') (hx : X'.heap[n]? = some (.cells Z 48 (0, 0))) :
    ItemSame.F w CA Z mk l13 l14 (l.set 4 true) { s with g5 := .pointer (some ⟨n, 0, none⟩) } X' :=
  have g := h.step hb
  { hA := g.hA, bel := g.bel, hm := g.hm,
    hc := fun e => g.hc (by rw [ItemSame.set_ne (by decide)] at e; exact e), hd := fun e => g.hd (by rw [ItemSame.set_ne (by decide)] at e; exact e),
    h5 := fun _ => ⟨n, rfl, hx, by rw [hn]; exact ItemSame.lt_ h.hA⟩, h6 := fun e => g.h6 (by rw [ItemSame.set_ne (by decide)] at e; exact e),
    b5 := fun g' e => by
      have e2 : n = g' := by injection e with e; injection e with e; injection e
      subst e2; exact ItemSame.lt_ hx
    b6 := g.b6,
    ne := fun g1 g2 e1 e2 => by
      have e3 : n = g1 := by injection e1 with e; injection e with e; injection e
      have := h.b6 g2 e2
      omega }
theorem ItemSame.F.set6 {n : Nat} (hn : n = X.heap.size) (h : ItemSame.F w CA Z mk l13 l14 l s X) (hb : Below X.heap.size X X') (hx : X'.heap[n]? = some (.cells Z 48 (0, 0))) :
    ItemSame.F w CA Z mk l13 l14 (l.set 5 true) { s with g6 := .pointer (some ⟨n, 0, none⟩) } X' :=
  have g := h.step hb
  { hA := g.hA, bel := g.bel, hm := g.hm,
    hc := fun e => g.hc (by rw [ItemSame.set_ne (by decide)] at e; exact e), hd := fun e => g.hd (by rw [ItemSame.set_ne (by decide)] at e; exact e),
    h6 := fun _ => ⟨n, rfl, hx, by rw [hn]; exact ItemSame.lt_ h.hA⟩, h5 := fun e => g.h5 (by rw [ItemSame.set_ne (by decide)] at e; exact e),
    b6 := fun g' e => by
      have e2 : n = g' := by injection e with e; injection e with e; injection e
      subst e2; exact ItemSame.lt_ hx
    b5 := g.b5,
    ne := fun g1 g2 e1 e2 => by
      have e3 : n = g2 := by injection e2 with e; injection e with e; injection e
      have := h.b5 g1 e1
      omega }
theorem ItemSame.r_set {α : Type} {d : Kd α} {e base : Nat} {ok : Nat → Prop} {v : Value} {r : List α} {g : Nat} {cells : Array Value} (h : Kd.R d e X base ok v r) (hb : X.heap[g]? = some (.cells cells 48 (0, 0))) (ht : (e :: d.E).all (fun q => q != 48) = true) (cs : Array Value) : Kd.R d e (X.setRow g cs) base ok v r :=
  Kd.R_mono (Kd.R_step (Kd.R_types h hb (fun q hq e => by have := List.all_eq_true.1 ht q hq; rw [e] at this; simp at this)) (fun k hk _ => setRow_other _ _ _ _ hk.2)) (fun _ hk => hk.1)
/-- A row of the call's own, as far as it must be known while it is written over. -/
def ItemSame.Wk (w : World) (m e size : Nat) (v : Value) (n : Nat) (ok : Value → Prop) (X : World) : Prop :=
  n = 0 ∨ ∃ g c cells, v = .slice (some ⟨g, 0, none⟩) n c ∧ X.heap[g]? = some (.cells cells e (0, 0)) ∧ n * size ≤ cells.size ∧ w.heap.size ≤ g ∧ g < m ∧ ∀ i, i < n * size → ∃ u, cells[i]? = some u ∧ ok u
theorem ItemSame.wk_pairs {m : Nat} {v : Value} (h : Kd.R k55 55 X w.heap.size (fun k => k < m) v l13) : ItemSame.Wk w m 55 2 v l13.length (fun _ => True) X := by
  obtain ⟨h0, inner, ho, hr⟩ := h
  obtain ⟨h1, h2⟩ := ho
  rcases h2 with ⟨rfl, h2⟩ | ⟨g, cap, cur, rfl, hg, hh, hn, hcap, hsz, htk⟩
  · exact .inl h2
  · have hle : l13.length * 2 ≤ cur.size := by rw [hsz]; exact Nat.mul_le_mul_right _ hn
    exact .inr ⟨g, cap, cur, rfl, hh, hle, hg, h0 g rfl, fun i hi => ⟨cur[i]'(by omega), Array.getElem?_eq_getElem (by omega), trivial⟩⟩
theorem ItemSame.wk_bytes {m : Nat} {v : Value} (h : Kd.R (Kd.int .u8) 5 X w.heap.size (fun k => k < m) v l14) : ItemSame.Wk w m 5 1 v l14.length (fun u => ∃ x, u = .int .u8 x) X := by
  obtain ⟨h0, inner, ho, hr⟩ := h
  obtain ⟨h1, h2⟩ := ho
  rcases h2 with ⟨rfl, h2⟩ | ⟨g, cap, cur, rfl, hg, hh, hn, hcap, hsz, htk⟩
  · exact .inl h2
  · have hle : l14.length * 1 ≤ cur.size := by rw [hsz]; exact Nat.mul_le_mul_right _ hn
    refine .inr ⟨g, cap, cur, rfl, hh, hle, hg, h0 g rfl, fun i hi => ?_⟩
    have hil : i < l14.length := by omega
    have h3 := hr.2 i _ (List.getElem?_eq_getElem hil)
    have h4 : (inner.drop (i * 1)).take 1 = [.int .u8 l14[i]] := h3
    have h5 : inner[i]? = some (.int .u8 l14[i]) := by
      have h6 : ((inner.drop (i * 1)).take 1)[0]? = some (.int .u8 l14[i]) := by rw [h4]; rfl
      rw [List.getElem?_take_of_lt (by omega), List.getElem?_drop] at h6
      simpa using h6
    rw [← htk] at h5
    have h7 : i < l14.length * Kd.sz (Kd.int .u8) := by show i < l14.length * 1; omega
    rw [List.getElem?_take_of_lt h7, Array.getElem?_toList] at h5
    exact ⟨_, h5, _, rfl⟩
theorem ItemSame.Wk.step {m e size n : Nat} {v : Value} {ok : Value → Prop} (h : ItemSame.Wk w m e size v n ok X) (hb : Below X.heap.size X X') : ItemSame.Wk w m e size v n ok X' := by
  rcases h with h | ⟨g, c, cells, h1, h2, h3⟩
  · exact .inl h
  · exact .inr ⟨g, c, cells, h1, ItemSame.keep_ h2 hb, h3⟩
/-- What holds behind the copies, while the first copy is written over. -/
structure ItemSame.G (w : World) (CA CC CD : Array Value) (g5 g6 m : Nat) (v13 v14 u13 u14 : Value) (l13 : List S55) (l14 : List Int) (X : World) : Prop where
  hA : X.heap[w.heap.size]? = some (.cells CA 48 (0, 0))
  h5 : X.heap[g5]? = some (.cells CC 48 (0, 0))
  h6 : X.heap[g6]? = some (.cells CD 48 (0, 0))
  bel : Below w.heap.size w X
  c13 : ItemSame.Wk w m 55 2 v13 l13.length (fun _ => True) X
  c14 : ItemSame.Wk w m 5 1 v14 l14.length (fun u => ∃ x, u = .int .u8 x) X
  d13 : Kd.R k55 55 X w.heap.size (fun k => m ≤ k) u13 l13
  d14 : Kd.R (Kd.int .u8) 5 X w.heap.size (fun k => m ≤ k) u14 l14
theorem ItemSame.G.step {CC CD : Array Value} {g5 g6 m : Nat} {v13 v14 u13 u14 : Value} (h : ItemSame.G w CA CC CD g5 g6 m v13 v14 u13 u14 l13 l14 X) (hb : Below X.heap.size X X') : ItemSame.G w CA CC CD g5 g6 m v13 v14 u13 u14 l13 l14 X' :=
  ⟨ItemSame.keep_ h.hA hb, ItemSame.keep_ h.h5 hb, ItemSame.keep_ h.h6 hb, below_step h.bel hb, h.c13.step hb, h.c14.step hb, Kd.R_below h.d13 hb, Kd.R_below h.d14 hb⟩
theorem ItemSame.G.put14 {CC CD : Array Value} {g5 g6 m : Nat} {v13 v14 u13 u14 : Value} (h : ItemSame.G w CA CC CD g5 g6 m v13 v14 u13 u14 l13 l14 X) {gr n c : Nat} {cells : Array Value} (hh : X.heap[gr]? = some (.cells cells 5 (0, 0))) (hgw : w.heap.size ≤ gr) (hgm : gr < m) (hv : v14 = .slice (some ⟨gr, 0, none⟩) n c) (i : Nat) (x : Int) :
    ItemSame.G w CA CC CD g5 g6 m v13 v14 u13 u14 l13 l14 (X.setCell ⟨gr, i, none⟩ (.int .u8 x)) where
  hA := blk_far h.hA (p := ⟨gr, i, none⟩) (blk_ne h.hA hh (by decide)) _
  h5 := blk_far h.h5 (p := ⟨gr, i, none⟩) (blk_ne h.h5 hh (by decide)) _
  h6 := blk_far h.h6 (p := ⟨gr, i, none⟩) (blk_ne h.h6 hh (by decide)) _
  bel := below_set h.bel hgw
  c13 := by
    rcases h.c13 with e | ⟨g', c', cells', h1, h2, h3⟩
    · exact .inl e
    · exact .inr ⟨g', c', cells', h1, blk_far h2 (p := ⟨gr, i, none⟩) (blk_ne h2 hh (by decide)) _, h3⟩
  c14 := by
    rcases h.c14 with e | ⟨g', c', cells', h1, h2, h3, h4, h5, h6⟩
    · exact .inl e
    · have e : g' = gr := by
        rw [hv] at h1
        injection h1 with h1
        injection h1 with h1
        injection h1 with h1
        exact h1.symm
      subst e
      refine .inr ⟨g', c', cells'.setIfInBounds i (.int .u8 x), h1, blk_set h2 i _, by rw [Array.size_setIfInBounds]; exact h3, h4, h5, fun j hj => ?_⟩
      by_cases e : i = j
      · subst e
        exact ⟨_, Array.getElem?_setIfInBounds_self_of_lt (by omega), x, rfl⟩
      · rw [Array.getElem?_setIfInBounds_ne e]
        exact h6 j hj
  d13 := Kd.R_far h.d13 (p := ⟨gr, i, none⟩) (fun k hk => by show k ≠ gr; omega) _
  d14 := Kd.R_far h.d14 (p := ⟨gr, i, none⟩) (fun k hk => by show k ≠ gr; omega) _
theorem ItemSame.G.put13 {CC CD : Array Value} {g5 g6 m : Nat} {v13 v14 u13 u14 : Value} (h : ItemSame.G w CA CC CD g5 g6 m v13 v14 u13 u14 l13 l14 X) {gr n c : Nat} {cells : Array Value} (hh : X.heap[gr]? = some (.cells cells 55 (0, 0))) (hgw : w.heap.size ≤ gr) (hgm : gr < m) (hv : v13 = .slice (some ⟨gr, 0, none⟩) n c) (i : Nat) (x : Value) :
    ItemSame.G w CA CC CD g5 g6 m v13 v14 u13 u14 l13 l14 (X.setCell ⟨gr, i, none⟩ x) where
  hA := blk_far h.hA (p := ⟨gr, i, none⟩) (blk_ne h.hA hh (by decide)) _
  h5 := blk_far h.h5 (p := ⟨gr, i, none⟩) (blk_ne h.h5 hh (by decide)) _
  h6 := blk_far h.h6 (p := ⟨gr, i, none⟩) (blk_ne h.h6 hh (by decide)) _
  bel := below_set h.bel hgw
  c14 := by
    rcases h.c14 with e | ⟨g', c', cells', h1, h2, h3⟩
    · exact .inl e
    · exact .inr ⟨g', c', cells', h1, blk_far h2 (p := ⟨gr, i, none⟩) (blk_ne h2 hh (by decide)) _, h3⟩
  c13 := by
    rcases h.c13 with e | ⟨g', c', cells', h1, h2, h3, h4, h5, h6⟩
    · exact .inl e
    · have e : g' = gr := by
        rw [hv] at h1
        injection h1 with h1
        injection h1 with h1
        injection h1 with h1
        exact h1.symm
      subst e
      refine .inr ⟨g', c', cells'.setIfInBounds i x, h1, blk_set h2 i _, by rw [Array.size_setIfInBounds]; exact h3, h4, h5, fun j hj => ?_⟩
      exact ⟨_, Array.getElem?_eq_getElem (by rw [Array.size_setIfInBounds]; omega), trivial⟩
  d13 := Kd.R_far h.d13 (p := ⟨gr, i, none⟩) (fun k hk => by show k ≠ gr; omega) _
  d14 := Kd.R_far h.d14 (p := ⟨gr, i, none⟩) (fun k hk => by show k ≠ gr; omega) _
theorem ItemSame.c_of {α : Type} {d : Kd α} {e base : Nat} {ok : Nat → Prop} {A : Option Addr} {n c : Nat} {r : List α} (h : Kd.R d e X base ok (.slice A n c) r) : Kd.C d X A r.length r := by
  obtain ⟨A', c', e', _, hC⟩ := Kd.R_reads h
  injection e' with e1 _ _
  subst e1
  exact hC
end
set_option maxHeartbeats 8000000 in
set_option maxRecDepth 100000 in
theorem ItemSame.walk (k : Nat) (a0_0 : Int) (a0_1 : ByteArray) (a0_2 : ByteArray) (a0_3 : Int) (a0_4 : Int) (a0_5 : Int) (a0_6 : Int) (a0_7 : Int) (a0_8 : Int) (a0_9 : ByteArray) (a0_10 : ByteArray) (a0_11 : Int) (a0_12 : Int) (A0_13 : Option Addr) (c0_13 : Nat) (l0_13 : List S55) (A0_14 : Option Addr) (c0_14 : Nat) (l0_14 : List Int) (a1_0 : Int) (a1_1 : ByteArray) (a1_2 : ByteArray) (a1_3 : Int) (a1_4 : Int) (a1_5 : Int) (a1_6 : Int) (a1_7 : Int) (a1_8 : Int) (a1_9 : ByteArray) (a1_10 : ByteArray) (a1_11 : Int) (a1_12 : Int) (A1_13 : Option Addr) (c1_13 : Nat) (l1_13 : List S55) (A1_14 : Option Addr) (c1_14 : Nat) (l1_14 : List Int) (ma mb s : Bool) (w : World) (hr0 : Kd.C k55 w A0_13 l0_13.length l0_13) (hc0 : l0_13.length ≤ c0_13) (hd0 : Kd.C (Kd.int .u8) w A0_14 l0_14.length l0_14) (he0 : l0_14.length ≤ c0_14) (hr1 : Kd.C k55 w A1_13 l1_13.length l1_13) (hc1 : l1_13.length ≤ c1_13) (hd1 : Kd.C (Kd.int .u8) w A1_14 l1_14.length l1_14) (he1 : l1_14.length ≤ c1_14)
    (hz : l0_14.length + l1_14.length < 9223372036854775807)
    (hal : oakumlaw09_alive.f k = some true) (hma : oakumlaw09_many.f k a0_0 a0_1 a0_2 a0_3 a0_4 a0_5 a0_6 a0_7 a0_8 a0_9 a0_10 a0_11 a0_12 l0_13 = some ma) (hmb : oakumlaw09_many.f k a1_0 a1_1 a1_2 a1_3 a1_4 a1_5 a1_6 a1_7 a1_8 a1_9 a1_10 a1_11 a1_12 l1_13 = some mb)
    (hgo : ma = false → mb = false → l0_14.length + l1_14.length ≤ 5000 →
      item_Same.f k a0_0 a0_1 a0_2 a0_3 a0_4 a0_5 a0_6 a0_7 a0_8 a0_9 a0_10 a0_11 a0_12 l0_13 l0_14 a1_0 a1_1 a1_2 a1_3 a1_4 a1_5 a1_6 a1_7 a1_8 a1_9 a1_10 a1_11 a1_12 l1_13 l1_14 = some s ∧ oakumref09_Same.f k a0_0 a0_1 a0_2 a0_3 a0_4 a0_5 a0_6 a0_7 a0_8 a0_9 a0_10 a0_11 a0_12 l0_13 l0_14 a1_0 a1_1 a1_2 a1_3 a1_4 a1_5 a1_6 a1_7 a1_8 a1_9 a1_10 a1_11 a1_12 l1_13 l1_14 = some s ∧ item_Same.f k a0_0 a0_1 a0_2 a0_3 a0_4 a0_5 a0_6 a0_7 a0_8 a0_9 a0_10 a0_11 a0_12 l0_13 l0_14 a0_0 a0_1 a0_2 a0_3 a0_4 a0_5 a0_6 a0_7 a0_8 a0_9 a0_10 a0_11 a0_12 l0_13 l0_14 = some true ∧
      slices_Clone_api_Pair_api_Pair.f l0_13 = some l0_13 ∧ slices_Clone_byte_byte.f l0_14 = some l0_14 ∧ oakumref08_SameHead.f k a0_0 a0_1 a0_2 a0_3 a0_4 a0_5 a0_6 a0_7 a0_8 a0_9 a0_10 a0_11 a0_12 l0_13 a0_0 a0_1 a0_2 a0_3 a0_4 a0_5 a0_6 a0_7 a0_8 a0_9 a0_10 a0_11 a0_12 l0_13 = some true ∧ oakumref01_Same.f l0_14 l0_14 = some true ∧
      oakumref09_Same.f k a0_0 a0_1 a0_2 a0_3 a0_4 a0_5 a0_6 a0_7 a0_8 a0_9 a0_10 a0_11 a0_12 l0_13 l0_14 a0_0 a0_1 a0_2 a0_3 a0_4 a0_5 a0_6 a0_7 a0_8 a0_9 a0_10 a0_11 a0_12 l0_13 l0_14 = some true ∧ oakumref07_Same.f k l0_13 l0_13 = some true) :
    Calls Try.prog 6 #[.agg #[.int .i64 a0_0, .string a0_1, .string a0_2, .int .i64 a0_3, .int .i64 a0_4, .int .i64 a0_5, .int .i64 a0_6, .int .i64 a0_7, .int .i64 a0_8, .string a0_9, .string a0_10, .int .i64 a0_11, .int .i64 a0_12, .slice A0_13 l0_13.length c0_13, .slice A0_14 l0_14.length c0_14], .agg #[.int .i64 a1_0, .string a1_1, .string a1_2, .int .i64 a1_3, .int .i64 a1_4, .int .i64 a1_5, .int .i64 a1_6, .int .i64 a1_7, .int .i64 a1_8, .string a1_9, .string a1_10, .int .i64 a1_11, .int .i64 a1_12, .slice A1_13 l1_13.length c1_13, .slice A1_14 l1_14.length c1_14]] w fun e w' => e = .returned (.bool true) ∧ Below w.heap.size w w' := by
  have hu43 := Try.underlying43
  have HR0 := Go.Lib.hid hr0
  have HC0 := Go.Lib.hid hc0
  have HD0 := Go.Lib.hid hd0
  have HE0 := Go.Lib.hid he0
  have HR1 := Go.Lib.hid hr1
  have HC1 := Go.Lib.hid hc1
  have HD1 := Go.Lib.hid hd1
  have HE1 := Go.Lib.hid he1
  have HAL := Go.Lib.hid hal
  have HMA := Go.Lib.hid hma
  have HMB := Go.Lib.hid hmb
  have HGO := Go.Lib.hid hgo
  have HZ := Go.Lib.hid hz
  clear hr0 hc0 hd0 he0 hr1 hc1 hd1 he1 hal hma hmb hgo hz
  have hu48 := Try.underlying48
  have hu46 := Try.underlying46
  have HBa := Go.Lib.hid (heap_alloc2_old w (.cells #[.int .i64 a0_0, .string a0_1, .string a0_2, .int .i64 a0_3, .int .i64 a0_4, .int .i64 a0_5, .int .i64 a0_6, .int .i64 a0_7, .int .i64 a0_8, .string a0_9, .string a0_10, .int .i64 a0_11, .int .i64 a0_12, .slice A0_13 l0_13.length c0_13, .slice A0_14 l0_14.length c0_14] 48) (.cells #[.int .i64 a1_0, .string a1_1, .string a1_2, .int .i64 a1_3, .int .i64 a1_4, .int .i64 a1_5, .int .i64 a1_6, .int .i64 a1_7, .int .i64 a1_8, .string a1_9, .string a1_10, .int .i64 a1_11, .int .i64 a1_12, .slice A1_13 l1_13.length c1_13, .slice A1_14 l1_14.length c1_14] 48))
  have HBb := Go.Lib.hid (heap_alloc2_new w (.cells #[.int .i64 a0_0, .string a0_1, .string a0_2, .int .i64 a0_3, .int .i64 a0_4, .int .i64 a0_5, .int .i64 a0_6, .int .i64 a0_7, .int .i64 a0_8, .string a0_9, .string a0_10, .int .i64 a0_11, .int .i64 a0_12, .slice A0_13 l0_13.length c0_13, .slice A0_14 l0_14.length c0_14] 48) (.cells #[.int .i64 a1_0, .string a1_1, .string a1_2, .int .i64 a1_3, .int .i64 a1_4, .int .i64 a1_5, .int .i64 a1_6, .int .i64 a1_7, .int .i64 a1_8, .string a1_9, .string a1_10, .int .i64 a1_11, .int .i64 a1_12, .slice A1_13 l1_13.length c1_13, .slice A1_14 l1_14.length c1_14] 48))
  have HB := Go.Lib.hid (below_alloc (below_alloc (Below.refl w.heap.size w) (.cells #[.int .i64 a0_0, .string a0_1, .string a0_2, .int .i64 a0_3, .int .i64 a0_4, .int .i64 a0_5, .int .i64 a0_6, .int .i64 a0_7, .int .i64 a0_8, .string a0_9, .string a0_10, .int .i64 a0_11, .int .i64 a0_12, .slice A0_13 l0_13.length c0_13, .slice A0_14 l0_14.length c0_14] 48)) (.cells #[.int .i64 a1_0, .string a1_1, .string a1_2, .int .i64 a1_3, .int .i64 a1_4, .int .i64 a1_5, .int .i64 a1_6, .int .i64 a1_7, .int .i64 a1_8, .string a1_9, .string a1_10, .int .i64 a1_11, .int .i64 a1_12, .slice A1_13 l1_13.length c1_13, .slice A1_14 l1_14.length c1_14] 48))
  go_enter Try.func6, Try.ntmps6
  go_upto_region 1 with (fail)
  generalize hW_ : (w.alloc (.cells #[.int .i64 a0_0, .string a0_1, .string a0_2, .int .i64 a0_3, .int .i64 a0_4, .int .i64 a0_5, .int .i64 a0_6, .int .i64 a0_7, .int .i64 a0_8, .string a0_9, .string a0_10, .int .i64 a0_11, .int .i64 a0_12, .slice A0_13 l0_13.length c0_13, .slice A0_14 l0_14.length c0_14] 48)).alloc (.cells #[.int .i64 a1_0, .string a1_1, .string a1_2, .int .i64 a1_3, .int .i64 a1_4, .int .i64 a1_5, .int .i64 a1_6, .int .i64 a1_7, .int .i64 a1_8, .string a1_9, .string a1_10, .int .i64 a1_11, .int .i64 a1_12, .slice A1_13 l1_13.length c1_13, .slice A1_14 l1_14.length c1_14] 48) = W0 at HBa HBb HB ⊢
  clear hW_ hu48 hu46
  go_wp2_with fail
  refine (oakumlaw09_alive.calls k true _ HAL.out).mono ?_
  rintro e W1 ⟨rfl, hb⟩
  have h1 := (hb.block _ (Array.getElem?_eq_some_iff.1 HBa.out).1).trans HBa.out
  have h2 := (hb.block _ (Array.getElem?_eq_some_iff.1 HBb.out).1).trans HBb.out
  have h3 := below_step HB.out hb
  clear HBa HBb HB hb HAL
  have HBa := Go.Lib.hid h1
  have HBb := Go.Lib.hid h2
  have HB := Go.Lib.hid h3
  clear h1 h2 h3
  go_upto_region 3 with (fail)
  obtain ⟨e0_, e1_, e2_, e3_, e4_, e5_, e6_, e7_, e8_, e9_, e10_, e11_, e12_, e13_, e14_⟩ := item_Same.cl W1 _ _ _ _ _ _ _ _ _ _ _ _ _ _ _ _ _ _ _ _ HBa.out
  go_wp2_with fail
  refine (oakumlaw09_many.calls k a0_0 a0_1 a0_2 a0_3 a0_4 a0_5 a0_6 a0_7 a0_8 a0_9 a0_10 a0_11 a0_12 _ _ l0_13 ma _ (Kd.C_below HR0.out HB.out) HC0.out HMA.out).mono ?_
  rintro e W2 ⟨rfl, hb⟩
  have h1 := (hb.block _ (Array.getElem?_eq_some_iff.1 HBa.out).1).trans HBa.out
  have h2 := (hb.block _ (Array.getElem?_eq_some_iff.1 HBb.out).1).trans HBb.out
  have h3 := below_step HB.out hb
  clear HBa HBb HB hb HMA e0_ e1_ e2_ e3_ e4_ e5_ e6_ e7_ e8_ e9_ e10_ e11_ e12_ e13_ e14_
  have HBa := Go.Lib.hid h1
  have HBb := Go.Lib.hid h2
  have HB := Go.Lib.hid h3
  clear h1 h2 h3
  cases ma with
  | true =>
    go_wp2
    go_ret
    exact ⟨rfl, HB.out⟩
  | false =>
  obtain ⟨e0_, e1_, e2_, e3_, e4_, e5_, e6_, e7_, e8_, e9_, e10_, e11_, e12_, e13_, e14_⟩ := item_Same.cl W2 _ _ _ _ _ _ _ _ _ _ _ _ _ _ _ _ _ _ _ _ HBb.out
  go_wp2_with fail
  refine (oakumlaw09_many.calls k a1_0 a1_1 a1_2 a1_3 a1_4 a1_5 a1_6 a1_7 a1_8 a1_9 a1_10 a1_11 a1_12 _ _ l1_13 mb _ (Kd.C_below HR1.out HB.out) HC1.out HMB.out).mono ?_
  rintro e W3 ⟨rfl, hb⟩
  have h1 := (hb.block _ (Array.getElem?_eq_some_iff.1 HBa.out).1).trans HBa.out
  have h2 := (hb.block _ (Array.getElem?_eq_some_iff.1 HBb.out).1).trans HBb.out
  have h3 := below_step HB.out hb
  clear HBa HBb HB hb HMB e0_ e1_ e2_ e3_ e4_ e5_ e6_ e7_ e8_ e9_ e10_ e11_ e12_ e13_ e14_
  have HBa := Go.Lib.hid h1
  have HBb := Go.Lib.hid h2
  have HB := Go.Lib.hid h3
  clear h1 h2 h3
  cases mb with
  | true =>
    go_wp2
    go_ret
    exact ⟨rfl, HB.out⟩
  | false =>
  have hd0 := (item_Same.cl W3 _ _ _ _ _ _ _ _ _ _ _ _ _ _ _ _ _ _ _ _ HBa.out).2.2.2.2.2.2.2.2.2.2.2.2.2.2
  have hd1 := (item_Same.cl W3 _ _ _ _ _ _ _ _ _ _ _ _ _ _ _ _ _ _ _ _ HBb.out).2.2.2.2.2.2.2.2.2.2.2.2.2.2
  by_cases hlen : l0_14.length + l1_14.length ≤ 5000
  rotate_left
  · have hw : wrap64 ((l0_14.length : Int) + (l1_14.length : Int)) = (l0_14.length : Int) + (l1_14.length : Int) := by
      have := HZ.out
      exact Go.Proofs.Ytelniipccmeooaa.Base.wrap64_id (by omega) (by omega)
    have hg : (5000 : Int) < wrap64 ((l0_14.length : Int) + (l1_14.length : Int)) := by rw [hw]; omega
    go_wp2
    go_ret
    exact ⟨rfl, HB.out⟩
  have hw : wrap64 ((l0_14.length : Int) + (l1_14.length : Int)) = (l0_14.length : Int) + (l1_14.length : Int) := by
    have := HZ.out
    exact Go.Proofs.Ytelniipccmeooaa.Base.wrap64_id (by omega) (by omega)
  have hg : ¬ (5000 : Int) < wrap64 ((l0_14.length : Int) + (l1_14.length : Int)) := by rw [hw]; omega
  go_upto_region 5 with (fail)
  obtain ⟨g1, g2, g3, g4, g5, g6, g7, g8, g9⟩ := HGO.out (by first | rfl | trivial) (by first | rfl | trivial) hlen
  have G1 := Go.Lib.hid g1
  have G2 := Go.Lib.hid g2
  have G3 := Go.Lib.hid g3
  have G4 := Go.Lib.hid g4
  have G5 := Go.Lib.hid g5
  have G6 := Go.Lib.hid g6
  have G7 := Go.Lib.hid g7
  have G8 := Go.Lib.hid g8
  have G9 := Go.Lib.hid g9
  clear g1 g2 g3 g4 g5 g6 g7 g8 g9 HGO hd0 hd1 hw hg HZ
  have HLEN := Go.Lib.hid hlen
  clear hlen
  refine start_ (n := 13) (S := fun w' => w'.heap[w.heap.size]? = some (.cells #[.int .i64 a0_0, .string a0_1, .string a0_2, .int .i64 a0_3, .int .i64 a0_4, .int .i64 a0_5, .int .i64 a0_6, .int .i64 a0_7, .int .i64 a0_8, .string a0_9, .string a0_10, .int .i64 a0_11, .int .i64 a0_12, .slice A0_13 l0_13.length c0_13, .slice A0_14 l0_14.length c0_14] 48 (0, 0)) ∧ w'.heap[w.heap.size + 1]? = some (.cells #[.int .i64 a1_0, .string a1_1, .string a1_2, .int .i64 a1_3, .int .i64 a1_4, .int .i64 a1_5, .int .i64 a1_6, .int .i64 a1_7, .int .i64 a1_8, .string a1_9, .string a1_10, .int .i64 a1_11, .int .i64 a1_12, .slice A1_13 l1_13.length c1_13, .slice A1_14 l1_14.length c1_14] 48 (0, 0))) (ds := []) #[false, false, false, false, false, false, false, false, false, false, false, false, false] (by kernel_rfl) rfl rfl ⟨HBa.out, HBb.out⟩ (fun hHeld => ?_); replace hHeld := Go.Lib.hid hHeld; refine with_tabW ItemSame.tab5 ItemSame.bits5 (fun HT_ HW_ => ?_)
  have hB_ := below_drew1 HB.out
  clear HBa HBb HB
  have HB := Go.Lib.hid hB_
  clear hB_
  generalize W3.drew = V0 at hHeld HB ⊢
  refine take_ (i := 0) (N := some 29) (v := ?_) (a' := ?_) #[true, false, false, false, false, false, false, false, false, false, false, false, false] rfl rfl (take_ofW HT_.out HW_.out (by kernel_rfl)) (fun _ _ _ h => h) (Or.inl ⟨by rfl, ?_⟩) hHeld.out ?_ ?_
  rotate_left
  · rintro w' ⟨hA_, hB_⟩; refine ItemSame.ld w' _ _ ?_ (.tmp 2) ?_ ?_ hA_ <;> rfl
  rotate_left
  · simp only [Act.put, List.setIfInBounds_toArray, List.set_cons_zero, List.set_cons_succ, i64_w, i32_w]
    rfl
  refine take_ (i := 1) (N := some 30) (v := ?_) (a' := ?_) #[true, true, false, false, false, false, false, false, false, false, false, false, false] rfl rfl (take_ofW HT_.out HW_.out (by kernel_rfl)) (fun _ _ _ h => h) (Or.inl ⟨by rfl, ?_⟩) hHeld.out ?_ ?_
  rotate_left
  · rintro w' ⟨hA_, hB_⟩; refine ItemSame.ld w' _ _ ?_ (.tmp 3) ?_ ?_ hB_ <;> rfl
  rotate_left
  · simp only [Act.put, List.setIfInBounds_toArray, List.set_cons_zero, List.set_cons_succ, i64_w, i32_w]
    rfl
  refine take_ (i := 3) (N := some 32) (v := ?_) (a' := ?_) #[true, true, false, true, false, false, false, false, false, false, false, false, false] rfl rfl (take_ofW HT_.out HW_.out (by kernel_rfl)) (fun _ _ _ h => h) (Or.inl ⟨by rfl, ?_⟩) hHeld.out ?_ ?_
  rotate_left
  · rintro w' ⟨hA_, hB_⟩; refine ItemSame.ld w' _ _ ?_ (.tmp 2) ?_ ?_ hA_ <;> rfl
  rotate_left
  · simp only [Act.put, List.setIfInBounds_toArray, List.set_cons_zero, List.set_cons_succ, i64_w, i32_w]
    rfl
  refine take_ (i := 4) (N := some 33) (v := ?_) (a' := ?_) #[true, true, false, true, true, false, false, false, false, false, false, false, false] rfl rfl (take_ofW HT_.out HW_.out (by kernel_rfl)) (fun _ _ _ h => h) (Or.inl ⟨by rfl, ?_⟩) hHeld.out ?_ ?_
  rotate_left
  · rintro w' ⟨hA_, hB_⟩; refine ItemSame.ld w' _ _ ?_ (.tmp 3) ?_ ?_ hB_ <;> rfl
  rotate_left
  · simp only [Act.put, List.setIfInBounds_toArray, List.set_cons_zero, List.set_cons_succ, i64_w, i32_w]
    rfl
  refine one_ (i := 2) (N := some 31) #[true, true, true, true, true, false, false, false, false, false, false, false, false] rfl rfl (one_of HT_.out (by kernel_rfl)) (by decide) (fun K hK => ?_)
  refine goes_ Try.func22 (by kernel_rfl) rfl #[.agg #[.int .i64 a0_0, .string a0_1, .string a0_2, .int .i64 a0_3, .int .i64 a0_4, .int .i64 a0_5, .int .i64 a0_6, .int .i64 a0_7, .int .i64 a0_8, .string a0_9, .string a0_10, .int .i64 a0_11, .int .i64 a0_12, .slice A0_13 l0_13.length c0_13, .slice A0_14 l0_14.length c0_14], .agg #[.int .i64 a1_0, .string a1_1, .string a1_2, .int .i64 a1_3, .int .i64 a1_4, .int .i64 a1_5, .int .i64 a1_6, .int .i64 a1_7, .int .i64 a1_8, .string a1_9, .string a1_10, .int .i64 a1_11, .int .i64 a1_12, .slice A1_13 l1_13.length c1_13, .slice A1_14 l1_14.length c1_14]] (by rfl) rfl rfl (by (try simp only [List.map_toArray, List.map_cons, List.map_nil]); first | done | rfl) ?_
  refine (item_Same.calls k a0_0 a0_1 a0_2 a0_3 a0_4 a0_5 a0_6 a0_7 a0_8 a0_9 a0_10 a0_11 a0_12 A0_13 c0_13 l0_13 A0_14 c0_14 l0_14 a1_0 a1_1 a1_2 a1_3 a1_4 a1_5 a1_6 a1_7 a1_8 a1_9 a1_10 a1_11 a1_12 A1_13 c1_13 l1_13 A1_14 c1_14 l1_14 s _ (Kd.C_below HR0.out HB.out) HC0.out (Kd.C_below HD0.out HB.out) HE0.out (Kd.C_below HR1.out HB.out) HC1.out (Kd.C_below HD1.out HB.out) HE1.out G1.out).mono ?_
  rintro e V1 ⟨rfl, hb⟩
  refine ⟨_, rfl, ?_⟩
  have hB_ := below_step HB.out hb
  clear HB
  have HB := Go.Lib.hid hB_
  have hs_ : (_ ∧ _) := ⟨(hb.block _ (Array.getElem?_eq_some_iff.1 hHeld.out.1).1).trans hHeld.out.1, (hb.block _ (Array.getElem?_eq_some_iff.1 hHeld.out.2).1).trans hHeld.out.2⟩
  clear hB_ hb hHeld
  refine hK.out _ _ hs_ (fun hHeld => ?_)
  clear hK K
  refine norm_ (a' := ?_) ?_ ?_
  rotate_left
  · show Act.put _ (some 31) _ = _
    simp only [Act.put, List.setIfInBounds_toArray, List.set_cons_zero, List.set_cons_succ, i64_w, i32_w]
    rfl
  replace hHeld := Go.Lib.hid hHeld
  refine one_ (i := 5) (N := some 34) #[true, true, true, true, true, true, false, false, false, false, false, false, false] rfl rfl (one_of HT_.out (by kernel_rfl)) (by decide) (fun K hK => ?_)
  refine goes_ Try.func23 (by kernel_rfl) rfl #[.agg #[.int .i64 a0_0, .string a0_1, .string a0_2, .int .i64 a0_3, .int .i64 a0_4, .int .i64 a0_5, .int .i64 a0_6, .int .i64 a0_7, .int .i64 a0_8, .string a0_9, .string a0_10, .int .i64 a0_11, .int .i64 a0_12, .slice A0_13 l0_13.length c0_13, .slice A0_14 l0_14.length c0_14], .agg #[.int .i64 a1_0, .string a1_1, .string a1_2, .int .i64 a1_3, .int .i64 a1_4, .int .i64 a1_5, .int .i64 a1_6, .int .i64 a1_7, .int .i64 a1_8, .string a1_9, .string a1_10, .int .i64 a1_11, .int .i64 a1_12, .slice A1_13 l1_13.length c1_13, .slice A1_14 l1_14.length c1_14]] (by rfl) rfl rfl (by (try simp only [List.map_toArray, List.map_cons, List.map_nil]); first | done | rfl) ?_
  refine (oakumref09_Same.calls k a0_0 a0_1 a0_2 a0_3 a0_4 a0_5 a0_6 a0_7 a0_8 a0_9 a0_10 a0_11 a0_12 A0_13 c0_13 l0_13 A0_14 c0_14 l0_14 a1_0 a1_1 a1_2 a1_3 a1_4 a1_5 a1_6 a1_7 a1_8 a1_9 a1_10 a1_11 a1_12 A1_13 c1_13 l1_13 A1_14 c1_14 l1_14 s _ (Kd.C_below HR0.out HB.out) HC0.out (Kd.C_below HD0.out HB.out) HE0.out (Kd.C_below HR1.out HB.out) HC1.out (Kd.C_below HD1.out HB.out) HE1.out G2.out).mono ?_
  rintro e V2 ⟨rfl, hb⟩
  refine ⟨_, rfl, ?_⟩
  have hB_ := below_step HB.out hb
  clear HB
  have HB := Go.Lib.hid hB_
  have hs_ : (_ ∧ _) := ⟨(hb.block _ (Array.getElem?_eq_some_iff.1 hHeld.out.1).1).trans hHeld.out.1, (hb.block _ (Array.getElem?_eq_some_iff.1 hHeld.out.2).1).trans hHeld.out.2⟩
  clear hB_ hb hHeld
  refine hK.out _ _ hs_ (fun hHeld => ?_)
  clear hK K
  refine norm_ (a' := ?_) ?_ ?_
  rotate_left
  · show Act.put _ (some 34) _ = _
    simp only [Act.put, List.setIfInBounds_toArray, List.set_cons_zero, List.set_cons_succ, i64_w, i32_w]
    rfl
  replace hHeld := Go.Lib.hid hHeld
  refine pure_ (i := 6) (N := some 35) (v := .bool false) (a' := ?_) #[true, true, true, true, true, true, true, false, false, false, false, false, false] rfl rfl (any_of HT_.out (by kernel_rfl)) (fun _ _ _ h => h) (Or.inl ⟨by rfl, ?_⟩) ?_ ?_
  · intro w'
    cases s <;> (go_simp; first | done | rfl)
  rotate_left
  · simp only [Act.put, List.setIfInBounds_toArray, List.set_cons_zero, List.set_cons_succ, i64_w, i32_w]
    rfl
  refine pure_ (i := 7) (N := some 36) (v := ?_) (a' := ?_) #[true, true, true, true, true, true, true, true, false, false, false, false, false] rfl rfl (any_of HT_.out (by kernel_rfl)) (fun _ _ _ h => h) (Or.inl ⟨by rfl, ?_⟩) ?_ ?_
  rotate_left
  · intro w'
    go_simp
    with_reducible rfl
  rotate_left
  · simp only [Act.put, List.setIfInBounds_toArray, List.set_cons_zero, List.set_cons_succ, i64_w, i32_w]
    rfl
  refine take_ (i := 8) (N := some 37) (v := ?_) (a' := ?_) #[true, true, true, true, true, true, true, true, true, false, false, false, false] rfl rfl (take_ofW HT_.out HW_.out (by kernel_rfl)) (fun _ _ _ h => h) (Or.inl ⟨by rfl, ?_⟩) hHeld.out ?_ ?_
  rotate_left
  · rintro w' ⟨hA_, hB_⟩; refine ItemSame.ld w' _ _ ?_ (.tmp 2) ?_ ?_ hA_ <;> rfl
  rotate_left
  · simp only [Act.put, List.setIfInBounds_toArray, List.set_cons_zero, List.set_cons_succ, i64_w, i32_w]
    rfl
  refine take_ (i := 9) (N := some 38) (v := ?_) (a' := ?_) #[true, true, true, true, true, true, true, true, true, true, false, false, false] rfl rfl (take_ofW HT_.out HW_.out (by kernel_rfl)) (fun _ _ _ h => h) (Or.inl ⟨by rfl, ?_⟩) hHeld.out ?_ ?_
  rotate_left
  · rintro w' ⟨hA_, hB_⟩; refine ItemSame.ld w' _ _ ?_ (.tmp 2) ?_ ?_ hA_ <;> rfl
  rotate_left
  · simp only [Act.put, List.setIfInBounds_toArray, List.set_cons_zero, List.set_cons_succ, i64_w, i32_w]
    rfl
  refine one_ (i := 10) (N := some 39) #[true, true, true, true, true, true, true, true, true, true, true, false, false] rfl rfl (one_of HT_.out (by kernel_rfl)) (by decide) (fun K hK => ?_)
  refine goes_ Try.func22 (by kernel_rfl) rfl #[.agg #[.int .i64 a0_0, .string a0_1, .string a0_2, .int .i64 a0_3, .int .i64 a0_4, .int .i64 a0_5, .int .i64 a0_6, .int .i64 a0_7, .int .i64 a0_8, .string a0_9, .string a0_10, .int .i64 a0_11, .int .i64 a0_12, .slice A0_13 l0_13.length c0_13, .slice A0_14 l0_14.length c0_14], .agg #[.int .i64 a0_0, .string a0_1, .string a0_2, .int .i64 a0_3, .int .i64 a0_4, .int .i64 a0_5, .int .i64 a0_6, .int .i64 a0_7, .int .i64 a0_8, .string a0_9, .string a0_10, .int .i64 a0_11, .int .i64 a0_12, .slice A0_13 l0_13.length c0_13, .slice A0_14 l0_14.length c0_14]] (by rfl) rfl rfl (by (try simp only [List.map_toArray, List.map_cons, List.map_nil]); first | done | rfl) ?_
  refine (item_Same.calls k a0_0 a0_1 a0_2 a0_3 a0_4 a0_5 a0_6 a0_7 a0_8 a0_9 a0_10 a0_11 a0_12 A0_13 c0_13 l0_13 A0_14 c0_14 l0_14 a0_0 a0_1 a0_2 a0_3 a0_4 a0_5 a0_6 a0_7 a0_8 a0_9 a0_10 a0_11 a0_12 A0_13 c0_13 l0_13 A0_14 c0_14 l0_14 true _ (Kd.C_below HR0.out HB.out) HC0.out (Kd.C_below HD0.out HB.out) HE0.out (Kd.C_below HR0.out HB.out) HC0.out (Kd.C_below HD0.out HB.out) HE0.out G3.out).mono ?_
  rintro e V3 ⟨rfl, hb⟩
  refine ⟨_, rfl, ?_⟩
  have hB_ := below_step HB.out hb
  clear HB
  have HB := Go.Lib.hid hB_
  have hs_ : (_ ∧ _) := ⟨(hb.block _ (Array.getElem?_eq_some_iff.1 hHeld.out.1).1).trans hHeld.out.1, (hb.block _ (Array.getElem?_eq_some_iff.1 hHeld.out.2).1).trans hHeld.out.2⟩
  clear hB_ hb hHeld
  refine hK.out _ _ hs_ (fun hHeld => ?_)
  clear hK K
  refine norm_ (a' := ?_) ?_ ?_
  rotate_left
  · show Act.put _ (some 39) _ = _
    simp only [Act.put, List.setIfInBounds_toArray, List.set_cons_zero, List.set_cons_succ, i64_w, i32_w]
    rfl
  replace hHeld := Go.Lib.hid hHeld
  refine pure_ (i := 11) (N := some 40) (v := ?_) (a' := ?_) #[true, true, true, true, true, true, true, true, true, true, true, true, false] rfl rfl (any_of HT_.out (by kernel_rfl)) (fun _ _ _ h => h) (Or.inl ⟨by rfl, ?_⟩) ?_ ?_
  rotate_left
  · intro w'
    go_simp
    with_reducible rfl
  rotate_left
  · simp only [Act.put, List.setIfInBounds_toArray, List.set_cons_zero, List.set_cons_succ, i64_w, i32_w]
    rfl
  refine pure_ (i := 12) (N := some 41) (v := ?_) (a' := ?_) #[true, true, true, true, true, true, true, true, true, true, true, true, true] rfl rfl (any_of HT_.out (by kernel_rfl)) (fun _ _ _ h => h) (Or.inl ⟨by rfl, ?_⟩) ?_ ?_
  rotate_left
  · intro w'
    go_simp
    with_reducible rfl
  rotate_left
  · simp only [Act.put, List.setIfInBounds_toArray, List.set_cons_zero, List.set_cons_succ, i64_w, i32_w]
    rfl
  refine done_ (done_of HT_.out (by kernel_rfl)) ?_
  clear HT_ HW_ G1 G2 G3
  have HBa := Go.Lib.hid hHeld.out.1
  have HBb := Go.Lib.hid hHeld.out.2
  clear hHeld
  go_upto_region 7 with (fail)
  obtain ⟨Z, hz, hZ⟩ : ∃ Z : Array Value, (∀ W, (zeroValue 48).run Try.prog W = .ok (.agg Z) W) ∧ Z.size = 15 := ⟨#[.int .i64 0, .string (⟨#[]⟩ : ByteArray), .string (⟨#[]⟩ : ByteArray), .int .i64 0, .int .i64 0, .int .i64 0, .int .i64 0, .int .i64 0, .int .i64 0, .string (⟨#[]⟩ : ByteArray), .string (⟨#[]⟩ : ByteArray), .int .i64 0, .int .i64 0, .slice none 0 0, .slice none 0 0], fun W => by kernel_rfl, rfl⟩
  have HZ := Go.Lib.hid hZ
  clear hZ
  have hi48 : (Try.prog.info? 48).map (·.size) = some 15 := by kernel_rfl
  have HI := Go.Lib.hid hi48
  clear hi48
  refine start_ (n := 8) (S := fun w' => w'.heap[w.heap.size]? = some (.cells #[.int .i64 a0_0, .string a0_1, .string a0_2, .int .i64 a0_3, .int .i64 a0_4, .int .i64 a0_5, .int .i64 a0_6, .int .i64 a0_7, .int .i64 a0_8, .string a0_9, .string a0_10, .int .i64 a0_11, .int .i64 a0_12, .slice A0_13 l0_13.length c0_13, .slice A0_14 l0_14.length c0_14] 48 (0, 0))) (ds := []) #[false, false, false, false, false, false, false, false] (by kernel_rfl) rfl rfl HBa.out (fun hHeld => ?_); replace hHeld := Go.Lib.hid hHeld; refine with_tabW ItemSame.tab7 ItemSame.bits7 (fun HT_ HW_ => ?_)
  have hB_ := below_drew1 HB.out
  clear HBa HBb HB
  have HB := Go.Lib.hid hB_
  clear hB_
  generalize V3.drew = X0 at hHeld HB ⊢
  refine take_ (i := 0) (N := some 42) (v := ?_) (a' := ?_) #[true, false, false, false, false, false, false, false] rfl rfl (take_ofW HT_.out HW_.out (by kernel_rfl)) (fun _ _ _ h => h) (Or.inl ⟨by rfl, ?_⟩) hHeld.out ?_ ?_
  rotate_left
  · rintro w' hA_; refine ItemSame.ld w' _ _ ?_ (.tmp 2) ?_ ?_ hA_ <;> rfl
  rotate_left
  · simp only [Act.put, List.setIfInBounds_toArray, List.set_cons_zero, List.set_cons_succ, i64_w, i32_w]
    rfl
  refine take_ (i := 2) (N := some 44) (v := ?_) (a' := ?_) #[true, false, true, false, false, false, false, false] rfl rfl (take_ofW HT_.out HW_.out (by kernel_rfl)) (fun _ _ _ h => h) (Or.inl ⟨by rfl, ?_⟩) hHeld.out ?_ ?_
  rotate_left
  · rintro w' hA_; refine ItemSame.ld w' _ _ ?_ (.tmp 2) ?_ ?_ hA_ <;> rfl
  rotate_left
  · simp only [Act.put, List.setIfInBounds_toArray, List.set_cons_zero, List.set_cons_succ, i64_w, i32_w]
    rfl
  refine phaseA_ HT_.out 4 2 #[true, true, true, true, true, true, false, false] [1, 3, 4, 5] (fun i l => i != 1 || !l.getD 3 false) (fun s : ItemSame.St => [(43, s.c), (45, s.d), (5, s.g5), (6, s.g6)]) (ItemSame.F w #[.int .i64 a0_0, .string a0_1, .string a0_2, .int .i64 a0_3, .int .i64 a0_4, .int .i64 a0_5, .int .i64 a0_6, .int .i64 a0_7, .int .i64 a0_8, .string a0_9, .string a0_10, .int .i64 a0_11, .int .i64 a0_12, .slice A0_13 l0_13.length c0_13, .slice A0_14 l0_14.length c0_14] Z (fun p_ q_ => .agg #[.int .i64 a0_0, .string a0_1, .string a0_2, .int .i64 a0_3, .int .i64 a0_4, .int .i64 a0_5, .int .i64 a0_6, .int .i64 a0_7, .int .i64 a0_8, .string a0_9, .string a0_10, .int .i64 a0_11, .int .i64 a0_12, p_, q_]) l0_13 l0_14) (by kernel_rfl) ⟨undef, undef, undef, undef, 0⟩ (by rfl) ?hs ?hfin ?hop
  case hs =>
    exact ⟨hHeld.out, HB.out, Nat.zero_le _, fun e => by simp at e, fun e => by simp at e, fun e => by simp at e, fun e => by simp at e, fun g e => by simp [undef] at e, fun g e => by simp [undef] at e, fun g g' e => by simp [undef] at e⟩
  case hop =>
    clear hHeld HB HW_
    intro i hi l s X hpre hF
    simp only [List.mem_cons, List.not_mem_nil, or_false] at hi
    rcases hi with rfl | rfl | rfl | rfl
    · refine ⟨_, rfl, by decide, fun K hK => ?_⟩
      refine goes_ Try.func24 (by kernel_rfl) (N := some 43) rfl #[.agg #[.int .i64 a0_0, .string a0_1, .string a0_2, .int .i64 a0_3, .int .i64 a0_4, .int .i64 a0_5, .int .i64 a0_6, .int .i64 a0_7, .int .i64 a0_8, .string a0_9, .string a0_10, .int .i64 a0_11, .int .i64 a0_12, .slice A0_13 l0_13.length c0_13, .slice A0_14 l0_14.length c0_14]] (by rfl) rfl rfl (by (try simp only [List.map_toArray, List.map_cons, List.map_nil]); first | done | rfl) ?_
      refine (item_Copy.calls a0_0 a0_1 a0_2 a0_3 a0_4 a0_5 a0_6 a0_7 a0_8 a0_9 a0_10 a0_11 a0_12 A0_13 c0_13 l0_13 A0_14 c0_14 l0_14 a0_0 a0_1 a0_2 a0_3 a0_4 a0_5 a0_6 a0_7 a0_8 a0_9 a0_10 a0_11 a0_12 l0_13 l0_14 _ (Kd.C_below HR0.out hF.bel) HC0.out (Kd.C_below HD0.out hF.bel) HE0.out (by unfold item_Copy.f; rw [G4.out, G5.out]; rfl)).mono ?_
      rintro e X' ⟨v13, v14, rfl, ho1, ho2, hb⟩
      refine ⟨_, rfl, ?_⟩
      exact hK.out { s with c := .agg #[.int .i64 a0_0, .string a0_1, .string a0_2, .int .i64 a0_3, .int .i64 a0_4, .int .i64 a0_5, .int .i64 a0_6, .int .i64 a0_7, .int .i64 a0_8, .string a0_9, .string a0_10, .int .i64 a0_11, .int .i64 a0_12, v13, v14], m := X'.heap.size } _ X' (ItemSame.keep_ hF.hA hb) (put_in _ _ _ (.inl ⟨rfl, rfl, rfl, rfl, rfl⟩)) (ItemSame.F.setC hF (by simpa using hpre) hb ho1 ho2)
    · refine ⟨_, rfl, by decide, fun K hK => ?_⟩
      refine goes_ Try.func24 (by kernel_rfl) (N := some 45) rfl #[.agg #[.int .i64 a0_0, .string a0_1, .string a0_2, .int .i64 a0_3, .int .i64 a0_4, .int .i64 a0_5, .int .i64 a0_6, .int .i64 a0_7, .int .i64 a0_8, .string a0_9, .string a0_10, .int .i64 a0_11, .int .i64 a0_12, .slice A0_13 l0_13.length c0_13, .slice A0_14 l0_14.length c0_14]] (by rfl) rfl rfl (by (try simp only [List.map_toArray, List.map_cons, List.map_nil]); first | done | rfl) ?_
      refine (item_Copy.calls a0_0 a0_1 a0_2 a0_3 a0_4 a0_5 a0_6 a0_7 a0_8 a0_9 a0_10 a0_11 a0_12 A0_13 c0_13 l0_13 A0_14 c0_14 l0_14 a0_0 a0_1 a0_2 a0_3 a0_4 a0_5 a0_6 a0_7 a0_8 a0_9 a0_10 a0_11 a0_12 l0_13 l0_14 _ (Kd.C_below HR0.out hF.bel) HC0.out (Kd.C_below HD0.out hF.bel) HE0.out (by unfold item_Copy.f; rw [G4.out, G5.out]; rfl)).mono ?_
      rintro e X' ⟨v13, v14, rfl, ho1, ho2, hb⟩
      refine ⟨_, rfl, ?_⟩
      exact hK.out { s with d := .agg #[.int .i64 a0_0, .string a0_1, .string a0_2, .int .i64 a0_3, .int .i64 a0_4, .int .i64 a0_5, .int .i64 a0_6, .int .i64 a0_7, .int .i64 a0_8, .string a0_9, .string a0_10, .int .i64 a0_11, .int .i64 a0_12, v13, v14] } _ X' (ItemSame.keep_ hF.hA hb) (put_in _ _ _ (.inr ⟨rfl, rfl, .inl ⟨rfl, rfl, rfl, rfl, rfl⟩⟩)) (ItemSame.F.setD hF hb ho1 ho2)
    · refine ⟨_, rfl, by decide, fun K hK => ?_⟩
      refine box_step (by rfl) (N := 5) rfl (cs := Z) (t := 48) (by first | (go_simp; done) | (go_simp; rfl)) ?_
      intro g hg X' hbox hb
      exact hK.out { s with g5 := .pointer (some ⟨g, 0, none⟩) } _ X' (ItemSame.keep_ hF.hA hb) (put_in _ _ _ (.inr ⟨rfl, rfl, .inr ⟨rfl, rfl, .inl ⟨rfl, rfl, rfl, rfl, rfl⟩⟩⟩)) (ItemSame.F.set5 hg hF hb hbox)
    · refine ⟨_, rfl, by decide, fun K hK => ?_⟩
      refine box_step (by rfl) (N := 6) rfl (cs := Z) (t := 48) (by first | (go_simp; done) | (go_simp; rfl)) ?_
      intro g hg X' hbox hb
      exact hK.out { s with g6 := .pointer (some ⟨g, 0, none⟩) } _ X' (ItemSame.keep_ hF.hA hb) (put_in _ _ _ (.inr ⟨rfl, rfl, .inr ⟨rfl, rfl, .inr ⟨rfl, rfl, .inl ⟨rfl, rfl, rfl, rfl, rfl⟩⟩⟩⟩)) (ItemSame.F.set6 hg hF hb hbox)
  clear hHeld HB
  rintro ⟨cc, cd, c5, c6, m⟩ X1 hF
  obtain ⟨v13, v14, hc, hR13, hR14⟩ := hF.hc rfl
  obtain ⟨u13, u14, hd, hU13, hU14⟩ := hF.hd rfl
  obtain ⟨g5, hg5, hb5, hl5⟩ := hF.h5 rfl
  obtain ⟨g6, hg6, hb6, hl6⟩ := hF.h6 rfl
  have hne := hF.ne g5 g6 hg5 hg6
  have hBl := hF.bel
  have hAb := hF.hA
  have hmm := hF.hm
  clear hF
  simp only at hc hd hg5 hg6 hR13 hR14 hU13 hU14 hmm
  subst hc
  subst hd
  subst hg5
  subst hg6
  obtain ⟨B13, d13, rfl, hq13, _⟩ := Kd.R_reads hR13
  obtain ⟨B14, d14, rfl, hq14, _⟩ := Kd.R_reads hR14
  obtain ⟨E13, f13, rfl, hs13, _⟩ := Kd.R_reads hU13
  obtain ⟨E14, f14, rfl, hs14, _⟩ := Kd.R_reads hU14
  have HQ13 := Go.Lib.hid hq13
  have HQ14 := Go.Lib.hid hq14
  have HS13 := Go.Lib.hid hs13
  have HS14 := Go.Lib.hid hs14
  clear hq13 hq14 hs13 hs14
  refine norm_ (a' := ?_) ?_ ?_
  rotate_left
  · simp only [putAll, Act.put, List.setIfInBounds_toArray, List.set_cons_zero, List.set_cons_succ]
    rfl
  refine one_ (i := 6) (N := none) #[true, true, true, true, true, true, true, false] rfl rfl (one_of HT_.out (by kernel_rfl)) (by decide) (fun K hK => ?_)
  rw [if_pos (by rfl)]
  refine wp_store_row 48 (.tmp 5) (.tmp 43) rfl g5 #[.int .i64 a0_0, .string a0_1, .string a0_2, .int .i64 a0_3, .int .i64 a0_4, .int .i64 a0_5, .int .i64 a0_6, .int .i64 a0_7, .int .i64 a0_8, .string a0_9, .string a0_10, .int .i64 a0_11, .int .i64 a0_12, .slice B13 l0_13.length d13, .slice B14 l0_14.length d14] rfl rfl 48 Z hb5 HI.out HZ.out (by simp only [List.all_toArray, List.all_cons, List.all_nil]; rfl) ?_
  have hA2 := (setRow_other X1 g5 w.heap.size #[.int .i64 a0_0, .string a0_1, .string a0_2, .int .i64 a0_3, .int .i64 a0_4, .int .i64 a0_5, .int .i64 a0_6, .int .i64 a0_7, .int .i64 a0_8, .string a0_9, .string a0_10, .int .i64 a0_11, .int .i64 a0_12, .slice B13 l0_13.length d13, .slice B14 l0_14.length d14] (by omega)).trans hAb
  refine hK.out _ _ hA2 (fun _ => ?_)
  have H5b := setRow_heap X1 g5 Z #[.int .i64 a0_0, .string a0_1, .string a0_2, .int .i64 a0_3, .int .i64 a0_4, .int .i64 a0_5, .int .i64 a0_6, .int .i64 a0_7, .int .i64 a0_8, .string a0_9, .string a0_10, .int .i64 a0_11, .int .i64 a0_12, .slice B13 l0_13.length d13, .slice B14 l0_14.length d14] 48 (0, 0) hb5
  have H6b := (setRow_other X1 g5 g6 #[.int .i64 a0_0, .string a0_1, .string a0_2, .int .i64 a0_3, .int .i64 a0_4, .int .i64 a0_5, .int .i64 a0_6, .int .i64 a0_7, .int .i64 a0_8, .string a0_9, .string a0_10, .int .i64 a0_11, .int .i64 a0_12, .slice B13 l0_13.length d13, .slice B14 l0_14.length d14] (Ne.symm hne)).trans hb6
  have hB2 := below_setRow hBl (show w.heap.size ≤ g5 by omega) #[.int .i64 a0_0, .string a0_1, .string a0_2, .int .i64 a0_3, .int .i64 a0_4, .int .i64 a0_5, .int .i64 a0_6, .int .i64 a0_7, .int .i64 a0_8, .string a0_9, .string a0_10, .int .i64 a0_11, .int .i64 a0_12, .slice B13 l0_13.length d13, .slice B14 l0_14.length d14]
  have hR13b := ItemSame.r_set hR13 hb5 (by decide) #[.int .i64 a0_0, .string a0_1, .string a0_2, .int .i64 a0_3, .int .i64 a0_4, .int .i64 a0_5, .int .i64 a0_6, .int .i64 a0_7, .int .i64 a0_8, .string a0_9, .string a0_10, .int .i64 a0_11, .int .i64 a0_12, .slice B13 l0_13.length d13, .slice B14 l0_14.length d14]
  have hR14b := ItemSame.r_set hR14 hb5 (by decide) #[.int .i64 a0_0, .string a0_1, .string a0_2, .int .i64 a0_3, .int .i64 a0_4, .int .i64 a0_5, .int .i64 a0_6, .int .i64 a0_7, .int .i64 a0_8, .string a0_9, .string a0_10, .int .i64 a0_11, .int .i64 a0_12, .slice B13 l0_13.length d13, .slice B14 l0_14.length d14]
  have hU13b := ItemSame.r_set hU13 hb5 (by decide) #[.int .i64 a0_0, .string a0_1, .string a0_2, .int .i64 a0_3, .int .i64 a0_4, .int .i64 a0_5, .int .i64 a0_6, .int .i64 a0_7, .int .i64 a0_8, .string a0_9, .string a0_10, .int .i64 a0_11, .int .i64 a0_12, .slice B13 l0_13.length d13, .slice B14 l0_14.length d14]
  have hU14b := ItemSame.r_set hU14 hb5 (by decide) #[.int .i64 a0_0, .string a0_1, .string a0_2, .int .i64 a0_3, .int .i64 a0_4, .int .i64 a0_5, .int .i64 a0_6, .int .i64 a0_7, .int .i64 a0_8, .string a0_9, .string a0_10, .int .i64 a0_11, .int .i64 a0_12, .slice B13 l0_13.length d13, .slice B14 l0_14.length d14]
  clear hK K hb5 hb6 hBl hR13 hR14 hU13 hU14 hAb hmm
  generalize X1.setRow g5 #[.int .i64 a0_0, .string a0_1, .string a0_2, .int .i64 a0_3, .int .i64 a0_4, .int .i64 a0_5, .int .i64 a0_6, .int .i64 a0_7, .int .i64 a0_8, .string a0_9, .string a0_10, .int .i64 a0_11, .int .i64 a0_12, .slice B13 l0_13.length d13, .slice B14 l0_14.length d14] = X2 at hA2 H5b H6b hB2 hR13b hR14b hU13b hU14b ⊢
  refine norm_ (a' := ?_) ?_ ?_
  rotate_left
  · simp only [Act.put]
    rfl
  refine one_ (i := 7) (N := none) #[true, true, true, true, true, true, true, true] rfl rfl (one_of HT_.out (by kernel_rfl)) (by decide) (fun K hK => ?_)
  rw [if_pos (by rfl)]
  refine wp_store_row 48 (.tmp 6) (.tmp 45) rfl g6 #[.int .i64 a0_0, .string a0_1, .string a0_2, .int .i64 a0_3, .int .i64 a0_4, .int .i64 a0_5, .int .i64 a0_6, .int .i64 a0_7, .int .i64 a0_8, .string a0_9, .string a0_10, .int .i64 a0_11, .int .i64 a0_12, .slice E13 l0_13.length f13, .slice E14 l0_14.length f14] rfl rfl 48 Z H6b HI.out HZ.out (by simp only [List.all_toArray, List.all_cons, List.all_nil]; rfl) ?_
  have hA3 := (setRow_other X2 g6 w.heap.size #[.int .i64 a0_0, .string a0_1, .string a0_2, .int .i64 a0_3, .int .i64 a0_4, .int .i64 a0_5, .int .i64 a0_6, .int .i64 a0_7, .int .i64 a0_8, .string a0_9, .string a0_10, .int .i64 a0_11, .int .i64 a0_12, .slice E13 l0_13.length f13, .slice E14 l0_14.length f14] (by omega)).trans hA2
  refine hK.out _ _ hA3 (fun _ => ?_)
  have H5c := (setRow_other X2 g6 g5 #[.int .i64 a0_0, .string a0_1, .string a0_2, .int .i64 a0_3, .int .i64 a0_4, .int .i64 a0_5, .int .i64 a0_6, .int .i64 a0_7, .int .i64 a0_8, .string a0_9, .string a0_10, .int .i64 a0_11, .int .i64 a0_12, .slice E13 l0_13.length f13, .slice E14 l0_14.length f14] hne).trans H5b
  have H6c := setRow_heap X2 g6 Z #[.int .i64 a0_0, .string a0_1, .string a0_2, .int .i64 a0_3, .int .i64 a0_4, .int .i64 a0_5, .int .i64 a0_6, .int .i64 a0_7, .int .i64 a0_8, .string a0_9, .string a0_10, .int .i64 a0_11, .int .i64 a0_12, .slice E13 l0_13.length f13, .slice E14 l0_14.length f14] 48 (0, 0) H6b
  have hB3 := below_setRow hB2 (show w.heap.size ≤ g6 by omega) #[.int .i64 a0_0, .string a0_1, .string a0_2, .int .i64 a0_3, .int .i64 a0_4, .int .i64 a0_5, .int .i64 a0_6, .int .i64 a0_7, .int .i64 a0_8, .string a0_9, .string a0_10, .int .i64 a0_11, .int .i64 a0_12, .slice E13 l0_13.length f13, .slice E14 l0_14.length f14]
  have hR13 := ItemSame.r_set hR13b H6b (by decide) #[.int .i64 a0_0, .string a0_1, .string a0_2, .int .i64 a0_3, .int .i64 a0_4, .int .i64 a0_5, .int .i64 a0_6, .int .i64 a0_7, .int .i64 a0_8, .string a0_9, .string a0_10, .int .i64 a0_11, .int .i64 a0_12, .slice E13 l0_13.length f13, .slice E14 l0_14.length f14]
  have hR14 := ItemSame.r_set hR14b H6b (by decide) #[.int .i64 a0_0, .string a0_1, .string a0_2, .int .i64 a0_3, .int .i64 a0_4, .int .i64 a0_5, .int .i64 a0_6, .int .i64 a0_7, .int .i64 a0_8, .string a0_9, .string a0_10, .int .i64 a0_11, .int .i64 a0_12, .slice E13 l0_13.length f13, .slice E14 l0_14.length f14]
  have hU13 := ItemSame.r_set hU13b H6b (by decide) #[.int .i64 a0_0, .string a0_1, .string a0_2, .int .i64 a0_3, .int .i64 a0_4, .int .i64 a0_5, .int .i64 a0_6, .int .i64 a0_7, .int .i64 a0_8, .string a0_9, .string a0_10, .int .i64 a0_11, .int .i64 a0_12, .slice E13 l0_13.length f13, .slice E14 l0_14.length f14]
  have hU14 := ItemSame.r_set hU14b H6b (by decide) #[.int .i64 a0_0, .string a0_1, .string a0_2, .int .i64 a0_3, .int .i64 a0_4, .int .i64 a0_5, .int .i64 a0_6, .int .i64 a0_7, .int .i64 a0_8, .string a0_9, .string a0_10, .int .i64 a0_11, .int .i64 a0_12, .slice E13 l0_13.length f13, .slice E14 l0_14.length f14]
  clear hK K hA2 H5b H6b hB2 hR13b hR14b hU13b hU14b
  generalize X2.setRow g6 #[.int .i64 a0_0, .string a0_1, .string a0_2, .int .i64 a0_3, .int .i64 a0_4, .int .i64 a0_5, .int .i64 a0_6, .int .i64 a0_7, .int .i64 a0_8, .string a0_9, .string a0_10, .int .i64 a0_11, .int .i64 a0_12, .slice E13 l0_13.length f13, .slice E14 l0_14.length f14] = X3 at hA3 H5c H6c hB3 hR13 hR14 hU13 hU14 ⊢
  refine norm_ (a' := ?_) ?_ ?_
  rotate_left
  · simp only [Act.put]
    rfl
  refine done_ (done_of HT_.out (by kernel_rfl)) ?_
  clear HT_ G4 G5 HZ HI hz Z
  have HG : ItemSame.G w #[.int .i64 a0_0, .string a0_1, .string a0_2, .int .i64 a0_3, .int .i64 a0_4, .int .i64 a0_5, .int .i64 a0_6, .int .i64 a0_7, .int .i64 a0_8, .string a0_9, .string a0_10, .int .i64 a0_11, .int .i64 a0_12, .slice A0_13 l0_13.length c0_13, .slice A0_14 l0_14.length c0_14] #[.int .i64 a0_0, .string a0_1, .string a0_2, .int .i64 a0_3, .int .i64 a0_4, .int .i64 a0_5, .int .i64 a0_6, .int .i64 a0_7, .int .i64 a0_8, .string a0_9, .string a0_10, .int .i64 a0_11, .int .i64 a0_12, .slice B13 l0_13.length d13, .slice B14 l0_14.length d14] #[.int .i64 a0_0, .string a0_1, .string a0_2, .int .i64 a0_3, .int .i64 a0_4, .int .i64 a0_5, .int .i64 a0_6, .int .i64 a0_7, .int .i64 a0_8, .string a0_9, .string a0_10, .int .i64 a0_11, .int .i64 a0_12, .slice E13 l0_13.length f13, .slice E14 l0_14.length f14] g5 g6 m (.slice B13 l0_13.length d13) (.slice B14 l0_14.length d14) (.slice E13 l0_13.length f13) (.slice E14 l0_14.length f14) l0_13 l0_14 X3 := ⟨hA3, H5c, H6c, hB3, ItemSame.wk_pairs hR13, ItemSame.wk_bytes hR14, hU13, hU14⟩
  clear hA3 H5c H6c hB3 hU13 hU14
  have hC13 := Go.Lib.hid (ItemSame.c_of hR13)
  have hC14 := Go.Lib.hid (ItemSame.c_of hR14)
  clear hR13 hR14
  replace HG := Go.Lib.hid HG
  have NE := Go.Lib.hid hne
  have L5 := Go.Lib.hid hl5
  have L6 := Go.Lib.hid hl6
  clear hne hl5 hl6
  go_upto_region 8 with (fail)
  obtain ⟨e0_, e1_, e2_, e3_, e4_, e5_, e6_, e7_, e8_, e9_, e10_, e11_, e12_, e13_, e14_⟩ := item_Same.cl X3 _ _ _ _ _ _ _ _ _ _ _ _ _ _ _ _ _ _ _ _ HG.out.hA
  obtain ⟨f0_, f1_, f2_, f3_, f4_, f5_, f6_, f7_, f8_, f9_, f10_, f11_, f12_, f13_, f14_⟩ := item_Same.cl X3 _ _ _ _ _ _ _ _ _ _ _ _ _ _ _ _ _ _ _ _ HG.out.h5
  go_wp2_with fail
  refine (oakumref08_SameHead.calls k a0_0 a0_1 a0_2 a0_3 a0_4 a0_5 a0_6 a0_7 a0_8 a0_9 a0_10 a0_11 a0_12 B13 d13 l0_13 a0_0 a0_1 a0_2 a0_3 a0_4 a0_5 a0_6 a0_7 a0_8 a0_9 a0_10 a0_11 a0_12 A0_13 c0_13 l0_13 true _ hC13.out HQ13.out (Kd.C_below HR0.out HG.out.bel) HC0.out G6.out).mono ?_
  rintro e X4 ⟨rfl, hb⟩
  have hG2 := HG.out.step hb
  have hC14b := Kd.C_below hC14.out hb
  clear HG hb hC13 hC14 G6 e0_ e1_ e2_ e3_ e4_ e5_ e6_ e7_ e8_ e9_ e10_ e11_ e12_ e13_ e14_ f0_ f1_ f2_ f3_ f4_ f5_ f6_ f7_ f8_ f9_ f10_ f11_ f12_ f13_ f14_
  have HG := Go.Lib.hid hG2
  have hC14 := Go.Lib.hid hC14b
  clear hG2 hC14b
  have e14_ := (item_Same.cl X4 _ _ _ _ _ _ _ _ _ _ _ _ _ _ _ _ _ _ _ _ HG.out.hA).2.2.2.2.2.2.2.2.2.2.2.2.2.2
  have f14_ := (item_Same.cl X4 _ _ _ _ _ _ _ _ _ _ _ _ _ _ _ _ _ _ _ _ HG.out.h5).2.2.2.2.2.2.2.2.2.2.2.2.2.2
  go_wp2_with fail
  refine (oakumref01_Same.calls B14 d14 l0_14 A0_14 c0_14 l0_14 true _ hC14.out HQ14.out (Kd.C_below HD0.out HG.out.bel) HE0.out G7.out).mono ?_
  rintro e X5 ⟨rfl, ⟨nd, rfl⟩⟩
  have hG2 := HG.out.step (pw_below_drewN (Below.refl _ _) nd)
  generalize X4.drewN nd = X5 at hG2 ⊢
  clear HG hC14 G7 e14_ f14_
  have HG := Go.Lib.hid hG2
  clear hG2
  go_wp2
  go_loopw [7] (fun i wr => ∃ n : Nat, n ≤ l0_14.length ∧ i = .int .i64 n ∧ Hid (ItemSame.G w #[.int .i64 a0_0, .string a0_1, .string a0_2, .int .i64 a0_3, .int .i64 a0_4, .int .i64 a0_5, .int .i64 a0_6, .int .i64 a0_7, .int .i64 a0_8, .string a0_9, .string a0_10, .int .i64 a0_11, .int .i64 a0_12, .slice A0_13 l0_13.length c0_13, .slice A0_14 l0_14.length c0_14] #[.int .i64 a0_0, .string a0_1, .string a0_2, .int .i64 a0_3, .int .i64 a0_4, .int .i64 a0_5, .int .i64 a0_6, .int .i64 a0_7, .int .i64 a0_8, .string a0_9, .string a0_10, .int .i64 a0_11, .int .i64 a0_12, .slice B13 l0_13.length d13, .slice B14 l0_14.length d14] #[.int .i64 a0_0, .string a0_1, .string a0_2, .int .i64 a0_3, .int .i64 a0_4, .int .i64 a0_5, .int .i64 a0_6, .int .i64 a0_7, .int .i64 a0_8, .string a0_9, .string a0_10, .int .i64 a0_11, .int .i64 a0_12, .slice E13 l0_13.length f13, .slice E14 l0_14.length f14] g5 g6 m (.slice B13 l0_13.length d13) (.slice B14 l0_14.length d14) (.slice E13 l0_13.length f13) (.slice E14 l0_14.length f14) l0_13 l0_14 wr)) (fun i _ => l0_14.length - (intOf i).toNat)
  case atStart => exact ⟨0, by omega, rfl, HG⟩
  case round =>
  clear HG
  obtain ⟨n, hn, rfl, HG⟩ := hrel
  have f14_ := (item_Same.cl wr _ _ _ _ _ _ _ _ _ _ _ _ _ _ _ _ _ _ _ _ HG.out.h5).2.2.2.2.2.2.2.2.2.2.2.2.2.2
  by_cases hlt : n < l0_14.length
  · have hlti : (n : Int) < (l0_14.length : Int) := by omega
    have hn0 : (0 : Int) ≤ (n : Int) := by omega
    go_upto_region 13 with (fail)
    rcases HG.out.c14 with h0 | ⟨gr, c_, cells, hv, hh, hle, hgw, hgm, hel⟩
    · omega
    injection hv with hv1 _ hv3
    subst hv1
    subst hv3
    obtain ⟨u, hu, x, rfl⟩ := hel n (by omega)
    have hcx : wr.cell? ⟨gr, n, none⟩ = some (.int .u8 x) := (cell_of_row wr gr n cells _ _ hh).trans hu
    refine start_ (n := 11) (S := fun w' => w'.cell? ⟨g5, 14, none⟩ = some (.slice (some ⟨gr, 0, none⟩) l0_14.length d14) ∧ w'.cell? ⟨gr, n, none⟩ = some (.int .u8 x)) (ds := [10]) #[false, false, false, false, false, false, false, false, false, false, false] (by kernel_rfl) rfl rfl ⟨f14_, hcx⟩ (fun hHeld => ?_); replace hHeld := Go.Lib.hid hHeld; refine with_tabW ItemSame.tab13 ItemSame.bits13 (fun HT_ HW_ => ?_)
    have hG2 := HG.out.step (below_drew1 (Below.refl _ _))
    have hh2 : wr.drew.heap[gr]? = some (.cells cells 5 (0, 0)) := hh
    clear HG hh f14_ hcx hle hel hu
    generalize wr.drew = Y at hG2 hHeld hh2 ⊢
    refine pure_ (i := 0) (N := some 67) (v := ?_) (a' := ?_) #[true, false, false, false, false, false, false, false, false, false, false] rfl rfl (any_of HT_.out (by kernel_rfl)) (fun _ _ _ h => h) (Or.inl ⟨by rfl, ?_⟩) ?_ ?_
    rotate_left
    · intro w'
      go_simp
      with_reducible rfl
    rotate_left
    · simp only [Act.put, List.setIfInBounds_toArray, List.set_cons_zero, List.set_cons_succ, i64_w, i32_w]
      rfl
    refine pure_ (i := 2) (N := some 69) (v := ?_) (a' := ?_) #[true, false, true, false, false, false, false, false, false, false, false] rfl rfl (any_of HT_.out (by kernel_rfl)) (fun _ _ _ h => h) (Or.inl ⟨by rfl, ?_⟩) ?_ ?_
    rotate_left
    · intro w'
      go_simp
      with_reducible rfl
    rotate_left
    · simp only [Act.put, List.setIfInBounds_toArray, List.set_cons_zero, List.set_cons_succ, i64_w, i32_w]
      rfl
    refine pure_ (i := 3) (N := some 70) (v := ?_) (a' := ?_) #[true, false, true, true, false, false, false, false, false, false, false] rfl rfl (any_of HT_.out (by kernel_rfl)) (fun _ _ _ h => h) (Or.inl ⟨by rfl, ?_⟩) ?_ ?_
    rotate_left
    · intro w'
      go_simp
      with_reducible rfl
    rotate_left
    · simp only [Act.put, List.setIfInBounds_toArray, List.set_cons_zero, List.set_cons_succ, i64_w, i32_w]
      rfl
    refine pure_ (i := 5) (N := some 72) (v := ?_) (a' := ?_) #[true, false, true, true, false, true, false, false, false, false, false] rfl rfl (any_of HT_.out (by kernel_rfl)) (fun _ _ _ h => h) (Or.inl ⟨by rfl, ?_⟩) ?_ ?_
    rotate_left
    · intro w'
      go_simp
      with_reducible rfl
    rotate_left
    · simp only [Act.put, List.setIfInBounds_toArray, List.set_cons_zero, List.set_cons_succ, i64_w, i32_w]
      rfl
    refine take_ (i := 1) (N := some 68) (v := ?_) (a' := ?_) #[true, true, true, true, false, true, false, false, false, false, false] rfl rfl (take_ofW HT_.out HW_.out (by kernel_rfl)) (fun _ _ _ h => h) (Or.inl ⟨by rfl, ?_⟩) hHeld.out ?_ ?_
    rotate_left
    · rintro w' ⟨hA_, hB_⟩
      go_simp
      with_reducible rfl
    rotate_left
    · simp only [Act.put, List.setIfInBounds_toArray, List.set_cons_zero, List.set_cons_succ, i64_w, i32_w]
      rfl
    refine take_ (i := 4) (N := some 71) (v := ?_) (a' := ?_) #[true, true, true, true, true, true, false, false, false, false, false] rfl rfl (take_ofW HT_.out HW_.out (by kernel_rfl)) (fun _ _ _ h => h) (Or.inl ⟨by rfl, ?_⟩) hHeld.out ?_ ?_
    rotate_left
    · rintro w' ⟨hA_, hB_⟩
      go_simp
      with_reducible rfl
    rotate_left
    · simp only [Act.put, List.setIfInBounds_toArray, List.set_cons_zero, List.set_cons_succ, i64_w, i32_w]
      rfl
    refine pure_ (i := 6) (N := some 73) (v := .pointer (some ⟨gr, n, none⟩)) (a' := ?_) #[true, true, true, true, true, true, true, false, false, false, false] rfl rfl (any_of HT_.out (by kernel_rfl)) (fun _ _ _ h => h) (Or.inl ⟨by rfl, ?_⟩) ?_ ?_
    · intro w'
      first | (go_simp; done) | (go_simp; simp)
    rotate_left
    · simp only [Act.put, List.setIfInBounds_toArray, List.set_cons_zero, List.set_cons_succ, i64_w, i32_w]
      rfl
    refine take_ (i := 7) (N := some 74) (v := ?_) (a' := ?_) #[true, true, true, true, true, true, true, true, false, false, false] rfl rfl (take_ofW HT_.out HW_.out (by kernel_rfl)) (fun _ _ _ h => h) (Or.inl ⟨by rfl, ?_⟩) hHeld.out ?_ ?_
    rotate_left
    · rintro w' ⟨hA_, hB_⟩
      go_simp
      with_reducible rfl
    rotate_left
    · simp only [Act.put, List.setIfInBounds_toArray, List.set_cons_zero, List.set_cons_succ, i64_w, i32_w]
      rfl
    refine pure_ (i := 8) (N := some 75) (v := ?_) (a' := ?_) #[true, true, true, true, true, true, true, true, true, false, false] rfl rfl (any_of HT_.out (by kernel_rfl)) (fun _ _ _ h => h) (Or.inl ⟨by rfl, ?_⟩) ?_ ?_
    rotate_left
    · intro w'
      go_simp
      with_reducible rfl
    rotate_left
    · simp only [Act.put, List.setIfInBounds_toArray, List.set_cons_zero, List.set_cons_succ, i64_w, i32_w]
      rfl
    refine pure_ (i := 9) (N := some 76) (v := .pointer (some ⟨gr, n, none⟩)) (a' := ?_) #[true, true, true, true, true, true, true, true, true, true, false] rfl rfl (any_of HT_.out (by kernel_rfl)) (fun _ _ _ h => h) (Or.inl ⟨by rfl, ?_⟩) ?_ ?_
    · intro w'
      first | (go_simp; done) | (go_simp; simp)
    rotate_left
    · simp only [Act.put, List.setIfInBounds_toArray, List.set_cons_zero, List.set_cons_succ, i64_w, i32_w]
      rfl
    have hs_ : Y.cell? ⟨gr, n, none⟩ = some (.int .u8 x) := hHeld.out.2
    have hf_ : Y.frozen? ⟨gr, n, none⟩ = false := blk_frozen hh2 n
    refine last_ (i := 10) (N := none) #[true, true, true, true, true, true, true, true, true, true, true] rfl rfl (one_of HT_.out (by kernel_rfl)) (by decide) (fun K hK => ?_)
    refine skip_ (w1 := ?_) (by rfl) rfl ?_ ?_
    rotate_left
    · go_simp
      rfl
    refine hK.out _ _ ?_
    clear hK K
    refine done_ (done_of HT_.out (by kernel_rfl)) ?_
    clear HT_ HW_ hHeld
    have hw : IntKind.i64.wrap ((n : Int) + 1) = (n : Int) + 1 := by
      have := HLEN.out
      rw [IntKind.wrap_i64]; omega
    go_wp2
    go_round
    case rel => exact ⟨n + 1, by omega, by go_num, Go.Lib.hid (ItemSame.G.put14 hG2 hh2 hgw hgm rfl n _)⟩
    case measure => simp [intOf]; omega
  · have hlti : ¬ (n : Int) < (l0_14.length : Int) := by omega
    go_upto_region 14 with (fail)
    clear f14_
    go_wp2
    go_loopw [8] (fun i wr2 => ∃ q : Nat, q ≤ l0_13.length ∧ i = .int .i64 q ∧ Hid (ItemSame.G w #[.int .i64 a0_0, .string a0_1, .string a0_2, .int .i64 a0_3, .int .i64 a0_4, .int .i64 a0_5, .int .i64 a0_6, .int .i64 a0_7, .int .i64 a0_8, .string a0_9, .string a0_10, .int .i64 a0_11, .int .i64 a0_12, .slice A0_13 l0_13.length c0_13, .slice A0_14 l0_14.length c0_14] #[.int .i64 a0_0, .string a0_1, .string a0_2, .int .i64 a0_3, .int .i64 a0_4, .int .i64 a0_5, .int .i64 a0_6, .int .i64 a0_7, .int .i64 a0_8, .string a0_9, .string a0_10, .int .i64 a0_11, .int .i64 a0_12, .slice B13 l0_13.length d13, .slice B14 l0_14.length d14] #[.int .i64 a0_0, .string a0_1, .string a0_2, .int .i64 a0_3, .int .i64 a0_4, .int .i64 a0_5, .int .i64 a0_6, .int .i64 a0_7, .int .i64 a0_8, .string a0_9, .string a0_10, .int .i64 a0_11, .int .i64 a0_12, .slice E13 l0_13.length f13, .slice E14 l0_14.length f14] g5 g6 m (.slice B13 l0_13.length d13) (.slice B14 l0_14.length d14) (.slice E13 l0_13.length f13) (.slice E14 l0_14.length f14) l0_13 l0_14 wr2)) (fun i _ => l0_13.length - (intOf i).toNat)
    case atStart => exact ⟨0, by omega, rfl, HG⟩
    case round =>
    clear HG
    obtain ⟨q, hq, rfl, HG⟩ := hrel
    have f13_ := (item_Same.cl wr _ _ _ _ _ _ _ _ _ _ _ _ _ _ _ _ _ _ _ _ HG.out.h5).2.2.2.2.2.2.2.2.2.2.2.2.2.1
    by_cases hlq : q < l0_13.length
    · have hlqi : (q : Int) < (l0_13.length : Int) := by omega
      have hq0 : (0 : Int) ≤ (q : Int) := by omega
      go_upto_region 17 with (fail)
      rcases HG.out.c13 with h0 | ⟨gr, c_, cells, hv, hh, hle, hgw, hgm, hel⟩
      · omega
      injection hv with hv1 _ hv3
      subst hv1
      subst hv3
      obtain ⟨u, hu, _⟩ := hel (q * 2) (by omega)
      obtain ⟨u', hu', _⟩ := hel (q * 2 + 1) (by omega)
      have hc0_ : wr.cell? ⟨gr, q * 2, none⟩ = some u := (cell_of_row wr gr _ cells _ _ hh).trans hu
      have hc1_ : wr.cell? ⟨gr, q * 2 + 1, none⟩ = some u' := (cell_of_row wr gr _ cells _ _ hh).trans hu'
      have hf0_ : wr.frozen? ⟨gr, q * 2, none⟩ = false := blk_frozen hh _
      have hf1_ : wr.frozen? ⟨gr, q * 2 + 1, none⟩ = false := blk_frozen hh _
      have hw : IntKind.i64.wrap ((q : Int) + 1) = (q : Int) + 1 := by
        have h1 := HR0.out.2.1
        rw [IntKind.wrap_i64]; omega
      have hu55 := Try.underlying55
      go_wp2
      go_round
      case rel => exact ⟨q + 1, by omega, by go_num, Go.Lib.hid (ItemSame.G.put13 (ItemSame.G.put13 HG.out hh hgw hgm rfl _ _) (blk_set hh _ _) hgw hgm rfl _ _)⟩
      case measure => simp [intOf]; omega
    · have hlqi : ¬ (q : Int) < (l0_13.length : Int) := by omega
      go_upto_region 18 with (fail)
      clear f13_
      obtain ⟨e0_, e1_, e2_, e3_, e4_, e5_, e6_, e7_, e8_, e9_, e10_, e11_, e12_, e13_, e14_⟩ := item_Same.cl wr _ _ _ _ _ _ _ _ _ _ _ _ _ _ _ _ _ _ _ _ HG.out.hA
      obtain ⟨f0_, f1_, f2_, f3_, f4_, f5_, f6_, f7_, f8_, f9_, f10_, f11_, f12_, f13_, f14_⟩ := item_Same.cl wr _ _ _ _ _ _ _ _ _ _ _ _ _ _ _ _ _ _ _ _ HG.out.h6
      go_wp2_with fail
      refine (oakumref09_Same.calls k a0_0 a0_1 a0_2 a0_3 a0_4 a0_5 a0_6 a0_7 a0_8 a0_9 a0_10 a0_11 a0_12 A0_13 c0_13 l0_13 A0_14 c0_14 l0_14 a0_0 a0_1 a0_2 a0_3 a0_4 a0_5 a0_6 a0_7 a0_8 a0_9 a0_10 a0_11 a0_12 E13 f13 l0_13 E14 f14 l0_14 true _ (Kd.C_below HR0.out HG.out.bel) HC0.out (Kd.C_below HD0.out HG.out.bel) HE0.out (ItemSame.c_of HG.out.d13) HS13.out (ItemSame.c_of HG.out.d14) HS14.out G8.out).mono ?_
      rintro e X6 ⟨rfl, hb⟩
      have hG2 := HG.out.step hb
      clear HG hb e0_ e1_ e2_ e3_ e4_ e5_ e6_ e7_ e8_ e9_ e10_ e11_ e12_ e13_ e14_ f0_ f1_ f2_ f3_ f4_ f5_ f6_ f7_ f8_ f9_ f10_ f11_ f12_ f13_ f14_
      have HG := Go.Lib.hid hG2
      clear hG2
      have e13_ := (item_Same.cl X6 _ _ _ _ _ _ _ _ _ _ _ _ _ _ _ _ _ _ _ _ HG.out.hA).2.2.2.2.2.2.2.2.2.2.2.2.2.1
      have f13_ := (item_Same.cl X6 _ _ _ _ _ _ _ _ _ _ _ _ _ _ _ _ _ _ _ _ HG.out.h6).2.2.2.2.2.2.2.2.2.2.2.2.2.1
      go_wp2_with fail
      refine (oakumref07_Same.calls k A0_13 c0_13 l0_13 E13 f13 l0_13 true _ (Kd.C_below HR0.out HG.out.bel) HC0.out (ItemSame.c_of HG.out.d13) HS13.out G9.out).mono ?_
      rintro e X7 ⟨rfl, ⟨nd, rfl⟩⟩
      go_wp2
      go_ret
      exact ⟨rfl, pw_below_drewN HG.out.bel _⟩
end Go.Proofs.Ytelniipccmeooaa.PItemSame
