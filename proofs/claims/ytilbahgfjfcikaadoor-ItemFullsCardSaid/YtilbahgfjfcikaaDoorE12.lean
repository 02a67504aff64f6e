/- The engine, part 12: literals of structs, conversions, lengths. -/
import Derived.Test.YtilbahgfjfcikaaDoorE11
import Derived.Lib.OthersKept
import Derived.Lib.ConvBytes
import Derived.Laws.BytesString
set_option linter.unusedVariables false
set_option linter.unusedSimpArgs false
namespace Go.Proofs.YtilbahgfjfcikaaDoor.Eng
open Go Go.RowKit
variable {P : Program} {S0 S S' : Stab} {W w w' : World} {gv gv' : Nat → Value} {fr : Fr} {a : Act} {ob ob' : Nat → Option Ob} {β : Type}

theorem run_mapM {α γ : Type} (f : α → Sem γ) (g : α → γ) : ∀ (l : List α), (∀ x ∈ l, ∀ w : World, (f x).run P w = .ok (g x) w) → (l.mapM f).run P w = .ok (l.map g) w
  | [], _ => by simp
  | x :: l, h => by
    simp only [List.mapM_cons, Sem.run_bind, h x (by simp) w, Result.andThen_ok, run_mapM f g l (fun y hy => h y (by simp [hy])), Sem.run_pure, List.map_cons]
theorem run_places {fs : Array Field} (h : ∀ f ∈ fs.toList, (P.info? f.type).isSome = true) : (fs.mapM fun f => do pure (f.offset, ← sizeOf f.type) : Sem _).run P w = .ok (fs.map fun f => (f.offset, P.cellsOf f.type)) w := by
  rw [Array.mapM_eq_mapM_toList, Sem.run_map, run_mapM _ (fun f => (f.offset, P.cellsOf f.type)) fs.toList fun f hf w => ?_]
  · simp only [Result.andThen_ok]
    congr 1
    apply Array.ext'
    simp
  · obtain ⟨i, hi⟩ := Option.isSome_iff_exists.1 (h f hf)
    simp [sizeOf, typeInfo, hi, Program.cellsOf]
theorem fill_congr (p q : Nat → Option (Nat × Nat)) (h : ∀ i, p i = q i) : ∀ (vs : List (Nat × Value)) (cs : Array Value), Instr.fill p cs vs = Instr.fill q cs vs
  | [], cs => rfl
  | (i, v) :: vs, cs => by
    simp only [Instr.fill, h i]
    split
    · rfl
    · split
      · rfl
      · exact fill_congr p q h vs _
/-- Cells of a struct, and what is laid over them. -/
def Cls (P : Program) (S : Stab) (gv : Nat → Value) (ob : Nat → Option Ob) (cs : List AV) (us : List Value) : Prop :=
  cs.length = us.length ∧ (∀ u ∈ us, u.oneCell' = true) ∧ ∀ (j : Nat) (c : AV) (u : Value), cs[j]? = some c → us[j]? = some u → SV1 P S gv ob c u
theorem fillK_ok {place : Nat → Option (Nat × Nat)} : ∀ {l : List (Nat × AV)} {vs : List (Nat × Value)} {cs out : List AV} {us : Array Value}, fillK place cs l = some out → Cls P S gv ob cs us.toList → l.map (·.1) = vs.map (·.1) →
    (∀ (j : Nat) (x : Nat × AV) (v : Nat × Value), l[j]? = some x → vs[j]? = some v → SV P S gv ob x.2 v.2 ∧ x.2.solid = true) →
    ∃ us', Instr.fill place us vs = some us' ∧ Cls P S gv ob out us'.toList
  | [], [], cs, out, us, h, hC, hm, hv => by cases h; exact ⟨us, rfl, hC⟩
  | [], v :: vs, cs, out, us, h, hC, hm, hv => by cases hm
  | x :: l, [], cs, out, us, h, hC, hm, hv => by cases hm
  | (i, x) :: l, (i', v) :: vs, cs, out, us, h, hC, hm, hv => by
    simp only [List.map_cons, List.cons.injEq] at hm
    obtain ⟨rfl, hm⟩ := hm
    obtain ⟨hx, hsol⟩ := hv 0 (i, x) (i, v) rfl rfl
    obtain ⟨c1, c2, c3⟩ := hx.cells hsol
    have c1' : v.cells.size = x.cells.length := c1
    simp only [fillK] at h
    cases hp : place i with
    | none => rw [hp] at h; cases h
    | some q =>
      obtain ⟨off, size⟩ := q
      rw [hp] at h
      have hc := (some_of_bif h).1
      replace h := (some_of_bif h).2
      simp only [Bool.and_eq_true, beq_iff_eq, decide_eq_true_eq] at hc
      obtain ⟨hsz, hfit⟩ := hc
      obtain ⟨d1, d2, d3⟩ := hC
      have hus : us.size = cs.length := by rw [d1]; simp
      have hz : v.cells.zipIdx.foldl (fun cs (y : Value × Nat) => cs.setIfInBounds (off + y.2) y.1) us = (v.cells.toList.zipIdx 0).foldl (fun cs (y : Value × Nat) => cs.setIfInBounds (off + y.2) y.1) us := by
        rw [← Array.foldl_toList, Array.toList_zipIdx]
      have hget : ∀ k, (v.cells.zipIdx.foldl (fun cs (y : Value × Nat) => cs.setIfInBounds (off + y.2) y.1) us).toList[k]? = if off ≤ k ∧ k < off + x.cells.length then v.cells[k - off]? else us.toList[k]? := by
        intro k
        rw [Array.getElem?_toList, hz, foldl_set _ _ _ _ (by simp; omega) k]
        simp only [Nat.add_zero, Array.length_toList, c1', Array.getElem?_toList]
      have hC' : Cls P S gv ob (splice cs off x.cells) (v.cells.zipIdx.foldl (fun cs (y : Value × Nat) => cs.setIfInBounds (off + y.2) y.1) us).toList := by
        refine ⟨by rw [splice_length hfit, hz]; simp [foldl_size, hus], fun u hu => ?_, fun j c u hc hu => ?_⟩
        · obtain ⟨k, hk⟩ := List.getElem?_of_mem hu
          rw [hget k] at hk
          split at hk
          · exact c2 u (List.mem_of_getElem? (by simpa using hk))
          · exact d2 u (List.mem_of_getElem? hk)
        · rw [splice, splice_get hfit] at hc
          rw [hget] at hu
          split at hc
          · rename_i hj
            rw [if_pos hj] at hu
            exact c3 _ c u hc hu
          · rename_i hj
            rw [if_neg hj] at hu
            exact d3 j c u hc hu
      obtain ⟨us', r2, r3⟩ := fillK_ok h hC' hm (fun j y z hy hz => hv (j + 1) y z (by simpa using hy) (by simpa using hz))
      refine ⟨us', ?_, r3⟩
      have hcc : ¬ ((decide (v.cells.size ≠ size) || decide (off + v.cells.size > us.size)) = true) := by simp; omega
      simp only [Instr.fill, hp]
      rw [if_neg hcc]
      exact r2

theorem toBytes_ok : ∀ {ys : List AV} {l : List UInt8}, toBytes ys = some l → ∃ ns : List Int, ys = ns.map (AV.int .u8) ∧ l = ns.map fun n => UInt8.ofNat n.toNat
  | [], l, h => by cases h; exact ⟨[], rfl, rfl⟩
  | y :: ys, l, h => by
    cases y with
    | int k n =>
      cases k <;> first | (cases h; done) | skip
      obtain ⟨l', h', h⟩ := Option.bind_eq_some_iff.1 h
      cases h
      obtain ⟨ns, rfl, rfl⟩ := toBytes_ok h'
      exact ⟨n :: ns, rfl, rfl⟩
    | _ => cases h
theorem foldl_push (ns : List Int) : ∀ s : ByteArray, ns.foldl (fun r n => r.push (UInt8.ofNat n.toNat)) s = ⟨s.data ++ (ns.map fun n => UInt8.ofNat n.toNat).toArray⟩ := by
  induction ns with
  | nil => intro s; simp
  | cons n ns ih =>
    intro s
    rw [List.foldl_cons, ih]
    simp [ByteArray.push]

section ops
variable {C : Cfg} {o : Oper} {K : AV → Upd → New → Option β} {r : β} {next : Act → World → Prop} {Q : Exit → Act → World → Prop}

theorem build_ok (h : Rel C.P S0 W S gv fr a w) {T : TypeId} {ps : Array (Nat × Operand)} {vs : List AV} (ho : o.op = .build T ps) (hvl : vs.length = ps.toList.length) (hvs : ∀ (j : Nat) (q : Nat × Operand) (v : AV), ps.toList[j]? = some q → vs[j]? = some v → SV C.P S gv fr.obj v (a.eval q.2))
    (hk : buildK C.P T (zipParts ps.toList vs) (fun v => K v [] []) = some r) (hn : Fin C.P S0 W fr o K r next) : o.wp C.P a w next Q := by
  unfold buildK at hk
  split at hk
  · rename_i fs hu
    have hc := (some_of_bif hk).1
    replace hk := (some_of_bif hk).2
    simp only [Bool.and_eq_true] at hc
    obtain ⟨⟨hzo, hall⟩, hsol⟩ := hc
    obtain ⟨out, hfill, hk⟩ := Option.bind_eq_some_iff.1 hk
    obtain ⟨i, z, hi, hiz, his, hzl, hzs, z1, z2, z3⟩ := zero_ok hzo
    obtain ⟨m1, m2⟩ := zipParts_ok a.eval hvl
    have hC : Cls C.P S gv fr.obj (zeroAV C.P T).cells z.cells.toList := ⟨by rw [hzl]; simp [hzs], fun u hu => by
      obtain ⟨k, hk⟩ := List.getElem?_of_mem hu
      exact z1 k u (by simpa using hk), fun j c u hc hu => (z3 S j c u hc (by simpa using hu)).toSV1⟩
    obtain ⟨us, hf, hC'⟩ := fillK_ok hfill hC m1 (fun j x v hx hv => by
      obtain ⟨q, hq, hx', hv'⟩ := m2 j x v hx hv
      rw [hv']
      exact ⟨hvs j q x.2 hq hx', List.all_eq_true.1 hsol x (List.mem_of_getElem? hx)⟩)
    have hplace : ∀ i, fieldPlaces C.P T i = (fs.map fun f => (f.offset, C.P.cellsOf f.type))[i]? := by
      intro i
      simp only [fieldPlaces, fieldOf, hu]
      rw [Array.getElem?_map]
      cases hf : fs[i]? with
      | none => simp [hf]
      | some f => simp [hf]
    have hpl : (ps.map fun p => (p.1, a.eval p.2)).toList = ps.toList.map fun p => (p.1, a.eval p.2) := by simp
    refine wp_value (w' := w) (val := .agg us) ?_ (hn _ _ _ _ _ _ _ hk (h.put0 (v := .agg out) ⟨us.toList, by simp, hC'.1, hC'.2.1, hC'.2.2⟩ o.dst))
    unfold execOp
    rw [fill_congr _ _ hplace] at hf
    simp only [ho, Instr.build, Sem.run_bind, zeroValue, typeInfo, run_program, hi, hiz, Sem.run_pure, Result.andThen_ok, run_underlying hu, run_places (fun f hf => List.all_eq_true.1 hall f hf), hpl]
    rw [hf]
    simp
  · cases hk

theorem conv_ok (h : Rel C.P S0 W S gv fr a w) {σ : Nat → Option Ob} (hσ : ∀ r o, σ r = some o → fr.obj r = some o) {T T' : TypeId} {xo : Operand} {x : AV} (ho : o.op = .convert T T' xo) (hx : SV C.P S gv fr.obj x (a.eval xo)) (hk : conv C.P σ T T' x (fun v => K v [] []) = some r)
    (hn : Fin C.P S0 W fr o K r next) : o.wp C.P a w next Q := by
  have hrun : ∀ {val : Value} {w' : World}, (convert T T' (a.eval xo)).run C.P w = .ok val w' → next (a.put o.dst val) w' → o.wp C.P a w next Q := by
    intro val w' h1 h2
    refine wp_value (w' := w') (val := val) ?_ h2
    unfold execOp
    simp only [ho, Sem.run_bind, h1, Sem.run_pure, Result.andThen_ok]
  unfold conv at hk
  split at hk
  · rename_i k hd
    cases x <;> first | (cases hk; done) | skip
    rename_i k' n
    have hs := (some_of_bif hk).1
    replace hk := (some_of_bif hk).2
    obtain ⟨d, hs⟩ := Option.isSome_iff_exists.1 hs
    refine hrun (w' := w) (val := .int k (k.wrap n)) ?_ (hn _ _ _ _ _ _ _ hk (h.put0 (V.int _ _).toSV o.dst))
    rw [hx.int]
    simp only [convert, Sem.run_bind, run_underlying hs, run_underlying hd, Result.andThen_ok]
    rfl
  · rename_i hd
    split at hk
    · rename_i e hs
      split at hk
      · rename_i he
        have h1 := beq_iff_eq.1 (some_of_bif hk).1
        replace hk := (some_of_bif hk).2
        obtain ⟨ys, news, hk, hE, hform⟩ := srcK_ok h hσ (by omega) hk hx
        obtain ⟨l, hl, hk⟩ := Option.bind_eq_some_iff.1 hk
        obtain ⟨ns, rfl, rfl⟩ := toBytes_ok hl
        obtain ⟨e1, e2, e3⟩ := hE
        rw [h1, Nat.mul_one, List.length_map] at e1
        have hnews : news = ns.map (Value.int .u8) := by
          apply List.ext_getElem?
          intro j
          by_cases hj : j < ns.length
          · rw [List.getElem?_map, List.getElem?_eq_getElem hj, List.getElem?_eq_getElem (show j < news.length by omega)]
            obtain ⟨q1, q2⟩ := e3 j (.int .u8 ns[j]) (by rw [List.getElem?_map, List.getElem?_eq_getElem hj]; rfl)
            have := (q2 0 (.int .u8 ns[j]) rfl).2 news[j] (by rw [h1, Nat.mul_one]; exact List.getElem?_eq_getElem (by omega))
            generalize news[j] = v at this
            cases this
            rfl
          · rw [List.getElem?_eq_none (by omega), List.getElem?_eq_none (by simp; omega)]
        refine hrun (w' := w) (val := .string ⟨(ns.map fun n => UInt8.ofNat n.toNat).toArray⟩) ?_ (hn _ _ _ _ _ _ _ hk (h.put0 (V.str _).toSV o.dst))
        rcases hform with ⟨hv, hz⟩ | ⟨ad, c, hv, hmem⟩
        · have : ns = [] := List.eq_nil_of_length_eq_zero (by simpa using hz)
          subst this
          rw [hv, run_convert_bytes_string w T T' e none 0 0 hs he hd]
          rfl
        · have hld : (loadCells ad ns.length).run C.P w = .ok (ns.map (Value.int .u8)).toArray w := by
            have := run_loadCells_list (P := C.P) w ad news hmem
            rw [e1, hnews] at this
            exact this
          rw [hv, List.length_map, run_convert_bytes_string w T T' e (some ad) _ c hs he hd, run_bytesToString w ad ns.length c ns hld, foldl_push]
          simp [ByteArray.empty, ByteArray.emptyWithCapacity]
          rfl
      · cases hk
    · rename_i k hs
      cases x <;> first | (cases hk; done) | skip
      rename_i k' n
      refine hrun (w' := w) (val := .string (Utf8.encode n)) ?_ (hn _ _ _ _ _ _ _ hk (h.put0 (V.str _).toSV o.dst))
      rw [hx.int]
      simp only [convert, Sem.run_bind, run_underlying hs, run_underlying hd, Result.andThen_ok]
      rfl
    · rename_i hs
      cases x <;> first | (cases hk; done) | skip
      rename_i s
      refine hrun (w' := w) (val := .string s) ?_ (hn _ _ _ _ _ _ _ hk (h.put0 (V.str _).toSV o.dst))
      rw [hx.str]
      simp only [convert, Sem.run_bind, run_underlying hs, run_underlying hd, Result.andThen_ok]
      rfl
    · cases hk
  · rename_i e hd
    split at hk
    · rename_i hs
      split at hk
      · rename_i he
        cases x <;> first | (cases hk; done) | skip
        rename_i s
        have h1 := beq_iff_eq.1 (some_of_bif hk).1
        replace hk := (some_of_bif hk).2
        let S' : Stab := fun y => if y.block = w.heap.size ∧ y.spot = none ∧ y.off < s.size then (Lib.bytesWorld w e s).cell? y else S y
        have hle : S.le S' := by
          intro y v hy
          have := agree_lt h.agree hy
          show (if _ then _ else _) = _
          rw [if_neg (by omega)]
          exact hy
        have hb : ∀ k, k < w.heap.size → (Lib.bytesWorld w e s).heap[k]? = w.heap[k]? := fun k hk => Lib.bytesWorld_at_old w e s k hk
        have hbel : Below W.heap.size W (Lib.bytesWorld w e s) := h.below.trans ⟨rfl, rfl, rfl, by rw [Lib.bytesWorld_size]; omega, fun k hk => hb k (by have := h.below.size; omega)⟩
        have hag : Agree S' (Lib.bytesWorld w e s) := by
          intro y v hy
          have hy : (if y.block = w.heap.size ∧ y.spot = none ∧ y.off < s.size then (Lib.bytesWorld w e s).cell? y else S y) = some v := hy
          split at hy
          · exact hy
          · rw [Lib.bytesWorld_old w e s y (agree_lt h.agree hy)]
            exact h.agree y v hy
        have hR := h.grow hle hbel hb hag (fun y v hy => by
          have hy : (if y.block = w.heap.size ∧ y.spot = none ∧ y.off < s.size then (Lib.bytesWorld w e s).cell? y else S y) = some v := hy
          split at hy
          · rename_i hh; exact .inr (by omega)
          · exact .inl hy)
        have hlen : s.toList.length = s.size := by rw [ByteArray.toList_eq, Array.length_toList]; rfl
        have hb' : ∀ (i : Nat) (x : AV), (bytesAV s)[i]? = some x → i < s.size ∧ x = byteAV (s.data.toList.getD i 0) := by
          intro i x hi
          unfold bytesAV at hi
          rw [List.getElem?_map, ByteArray.toList_eq] at hi
          obtain ⟨b, hb, rfl⟩ := Option.map_eq_some_iff.1 hi
          obtain ⟨hlt, rfl⟩ := List.getElem?_eq_some_iff.1 hb
          refine ⟨by rw [← hlen, ByteArray.toList_eq]; exact hlt, ?_⟩
          rw [List.getD_eq_getElem?_getD, List.getElem?_eq_getElem hlt]
          rfl
        have hval : V S' (.list 1 (bytesAV s)) (.slice (some ⟨w.heap.size, 0, none⟩) (bytesAV s).length (grownCap w s.size 0 e)) := by
          refine .list _ _ _ _ (fun i _ => .int .u8 (s.data.toList.getD i 0).toNat) ?_ ?_ ?_ ?_ ?_
          · have := grownCap_ge w s.size 0 e
            simp [bytesAV, hlen]
            exact this
          · intro i x hi; obtain ⟨_, rfl⟩ := hb' i x hi; rfl
          · intro i x j c hi hj
            obtain ⟨_, rfl⟩ := hb' i x hi
            cases j with
            | zero => simp [byteAV, AV.cells] at hj; subst hj; rfl
            | succ j => simp [byteAV, AV.cells] at hj
          · intro i x j c hi hj
            obtain ⟨hlt, rfl⟩ := hb' i x hi
            cases j with
            | zero =>
              rw [add_lit', Nat.zero_add, Nat.mul_one, Nat.add_zero]
              show (if _ then _ else _) = _
              rw [if_pos ⟨rfl, rfl, hlt⟩]
              exact Lib.bytesWorld_cell w e s i hlt
            | succ j => simp [byteAV, AV.cells] at hj
          · intro i x j c hi hj
            obtain ⟨hlt, rfl⟩ := hb' i x hi
            cases j with
            | zero =>
              have hj' : c = byteAV (s.data.toList.getD i 0) := by simpa only [byteAV, AV.cells, List.getElem?_cons_zero, Option.some.injEq, eq_comm] using hj
              subst hj'; exact .int _ _
            | succ j => simp [byteAV, AV.cells] at hj
        refine hrun (w' := Lib.bytesWorld w e s) (val := .slice (some ⟨w.heap.size, 0, none⟩) s.size (grownCap w s.size 0 e)) ?_ (hn _ _ _ S' _ _ _ hk (hR.put0 ?_ o.dst))
        · rw [hx.str]
          exact Lib.run_convert_string_bytes w T T' e s hs hd he
        · have := hval.toSV (P := C.P) (gv := gv) (ob := fr.obj)
          rw [show (bytesAV s).length = s.size from by simp [bytesAV, hlen]] at this
          exact this
      · cases hk
    · cases hk
  · cases hk

theorem len_ok (h : Rel C.P S0 W S gv fr a w) {σ : Nat → Option Ob} (hσ : ∀ r o, σ r = some o → fr.obj r = some o) {T : TypeId} {xo : Operand} {x : AV} (ho : o.op = .call { callee := .builtin .len, args := #[xo], argTypes := #[T] }) (hx : SV C.P S gv fr.obj x (a.eval xo))
    (hk : lenAV C.P σ T x (fun n => K (.int .i64 (n : Int)) [] []) = some r) (hn : Fin C.P S0 W fr o K r next) : o.wp C.P a w next Q := by
  have hrun : ∀ {n : Nat}, (Builtin.len_ #[T] o.type #[a.eval xo]).run C.P w = .ok (goInt n) w → K (.int .i64 (n : Int)) [] [] = some r → o.wp C.P a w next Q := by
    intro n h1 h2
    refine wp_value (w' := w) (val := .int .i64 n) ?_ (hn _ _ _ _ _ _ _ h2 (h.put0 (V.int _ _).toSV o.dst))
    unfold execOp
    simp only [ho, resolve, invoke, builtin, Sem.run_bind, Sem.run_pure, Result.andThen_ok, List.map_toArray, List.map_cons, List.map_nil, h1]
    rfl
  unfold lenAV at hk
  split at hk
  · rename_i hu
    cases x <;> first | (cases hk; done) | skip
    exact hrun (by rw [hx.str]; exact run_len_string w T o.type _ hu) hk
  · rename_i e hu
    have hrl : ∀ (b : Option Addr) (n c : Nat), (Builtin.len_ #[T] o.type #[.slice b n c]).run C.P w = .ok (goInt n) w := fun b n c => run_len_slice w T o.type b n c (by rw [elem_of hu]; exact hu)
    cases x with
    | list sz xs =>
      refine hrun ?_ hk
      have hV : V S (.list sz xs) (a.eval xo) := hx
      generalize a.eval xo = xv at hV
      cases hV with
      | list0 _ ad cap => exact hrl _ _ _
      | listn _ => exact hrl _ _ _
      | list => exact hrl _ _ _
    | nils =>
      refine hrun (n := 0) ?_ hk
      have hV : V S .nils (a.eval xo) := hx
      generalize a.eval xo = xv at hV
      cases hV
      exact hrl _ _ _
    | own q =>
      simp only at hk
      split at hk
      · rename_i e' xs fz hq
        have hq' := hσ _ _ hq
        obtain ⟨us, hown, _⟩ := row_els (h.objs q _ hq')
        obtain ⟨_, hxv⟩ := hx
        refine hrun ?_ hk
        rw [hxv _ _ _ hq']
        rcases ownsRow_form hown with ⟨hv, hn0⟩ | ⟨g', cap, hv, hb⟩
        · rw [hv, hn0]; exact hrl _ _ _
        · rw [hv]; exact hrl _ _ _
      · cases hk
    | ownp q n =>
      have hr := (some_of_bif hk).1
      replace hk := (some_of_bif hk).2
      unfold isRow at hr
      split at hr
      · rename_i e' xs fz hq
        have hq' := hσ _ _ hq
        obtain ⟨us, hown, _⟩ := row_els (h.objs q _ hq')
        obtain ⟨_, hxv⟩ := hx
        obtain ⟨hn', hxv⟩ := hxv _ _ _ hq'
        refine hrun ?_ hk
        rw [hxv]
        rcases ownsRow_form hown with ⟨hv, hn0⟩ | ⟨g', cap, hv, hb⟩
        · rw [hv]
          have : n = 0 := by omega
          subst this
          exact hrl _ _ _
        · rw [hv]; exact hrl _ _ _
      · cases hr
    | _ => cases hk
  · cases hk
end ops

section iter
variable {C : Cfg} {o : Oper} {K : AV → Upd → New → Option β} {r : β} {next : Act → World → Prop} {Q : Exit → Act → World → Prop}
theorem range_ok (h : Rel C.P S0 W S gv fr a w) {t : Nat} {T : TypeId} {x : Operand} {s : ByteArray} (ho : o.op = .range T x) (ht : t < fr.ob.length) (hu : C.P.underlying T = some .string) (hx : SV C.P S gv fr.obj (.str s) (a.eval x))
    (hk : K (.itr t) [] [(t, .it s 0)] = some r) (hn : Fin C.P S0 W fr o K r next) : o.wp C.P a w next Q := by
  have hv : a.eval x = .string s := hx.str
  have hrel := h.new (o := .it s 0) (hv := .pointer (some ⟨w.heap.size, 0, none⟩)) (dst := o.dst) (v := .itr t) (val := .pointer (some ⟨w.heap.size, 0, none⟩)) (h.below.alloc h.below.size (.stringIter s 0)) (agree_alloc h.agree _) ht
    (fun r o' g hr hrt hg => Below.heap_alloc w _ g (hblk_lt h hr hg)) (fun r o' g hr hrt hg hg' => by
      cases hg
      exact absurd (hblk_lt h hr hg') (Nat.lt_irrefl _)) (fun ob' => ⟨w.heap.size, by simp [upd], h.below.size, heap_alloc_new w _⟩) (fun ob' hob => ⟨rfl, fun s' pos' _ => by simp [upd]⟩)
  refine wp_value (w' := w.alloc (.stringIter s 0)) (val := .pointer (some ⟨w.heap.size, 0, none⟩)) ?_ (hn _ _ _ _ _ _ _ hk hrel)
  unfold execOp
  simp only [ho, hv, Instr.range, Sem.run_bind, run_underlying hu, Sem.run_pure, Result.andThen_ok, run_newObj]
  rfl
theorem next_ok (h : Rel C.P S0 W S gv fr a w) {x : Operand} {it : Nat} {s : ByteArray} {pos : Nat} (ho : o.op = .next x true) (hit : fr.obj it = some (.it s pos)) (hx : SV C.P S gv fr.obj (.itr it) (a.eval x))
    (hk : (bif decide (pos < s.size) then K (.tup [.bool true, .int .i64 pos, .int .i32 (Utf8.decode s pos).1]) [(it, some (.it s (pos + (Utf8.decode s pos).2)))] [] else K (.tup [.bool false]) [] []) = some r) (hn : Fin C.P S0 W fr o K r next) : o.wp C.P a w next Q := by
  obtain ⟨g, hg, hB, hh⟩ := h.objs it _ hit
  have hv : a.eval x = .pointer (some ⟨g, 0, none⟩) := by rw [hx.2 s pos hit, hg]
  have hbl : hblk (gv it) = some g := by rw [hg]; rfl
  have hgl := (Array.getElem?_eq_some_iff.1 hh).1
  by_cases hp : pos < s.size
  · rw [show decide (pos < s.size) = true from by simpa using hp, cond_true] at hk
    have hother : ∀ k, k ≠ g → (w.iterAt g s (pos + (Utf8.decode s pos).2)).heap[k]? = w.heap[k]? := fun k hk => by
      simp only [World.iterAt, Array.getElem?_setIfInBounds]
      rw [if_neg (fun e => hk e.symm)]
    have hrel := h.turn (S' := S) (o' := .it s (pos + (Utf8.decode s pos).2)) (w' := w.iterAt g s (pos + (Utf8.decode s pos).2)) hit (Stab.le_refl S) (by simp [Kin])
      ⟨h.below.os, h.below.tape, h.below.output, by simpa [World.iterAt] using h.below.size, fun k hk => (hother k (by omega)).trans (h.below.block k hk)⟩
      (fun y v hy => by
        have hc := h.agree y v hy
        refine (World.cell?_of_block (hother y.block fun e => ?_)).trans hc
        unfold World.cell? at hc
        rw [e, hh] at hc
        cases hc)
      (fun s' o1 g' hs' hne hg' => ⟨hother g' (fun e => hne (h.dis s' it o1 _ g' hs' hit hg' (by rw [e]; exact hbl))), fun _ _ hx _ => hx⟩) (fun _ _ hx => .inl hx)
      (fun ob' hkin => ⟨g, hg, hB, by simp [World.iterAt, hgl]⟩)
    refine wp_value (w' := w.iterAt g s (pos + (Utf8.decode s pos).2)) (val := .tuple #[.bool true, .int .i64 pos, .int .i32 (Utf8.decode s pos).1]) ?_ (hn _ _ _ _ _ _ _ hk (by
      rw [put_split]
      refine hrel.put0 (v := .tup [.bool true, .int .i64 pos, .int .i32 (Utf8.decode s pos).1]) ⟨[.bool true, .int .i64 pos, .int .i32 (Utf8.decode s pos).1], rfl, rfl, fun j c u hc hu => ?_⟩ o.dst
      match j, hc, hu with
      | 0, hc, hu => cases hc; cases hu; exact V.bool _
      | 1, hc, hu => cases hc; cases hu; exact V.int _ _
      | 2, hc, hu => cases hc; cases hu; exact V.int _ _))
    unfold execOp
    simp only [ho, hv, Sem.run_bind, Lib.run_next_any_at w g s pos _ hh hp, Sem.run_pure, Result.andThen_ok]
  · rw [show decide (pos < s.size) = false from by simpa using hp, cond_false] at hk
    refine wp_value (w' := w) (val := .tuple #[.bool false]) ?_ (hn _ _ _ _ _ _ _ hk (h.put0 (v := .tup [.bool false]) ⟨[.bool false], rfl, rfl, fun j c u hc hu => ?_⟩ o.dst))
    · unfold execOp
      simp only [ho, hv, Sem.run_bind, Lib.run_next_end_at w g s pos _ hh hp, Sem.run_pure, Result.andThen_ok]
    · match j, hc, hu with
      | 0, hc, hu => cases hc; cases hu; exact V.bool _
end iter
end Go.Proofs.YtilbahgfjfcikaaDoor.Eng
