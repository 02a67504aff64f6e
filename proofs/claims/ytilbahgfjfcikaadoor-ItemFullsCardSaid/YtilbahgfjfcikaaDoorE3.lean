/- The engine, part 3: operations that only compute. -/
import Derived.Test.YtilbahgfjfcikaaDoorE2
set_option linter.unusedVariables false
set_option linter.unusedSimpArgs false
namespace Go.Proofs.YtilbahgfjfcikaaDoor.Eng
open Go Go.RowKit
variable {P : Program} {S0 S S' : Stab} {W w w' : World} {gv gv' : Nat → Value} {fr : Fr} {a : Act} {ob ob' : Nat → Option Ob} {β : Type}

theorem setD_length (sl : List AV) (dst : Option Tmp) (v : AV) : (setD sl dst v).length = sl.length := by cases dst <;> simp [setD]
theorem put_tmps_size (a : Act) (dst : Option Tmp) (v : Value) : (a.put dst v).tmps.size = a.tmps.size := by cases dst <;> simp [Act.put]
theorem put_defers (a : Act) (dst : Option Tmp) (v : Value) : (a.put dst v).defers = a.defers := by cases dst <;> rfl

theorem slot_put {sl : List AV} {dst : Option Tmp} {v : AV} {val : Value} (hl : a.tmps.size = sl.length) (hs : ∀ t, t < sl.length → SV P S gv ob (sl.getD t .junk) (a.tmps.getD t undef)) (hv : SV P S gv ob v val) :
    ∀ t, t < (setD sl dst v).length → SV P S gv ob ((setD sl dst v).getD t .junk) ((a.put dst val).tmps.getD t undef) := by
  intro t ht
  rw [setD_length] at ht
  cases dst with
  | none => exact hs t ht
  | some d =>
    rw [tmps_put a d t val (by rw [hl]; exact ht)]
    have := Fr.get_set sl [] d t v ht
    simp only [Fr.get] at this
    simp only [setD]
    rw [this]
    by_cases h : d = t
    · rw [if_pos h, if_pos h]; exact hv
    · rw [if_neg h, if_neg h]; exact hs t ht

theorem Rel.put0 (h : Rel P S0 W S gv fr a w) {v : AV} {val : Value} (hv : SV P S gv fr.obj v val) (dst : Option Tmp) : Rel P S0 W S gv (fr.put dst v [] []) (a.put dst val) w where
  below := h.below
  agree := h.agree
  ext := h.ext
  fresh := h.fresh
  len := by rw [put_tmps_size, h.len]; simp [Fr.put, setD_length]
  obl := by simpa [Fr.put, setD_length, applyU] using h.obl
  defers := by rw [put_defers]; exact h.defers
  slot := slot_put h.len h.slot hv
  objs := h.objs
  dis := h.dis

/-- The variables that functions read as tables: what their cells hold, and that there are no more of them. -/
def GlobOk (G : Nat → Option (List AV)) (S : Stab) (w : World) : Prop := ∀ g cs, G g = some cs → V S (.eptr cs 0) (.pointer (some ⟨g, 0, none⟩)) ∧ ∃ arr t f, w.heap[g]? = some (.cells arr t f) ∧ arr.size = cs.length
theorem GlobOk.mono {G : Nat → Option (List AV)} {S S' : Stab} {w w' : World} (h : GlobOk G S w) (hle : S.le S') (hb : Below w.heap.size w w') : GlobOk G S' w' := fun g cs hg => by
  obtain ⟨h1, arr, t, f, h2, h3⟩ := h g cs hg
  refine ⟨h1.mono hle, arr, t, f, ?_, h3⟩
  rw [hb.block g (Array.getElem?_eq_some_iff.1 h2).1]
  exact h2

theorem ofConst1_ok (v : Value) : SV1 P S gv ob (ofConst1 v) v := by
  cases v with
  | bool b => exact V.bool b
  | int k n => exact V.int k n
  | string s => exact V.str s
  | pointer q => cases q with
    | none => exact V.nilp
    | some _ => trivial
  | slice q l c => cases q with
    | none =>
      cases l with
      | zero => cases c with
        | zero => exact V.nils
        | succ _ => trivial
      | succ _ => trivial
    | some _ => trivial
  | nilFunc => exact V.nilf
  | nilIface => exact V.nili
  | map q => cases q with
    | none => exact V.nilm
    | some _ => trivial
  | _ => trivial
theorem ofConst1_isC (v : Value) : (ofConst1 v).isC = false := by
  unfold ofConst1; split <;> rfl
theorem ofConst_ok (v : Value) : SV P S gv ob (ofConst v) v := by
  by_cases hv : ∃ cs, v = .agg cs
  · obtain ⟨cs, rfl⟩ := hv
    simp only [ofConst]
    cases hc : cs.toList.all Value.oneCell' with
    | false => trivial
    | true =>
      refine ⟨cs.toList, rfl, by simp, fun u hu => List.all_eq_true.1 hc u hu, fun j c u h1 h2 => ?_⟩
      rw [List.getElem?_map, h2] at h1
      simp only [Option.map_some, Option.some.injEq] at h1
      subst h1
      exact ofConst1_ok u
  · have : ofConst v = ofConst1 v := by cases v <;> first | rfl | (exact absurd ⟨_, rfl⟩ hv)
    rw [this, SV_eq (ofConst1_isC v)]
    exact ofConst1_ok v

theorem val_ok {C : Cfg} (h : Rel P S0 W S gv fr a w) (hg : GlobOk C.glob S0 W) (x : Operand) : SV P S gv fr.obj (fr.val C x) (a.eval x) := by
  cases x with
  | tmp t =>
    by_cases ht : t < fr.sl.length
    · exact h.slot t ht
    · have : fr.val C (.tmp t) = .junk := by simp [Fr.val, Fr.get, List.getD_eq_getElem?_getD, List.getElem?_eq_none (Nat.le_of_not_lt ht)]
      rw [this]; trivial
  | const v => exact ofConst_ok v
  | global g =>
    simp only [Fr.val, Act.eval]
    cases hc : C.glob g with
    | none => trivial
    | some cs => exact ((hg g cs hc).1.mono h.ext).toSV
  | func f => exact (V.func _ [] [] [] [] rfl rfl (fun j c v hc => by simp at hc) (fun j c v hc => by simp at hc)).toSV

theorem restr_some {l : List Nat} {σ : Nat → Option Ob} {r : Nat} {o : Ob} (h : restr l σ r = some o) : σ r = some o := by
  unfold restr at h
  cases hc : l.contains r
  · rw [hc] at h; cases h
  · rw [hc] at h; exact h

/-- An operation that only computes. -/
theorem wp_value {o : Oper} {next : Act → World → Prop} {Q : Exit → Act → World → Prop} {val : Value} (hrun : (execOp a.eval o).run P w = .ok (.value val) w') (hn : next (a.put o.dst val) w') : o.wp P a w next Q := by
  unfold Oper.wp
  rw [hrun]
  exact hn
theorem wp_skip' {o : Oper} {next : Act → World → Prop} {Q : Exit → Act → World → Prop} (hrun : (execOp a.eval o).run P w = .ok .skip w') (hn : next (a.put o.dst undef) w') : o.wp P a w next Q := by
  unfold Oper.wp
  rw [hrun]
  exact hn

/-! Scalars out of the relation. -/
theorem SV.bool {b : Bool} {v : Value} (h : SV P S gv ob (.bool b) v) : v = .bool b := by cases (show V S _ _ from h); rfl
theorem SV.int {k : IntKind} {n : Int} {v : Value} (h : SV P S gv ob (.int k n) v) : v = .int k n := by cases (show V S _ _ from h); rfl
theorem SV.str {s : ByteArray} {v : Value} (h : SV P S gv ob (.str s) v) : v = .string s := by cases (show V S _ _ from h); rfl

theorem run_eqGuard_int (op : BinOp) (t : TypeId) (x y : Operand) (k k' : IntKind) (m n : Int) : (eqGuard op t x y (.int k m) (.int k' n)).run P w = .ok () w := by
  unfold eqGuard; cases op <;> rfl
theorem run_eqGuard_str (op : BinOp) (t : TypeId) (x y : Operand) (s s' : ByteArray) : (eqGuard op t x y (.string s) (.string s')).run P w = .ok () w := by
  unfold eqGuard; cases op <;> rfl
theorem run_eqGuard_bool (op : BinOp) (t : TypeId) (x y : Operand) (s s' : Bool) : (eqGuard op t x y (.bool s) (.bool s')).run P w = .ok () w := by
  unfold eqGuard; cases op <;> rfl

theorem beq_int (a b : Int) : (a == b) = decide (a = b) := by rw [Bool.eq_iff_iff]; simp
theorem toList_beq (a b : ByteArray) : (a.toList == b.toList) = decide (a = b) := by
  rw [Bool.eq_iff_iff]
  simp only [beq_iff_eq, decide_eq_true_eq]
  constructor
  · intro h
    rw [ByteArray.toList_eq, ByteArray.toList_eq] at h
    cases a; cases b; simpa using h
  · rintro rfl; rfl
theorem some_of_bif {c : Bool} {x : Option β} {r : β} (h : (bif c then x else none) = some r) : c = true ∧ x = some r := by
  cases c
  · cases h
  · exact ⟨rfl, h⟩
theorem some_of_bif' {c : Bool} {x : Option β} {r : β} (h : (bif c then none else x) = some r) : c = false ∧ x = some r := by
  cases c
  · exact ⟨rfl, h⟩
  · cases h

theorem intOp_ok {op : BinOp} {k : IntKind} {m n : Int} {K : AV → Option β} {r : β} (h : intOp op k m n K = some r) (t : TypeId) (hs : op ≠ .shl ∧ op ≠ .shr) :
    ∃ v val, (binOp op t (.int k m) (.int k n)).run P w = .ok val w ∧ V S v val ∧ K v = some r := by
  cases op <;> simp only [intOp] at h <;> first | (cases h; done) | skip
  case quo =>
    obtain ⟨h0, h⟩ := some_of_bif' h
    exact ⟨_, _, by simp [binOp, Op.intDiv, of_decide_eq_false h0], .int _ _, h⟩
  case rem =>
    obtain ⟨h0, h⟩ := some_of_bif' h
    exact ⟨_, _, by simp [binOp, Op.intDiv, of_decide_eq_false h0], .int _ _, h⟩
  case eql => exact ⟨_, _, by simp only [binOp, Op.intCmp, beq_int, ne_eq, not_true_eq_false, if_false]; rfl, .bool _, h⟩
  case neq => exact ⟨_, _, by simp only [binOp, Op.intCmp, bne, beq_int, ne_eq, not_true_eq_false, if_false]; rfl, .bool _, h⟩
  all_goals first
    | exact ⟨_, _, by simp only [binOp, Op.intArith, Op.intBits, Op.intCmp, ne_eq, not_true_eq_false, if_false]; rfl, .int _ _, h⟩
    | exact ⟨_, _, by simp only [binOp, Op.intArith, Op.intBits, Op.intCmp, ne_eq, not_true_eq_false, if_false]; rfl, .bool _, h⟩
theorem strOp_ok {op : BinOp} {m n : ByteArray} {K : AV → Option β} {r : β} (h : strOp op m n K = some r) (t : TypeId) :
    ∃ v val, (binOp op t (.string m) (.string n)).run P w = .ok val w ∧ V S v val ∧ K v = some r := by
  cases op <;> simp only [strOp] at h <;> first | (cases h; done) | skip
  case add =>
    obtain ⟨h0, h⟩ := some_of_bif h
    have h0 := of_decide_eq_true h0
    refine ⟨_, _, ?_, .str _, h⟩
    have : ¬ (((m.size + n.size : Nat) : Int) > IntKind.i64.max) := by simp [IntKind.max, IntKind.signed, IntKind.bits]; omega
    simp only [binOp, Op.stringOp, if_neg this]
    rfl
  all_goals exact ⟨_, _, by simp only [binOp, Op.stringOp, toList_beq]; rfl, .bool _, h⟩

theorem run_isAgg (T : TypeId) {d : TypeDesc} (h : P.underlying T = some d) : (isAgg T).run P w = .ok (isAggT P T) w := by
  unfold isAgg isAggT
  rw [Sem.run_bind, run_underlying h w, h]
  cases d <;> rfl
theorem leafEq_ok {T : TypeId} {x y : AV} {q : Bool} (h : leafEq P T x y = some q) {xv yv : Value} (hx : SV1 P S gv ob x xv) (hy : SV1 P S gv ob y yv) (d : Nat) :
    (Op.equalIn (d + 1) T xv yv).run P w = .ok q w ∧ isAggT P T = false := by
  unfold leafEq at h
  unfold isAggT
  split at h
  · rename_i hu
    split at h
    · cases (show V S _ _ from hx); cases (show V S _ _ from hy)
      cases h
      exact ⟨run_equalIn_bool w d T _ _ hu, by rw [hu]⟩
    · cases h
  · rename_i hu
    split at h
    · cases (show V S _ _ from hx); cases (show V S _ _ from hy)
      obtain ⟨h0, h'⟩ := some_of_bif h
      have h0 := of_decide_eq_true h0
      subst h0
      cases h'
      exact ⟨by rw [run_equalIn_int w d T _ _ _ _ hu, beq_int], by rw [hu]⟩
    · cases h
  · rename_i hu
    split at h
    · cases (show V S _ _ from hx); cases (show V S _ _ from hy)
      cases h
      exact ⟨by rw [run_equalIn_string w d T _ _ hu, toList_beq], by rw [hu]⟩
    · cases h
  · cases h
theorem fieldsEq_ok (d : Nat) (xv yv : List Value) : ∀ {k : Nat} {fs : List Field} {xs ys : List AV} {q : Bool}, fieldsEq P k fs xs ys = some q →
    (∀ (j : Nat) (c : AV), xs[j]? = some c → ∃ u, xv[k + j]? = some u ∧ SV1 P S gv ob c u) → (∀ (j : Nat) (c : AV), ys[j]? = some c → ∃ u, yv[k + j]? = some u ∧ SV1 P S gv ob c u) →
    (Op.eqFields (d + 1) xv.toArray yv.toArray fs).run P w = .ok q w
  | k, [], [], [], q, h, _, _ => by cases h; rfl
  | k, f :: fs, x :: xs, y :: ys, q, h, hx, hy => by
    simp only [fieldsEq] at h
    obtain ⟨h0, h⟩ := some_of_bif h
    simp only [Bool.and_eq_true, bne_iff_ne, beq_iff_eq] at h0
    obtain ⟨q1, e1, h⟩ := Option.bind_eq_some_iff.1 h
    obtain ⟨q2, e2, h⟩ := Option.bind_eq_some_iff.1 h
    cases h
    obtain ⟨u, hu, su⟩ := hx 0 x rfl
    obtain ⟨v, hv, sv⟩ := hy 0 y rfl
    obtain ⟨r1, hag⟩ := leafEq_ok (w := w) e1 su sv d
    have ih := fieldsEq_ok d xv yv e2 (fun j c hc => by have := hx (j + 1) c (by simpa using hc); rw [show k + 1 + j = k + (j + 1) from by omega]; exact this) (fun j c hc => by have := hy (j + 1) c (by simpa using hc); rw [show k + 1 + j = k + (j + 1) from by omega]; exact this)
    have hud : ∃ dd, P.underlying f.type = some dd := by
      cases hh : P.underlying f.type with
      | none => simp [leafEq, hh] at e1
      | some dd => exact ⟨dd, rfl⟩
    obtain ⟨dd, hud⟩ := hud
    have hp : ∀ (cs : List Value) (z : Value), cs[k]? = some z → (part f.type cs.toArray f.offset).run P w = .ok z w := by
      intro cs z hz
      simp only [part, Sem.run_bind, run_isAgg f.type hud, hag, Result.andThen_ok, Bool.false_eq_true, if_false, h0.2, List.getElem?_toArray, hz]
      rfl
    simp only [Op.eqFields, h0.1, ne_eq, not_false_eq_true, if_true, Sem.run_bind, hp xv u (by simpa using hu), hp yv v (by simpa using hv), Result.andThen_ok, r1]
    cases q1 with
    | true => simpa using ih
    | false => simp
theorem aggEq_ok {T : TypeId} {xs ys : List AV} {q : Bool} (h : aggEq P T xs ys = some q) {xv yv : Value} (hx : SV P S gv ob (.agg xs) xv) (hy : SV P S gv ob (.agg ys) yv) (op : BinOp) (xo yo : Operand) :
    ∃ xa ya, xv = .agg xa ∧ yv = .agg ya ∧ (Op.equalIn 10000 T (.agg xa) (.agg ya)).run P w = .ok q w ∧ (eqGuard op T xo yo (.agg xa) (.agg ya)).run P w = .ok () w := by
  obtain ⟨xl, rfl, hl, -, hx⟩ := hx
  obtain ⟨yl, rfl, hl', -, hy⟩ := hy
  unfold aggEq at h
  split at h
  · rename_i fs hu
    obtain ⟨h0, h⟩ := some_of_bif' h
    simp only [Bool.or_eq_false_iff] at h0
    have hf : P.fieldsOf T = fs := by simp [Program.fieldsOf, hu]
    refine ⟨_, _, rfl, rfl, ?_, ?_⟩
    · rw [run_equalIn_struct w 9999 T _ _ (by rw [hf]; exact hu) h0.1, hf]
      refine fieldsEq_ok (S := S) (gv := gv) (ob := ob) 9998 xl yl h (fun j c hc => ?_) (fun j c hc => ?_)
      · have hlt : j < xl.length := by rw [← hl]; exact (List.getElem?_eq_some_iff.1 hc).1
        exact ⟨xl[j], by simp [List.getElem?_eq_getElem hlt], hx j c _ hc (List.getElem?_eq_getElem hlt)⟩
      · have hlt : j < yl.length := by rw [← hl']; exact (List.getElem?_eq_some_iff.1 hc).1
        exact ⟨yl[j], by simp [List.getElem?_eq_getElem hlt], hy j c _ hc (List.getElem?_eq_getElem hlt)⟩
    · unfold eqGuard
      cases op <;> first | rfl | simp [h0.2]
  · cases h
theorem nilOp_ok {op : BinOp} {T : TypeId} {xo yo : Operand} {x : AV} {K : AV → Option β} {r : β} (h : nilOp P op T yo x K = some r) {xv : Value} (hx : SV P S gv ob x xv) :
    ∃ v val, (do eqGuard op T xo yo xv .nilIface; binOp op T xv .nilIface : Sem Value).run P w = .ok val w ∧ SV P S gv ob v val ∧ K v = some r := by
  unfold nilOp at h
  split at h
  · rename_i ms hu
    have hm : P.underlying T = some (.interface (P.methodsAt T)) := by rw [hu]; simp [Program.methodsAt, hu]
    split at h
    · rename_i c
      have go : ∀ (q : Bool), (∀ w : World, (Op.equal T xv .nilIface).run P w = .ok q w) → (∀ w : World, (eqGuard op T xo (.const c) xv .nilIface).run P w = .ok () w) → (op = .eql ∧ K (.bool q) = some r ∨ op = .neq ∧ K (.bool !q) = some r) → ∃ v val, (do eqGuard op T xo (.const c) xv .nilIface; binOp op T xv .nilIface : Sem Value).run P w = .ok val w ∧ SV P S gv ob v val ∧ K v = some r := by
        intro q he hg h
        simp only [Sem.run_bind, hg, Result.andThen_ok]
        rcases h with ⟨rfl, hh⟩ | ⟨rfl, hh⟩
        · exact ⟨_, _, by simp only [binOp, Sem.run_bind, he, Result.andThen_ok]; rfl, (V.bool _).toSV, hh⟩
        · exact ⟨_, _, by simp only [binOp, Sem.run_bind, he, Result.andThen_ok]; rfl, (V.bool _).toSV, hh⟩
      cases op <;> first | (cases h; done) | skip
      · cases x <;> first | (cases h; done) | skip
        · cases (show V S _ _ from hx)
          exact go true (fun w => run_equal_nil_nil w T hm) (fun w => by unfold eqGuard; cases xo <;> rfl) (.inl ⟨rfl, h⟩)
        · cases (show V S _ _ from hx)
          exact go false (fun w => run_equal_held_nil w T _ _ hm) (fun w => by unfold eqGuard; rfl) (.inl ⟨rfl, h⟩)
      · cases x <;> first | (cases h; done) | skip
        · cases (show V S _ _ from hx)
          exact go true (fun w => run_equal_nil_nil w T hm) (fun w => by unfold eqGuard; cases xo <;> rfl) (.inr ⟨rfl, h⟩)
        · cases (show V S _ _ from hx)
          exact go false (fun w => run_equal_held_nil w T _ _ hm) (fun w => by unfold eqGuard; rfl) (.inr ⟨rfl, h⟩)
    · cases h
  · cases h
theorem bop_ok {op : BinOp} {T : TypeId} {xo yo : Operand} {x y : AV} {K : AV → Option β} {r : β} (h : bop P op T xo yo x y K = some r) {xv yv : Value} (hx : SV P S gv ob x xv) (hy : SV P S gv ob y yv) :
    ∃ v val, (do eqGuard op T xo yo xv yv; binOp op T xv yv : Sem Value).run P w = .ok val w ∧ SV P S gv ob v val ∧ K v = some r := by
  unfold bop at h
  split at h
  · cases (show V S _ _ from hy)
    exact nilOp_ok h hx
  split at h
  · rename_i k m k' n _
    rw [hx.int, hy.int]
    simp only [Sem.run_bind, run_eqGuard_int, Result.andThen_ok]
    split at h
    · obtain ⟨h0, h⟩ := some_of_bif' h
      exact ⟨_, _, by simp only [binOp, Op.shift, if_neg (of_decide_eq_false h0)]; rfl, (V.int _ _).toSV, h⟩
    · obtain ⟨h0, h⟩ := some_of_bif' h
      exact ⟨_, _, by simp only [binOp, Op.shift, if_neg (of_decide_eq_false h0)]; rfl, (V.int _ _).toSV, h⟩
    · rename_i n1 n2
      obtain ⟨h0, h'⟩ := some_of_bif h
      clear h
      have h0 := of_decide_eq_true h0
      subst h0
      obtain ⟨v, val, h1, h2, h3⟩ := intOp_ok (P := P) (w := w) (S := S) h' T ⟨n1, n2⟩
      exact ⟨v, val, h1, h2.toSV, h3⟩
  · rename_i m n _
    rw [hx.str, hy.str]
    simp only [Sem.run_bind, run_eqGuard_str, Result.andThen_ok]
    obtain ⟨v, val, h1, h2, h3⟩ := strOp_ok (P := P) (w := w) (S := S) h T
    exact ⟨v, val, h1, h2.toSV, h3⟩
  · rename_i m n _
    rw [hx.bool, hy.bool]
    simp only [Sem.run_bind, run_eqGuard_bool, Result.andThen_ok]
    cases hu : P.underlying T with
    | none => rw [hu] at h; cases h
    | some d =>
      rw [hu] at h
      cases d <;> first | (cases h; done) | skip
      have he : ∀ w : World, (Op.equal T (.bool m) (.bool n)).run P w = .ok (m == n) w := fun w => run_equal_bool w T m n hu
      cases op <;> first | (cases h; done) | skip
      · exact ⟨_, _, by simp only [binOp, Sem.run_bind, he, Result.andThen_ok]; rfl, (V.bool _).toSV, h⟩
      · exact ⟨_, _, by simp only [binOp, Sem.run_bind, he, Result.andThen_ok]; rfl, (V.bool _).toSV, h⟩
  · split at h
    · obtain ⟨q, e, h⟩ := Option.bind_eq_some_iff.1 h
      obtain ⟨xa, ya, rfl, rfl, h1, h2⟩ := aggEq_ok (w := w) e hx hy .eql xo yo
      exact ⟨_, _, by simp only [Sem.run_bind, h2, Result.andThen_ok, run_eql_struct, h1], (V.bool _).toSV, h⟩
    · obtain ⟨q, e, h⟩ := Option.bind_eq_some_iff.1 h
      obtain ⟨xa, ya, rfl, rfl, h1, h2⟩ := aggEq_ok (w := w) e hx hy .neq xo yo
      exact ⟨_, _, by simp only [Sem.run_bind, h2, Result.andThen_ok, run_neq_struct, h1], (V.bool _).toSV, h⟩
    · cases h
  · cases h
theorem uop_ok {op : UnOp} {x : AV} {K : AV → Option β} {r : β} (h : uop op x K = some r) {xv : Value} (hx : SV P S gv ob x xv) :
    ∃ v val, (Op.unary op xv).run P w = .ok val w ∧ SV P S gv ob v val ∧ K v = some r := by
  unfold uop at h
  split at h
  · rw [hx.int]; exact ⟨_, _, by simp only [Op.unary, Op.intArith]; rfl, (V.int _ _).toSV, h⟩
  · rw [hx.int]; exact ⟨_, _, by simp only [Op.unary, Op.intBits]; rfl, (V.int _ _).toSV, h⟩
  · rw [hx.bool]; exact ⟨_, _, by simp only [Op.unary]; rfl, (V.bool _).toSV, h⟩
  · cases h

/-! Values at types. -/
theorem SV1.notC {c : AV} {u : Value} (h : SV1 P S gv ob c u) (h1 : u.oneCell' = true) : c.isC = false := by
  cases c <;> first | rfl | skip
  · cases (show V S _ _ from h); simp [Value.oneCell'] at h1
  · cases (show V S _ _ from h)
theorem cast1_ok {T : TypeId} {v : AV} {K : AV → Option β} {r : β} (h : cast1 P T v K = some r) {val : Value} (hv : SV1 P S gv ob v val) :
    (∃ d, P.underlying T = some d) ∧ ∃ v', K v' = some r ∧ SV1 P S gv ob v' val ∧ v'.names = v.names ∧ (v.isC = false → v'.isC = false) ∧ (v.leaf = true → v'.leaf = true) := by
  unfold cast1 at h
  split at h
  · rename_i hu
    refine ⟨⟨_, hu⟩, ?_⟩
    split at h
    · exact ⟨_, h, hv, rfl, fun h => h, fun h => h⟩
    · cases h
  · rename_i hu
    refine ⟨⟨_, hu⟩, ?_⟩
    split at h
    · obtain ⟨h0, h'⟩ := some_of_bif h
      clear h
      have h0 := of_decide_eq_true h0
      subst h0
      exact ⟨_, h', hv, rfl, fun h => h, fun h => h⟩
    · cases h
  · rename_i hu
    refine ⟨⟨_, hu⟩, ?_⟩
    split at h
    · exact ⟨_, h, hv, rfl, fun h => h, fun h => h⟩
    · cases h
  · rename_i hu
    refine ⟨⟨_, hu⟩, ?_⟩
    split at h
    · obtain ⟨h0, h'⟩ := some_of_bif h
      clear h
      have h0 := beq_iff_eq.1 h0
      subst h0
      exact ⟨_, h', hv, rfl, fun h => h, fun h => h⟩
    · exact ⟨_, h, hv, rfl, fun h => h, fun h => h⟩
    · exact ⟨_, h, hv, rfl, fun h => h, fun h => h⟩
    · exact ⟨_, h, hv, rfl, fun h => h, fun h => h⟩
    · cases h
  · rename_i hu
    exact ⟨⟨_, hu⟩, _, h, hv, rfl, fun h => h, fun h => h⟩
  · cases h

theorem castPre_ok : ∀ {ts : List TypeId} {cs : List AV} {K : List AV → Option β} {r : β}, castPre P ts cs K = some r → ∀ {f : Nat → Value}, (∀ (j : Nat) (c : AV), cs[j]? = some c → SV1 P S gv ob c (f j)) →
    ∃ l, K l = some r ∧ l.length = ts.length ∧ ts.length ≤ cs.length ∧ (∀ (j : Nat) (c : AV), l[j]? = some c → SV1 P S gv ob c (f j))
  | [], cs, K, r, h, f, hm => ⟨[], h, rfl, Nat.zero_le _, by simp⟩
  | t :: ts, [], K, r, h, f, hm => by cases h
  | t :: ts, c :: cs, K, r, h, f, hm => by
    simp only [castPre] at h
    obtain ⟨_, c', h, sc, _⟩ := cast1_ok h (hm 0 c rfl)
    obtain ⟨l, h, hl, hle, hs⟩ := castPre_ok h (f := fun j => f (j + 1)) (fun j c hc => hm (j + 1) c (by simpa using hc))
    refine ⟨c' :: l, h, by simp [hl], by simp [hle], fun j c'' hc => ?_⟩
    cases j with
    | zero =>
      simp only [List.getElem?_cons_zero, Option.some.injEq] at hc
      subst hc; exact sc
    | succ j => exact hs j c'' (by simpa using hc)
theorem castAll_ok : ∀ {ts : List TypeId} {cs : List AV} {K : List AV → Option β} {r : β}, castAll P ts cs K = some r → ∀ {us : List Value}, cs.length = us.length → (∀ (j : Nat) (c : AV) (u : Value), cs[j]? = some c → us[j]? = some u → SV1 P S gv ob c u) →
    ∃ l, K l = some r ∧ l.length = us.length ∧ (∀ (j : Nat) (c : AV) (u : Value), l[j]? = some c → us[j]? = some u → SV1 P S gv ob c u)
  | [], [], K, r, h, us, hl, hm => ⟨[], h, hl, by simp⟩
  | [], _ :: _, K, r, h, us, hl, hm => by cases h
  | t :: ts, [], K, r, h, us, hl, hm => by cases h
  | t :: ts, c :: cs, K, r, h, [], hl, hm => by cases hl
  | t :: ts, c :: cs, K, r, h, u :: us, hl, hm => by
    simp only [castAll] at h
    have su := hm 0 c u rfl rfl
    obtain ⟨_, c', h, sc, _⟩ := cast1_ok h su
    obtain ⟨l, h, hl', hs⟩ := castAll_ok h (us := us) (by simpa using hl) (fun j c u hc hu => hm (j + 1) c u (by simpa using hc) (by simpa using hu))
    refine ⟨c' :: l, h, by simp [hl'], fun j c'' u'' hc hu'' => ?_⟩
    cases j with
    | zero =>
      simp only [List.getElem?_cons_zero, Option.some.injEq] at hc hu''
      subst hc; subst hu''; exact sc
    | succ j => exact hs j c'' u'' (by simpa using hc) (by simpa using hu'')
theorem castT_ok {T : TypeId} {v : AV} {K : AV → Option β} {r : β} (h : castT P T v K = some r) {val : Value} (hv : SV P S gv ob v val) (hnt : ∀ l, v ≠ .tup l) : ∃ v', K v' = some r ∧ SV P S gv ob v' val := by
  unfold castT at h
  cases ha : isAggT P T with
  | true =>
    rw [ha] at h
    simp only [cond_true] at h
    split at h
    · obtain ⟨us, rfl, hl, h1, hm⟩ := hv
      obtain ⟨l, h, hl', hs⟩ := castAll_ok h hl hm
      exact ⟨_, h, us, rfl, hl', h1, hs⟩
    · cases h
  | false =>
    rw [ha] at h
    simp only [cond_false] at h
    by_cases hc : v.isC = true
    · cases v <;> first | (simp [AV.isC] at hc; done) | skip
      · unfold cast1 at h
        split at h <;> first | (cases h; done) | skip
        rename_i d hd h1 h2 h3 h4
        exact ⟨_, h, hv⟩
      · exact absurd rfl (hnt _)
    · have hc : v.isC = false := by simpa using hc
      rw [SV_eq hc] at hv
      obtain ⟨_, v', h, sv, hn, hC, _⟩ := cast1_ok h hv
      exact ⟨v', h, by rw [SV_eq (hC hc)]; exact sv⟩

theorem run_sizeOf {T : TypeId} {d : TypeDesc} (h : P.underlying T = some d) : (sizeOf T).run P w = .ok (P.cellsOf T) w := by
  unfold Program.underlying at h
  unfold Program.cellsOf
  cases hi : P.info? T with
  | none => rw [hi] at h; cases h
  | some i => simp [sizeOf, typeInfo, hi]
/-- A variable's value out of its cells. -/
theorem loadT_ok {T : TypeId} {cs : List AV} {K : AV → Option β} {r : β} (h : loadT P T cs K = some r) (p : Addr)
    (hm : ∀ (j : Nat) (c : AV), cs[j]? = some c → ∃ u, w.cell? (p.add j) = some u ∧ u.oneCell' = true ∧ SV1 P S gv ob c u) :
    ∃ v val, (loadVar T p).run P w = .ok val w ∧ SV P S gv ob v val ∧ K v = some r := by
  unfold loadT at h
  have hf : ∀ (j : Nat) (c : AV), cs[j]? = some c → w.cell? (p.add j) = some ((w.cell? (p.add j)).getD undef) ∧ ((w.cell? (p.add j)).getD undef).oneCell' = true ∧ SV1 P S gv ob c ((w.cell? (p.add j)).getD undef) := by
    intro j c hc
    obtain ⟨u, h1, h2, h3⟩ := hm j c hc
    rw [h1]; exact ⟨rfl, h2, h3⟩
  cases ha : isAggT P T with
  | true =>
    rw [ha] at h
    obtain ⟨h0, h⟩ := some_of_bif h
    have h0 := beq_iff_eq.1 h0
    obtain ⟨l, h, hl, hle, hs⟩ := castPre_ok h (fun j c hc => (hf j c hc).2.2)
    have hu : ∃ d, P.underlying T = some d := by
      unfold isAggT at ha
      cases hh : P.underlying T with
      | none => rw [hh] at ha; cases ha
      | some d => exact ⟨d, rfl⟩
    obtain ⟨d, hu⟩ := hu
    have hlt : ∀ j, j < P.cellsOf T → j < cs.length := fun j hj => by omega
    refine ⟨.agg l, .agg ((List.range (P.cellsOf T)).map fun j => (w.cell? (p.add j)).getD undef).toArray, ?_, ⟨_, rfl, by simp [hl, h0], fun u hu => ?_, fun j c u hc hu => ?_⟩, h⟩
    · simp only [loadVar, Sem.run_bind, run_isAgg T hu, ha, Result.andThen_ok, if_true, run_sizeOf hu]
      rw [run_loadCells w p (P.cellsOf T) _ (fun j hj => (hf j cs[j] (List.getElem?_eq_getElem (hlt j hj))).1)]
      rfl
    · obtain ⟨j, hj, rfl⟩ := List.mem_map.1 hu
      have hj := hlt j (List.mem_range.1 hj)
      exact (hf j cs[j] (List.getElem?_eq_getElem hj)).2.1
    · rw [List.getElem?_map] at hu
      obtain ⟨i, hi, rfl⟩ := Option.map_eq_some_iff.1 hu
      obtain ⟨_, rfl⟩ := List.getElem?_eq_some_iff.1 hi
      simp only [List.getElem_range]
      exact hs _ c hc
  | false =>
    rw [ha] at h
    simp only [cond_false] at h
    cases cs with
    | nil => cases h
    | cons c cs =>
      obtain ⟨u, e1, e2, e3⟩ := hm 0 c rfl
      obtain ⟨⟨d, hu⟩, v', h, sv, hn, hC, _⟩ := cast1_ok h e3
      have hz : p.add 0 = p := by simp [Addr.add]
      rw [hz] at e1
      refine ⟨v', u, ?_, ?_, h⟩
      · simp only [loadVar, Sem.run_bind, run_isAgg T hu, ha, Result.andThen_ok, Bool.false_eq_true, if_false, run_load, e1]
      · rw [SV_eq (hC (e3.notC e2))]; exact sv

/-! Places. -/
theorem add_lit' (g o n : Nat) : (⟨g, o, none⟩ : Addr).add n = ⟨g, o + n, none⟩ := Addr.add_lit g o n
theorem fieldOf_some {T : TypeId} {f : Nat} {fd : Field} (h : fieldOf P T f = some fd) : ∃ fs, P.underlying T = some (.struct fs) ∧ fs[f]? = some fd := by
  unfold fieldOf at h
  split at h
  · rename_i fs hu; exact ⟨fs, hu, by simpa using h⟩
  · cases h
theorem run_fieldPlace {fd : Field} (hz : (P.cellsOf fd.type == 0) = false) (hi : ∃ i, P.info? fd.type = some i) (p : Addr) : (fieldPlace p fd).run P w = .ok (p.add fd.offset) w := by
  obtain ⟨i, hi⟩ := hi
  have : (i.size = 0) = False := by
    have h := beq_eq_false_iff_ne.1 hz
    simp [Program.cellsOf, hi] at h
    simp [h]
  simp [fieldPlace, sizeOf, typeInfo, hi, this]
theorem info_of_cells {T : TypeId} (h : (P.cellsOf T == 0) = false) : ∃ i, P.info? T = some i := by
  cases hi : P.info? T with
  | none => simp [Program.cellsOf, hi] at h
  | some i => exact ⟨i, rfl⟩
theorem fieldAddrK_ok {σ : Nat → Option Ob} (hσ : ∀ r o, σ r = some o → ob r = some o) {T : TypeId} {f : Nat} {x : AV} {K : AV → Option β} {r : β} (h : fieldAddrK P σ T x f K = some r) {xv : Value} (hx : SV P S gv ob x xv) :
    ∃ v val, (Instr.fieldAt T xv f).run P w = .ok val w ∧ SV P S gv ob v val ∧ K v = some r := by
  unfold fieldAddrK at h
  cases hf : fieldOf P T f with
  | none => rw [hf] at h; cases h
  | some fd =>
    rw [hf] at h
    obtain ⟨h0, h⟩ := some_of_bif' h
    obtain ⟨fs, hu, hfs⟩ := fieldOf_some hf
    have hrun : ∀ p : Addr, (Instr.fieldAt T (.pointer (some p)) f).run P w = .ok (.pointer (some (p.add fd.offset))) w := by
      intro p
      simp only [Instr.fieldAt, Sem.run_bind, run_underlying hu, Result.andThen_ok, hfs, Instr.sureAddr, Sem.run_pure, run_fieldPlace h0 (info_of_cells h0)]
    cases x with
    | loc r off =>
      obtain ⟨h1, h⟩ := some_of_bif h
      unfold isBox at h1
      split at h1
      · rename_i cs hb
        obtain ⟨_, hx⟩ := (show SV1 P S gv ob (.loc r off) xv from hx)
        obtain ⟨g, hg, rfl⟩ := hx cs (hσ _ _ hb)
        refine ⟨.loc r (off + fd.offset), _, hrun _, ⟨rfl, fun cs' hc => ⟨g, hg, by rw [add_lit']⟩⟩, h⟩
      · cases h1
    | rloc r i off =>
      obtain ⟨h1, h⟩ := some_of_bif h
      unfold isRow at h1
      split at h1
      · rename_i e xs fz hb
        obtain ⟨_, hx⟩ := (show SV1 P S gv ob (.rloc r i off) xv from hx)
        obtain ⟨hi, g, m, c, hg, rfl⟩ := hx e xs fz (hσ _ _ hb)
        refine ⟨.rloc r i (off + fd.offset), _, hrun _, ⟨rfl, fun e' xs' fz' hc => ?_⟩, h⟩
        obtain ⟨hi', g', m', c', hg', hv'⟩ := hx e' xs' fz' hc
        refine ⟨hi', g', m', c', hg', ?_⟩
        rw [hg] at hg'
        cases hg'
        rw [hσ _ _ hb] at hc
        cases hc
        rw [add_lit', Nat.add_assoc]
      · cases h1
    | eptr cs off =>
      cases (show V S _ _ from hx) with
      | eptr _ _ p f h2 h3 h4 =>
        refine ⟨_, _, hrun _, ?_, h⟩
        rw [Go.Deep.add_add]
        exact (V.eptr cs (off + fd.offset) p f h2 h3 h4).toSV
    | _ => cases h
theorem idxOf_ok {i : AV} {n : Nat} {K : Nat → Option β} {r : β} (h : idxOf i n K = some r) {iv : Value} (hi : SV P S gv ob i iv) : ∃ (k : IntKind) (z : Int), iv = .int k z ∧ 0 ≤ z ∧ z < n ∧ K z.toNat = some r := by
  unfold idxOf at h
  split at h
  · obtain ⟨h0, h⟩ := some_of_bif h
    simp only [Bool.and_eq_true, decide_eq_true_eq] at h0
    exact ⟨_, _, hi.int, h0.1, h0.2, h⟩
  · cases h
theorem run_indexAt_slice' {t e : TypeId} (hu : P.underlying t = some (.slice e)) (hi : ∃ i, P.info? e = some i) (a : Addr) (len cap : Nat) (k : IntKind) (z : Int) (h0 : 0 ≤ z) (h1 : z < len) :
    (Instr.indexAt t (.slice (some a) len cap) (.int k z)).run P w = .ok (.pointer (some (a.add (z.toNat * P.cellsOf e)))) w := by
  obtain ⟨i, hi⟩ := hi
  simp [Instr.indexAt, asIntOf, run_underlying hu, h0, h1, sizeOf, typeInfo, hi, Program.cellsOf]
theorem run_indexAt_array' {t e : TypeId} {n : Nat} (hu : P.underlying t = some (.array n e)) (hi : ∃ i, P.info? e = some i) (a : Addr) (k : IntKind) (z : Int) (h0 : 0 ≤ z) (h1 : z < n) :
    (Instr.indexAt t (.pointer (some a)) (.int k z)).run P w = .ok (.pointer (some (a.add (z.toNat * P.cellsOf e)))) w := by
  obtain ⟨i, hi⟩ := hi
  simp [Instr.indexAt, asIntOf, run_underlying hu, h0, h1, sizeOf, typeInfo, hi, Program.cellsOf, Instr.sureAddr]
theorem indexK_ok {T : TypeId} {x i : AV} {K : AV → Option β} {r : β} (h : indexK P T x i K = some r) {xv iv : Value} (hx : SV P S gv ob x xv) (hi : SV P S gv ob i iv) :
    ∃ v val, (Instr.index T xv iv).run P w = .ok val w ∧ SV P S gv ob v val ∧ K v = some r := by
  unfold indexK at h
  split at h
  · rename_i s
    cases hu : P.underlying T with
    | none => rw [hu] at h; cases h
    | some d =>
      rw [hu] at h
      cases d <;> first | (cases h; done) | skip
      obtain ⟨k, z, rfl, h0, h1, h⟩ := idxOf_ok h hi
      rw [hx.str]
      refine ⟨_, _, ?_, (V.int _ _).toSV, h⟩
      rw [run_index_string w T s k z hu, dif_pos ⟨h0, h1⟩]
      congr 2
      have hs : s.size = s.data.toList.length := by rw [Array.length_toList]; rfl
      have hlt : z.toNat < s.data.toList.length := by omega
      simp only [List.getD_eq_getElem?_getD, List.getElem?_eq_getElem hlt, Option.getD_some]
      rfl
  · cases h

theorem cast1_imp {T : TypeId} {v : AV} {K K' : AV → Option β} {r : β} (h : cast1 P T v K = some r) (hK : ∀ v', K v' = some r → K' v' = some r) : cast1 P T v K' = some r := by
  unfold cast1 at h ⊢
  repeat' split at h
  all_goals first | exact hK _ h | (cases h; done) | skip
  all_goals (obtain ⟨hc, h⟩ := some_of_bif h; rw [hc]; exact hK _ h)
theorem castP1_cast1 {T : TypeId} {v : AV} {K : AV → Option β} {r : β} (h : castP1 P T v K = some r) : cast1 P T v K = some r := by
  unfold castP1 at h
  unfold cast1
  split at h
  · rename_i hu
    cases v <;> simp only [atBool] at h <;> first | (cases h; done) | exact h
  · rename_i k hu
    cases v <;> simp only [atInt] at h <;> first | (cases h; done) | skip
    rename_i k' n
    by_cases hk : k' = k
    · subst hk
      simpa using h
    · simp [hk] at h
  · cases v <;> simp only [atStr] at h <;> first | (cases h; done) | exact h
  · rename_i e hu
    cases v <;> simp only [atList] at h <;> first | (cases h; done) | exact h
  · rename_i d hd1 hd2 hd3 hd4 hu
    cases d <;> first | (exact absurd rfl hd1; done) | (exact absurd rfl (hd2 _); done) | (exact absurd rfl hd3; done) | (exact absurd rfl (hd4 _); done) | exact h
  · cases h
theorem castPreAt_castPre : ∀ {ts : List TypeId} {cs : List AV} {off : Nat} {K : List AV → Option β} {r : β}, castPreAt P ts cs off K = some r → castPre P ts (cs.drop off) K = some r
  | [], cs, off, K, r, h => by simpa [castPreAt, castPre] using h
  | t :: ts, cs, off, K, r, h => by
    simp only [castPreAt, cellAt] at h
    split at h
    · rename_i c l hd
      rw [hd]
      have := castP1_cast1 h
      simp only [castPre]
      refine cast1_imp this fun c' h' => ?_
      have := castPreAt_castPre h'
      have e : cs.drop (off + 1) = l := by rw [← List.drop_drop, hd]; rfl
      rwa [e] at this
    · cases h
theorem castPre_castAll : ∀ {ts : List TypeId} {cs : List AV} {K : List AV → Option β} {r : β}, cs.length = ts.length → castPre P ts cs K = some r → castAll P ts cs K = some r
  | [], [], K, r, hl, h => by simpa [castAll, castPre] using h
  | t :: ts, c :: cs, K, r, hl, h => by
    simp only [castPre] at h
    simp only [castAll]
    exact cast1_imp h fun c' h' => castPre_castAll (by simpa using hl) h'
  | [], _ :: _, K, r, hl, h => by simp at hl
  | _ :: _, [], K, r, hl, h => by simp at hl
theorem castTP_castT {T : TypeId} {v : AV} {K : AV → Option β} {r : β} (h : castTP P T v K = some r) : castT P T v K = some r := by
  unfold castTP at h
  unfold castT
  cases hA : isAggT P T <;> rw [hA] at h <;> simp only [cond_true, cond_false] at h ⊢
  · exact castP1_cast1 h
  · cases v <;> simp only [atAgg] at h <;> first | (cases h; done) | skip
    obtain ⟨hl, h⟩ := some_of_bif h
    exact castPre_castAll (beq_iff_eq.1 hl) (by simpa using castPreAt_castPre h)
theorem loadTP_loadT {T : TypeId} {cs : List AV} {off : Nat} {K : AV → Option β} {r : β} (h : loadTP P T cs off K = some r) : loadT P T (cs.drop off) K = some r := by
  unfold loadTP at h
  unfold loadT
  cases hA : isAggT P T <;> rw [hA] at h <;> simp only [cond_true, cond_false] at h ⊢
  · unfold cellAt at h
    split at h
    · rename_i c l hd
      exact castP1_cast1 h
    · cases h
  · obtain ⟨hl, h⟩ := some_of_bif h
    rw [hl]
    exact castPreAt_castPre h
end Go.Proofs.YtilbahgfjfcikaaDoor.Eng
