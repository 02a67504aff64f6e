/- The engine, part 6: operations on memory. -/
import Derived.Test.YtilbahgfjfcikaaDoorE5
set_option linter.unusedVariables false
set_option linter.unusedSimpArgs false
namespace Go.Proofs.YtilbahgfjfcikaaDoor.Eng
open Go Go.RowKit
variable {P : Program} {S0 S S' : Stab} {W w w' : World} {gv gv' : Nat → Value} {fr : Fr} {a : Act} {ob ob' : Nat → Option Ob} {β : Type}

/-- What an operation owes: whatever value, turns and new objects it hands on, the frame that they make is the run's. -/
def Fin (P : Program) (S0 : Stab) (W : World) (fr : Fr) (o : Oper) (K : AV → Upd → New → Option β) (r : β) (next : Act → World → Prop) : Prop :=
  ∀ v u n S' gv' a' w', K v u n = some r → Rel P S0 W S' gv' (fr.put o.dst v u n) a' w' → next a' w'

theorem ofConst1_V {v : Value} (h : (ofConst1 v).leaf = true) : V S (ofConst1 v) v ∧ v.oneCell' = true := by
  have h1 : SV1 default S (fun _ => undef) (fun _ => none) (ofConst1 v) v := ofConst1_ok v
  have : V S (ofConst1 v) v := by
    unfold ofConst1 at h h1 ⊢
    split at h <;> first | exact h1 | (simp [AV.leaf] at h)
  exact ⟨this, this.one h⟩
theorem cells_notC {x : AV} (h : x.isC = false) : x.cells = [x] := by cases x <;> first | rfl | (simp [AV.isC] at h)
theorem zero_ok {T : TypeId} (h : zeroOk P T = true) : ∃ i z, P.info? T = some i ∧ i.zero = some z ∧ i.size = P.cellsOf T ∧ (zeroAV P T).cells.length = P.cellsOf T ∧ z.cells.size = P.cellsOf T ∧
    (∀ (j : Nat) (u : Value), z.cells[j]? = some u → u.oneCell' = true) ∧ (∀ (j : Nat) (c : AV), (zeroAV P T).cells[j]? = some c → c.leaf = true) ∧ ∀ (S : Stab) (j : Nat) (c : AV) (u : Value), (zeroAV P T).cells[j]? = some c → z.cells[j]? = some u → V S c u := by
  simp only [zeroOk, Bool.and_eq_true, beq_iff_eq] at h
  obtain ⟨⟨h1, h2⟩, h3⟩ := h
  unfold zeroAV at h1 h2 h3 ⊢
  cases hi : P.info? T with
  | none => rw [hi] at h1; simp [AV.solid] at h1
  | some i =>
    rw [hi] at h1 h2 h3
    simp only [Option.bind_some] at h1 h2 h3 ⊢
    cases hz : i.zero with
    | none => rw [hz] at h1; simp [AV.solid] at h1
    | some z =>
      rw [hz] at h1 h2 h3
      simp only at h1 h2 h3 ⊢
      have key : (ofConst z).cells = z.cells.toList.map ofConst1 := by
        by_cases hz' : ∃ cs, z = .agg cs
        · obtain ⟨cs, rfl⟩ := hz'
          simp only [ofConst] at h1 ⊢
          cases hc : cs.toList.all Value.oneCell' with
          | true => rfl
          | false => rw [hc] at h1; simp [AV.solid] at h1
        · have e1 : ofConst z = ofConst1 z := by cases z <;> first | rfl | (exact absurd ⟨_, rfl⟩ hz')
          have e2 : z.cells = #[z] := by cases z <;> first | rfl | (exact absurd ⟨_, rfl⟩ hz')
          rw [e1, e2, cells_notC (ofConst1_isC z)]
          rfl
      rw [key] at h2 h3 ⊢
      have hl : ∀ (j : Nat) (c : AV) (u : Value), (z.cells.toList.map ofConst1)[j]? = some c → z.cells[j]? = some u → c = ofConst1 u ∧ c.leaf = true := by
        intro j c u hc hu
        have hm := List.all_eq_true.1 h2 c (List.mem_of_getElem? hc)
        rw [List.getElem?_map] at hc
        obtain ⟨u', hu', rfl⟩ := Option.map_eq_some_iff.1 hc
        rw [Array.getElem?_toList, hu] at hu'
        cases hu'
        exact ⟨rfl, hm⟩
      refine ⟨i, z, rfl, hz, by simp [Program.cellsOf, hi], h3, by simpa using h3, fun j u hu => ?_, fun j c hc => List.all_eq_true.1 h2 c (List.mem_of_getElem? hc), fun S j c u hc hu => ?_⟩
      · have hc : (z.cells.toList.map ofConst1)[j]? = some (ofConst1 u) := by rw [List.getElem?_map, Array.getElem?_toList, hu]; rfl
        exact (ofConst1_V (S := fun _ => none) (by rw [← (hl j _ u hc hu).1]; exact (hl j _ u hc hu).2)).2
      · obtain ⟨rfl, hlf⟩ := hl j c u hc hu
        exact (ofConst1_V hlf).1
theorem agree_alloc (h : Agree S w) (o : Obj) : Agree S (w.alloc o) := by
  intro x v hx
  have := h x v hx
  exact (World.cell?_of_block (Below.heap_alloc w o _ (World.block_lt_of_cell? w x this))).trans this
theorem agree_lt (h : Agree S w) {x : Addr} {v : Value} (hx : S x = some v) : x.block < w.heap.size := World.block_lt_of_cell? w x (h x v hx)
theorem hblk_lt (h : Rel P S0 W S gv fr a w) {r : Nat} {o : Ob} (hr : fr.obj r = some o) {g : Nat} (hg : hblk (gv r) = some g) : g < w.heap.size := by
  have := h.objs r o hr
  cases o with
  | box cs =>
    obtain ⟨g', u, T, h1, h2, h3, _⟩ := this
    rw [h1] at hg; cases hg
    exact (Array.getElem?_eq_some_iff.1 h3).1
  | row e xs fz =>
    obtain ⟨us, h1, _⟩ := this
    rcases h1.2 with ⟨hv, _⟩ | ⟨g', cap, cur, hv, hb, hh, _⟩
    · rw [hv] at hg; cases hg
    · rw [hv] at hg; cases hg
      exact (Array.getElem?_eq_some_iff.1 hh).1
  | it s pos =>
    obtain ⟨g', h1, h2, h3⟩ := this
    rw [h1] at hg; cases hg
    exact (Array.getElem?_eq_some_iff.1 h3).1
/-- A new block is laid and named. -/
theorem Rel.newBox (h : Rel P S0 W S gv fr a w) {t : Nat} {cs : List AV} {u : Array Value} {T : TypeId} {dst : Option Tmp} (ht : t < fr.ob.length) (hl : u.size = cs.length)
    (h1 : ∀ (j : Nat) (v : Value), u[j]? = some v → v.oneCell' = true) (h2 : ∀ (gv' : Nat → Value) (ob' : Nat → Option Ob) (j : Nat) (c : AV) (v : Value), cs[j]? = some c → u[j]? = some v → SV1 P S gv' ob' c v) :
    Rel P S0 W S (upd gv t (.pointer (some ⟨w.heap.size, 0, none⟩))) (fr.put dst (.loc t 0) [] [(t, .box cs)]) (a.put dst (.pointer (some ⟨w.heap.size, 0, none⟩))) (w.alloc (.cells u T)) := by
  refine h.new (h.below.alloc h.below.size _) (agree_alloc h.agree _) ht (fun r o' g hr hrt hg => Below.heap_alloc w _ g (hblk_lt h hr hg)) (fun r o' g hr hrt hg hg' => ?_) (fun ob' => ?_) (fun ob' ho => ?_)
  · cases hg
    exact absurd (hblk_lt h hr hg') (Nat.lt_irrefl _)
  · refine ⟨w.heap.size, u, T, by simp [upd], h.below.size, heap_alloc_new w _, hl, h1, h2 _ _, fun x v hx e => ?_⟩
    have := agree_lt h.agree hx
    omega
  · exact ⟨rfl, fun cs' hc => ⟨w.heap.size, by simp [upd], rfl⟩⟩

theorem cells_one {v : Value} (h : v.oneCell' = true) : v.cells = #[v] := by cases v <;> first | rfl | (simp [Value.oneCell'] at h)
theorem SV1.one {x : AV} {v : Value} (h : SV1 P S gv ob x v) (hc : x.isC = false) (hs : x.solid = true) : v.oneCell' = true := by
  cases x <;> first | exact h.1 | exact V.one (show V S _ _ from h) rfl | (simp [AV.isC] at hc; done) | (simp [AV.solid] at hs)
theorem SV.cells {v : AV} {val : Value} (hv : SV P S gv ob v val) (hsol : v.solid = true) :
    val.cells.size = v.cells.length ∧ (∀ u ∈ val.cells.toList, u.oneCell' = true) ∧ ∀ (j : Nat) (c : AV) (u : Value), v.cells[j]? = some c → val.cells[j]? = some u → SV1 P S gv ob c u := by
  by_cases hc : v.isC = true
  · cases v <;> first | (simp [AV.isC] at hc; done) | (simp [AV.solid] at hsol; done) | skip
    obtain ⟨us, rfl, hl, h1, h2⟩ := hv
    exact ⟨by simp [Value.cells, AV.cells, hl], fun u hu => h1 u (by simpa [Value.cells] using hu), fun j c u hc hu => h2 j c u hc (by simpa [Value.cells] using hu)⟩
  · have hc : v.isC = false := by simpa using hc
    rw [SV_eq hc] at hv
    rw [cells_one (hv.one hc hsol), cells_notC hc]
    refine ⟨rfl, fun u hu => ?_, fun j c u hc' hu => ?_⟩
    · simp at hu; subst hu; exact hv.one hc hsol
    · cases j with
      | zero => simp at hc' hu; subst hc'; subst hu; exact hv
      | succ j => simp at hc'
theorem V.cells {v : AV} {val : Value} (hv : V S v val) : val.cells.size = v.cells.length ∧ (∀ u ∈ val.cells.toList, u.oneCell' = true) ∧ (∀ (j : Nat) (c : AV), v.cells[j]? = some c → c.leaf = true) ∧ ∀ (j : Nat) (c : AV) (u : Value), v.cells[j]? = some c → val.cells[j]? = some u → V S c u := by
  by_cases hc : v.isC = true
  · cases v <;> first | (simp [AV.isC] at hc; done) | skip
    · cases hv with
      | agg _ vs h1 h2 h4 =>
        refine ⟨by simp [Value.cells, AV.cells, h1], fun u hu => ?_, fun j c hc => h2 j c hc, fun j c u hc hu => h4 j c u hc (by simpa [Value.cells] using hu)⟩
        obtain ⟨j, hj⟩ := List.getElem?_of_mem hu
        have hj : vs[j]? = some u := by simpa [Value.cells] using hj
        rename_i cs _
        have hlt : j < cs.length := by rw [h1]; exact (List.getElem?_eq_some_iff.1 hj).1
        exact (h4 j _ u (List.getElem?_eq_getElem hlt) hj).one (h2 j _ (List.getElem?_eq_getElem hlt))
    · cases hv
  · have hc : v.isC = false := by simpa using hc
    have hl : v.leaf = true := by
      cases v <;> first | rfl | (simp [AV.isC] at hc; done) | cases hv
    rw [cells_one (hv.one hl), cells_notC hc]
    refine ⟨rfl, fun u hu => ?_, fun j c hc' => ?_, fun j c u hc' hu => ?_⟩
    · simp at hu; subst hu; exact hv.one hl
    · cases j with
      | zero => simp at hc'; subst hc'; exact hl
      | succ j => simp at hc'
    · cases j with
      | zero => simp at hc' hu; subst hc'; subst hu; exact hv
      | succ j => simp at hc'

theorem loadK_ok (h : Rel P S0 W S gv fr a w) {σ : Nat → Option Ob} (hσ : ∀ r o, σ r = some o → fr.obj r = some o) {T : TypeId} {p : AV} {K : AV → Option β} {r : β} (hk : loadK P σ T p K = some r) {pv : Value} (hp : SV P S gv fr.obj p pv) :
    ∃ q v val, pv = .pointer (some q) ∧ (loadVar T q).run P w = .ok val w ∧ SV P S gv fr.obj v val ∧ K v = some r := by
  cases p <;> simp only [loadK] at hk <;> first | (cases hk; done) | skip
  case loc s off =>
    split at hk
    · rename_i cs hs
      have hs := hσ _ _ hs
      obtain ⟨g, u, T', h1, h2, h3, h4, h5, h6, h7⟩ := h.objs s _ hs
      obtain ⟨_, hp⟩ := hp
      obtain ⟨g', hg', rfl⟩ := hp cs hs
      rw [h1] at hg'
      cases hg'
      obtain ⟨v, val, e1, e2, e3⟩ := loadT_ok (w := w) (S := S) (gv := gv) (ob := fr.obj) hk ⟨g, off, none⟩ (fun j c hc => by
        rw [List.getElem?_drop] at hc
        have hlt : off + j < u.size := by rw [h4]; exact (List.getElem?_eq_some_iff.1 hc).1
        refine ⟨u[off + j], ?_, h5 _ _ (Array.getElem?_eq_getElem hlt), h6 _ c _ hc (Array.getElem?_eq_getElem hlt)⟩
        rw [add_lit', cell_of_row w g (off + j) u T' (0, 0) h3]
        exact Array.getElem?_eq_getElem hlt)
      exact ⟨_, v, val, rfl, e1, e2, e3⟩
    · cases hk
  case rloc s i off =>
    split at hk
    · rename_i e xs fz hs
      have hs := hσ _ _ hs
      obtain ⟨us, hown, hsz, hone, hel, hSb⟩ := h.objs s _ hs
      obtain ⟨_, hp⟩ := hp
      obtain ⟨hi, g, m, c, hg, rfl⟩ := hp e xs fz hs
      obtain ⟨x, hx, hk⟩ := Option.bind_eq_some_iff.1 hk
      obtain ⟨v, val, e1, e2, e3⟩ := loadT_ok (w := w) (S := S) (gv := gv) (ob := fr.obj) (loadTP_loadT hk) ⟨g, i * P.cellsOf e + off, none⟩ (fun j c hc => by
        rw [List.getElem?_drop] at hc
        have hj : off + j < P.cellsOf e := by rw [← (hel i x hx).1]; exact (List.getElem?_eq_some_iff.1 hc).1
        have hlt : i * P.cellsOf e + (off + j) < us.length := by rw [hown.1]; exact flat_lt hi hj
        obtain ⟨hlf, hV⟩ := (hel i x hx).2 (off + j) c hc
        have hu := List.getElem?_eq_getElem hlt
        refine ⟨us[i * P.cellsOf e + (off + j)], ?_, hone _ (List.getElem_mem hlt), (hV _ hu).toSV1⟩
        rw [add_lit', Nat.add_assoc]
        exact cell_of_us hown hg hu)
      exact ⟨_, v, val, rfl, e1, e2, e3⟩
    · cases hk
  case eptr cs off =>
    cases (show V S _ _ from hp) with
    | eptr _ _ q f h2 h3 h4 =>
      obtain ⟨v, val, e1, e2, e3⟩ := loadT_ok (w := w) (S := S) (gv := gv) (ob := fr.obj) (loadTP_loadT hk) (q.add off) (fun j c hc => by
        rw [List.getElem?_drop] at hc
        refine ⟨f (off + j), ?_, (h4 _ c hc).one (h2 _ c hc), (h4 _ c hc).toSV1⟩
        rw [Go.Deep.add_add]
        exact h.agree _ _ (h3 _ c hc))
      exact ⟨_, v, val, rfl, e1, e2, e3⟩

section ops
variable {C : Cfg} {o : Oper} {K : AV → Upd → New → Option β} {r : β} {next : Act → World → Prop} {Q : Exit → Act → World → Prop}

theorem alloc_ok (h : Rel C.P S0 W S gv fr a w) {e : TypeId} {t : Nat} (ho : o.op = .alloc e) (ht : t < fr.ob.length) (hz : zeroOk C.P e = true) (hk : K (.loc t 0) [] [(t, .box (zeroAV C.P e).cells)] = some r)
    (hn : Fin C.P S0 W fr o K r next) : o.wp C.P a w next Q := by
  obtain ⟨i, z, hi, hz, hs, hl, hsz, h1, h2, h3⟩ := zero_ok hz
  refine wp_value (w' := w.alloc (.cells z.cells e)) (val := .pointer (some ⟨w.heap.size, 0, none⟩)) ?_ (hn _ _ _ _ _ _ _ hk (h.newBox ht (by rw [hl, hsz]) h1 fun gv' ob' j c v hc hv => (h3 S j c v hc hv).toSV1))
  unfold execOp
  simp only [ho, Instr.alloc, Sem.run_bind, zeroValue, typeInfo, run_program, hi, hz, Sem.run_pure, Result.andThen_ok, newVar, newRow, run_newObj]
  rfl
theorem box_ok (h : Rel C.P S0 W S gv fr a w) {e : TypeId} {x : Operand} {t : Nat} {v : AV} (ho : o.op = .box e x) (ht : t < fr.ob.length) (hv : SV C.P S gv fr.obj v (a.eval x)) (hsol : v.solid = true) (hk : K (.loc t 0) [] [(t, .box v.cells)] = some r) (hpure : v.names = [])
    (hn : Fin C.P S0 W fr o K r next) : o.wp C.P a w next Q := by
  obtain ⟨h1, h2, h3⟩ := hv.cells hsol
  refine wp_value (w' := w.alloc (.cells (a.eval x).cells e)) (val := .pointer (some ⟨w.heap.size, 0, none⟩)) ?_ (hn _ _ _ _ _ _ _ hk (h.newBox ht h1 (fun j u hu => h2 u (List.mem_of_getElem? (by simpa using hu))) fun gv' ob' j c u hc hu => ?_))
  · unfold execOp
    simp only [ho, Instr.box, Sem.run_bind, newVar, newRow, run_newObj, Sem.run_pure, Result.andThen_ok]
    rfl
  · refine (h3 j c u hc hu).mono (fun _ _ h => h) fun s hs => ?_
    have : s ∈ v.names := by
      by_cases hcc : v.isC = true
      · cases v <;> first | (simp [AV.isC] at hcc; done) | (simp [AV.solid] at hsol; done) | exact name1_mem hc s hs
      · have hcc : v.isC = false := by simpa using hcc
        rw [cells_notC hcc] at hc
        cases j with
        | zero => simp at hc; subst hc; rw [names_eq hcc]; exact hs
        | succ j => simp at hc
    rw [hpure] at this
    simp at this
theorem load_ok (h : Rel C.P S0 W S gv fr a w) {σ : Nat → Option Ob} (hσ : ∀ r o, σ r = some o → fr.obj r = some o) {T : TypeId} {x : Operand} {p : AV} (ho : o.op = .load T x) (hp : SV C.P S gv fr.obj p (a.eval x)) (hk : loadK C.P σ T p (fun v => K v [] []) = some r)
    (hn : Fin C.P S0 W fr o K r next) : o.wp C.P a w next Q := by
  obtain ⟨q, v, val, e0, e1, e2, e3⟩ := loadK_ok h hσ hk hp
  refine wp_value (w' := w) (val := val) ?_ (hn _ _ _ _ _ _ _ e3 (h.put0 e2 o.dst))
  unfold execOp
  simp only [ho, Instr.loadAt, Instr.sureAddr, e0, Sem.run_bind, e1, Sem.run_pure, Result.andThen_ok]
end ops
end Go.Proofs.YtilbahgfjfcikaaDoor.Eng
