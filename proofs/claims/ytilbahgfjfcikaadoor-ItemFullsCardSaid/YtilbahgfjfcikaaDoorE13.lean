/- The engine, part 13: calls. -/
import Derived.Test.YtilbahgfjfcikaaDoorE12
set_option linter.unusedVariables false
set_option linter.unusedSimpArgs false
namespace Go.Proofs.YtilbahgfjfcikaaDoor.Eng
open Go Go.RowKit
variable {P : Program} {S0 S S' : Stab} {W w w' : World} {gv gv' : Nat → Value} {fr : Fr} {a : Act} {ob ob' : Nat → Option Ob} {β : Type}

/-- What is handed back: a row that nobody else knows, or what stays. -/
def VRes (P : Program) (B : Nat) (S : Stab) (w : World) : AV → Value → Prop
  | .fresh e xs, v => ∃ us, w.ownsRow B e (P.cellsOf e) v xs.length us ∧ 0 < P.cellsOf e ∧ Els P S e xs us ∧ ∀ g, hblk v = some g → ∀ x u, S x = some u → x.block ≠ g
  | x, v => V S x v
def VRet (P : Program) (B : Nat) (S : Stab) (w : World) : AV → Value → Prop
  | .tup rs, v => ∃ vs : List Value, v = .tuple vs.toArray ∧ rs.length = vs.length ∧ (∀ (j : Nat) (c : AV) (u : Value), rs[j]? = some c → vs[j]? = some u → VRes P B S w c u) ∧
      ∀ (i j : Nat) (c d : AV) (u v : Value) (g : Nat), rs[i]? = some c → rs[j]? = some d → c.isFresh = true → d.isFresh = true → vs[i]? = some u → vs[j]? = some v → hblk u = some g → hblk v = some g → i = j
  | x, v => VRes P B S w x v

/-- A function answers so: in whatever memory in which its arguments read so. -/
def Ok (P : Program) (G : Nat → Option (List AV)) (f : FuncId) (args : List AV) (res : AV) : Prop :=
  ∀ (S : Stab) (w : World) (vals : List Value), Agree S w → GlobOk G S w → VL S args vals → Calls P f vals.toArray w fun e w' =>
    ∃ v S', e = .returned v ∧ S.le S' ∧ Agree S' w' ∧ (∀ x u, S' x = some u → S x = some u ∨ w.heap.size ≤ x.block) ∧ Below w.heap.size w w' ∧ VRet P w.heap.size S' w' res v
def Enters (P : Program) (f : FuncId) : Prop := ∃ fn, P.funcs[f]? = some fn ∧ (fn.name == "runtime.NumGoroutine") = false ∧ fn.body.isNone = false
def Sound (C : Cfg) : Prop := ∀ f args res, C.kap f args = some res → Enters C.P f ∧ Ok C.P C.glob f args res

theorem cast1_V {T : TypeId} {v : AV} {K : AV → Option β} {r : β} (h : cast1 P T v K = some r) {val : Value} (hv : V S v val) : ∃ v', K v' = some r ∧ V S v' val ∧ (v.leaf = true → v'.leaf = true) := by
  unfold cast1 at h
  split at h
  · split at h
    · exact ⟨_, h, hv, fun h => h⟩
    · cases h
  · split at h
    · have h0 := of_decide_eq_true (some_of_bif h).1
      replace h := (some_of_bif h).2
      subst h0
      exact ⟨_, h, hv, fun h => h⟩
    · cases h
  · split at h
    · exact ⟨_, h, hv, fun h => h⟩
    · cases h
  · split at h
    · have h0 := beq_iff_eq.1 (some_of_bif h).1
      replace h := (some_of_bif h).2
      subst h0
      exact ⟨_, h, hv, fun h => h⟩
    · exact ⟨_, h, hv, fun h => h⟩
    · exact ⟨_, h, hv, fun h => h⟩
    · exact ⟨_, h, hv, fun h => h⟩
    · cases h
  · exact ⟨_, h, hv, fun h => h⟩
  · cases h
theorem castAll_V : ∀ {ts : List TypeId} {cs : List AV} {K : List AV → Option β} {r : β}, castAll P ts cs K = some r → ∀ {us : List Value}, cs.length = us.length → (∀ (j : Nat) (c : AV), cs[j]? = some c → c.leaf = true) → (∀ (j : Nat) (c : AV) (u : Value), cs[j]? = some c → us[j]? = some u → V S c u) →
    ∃ l, K l = some r ∧ l.length = us.length ∧ (∀ (j : Nat) (c : AV), l[j]? = some c → c.leaf = true) ∧ (∀ (j : Nat) (c : AV) (u : Value), l[j]? = some c → us[j]? = some u → V S c u)
  | [], [], K, r, h, us, hl, hlf, hm => ⟨[], h, hl, by simp, by simp⟩
  | [], _ :: _, K, r, h, us, hl, hlf, hm => by cases h
  | t :: ts, [], K, r, h, us, hl, hlf, hm => by cases h
  | t :: ts, c :: cs, K, r, h, [], hl, hlf, hm => by cases hl
  | t :: ts, c :: cs, K, r, h, u :: us, hl, hlf, hm => by
    simp only [castAll] at h
    obtain ⟨c', h, sc, hl1⟩ := cast1_V h (hm 0 c u rfl rfl)
    obtain ⟨l, h, hl', hlf', hs⟩ := castAll_V h (us := us) (by simpa using hl) (fun j c hc => hlf (j + 1) c (by simpa using hc)) (fun j c u hc hu => hm (j + 1) c u (by simpa using hc) (by simpa using hu))
    refine ⟨c' :: l, h, by simp [hl'], fun j d hd => ?_, fun j d y hd hy => ?_⟩
    · cases j with
      | zero => simp only [List.getElem?_cons_zero, Option.some.injEq] at hd; subst hd; exact hl1 (hlf 0 c rfl)
      | succ j => exact hlf' j d (by simpa using hd)
    · cases j with
      | zero => simp only [List.getElem?_cons_zero, Option.some.injEq] at hd hy; subst hd; subst hy; exact sc
      | succ j => exact hs j d y (by simpa using hd) (by simpa using hy)
theorem castT_V {T : TypeId} {v : AV} {K : AV → Option β} {r : β} (h : castT P T v K = some r) {val : Value} (hv : V S v val) : ∃ v', K v' = some r ∧ V S v' val := by
  unfold castT at h
  cases ha : isAggT P T with
  | true =>
    rw [ha] at h
    simp only [cond_true] at h
    cases v <;> first | (cases h; done) | skip
    cases hv with
    | agg _ us h1 h2 h4 =>
      obtain ⟨l, h, hl, hlf, hs⟩ := castAll_V h h1 h2 h4
      exact ⟨_, h, .agg l us hl hlf hs⟩
  | false =>
    rw [ha] at h
    simp only [cond_false] at h
    obtain ⟨v', h, sv, _⟩ := cast1_V h hv
    exact ⟨v', h, sv⟩

/-- One result, taken in. -/
def Took (P : Program) (B : Nat) (S : Stab) (w : World) (nm : Nat) (n : New) (c : AV) (u : Value) : Prop :=
  (n = [] ∧ V S c u) ∨ ∃ e xs us, n = [(nm, .row e xs false)] ∧ c = .own nm ∧ w.ownsRow B e (P.cellsOf e) u xs.length us ∧ 0 < P.cellsOf e ∧ Els P S e xs us ∧ ∀ g, hblk u = some g → ∀ x v, S x = some v → x.block ≠ g
theorem VRes.notFresh {B : Nat} {c : AV} {u : Value} (h : VRes P B S w c u) (hf : c.isFresh = false) : V S c u := by
  cases c <;> first | exact h | (simp [AV.isFresh] at hf)
theorem recv1_ok {B : Nat} {fl : Bool} {nm : Nat} {T : TypeId} {x : AV} {K : AV → New → Option β} {r : β} (hk : recv1 P fl nm T x K = some r) {u : Value} (hx : VRes P B S w x u) : ∃ c n, K c n = some r ∧ Took P B S w nm n c u := by
  unfold recv1 at hk
  cases fl with
  | true =>
    simp only [cond_true] at hk
    split at hk
    · rename_i e e' xs hu
      have he := beq_iff_eq.1 (some_of_bif hk).1
      replace hk := (some_of_bif hk).2
      subst he
      obtain ⟨us, h1, h2, h3, h4⟩ := hx
      exact ⟨_, _, hk, .inr ⟨_, xs, us, rfl, rfl, h1, h2, h3, h4⟩⟩
    · cases hk
  | false =>
    simp only [cond_false] at hk
    have hf := (some_of_bif' hk).1
    replace hk := (some_of_bif' hk).2
    obtain ⟨v', hk, hV⟩ := castT_V (castTP_castT hk) (hx.notFresh hf)
    exact ⟨v', [], hk, .inl ⟨rfl, hV⟩⟩

theorem recvL_ok {B nt : Nat} : ∀ {nm : Nat} {fl : List Bool} {ts : List TypeId} {rs : List AV} {K : List AV → New → Option β} {r : β}, recvL P nt nm fl ts rs K = some r → ∀ {us : List Value}, rs.length = us.length → (∀ (j : Nat) (c : AV) (u : Value), rs[j]? = some c → us[j]? = some u → VRes P B S w c u) →
    ∃ l n, K l n = some r ∧ l.length = us.length ∧ (∀ (j : Nat) (c : AV) (u : Value), l[j]? = some c → us[j]? = some u → ∃ n1, Took P B S w (nm + j * nt) n1 c u ∧ ∀ x ∈ n1, x ∈ n) ∧ (∀ x ∈ n, ∃ (j : Nat) (c : AV) (u : Value), l[j]? = some c ∧ us[j]? = some u ∧ Took P B S w (nm + j * nt) [x] c u)
  | nm, fl, [], [], K, r, h, us, hl, hm => ⟨[], [], h, hl, by simp, by simp⟩
  | nm, fl, [], _ :: _, K, r, h, us, hl, hm => by cases h
  | nm, fl, t :: ts, [], K, r, h, us, hl, hm => by cases h
  | nm, fl, t :: ts, c :: rs, K, r, h, [], hl, hm => by cases hl
  | nm, fl, t :: ts, c :: rs, K, r, h, u :: us, hl, hm => by
    simp only [recvL, atCons] at h
    obtain ⟨c', n1, h, hT⟩ := recv1_ok h (hm 0 c u rfl rfl)
    obtain ⟨l, n, h, hl', h1, h2⟩ := recvL_ok (nm := nm + nt) h (us := us) (by simpa using hl) (fun j c u hc hu => hm (j + 1) c u (by simpa using hc) (by simpa using hu))
    have hj : ∀ j, nm + nt + j * nt = nm + (j + 1) * nt := fun j => by rw [Nat.add_mul, Nat.one_mul]; omega
    refine ⟨c' :: l, n1 ++ n, h, by simp [hl'], fun j d y hd hy => ?_, fun x hx => ?_⟩
    · cases j with
      | zero =>
        simp only [List.getElem?_cons_zero, Option.some.injEq] at hd hy
        subst hd; subst hy
        exact ⟨n1, by simpa using hT, fun x hx => List.mem_append.2 (.inl hx)⟩
      | succ j =>
        obtain ⟨n2, q1, q2⟩ := h1 j d y (by simpa using hd) (by simpa using hy)
        exact ⟨n2, by rw [← hj]; exact q1, fun x hx => List.mem_append.2 (.inr (q2 x hx))⟩
    · rcases List.mem_append.1 hx with hx | hx
      · refine ⟨0, c', u, rfl, rfl, ?_⟩
        rcases hT with ⟨rfl, _⟩ | ⟨e, xs, us', rfl, q⟩
        · simp at hx
        · have := List.mem_singleton.1 hx
          subst this
          exact .inr ⟨e, xs, us', by simp, by simpa using q⟩
      · obtain ⟨j, d, y, q1, q2, q3⟩ := h2 x hx
        exact ⟨j + 1, d, y, by simpa using q1, by simpa using q2, by rw [← hj]; exact q3⟩

section ops
variable {C : Cfg} {o : Oper} {K : AV → Upd → New → Option β} {r : β} {next : Act → World → Prop} {Q : Exit → Act → World → Prop}

/-- The frame behind a call: what came back lies in its place, a new row under its name. -/
theorem recv_ok {nt t : Nat} {fl : List Bool} {T : TypeId} {x : AV} {K : AV → New → Option β} {r : β} {v : Value} (h : Rel P S0 W S gv fr a w') (hsz : W.heap.size ≤ w.heap.size) (hlive : ∀ q o' g, fr.obj q = some o' → hblk (gv q) = some g → g < w.heap.size)
    (hlt : ∀ c n, K c n = some r → ∀ y ∈ n, y.1 < fr.ob.length) (hv : VRet P w.heap.size S w' x v) (hk : recv P nt fl t T x K = some r) (dst : Option Tmp) :
    ∃ c n gv', K c n = some r ∧ Rel P S0 W S gv' (fr.put dst c [] n) (a.put dst v) w' := by
  have hone : ∀ {nm : Nat} {e : TypeId} {xs : List AV} {us : List Value} {u : Value} {c : AV} {val : Value}, nm < fr.ob.length → w'.ownsRow w.heap.size e (P.cellsOf e) u xs.length us → 0 < P.cellsOf e → Els P S e xs us → (∀ g, hblk u = some g → ∀ x v, S x = some v → x.block ≠ g) →
      (∀ ob', ob' nm = some (.row e xs false) → SV P S (upd gv nm u) ob' c val) → Rel P S0 W S (upd gv nm u) (fr.put dst c [] [(nm, .row e xs false)]) (a.put dst val) w' := by
    intro nm e xs us u c val hnm h1 h2 h3 h4 h5
    have hown : w'.ownsRow W.heap.size e (P.cellsOf e) u xs.length us := by
      refine ⟨h1.1, ?_⟩
      rcases h1.2 with hn | ⟨g, cap, cur, q1, q2, q3⟩
      · exact .inl hn
      · exact .inr ⟨g, cap, cur, q1, Nat.le_trans hsz q2, q3⟩
    have hu : upd gv nm u nm = u := by simp [upd]
    refine h.new h.below h.agree hnm (fun _ _ _ _ _ _ => rfl) (fun q o' g hq hqn hg hg' => ?_) (fun ob' => ⟨us, by rw [hu]; exact hown, h2, h3.2.1, h3.2.2, fun g hg y z hy hyb => absurd hyb (h4 g (by rw [← hu]; exact hg) y z hy)⟩) h5
    have := hlive q o' g hq hg'
    rcases ownsRow_form h1 with ⟨hv, _⟩ | ⟨g', cap, hv, hb⟩
    · rw [hv] at hg; cases hg
    · rw [hv] at hg
      have : g' = g := by simpa [hblk] using hg
      omega
  have hsingle : ∀ {fl : Bool}, recv1 P fl t T x K = some r → VRes P w.heap.size S w' x v → ∃ c n gv', K c n = some r ∧ Rel P S0 W S gv' (fr.put dst c [] n) (a.put dst v) w' := by
    intro fl hk hv
    obtain ⟨c, n, hk, hT⟩ := recv1_ok hk hv
    rcases hT with ⟨rfl, hV⟩ | ⟨e, xs, us, rfl, rfl, h1, h2, h3, h4⟩
    · exact ⟨c, [], gv, hk, h.put0 hV.toSV dst⟩
    · refine ⟨_, _, _, hk, hone (hlt _ _ hk (t, .row e xs false) (by simp)) h1 h2 h3 h4 fun ob' ho => ⟨?_, fun e' xs' fz' h' => by simp [upd]⟩⟩
      rcases ownsRow_form h1 with ⟨hv, _⟩ | ⟨g', cap, hv, hb⟩ <;> rw [hv] <;> rfl
  unfold recv at hk
  split at hk
  · rename_i ts hu
    cases x <;> first | (cases hk; done) | skip
    rename_i rs
    obtain ⟨vs, rfl, hl, h1, h2⟩ := hv
    obtain ⟨l, n, hk, hl', q1, q2⟩ := recvL_ok hk hl h1
    have hc := (some_of_bif hk).1
    replace hk := (some_of_bif hk).2
    simp only [Bool.and_eq_true, decide_eq_true_eq] at hc
    obtain ⟨hn, hnt⟩ := hc
    match n, hn with
    | [], _ =>
      refine ⟨_, _, gv, hk, h.put0 (v := .tup l) ⟨vs, rfl, hl', fun j c u hc hu => ?_⟩ dst⟩
      obtain ⟨n1, hT, hsub⟩ := q1 j c u hc hu
      rcases hT with ⟨_, hV⟩ | ⟨e, xs, us, rfl, _⟩
      · exact hV.toSV1
      · have := hsub _ (List.mem_singleton.2 rfl)
        simp at this
    | [y], _ =>
      obtain ⟨j0, c0, u0, e1, e2, hT0⟩ := q2 y (by simp)
      rcases hT0 with ⟨hh, _⟩ | ⟨e, xs, us, hy, rfl, p1, p2, p3, p4⟩
      · cases hh
      cases hy
      refine ⟨_, _, _, hk, hone (hlt _ _ hk _ (List.mem_singleton.2 rfl)) p1 p2 p3 p4 fun ob' ho => ⟨vs, rfl, hl', fun j c u hc hu => ?_⟩⟩
      obtain ⟨n1, hT, hsub⟩ := q1 j c u hc hu
      rcases hT with ⟨_, hV⟩ | ⟨e', xs', us', rfl, rfl, q⟩
      · exact hV.toSV1
      · have := List.mem_singleton.1 (hsub _ (List.mem_singleton.2 rfl))
        have hnm : t + j * nt = t + j0 * nt := congrArg Prod.fst this
        have hjj : j = j0 := Nat.eq_of_mul_eq_mul_right hnt (by omega)
        subst hjj
        rw [e2] at hu
        cases hu
        refine ⟨?_, fun _ _ _ _ => by simp [upd]⟩
        rcases ownsRow_form p1 with ⟨hv, _⟩ | ⟨g', cap, hv, hb⟩ <;> rw [hv] <;> rfl
    | _ :: _ :: _, hn => simp at hn
  · cases x <;> first | (cases hk; done) | skip
    rename_i rs
    cases rs with
    | nil => exact ⟨_, _, gv, hk, h.put0 (v := .junk) trivial dst⟩
    | cons _ _ => cases hk
  · cases x with
    | tup rs => cases hk
    | _ => exact hsingle (by simpa [AV.isTup] using hk) hv

theorem call_ok (h : Rel C.P S0 W S gv fr a w) (hS : Sound C) (hG : GlobOk C.glob S0 W) {σ : Nat → Option Ob} (hσ : ∀ r o, σ r = some o → fr.obj r = some o) {nt t : Nat} {f : FuncId} {fo : Operand} {args : Array Operand} {ats : Array TypeId} {cap as : List AV}
    (ho : o.op = .call { callee := .value fo, args := args, argTypes := ats }) (hf : SV C.P S gv fr.obj (.func (.func f) [] cap) (a.eval fo)) (has : as.length = args.toList.length) (hav : ∀ (j : Nat) (q : Operand) (v : AV), args.toList[j]? = some q → as[j]? = some v → SV C.P S gv fr.obj v (a.eval q))
    (hlt : ∀ v u n, K v u n = some r → ∀ y ∈ n, y.1 < fr.ob.length) (hk : callK C nt σ t o.type f ats.toList as cap K = some r) (hn : Fin C.P S0 W fr o K r next) : o.wp C.P a w next Q := by
  have hV : V S (.func (.func f) [] cap) (a.eval fo) := hf
  have hfv : ∃ cv : List Value, a.eval fo = .func (.func f) #[] cv.toArray ∧ VL S cap cv := by
    generalize a.eval fo = v at hV
    cases hV with
    | func _ _ _ fv cv h1 h2 h3 h4 =>
      have : fv = [] := List.eq_nil_of_length_eq_zero (by rw [← h1]; rfl)
      subst this
      exact ⟨cv, rfl, h2, h4⟩
  obtain ⟨cv, hfe, hcv⟩ := hfv
  unfold callK at hk
  obtain ⟨l, u, S1, hk, hF, hVL⟩ := frzL_ok h (Sim.of fun r o h => hσ r o h) hk (us := args.toList.map a.eval) (by rw [has]; simp) (fun j c x hc hx => by
    rw [List.getElem?_map] at hx
    obtain ⟨q, hq, rfl⟩ := Option.map_eq_some_iff.1 hx
    exact hav j q c hq hc)
  obtain ⟨res, hkap, hk⟩ := Option.bind_eq_some_iff.1 hk
  obtain ⟨⟨fn, hfn, hname, hbody⟩, hok⟩ := hS f _ res hkap
  have hR := hF.rel
  have hVL2 : VL S1 (l ++ cap) (args.toList.map a.eval ++ cv) := by
    refine ⟨by rw [List.length_append, List.length_append, hVL.1, hcv.1], fun j c x hc hx => ?_⟩
    by_cases hj : j < l.length
    · rw [List.getElem?_append_left hj] at hc
      rw [List.getElem?_append_left (by rw [← hVL.1]; exact hj)] at hx
      exact hVL.2 j c x hc hx
    · rw [List.getElem?_append_right (by omega)] at hc
      rw [List.getElem?_append_right (by rw [← hVL.1]; omega), ← hVL.1] at hx
      exact (hcv.2 _ c x hc hx).mono hF.le
  have hcall := hok S1 w (args.toList.map a.eval ++ cv) hR.agree (hG.mono hR.ext hR.below) hVL2
  have hrun : (execOp a.eval o).run C.P w = .ok (.enter f ((args.toList.map a.eval ++ cv).toArray)) w := by
    unfold execOp
    have e : (args.map a.eval) ++ cv.toArray = (args.toList.map a.eval ++ cv).toArray := by apply Array.ext'; simp
    have hcf : ∀ args' : Array Value, (callFunc f args').run C.P w = .ok (.enter f args') w := by
      intro args'
      unfold callFunc
      simp only [Sem.run_bind, run_program, Result.andThen_ok, hfn, hname, hbody, Bool.false_eq_true, if_false]
      rfl
    simp only [ho, resolve, Deferred.ofValue, hfe, invoke, Sem.run_bind, Sem.run_pure, Result.andThen_ok, Array.empty_append, hcf]
    rw [e]
  unfold Oper.wp
  rw [hrun]
  show Calls C.P f _ w _
  refine hcall.mono fun e w' hpost => ?_
  obtain ⟨v, S2, rfl, hle, hag, hfr, hbel, hret⟩ := hpost
  have hR2 := hR.grow hle (hR.below.trans (hbel.mono hR.below.size)) hbel.block hag hfr
  have hl : ∀ (u : Upd) (l : List (Option Ob)), (applyU l u).length = l.length := by
    intro u
    induction u with
    | nil => intro l; rfl
    | cons x u ih => intro l; rw [show applyU l (x :: u) = applyU (l.set x.1 x.2) u from rfl, ih]; simp
  obtain ⟨c, n, gv', hk, hfin⟩ := recv_ok (w := w) hR2 h.below.size (fun q o' g hq hg => hblk_lt hR hq hg) (fun c n hcn y hy => by rw [hl]; exact hlt c u n hcn y hy) hret hk o.dst
  exact hn c u n S2 gv' _ w' hk (by rw [put_split]; exact hfin)
end ops
end Go.Proofs.YtilbahgfjfcikaaDoor.Eng
