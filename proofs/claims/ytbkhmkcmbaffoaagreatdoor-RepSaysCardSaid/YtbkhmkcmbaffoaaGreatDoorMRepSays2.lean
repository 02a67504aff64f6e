/- Several texts of this proof in one file: B11b, Q04b, U11d, U11e, Q11, V11, U08c, U08d, U07c, U07d, Q11b, S07a, S07b, S07, B07, X07, S08g, B08g, V11b, X11s. -/
import Derived.Test.YtbkhmkcmbaffoaaGreatDoorMRepSays1
import Derived.Test.YtbkhmkcmbaffoaaGreatDoorMRepSays0
import Derived.Lib.ItoaMem
import Derived.Test.YtbkhmkcmbaffoaaGreatDoorMERepSays2
import Derived.WalkKit
import Derived.BigCall
import Derived.Lib.OthersKept
import Derived.Lib.BufferKept
import Derived.Lib.BufferOld
import Derived.WalkSmall
/- rep.Records as a given function: it answers so. -/
set_option linter.unusedVariables false
set_option linter.unusedSectionVars false
set_option linter.unusedSimpArgs false
namespace Go.Proofs.YtbkhmkcmbaffoaaGreatDoor.Eng.U
open Go Go.RowKit Go.Proofs Go.Proofs.YtbkhmkcmbaffoaaGreatDoor.Eng Go.Proofs.YtbkhmkcmbaffoaaGreatDoor.Eng.Rdv Go.Proofs.YtbkhmkcmbaffoaaGreatDoor.S11 Go.Proofs.YtbkhmkcmbaffoaaGreatDoor.P04

structure RightH (h : Head) : Prop where
  a1 : f1 h = true
  a2 : f2 h = true
  a3 : f3 h = true
  a4 : f4 h = true
  a5 : f5 h = true
  a6 : f6 h = true
  a7 : f7 h = true
  a8 : f8 h = true
  a9 : f9 h = true
  a10 : f10 h = true
  a11 : f11 h = true
  a12 : f12 h = true
  a13 : f13 h = true
theorem rightH_of {h : Head} (hw : wrongH h = 0) : RightH h := by
  unfold wrongH at hw
  cases g1 : f1 h with
  | false => rw [g1] at hw; cases hw
  | true => cases g2 : f2 h with
    | false => rw [g1, g2] at hw; cases hw
    | true => cases g3 : f3 h with
      | false => rw [g1, g2, g3] at hw; cases hw
      | true => cases g4 : f4 h with
        | false => rw [g1, g2, g3, g4] at hw; cases hw
        | true => cases g5 : f5 h with
          | false => rw [g1, g2, g3, g4, g5] at hw; cases hw
          | true => cases g6 : f6 h with
            | false => rw [g1, g2, g3, g4, g5, g6] at hw; cases hw
            | true => cases g7 : f7 h with
              | false => rw [g1, g2, g3, g4, g5, g6, g7] at hw; cases hw
              | true => cases g8 : f8 h with
                | false => rw [g1, g2, g3, g4, g5, g6, g7, g8] at hw; cases hw
                | true => cases g9 : f9 h with
                  | false => rw [g1, g2, g3, g4, g5, g6, g7, g8, g9] at hw; cases hw
                  | true => cases g10 : f10 h with
                    | false => rw [g1, g2, g3, g4, g5, g6, g7, g8, g9, g10] at hw; cases hw
                    | true => cases g11 : f11 h with
                      | false => rw [g1, g2, g3, g4, g5, g6, g7, g8, g9, g10, g11] at hw; cases hw
                      | true => cases g12 : f12 h with
                        | false => rw [g1, g2, g3, g4, g5, g6, g7, g8, g9, g10, g11, g12] at hw; cases hw
                        | true => cases g13 : f13 h with
                          | false => rw [g1, g2, g3, g4, g5, g6, g7, g8, g9, g10, g11, g12, g13] at hw; cases hw
                          | true => exact ⟨g1, g2, g3, g4, g5, g6, g7, g8, g9, g10, g11, g12, g13⟩
theorem right_wrong {h : Head} (r : RightH h) : wrongH h = 0 := by
  unfold wrongH
  rw [r.a1, r.a2, r.a3, r.a4, r.a5, r.a6, r.a7, r.a8, r.a9, r.a10, r.a11, r.a12, r.a13]
  rfl
theorem add_keys {K : List Tx} {l : List Pair} {c : Bool} (key val : Tx) (hk : keysN l) (hm : ∀ q ∈ l, q.key ∈ K ∨ whichL q.key < 0) (hp : key ∉ K) (hw : 0 ≤ whichL key) : keysN (addP c ⟨key, val⟩ l) ∧ ∀ q ∈ addP c ⟨key, val⟩ l, q.key ∈ key :: K ∨ whichL q.key < 0 := by
  cases c with
  | true => exact ⟨hk, fun q hq => (hm q hq).imp (fun h => List.mem_cons_of_mem _ h) fun h => h⟩
  | false =>
    refine ⟨List.pairwise_append.2 ⟨hk, List.pairwise_singleton _ _, fun a ha b hb e => ?_⟩, fun q hq => ?_⟩
    · rw [List.mem_singleton.1 hb] at e
      have e : a.key = key := e
      rcases hm a ha with h | h
      · exact hp (e ▸ h)
      · rw [e] at h; omega
    · rcases List.mem_append.1 hq with h | h
      · exact (hm q h).imp (fun h => List.mem_cons_of_mem _ h) fun h => h
      · rw [List.mem_singleton.1 h]; exact .inl (List.mem_cons_self ..)
theorem add_vals {l : List Pair} {p : Pair} {c : Bool} (hv : ∀ q ∈ l, q.val ≠ []) (hp : c = false → p.val ≠ []) : ∀ q ∈ addP c p l, q.val ≠ [] := by
  cases c with
  | true => exact hv
  | false =>
    intro q hq
    rcases List.mem_append.1 hq with h | h
    · exact hv q h
    · rw [List.mem_singleton.1 h]; exact hp rfl
theorem itoa_ne (v : Int) : Lib.itoa v ≠ [] := by
  have h : ∀ u : Nat, Lib.decDigits u ≠ [] := fun u e => by
    have := dl_pos u
    unfold dl at this
    rw [e] at this
    simp at this
  unfold Lib.itoa
  split
  · simp
  · exact h _
theorem printL_ne (s t : Int) : printL s t ≠ [] := by
  unfold printL
  split
  · exact itoa_ne s
  · split
    · simp
    · simp
theorem fulls_head_ne {kind : Int} {s : Tx} (h : s ≠ []) : (fulls kind s).headD [] ≠ [] := by
  unfold fulls
  split
  · split
    · simp
    · exact h
  · exact h
theorem long_ne {s : Tx} {m : Nat} (h : ¬ s.length ≤ m) : s ≠ [] := fun e => by rw [e] at h; simp at h
/-- Of a right head: the pairs that are put have keys of their own, and values. -/
theorem raw_facts {h : Head} (hr : RightH h) : keysN (rawH h) ∧ ∀ q ∈ rawH h, q.val ≠ [] := by
  have h13 := hr.a13
  unfold f13 overOk at h13
  simp only [Bool.and_eq_true, List.all_eq_true, decide_eq_true_eq] at h13
  obtain ⟨⟨ho, _⟩, hw⟩ := h13
  obtain ⟨hf1, hf2⟩ := okSt_facts _ _ ho
  have k0 : keysN h.extra := hf2.imp fun hab e => by rw [e, lt_irr] at hab; cases hab
  have m0 : ∀ q ∈ h.extra, q.key ∈ ([] : List Tx) ∨ whichL q.key < 0 := fun q hq => .inr (hw q hq)
  have v0 : ∀ q ∈ h.extra, q.val ≠ [] := fun q hq => (hf1 q hq).2
  have hn : h.name ≠ [] := by
    have := hr.a2
    unfold f2 nameOk at this
    simp only [Bool.and_eq_true, decide_eq_true_eq] at this
    exact this.1.1
  have ht : rightT h.nano = true := hr.a8
  obtain ⟨k1, m1⟩ := add_keys (c := canB 2 h 2) kPath ((fulls h.kind h.name).headD []) k0 m0 (by decide) (by decide)
  have v1 := add_vals (c := canB 2 h 2) (p := ⟨kPath, (fulls h.kind h.name).headD []⟩) v0 fun _ => fulls_head_ne hn
  obtain ⟨k2, m2⟩ := add_keys (c := canB 2 h 3) kLink (h.link) k1 m1 (by decide) (by decide)
  have v2 := add_vals (c := canB 2 h 3) (p := ⟨kLink, h.link⟩) v1 fun hc => by
    have hc' : (bif decide (h.link.length ≤ 100) then true else false) = false := hc
    exact long_ne (m := 100) fun hle => by rw [decide_eq_true hle] at hc'; cases hc'
  obtain ⟨k3, m3⟩ := add_keys (c := canB 2 h 5) kUid (Lib.itoa h.uid) k2 m2 (by decide) (by decide)
  have v3 := add_vals (c := canB 2 h 5) (p := ⟨kUid, Lib.itoa h.uid⟩) v2 fun _ => itoa_ne _
  obtain ⟨k4, m4⟩ := add_keys (c := canB 2 h 6) kGid (Lib.itoa h.gid) k3 m3 (by decide) (by decide)
  have v4 := add_vals (c := canB 2 h 6) (p := ⟨kGid, Lib.itoa h.gid⟩) v3 fun _ => itoa_ne _
  obtain ⟨k5, m5⟩ := add_keys (c := canB 2 h 7) kSize (Lib.itoa h.size) k4 m4 (by decide) (by decide)
  have v5 := add_vals (c := canB 2 h 7) (p := ⟨kSize, Lib.itoa h.size⟩) v4 fun _ => itoa_ne _
  obtain ⟨k6, m6⟩ := add_keys (c := canB 2 h 8) kTime (bif rightT h.nano then printL h.sec h.nano else []) k5 m5 (by decide) (by decide)
  have v6 := add_vals (c := canB 2 h 8) (p := ⟨kTime, bif rightT h.nano then printL h.sec h.nano else []⟩) v5 fun _ => by rw [ht]; exact printL_ne _ _
  obtain ⟨k7, m7⟩ := add_keys (c := canB 2 h 9) kUser (h.user) k6 m6 (by decide) (by decide)
  have v7 := add_vals (c := canB 2 h 9) (p := ⟨kUser, h.user⟩) v6 fun hc => by
    have hc' : (bif decide (h.user.length ≤ 32) then true else false) = false := hc
    exact long_ne (m := 32) fun hle => by rw [decide_eq_true hle] at hc'; cases hc'
  obtain ⟨k8, m8⟩ := add_keys (c := canB 2 h 10) kGroup (h.group) k7 m7 (by decide) (by decide)
  have v8 := add_vals (c := canB 2 h 10) (p := ⟨kGroup, h.group⟩) v7 fun hc => by
    have hc' : (bif decide (h.group.length ≤ 32) then true else false) = false := hc
    exact long_ne (m := 32) fun hle => by rw [decide_eq_true hle] at hc'; cases hc'
  exact ⟨k8, v8⟩
theorem flat_V {S : Stab} (l : List Pair) (i : Nat) (x : AV) (hx : (prs l)[i]? = some x) : x.cells.length = 2 ∧ ∀ (j : Nat) (c : AV), x.cells[j]? = some c → c.leaf = true ∧ ∀ u, (flatP l)[i * 2 + j]? = some u → V S c u := by
  unfold prs at hx
  rw [List.getElem?_map] at hx
  obtain ⟨p, hp, rfl⟩ := Option.map_eq_some_iff.1 hx
  have hi : i < l.length := (List.getElem?_eq_some_iff.1 hp).1
  refine ⟨rfl, fun j c hc => ?_⟩
  have hg : l.getD i default = p := by rw [List.getD_eq_getElem?_getD, hp]; rfl
  match j, hc with
  | 0, hc =>
    cases hc
    refine ⟨rfl, fun u hu => ?_⟩
    rw [flat_at l _ (by omega), show (i * 2 + 0) / 2 = i by omega, show (i * 2 + 0) % 2 = 0 by omega, hg] at hu
    cases hu
    exact V.str _
  | 1, hc =>
    cases hc
    refine ⟨rfl, fun u hu => ?_⟩
    rw [flat_at l _ (by omega), show (i * 2 + 1) / 2 = i by omega, show (i * 2 + 1) % 2 = 1 by omega, hg] at hu
    cases hu
    exact V.str _
theorem clone_calls {S : Stab} {w W : World} {l : List Pair} {sv : Value} (hl : l.length ≤ 100) (hag : Agree S w) (hv : V S (.list 2 (prs l)) sv) (hb : Below w.heap.size w W) :
    Calls Tryz.prog 48 #[sv] W fun e w' => ∃ v, e = .returned v ∧ w'.ownsRow W.heap.size 50 2 v l.length (flatP l) ∧ Below W.heap.size W w' := by
  obtain ⟨ao, cap, rfl, hc⟩ := list_inv hv
  have hag' := agree_below hag hb
  rw [prs_len]
  cases ao with
  | none =>
    have hn : l = [] := by
      cases l with
      | nil => rfl
      | cons p l =>
        obtain ⟨a, _, ha, _⟩ := hc 0 (elPair p) rfl
        cases ha
    subst hn
    have hcap : cap = 0 := by cases hv; rfl
    subst hcap
    refine (S40.pairs_nil W).mono ?_
    rintro e w' ⟨rfl, rfl⟩
    exact ⟨_, rfl, World.ownsRow_nil _ _ _ _, Below.refl _ _⟩
  | some a =>
    refine (S40.pairs_some a l.length cap (flatP l) W (flatP_len l) (fun j u hu => ?_) (fun u hu => ?_) (by omega)).mono ?_
    · have hj : j < l.length * 2 := by rw [← flatP_len]; exact (List.getElem?_eq_some_iff.1 hu).1
      have hi : j / 2 < l.length := by omega
      obtain ⟨a', f, ha, hf⟩ := hc (j / 2) (elPair l[j / 2]) (by unfold prs; rw [List.getElem?_map, List.getElem?_eq_getElem hi]; rfl)
      cases ha
      rw [flat_at l j hj, List.getD_eq_getElem?_getD, List.getElem?_eq_getElem hi] at hu
      have hm : j % 2 = 0 ∨ j % 2 = 1 := by omega
      rcases hm with hm | hm
      · rw [hm] at hu
        cases hu
        obtain ⟨h1, h2⟩ := hf 0 _ rfl
        have h3 := hag' _ _ h1
        rw [V_str h2, show j / 2 * 2 + 0 = j by omega] at h3
        exact h3
      · rw [hm] at hu
        cases hu
        obtain ⟨h1, h2⟩ := hf 1 _ rfl
        have h3 := hag' _ _ h1
        rw [V_str h2, show j / 2 * 2 + 1 = j by omega] at h3
        exact h3
    · unfold flatP at hu
      obtain ⟨p, _, hp⟩ := List.mem_flatMap.1 hu
      simp at hp
      rcases hp with rfl | rfl <;> rfl
    · rintro e w' ⟨v, rfl, h1, h2⟩
      exact ⟨v, rfl, h1, h2⟩
theorem can_calls {E : Ext} [Core E] [HasNum E] [HasTextV E] {k : Nat} (hB : (bs E k).Good) (hk : 1000000 < k) {S : Stab} {w W : World} {h : Head} {sv : Value} (ho : OkHd h) (hag : Agree S w) (hG : GlobOk glob S w) (hv : V S (.agg (encHead h)) (.agg (headV h sv))) (hb : Below w.heap.size w W) (d f : Int) (hf : 1 ≤ f ∧ f ≤ 13) :
    Calls Tryz.prog 47 #[.int .i64 d, .agg (headV h sv), .int .i64 f] W fun e w' => e = .returned (.bool (canB d h f)) ∧ Below W.heap.size W w' := by
  have hkp := can_k (E := E) (k := k) (n := 0) d h f true ho.bd.1 ho.bd.2.1 ho.bd.2.2.1 ho.bd.2.2.2.1 hk fun _ hn => absurd hf hn
  refine (eng_calls hB hkp hag hG (VL3 (V.int .i64 d) hv (V.int .i64 f)) hb).mono ?_
  rintro e w' ⟨v, S', rfl, _, _, h1, h2⟩
  obtain rfl : v = .bool (canB d h f) := by cases (show V S' (.bool (canB d h f)) v from h2); rfl
  exact ⟨rfl, h1⟩
theorem callees_of {E : Ext} [Core E] [HasNum E] [HasTextV E] {k : Nat} (hB : (bs E k).Good) (hk : 5000000 < k) {S : Stab} {w : World} {h : Head} {sv : Value} (ho : OkHd h) (hag : Agree S w) (hG : GlobOk glob S w) (hv : V S (.agg (encHead h)) (.agg (headV h sv))) :
    Callees h sv w (wrongH h) (canB 3 h) (canB 2 h) ((fulls h.kind h.name).headD []) (bif rightT h.nano then printL h.sec h.nano else []) (bif rightT h.nano then 0 else 15) Lib.itoa where
  wrong W hb := by
    refine (eng_calls hB (wrong_kv (E := E) (k := k) (n := 0) h ho.bd (by omega)) hag hG (VL1 hv) hb).mono ?_
    rintro e w' ⟨v, S', rfl, _, _, h1, h2⟩
    obtain rfl : v = .int .i64 (wrongH h) := by cases (show V S' (.int .i64 (wrongH h)) v from h2); rfl
    exact ⟨rfl, h1⟩
  can3 f hf W hb := can_calls hB (by omega) ho hag hG hv hb 3 f (by omega)
  can2 f hf W hb := can_calls hB (by omega) ho hag hG hv hb 2 f hf
  print W hb := by
    have hvt : V S (.agg [.int .i64 h.sec, .int .i64 h.nano]) (.agg #[.int .i64 h.sec, .int .i64 h.nano]) := V.agg _ [.int .i64 h.sec, .int .i64 h.nano] rfl (fun j c hc => by
      match j, hc with
      | 0, hc => cases hc; rfl
      | 1, hc => cases hc; rfl) (V2 (V.int _ _) (V.int _ _))
    refine (eng_calls hB (print_k (E := E) (k := k) (n := 0) h.sec h.nano ho.sec.1 ho.sec.2) hag hG (VL1 hvt) hb).mono ?_
    rintro e w' ⟨v, S', rfl, _, _, h1, h2⟩
    refine ⟨?_, h1⟩
    cases hr : rightT h.nano with
    | true =>
      rw [hr] at h2
      obtain ⟨vs, rfl, hl, hvs, _⟩ := h2
      match vs, hl with
      | [x, y], _ =>
        have q0 : V S' (.str (str (printL h.sec h.nano))) x := hvs 0 _ _ rfl rfl
        have q1 : V S' (.int .u8 0) y := hvs 1 _ _ rfl rfl
        rw [V_str q0, V_int q1]
        rfl
    | false =>
      rw [hr] at h2
      obtain ⟨vs, rfl, hl, hvs, _⟩ := h2
      match vs, hl with
      | [x, y], _ =>
        have q0 : V S' (.str (str [])) x := hvs 0 _ _ rfl rfl
        have q1 : V S' (.int .u8 15) y := hvs 1 _ _ rfl rfl
        rw [V_str q0, V_int q1]
        rfl
  fulls W hb := by
    refine (eng_calls hB (fulls_k (E := E) (k := k) (n := 0) h (by have := ho.bd.1; omega)) hag hG (VL1 hv) hb).mono ?_
    rintro e w' ⟨v, S', rfl, _, hag', h1, h2⟩
    have h2 : V S' (.list 1 (svs (fulls h.kind h.name))) v := h2
    obtain ⟨ao, cap, rfl, hc⟩ := list_inv h2
    refine ⟨?_, h1⟩
    have hne := fulls_ne h.kind h.name
    rw [svs_len]
    cases hf : fulls h.kind h.name with
    | nil => exact absurd hf hne
    | cons x l =>
      rw [hf] at hc
      obtain ⟨a, f, ha, hcf⟩ := hc 0 (Go.Proofs.YtbkhmkcmbaffoaaGreatDoor.Eng.sv x) rfl
      obtain ⟨q1, q2⟩ := hcf 0 _ rfl
      have q3 := hag' _ _ q1
      rw [V_str q2] at q3
      refine ⟨a, l.length, cap, by rw [ha]; rfl, ?_⟩
      have e : a.add (0 * 1 + 0) = a := by simp [Addr.add]
      rw [e] at q3
      exact q3
  text v hv' W hb := by
    have hr : -9223372036854775808 ≤ v ∧ v ≤ 9223372036854775807 := by
      rcases hv' with rfl | rfl | rfl
      · exact ho.uid
      · exact ho.gid
      · exact ho.size
    refine (eng_calls hB (text_k (E := E) (k := k) (n := 0) v hr.1 hr.2) hag hG (VL1 (V.int .i64 v)) hb).mono ?_
    rintro e w' ⟨u, S', rfl, _, _, h1, h2⟩
    obtain rfl : u = .string (str (Lib.itoa v)) := by cases (show V S' (.str (str (Lib.itoa v))) u from h2); rfl
    exact ⟨rfl, h1⟩
theorem rec_right : pRec.Right := by
  refine ⟨⟨Tryz.f14, Tryz.func14, by kernel_rfl, by kernel_rfl⟩, fun args res hr => ?_⟩
  unfold pRec at hr
  dsimp only at hr
  split at hr
  · rename_i cs
    obtain ⟨h, hh, h2⟩ := Option.bind_eq_some_iff.1 hr
    clear hr
    obtain rfl := toHead_some hh
    obtain ⟨hok, h3⟩ := some_of_bif h2
    clear h2
    obtain rfl := Option.some.inj h3
    have ho := okHd_iff.1 hok
    refine ok_rowint (e := 50) fun S w vals hag hG hV => ?_
    obtain ⟨v, rfl, hv⟩ := VL_1 hV
    obtain ⟨sv, rfl, hsv⟩ := headV_inv hv
    have hC := callees_of (E := ext09) (k := 6000000) (good09 6000000) (by omega) ho hag hG hv
    refine (records_walk h sv w _ _ _ _ _ _ _ hC (fun W hb => clone_calls ho.ext hag hsv hb) ho.ext).mono ?_
    rintro e w' ⟨hb, hcase⟩
    rcases hcase with ⟨hw, rfl⟩ | ⟨hw, ⟨j, hj, hf⟩, rfl⟩ | ⟨hw, hall, u, l', rfl, hown, hperm, hsort⟩
    · have e1 : recA h = ([], 15) := by unfold recA; rw [if_neg hw]
      rw [e1]
      exact ⟨_, [], rfl, World.ownsRow_nil _ _ _ _, fun i x hx => by simp [prs] at hx, hb⟩
    · have ht : ¬ texts3 h = true := by
        unfold texts3
        simp only [Bool.and_eq_true]
        rintro ⟨⟨⟨g1, g2⟩, g3⟩, g4⟩
        have hc : j = 0 ∨ j = 1 ∨ j = 2 ∨ j = 3 := by omega
        rcases hc with rfl | rfl | rfl | rfl
        · rw [show fld 0 = 2 from rfl, g1] at hf; cases hf
        · rw [show fld 1 = 3 from rfl, g2] at hf; cases hf
        · rw [show fld 2 = 9 from rfl, g3] at hf; cases hf
        · rw [show fld 3 = 10 from rfl, g4] at hf; cases hf
      have e1 : recA h = ([], 13) := by unfold recA; rw [if_pos hw, if_neg ht]
      rw [e1]
      exact ⟨_, [], rfl, World.ownsRow_nil _ _ _ _, fun i x hx => by simp [prs] at hx, hb⟩
    · have ht : texts3 h = true := by
        unfold texts3
        rw [show canB 3 h 2 = true from hall 0 (by omega), show canB 3 h 3 = true from hall 1 (by omega), show canB 3 h 9 = true from hall 2 (by omega), show canB 3 h 10 = true from hall 3 (by omega)]
        rfl
      have e1 : recA h = (recsL h, 0) := by unfold recA; rw [if_pos hw, if_pos ht]
      obtain ⟨hk, hvs⟩ := raw_facts (rightH_of hw)
      have hl' : l' = recsL h := sorted_lay hperm hsort hk hvs
      rw [e1]
      subst hl'
      exact ⟨u, flatP (recsL h), rfl, by rw [prs_len]; exact hown, fun i x hx => flat_V _ i x hx, hb⟩
  · cases hr
class HasRec (E : Ext) : Prop where
  recs : ∀ (k n : Nat) (h : Head), OkHd h → kp E k n rep_Records [.agg (encHead h)] = some (.tup [.list 2 (prs (recA h).1), .int .u8 (recA h).2])
end Go.Proofs.YtbkhmkcmbaffoaaGreatDoor.Eng.U


/- What is printed is read, in plain Lean. -/
set_option linter.unusedVariables false
set_option linter.unusedSimpArgs false
namespace Go.Proofs.YtbkhmkcmbaffoaaGreatDoor.P04
open Go

theorem ofNat_dig {d : Nat} (h : d < 10) : (UInt8.ofNat (48 + d)).toNat = 48 + d := by rw [UInt8.toNat_ofNat']; omega
theorem isDig_of {d : Nat} (h : d < 10) : isDig (UInt8.ofNat (48 + d)) = true := by rw [dig_iff, ofNat_dig h]; omega
theorem dec_facts (u : Nat) : (Lib.decDigits u).all isDig = true ∧ valA 0 (Lib.decDigits u) = u ∧ Lib.decDigits u ≠ [] ∧ ((Lib.decDigits u).headD 0 = 48 → u = 0) := by
  induction u using Nat.strongRecOn with
  | ind u ih =>
    by_cases h : u < 10
    · rw [Lib.decDigits_one h]
      refine ⟨by rw [List.all_cons, isDig_of h]; rfl, ?_, by simp, fun e => ?_⟩
      · show 0 * 10 + ((UInt8.ofNat (48 + u)).toNat - 48) = u
        rw [ofNat_dig h]; omega
      · have : (UInt8.ofNat (48 + u)).toNat = 48 := congrArg UInt8.toNat e
        rw [ofNat_dig h] at this; omega
    · obtain ⟨h1, h2, h3, h4⟩ := ih (u / 10) (by omega)
      rw [decDigits_rec h]
      refine ⟨by rw [List.all_append, h1, List.all_cons, isDig_of (by omega)]; rfl, ?_, by simp, fun e => ?_⟩
      · rw [valA_app, h2]
        show u / 10 * 10 + ((UInt8.ofNat (48 + u % 10)).toNat - 48) = u
        rw [ofNat_dig (by omega)]; omega
      · cases hl : Lib.decDigits (u / 10) with
        | nil => exact absurd hl h3
        | cons c l =>
          rw [hl] at e h4
          have := h4 e
          omega
theorem dec_digs (u : Nat) : digs (Lib.decDigits u) = true := by
  obtain ⟨h1, _, h3, _⟩ := dec_facts u
  unfold digs
  rw [h1, Bool.true_and, Bool.not_eq_true', List.isEmpty_eq_false_iff]
  exact h3
theorem dec_natOk (u : Nat) (h : u ≤ 9223372036854775808) : natOk (Lib.decDigits u) = true := by
  obtain ⟨h1, h2, h3, h4⟩ := dec_facts u
  unfold natOk
  rw [dec_digs, h2, decide_eq_true h, Bool.and_true, Bool.true_and, Bool.not_eq_true']
  unfold lead
  by_cases e : (Lib.decDigits u).headD 0 = 48
  · have := h4 e
    subst this
    rw [Lib.decDigits_one (by omega)]
    rfl
  · rw [decide_eq_false e]; rfl
theorem valA_acc : ∀ (l : List UInt8) (a : Nat), valA a l = a * 10 ^ l.length + valA 0 l
  | [], a => by show a = a * 1 + 0; omega
  | c :: l, a => by
    rw [valA_cons, valA_cons, valA_acc l (a * 10 + (c.toNat - 48)), valA_acc l (0 * 10 + (c.toNat - 48)), List.length_cons, Nat.pow_succ]
    rw [Nat.zero_mul, Nat.zero_add, Nat.add_mul, Nat.mul_assoc, Nat.mul_comm 10, Nat.add_assoc]
theorem frac_length : ∀ k n, (frac k n).length = k
  | 0, _ => rfl
  | k + 1, n => by unfold frac; rw [List.length_cons, frac_length k]
theorem frac_val (m : Nat) (h : m < 1000000000) : valA 0 (frac 9 m) = m ∧ (frac 9 m).all isDig = true := by
  have hd := digits_frac m h
  obtain ⟨h1, h2, _, _⟩ := dec_facts (1000000000 + m)
  rw [hd] at h1 h2
  rw [List.all_cons, Bool.and_eq_true] at h1
  refine ⟨?_, h1.2⟩
  rw [valA_cons, valA_acc, frac_length] at h2
  have e : 0 * 10 + (UInt8.toNat 49 - 48) = 1 := rfl
  rw [e] at h2
  omega
theorem dropW_rep (c : UInt8) : ∀ l : List UInt8, l = List.replicate (l.length - (l.dropWhile (· == c)).length) c ++ l.dropWhile (· == c)
  | [] => rfl
  | x :: l => by
    rw [List.dropWhile_cons]
    by_cases h : x = c
    · subst h
      have ih := dropW_rep x l
      have hle : (l.dropWhile (· == x)).length ≤ l.length := (List.dropWhile_sublist _).length_le
      rw [if_pos (beq_self_eq_true x), List.length_cons, show l.length + 1 - (l.dropWhile (· == x)).length = (l.length - (l.dropWhile (· == x)).length) + 1 from by omega, List.replicate_succ, List.cons_append, ← ih]
    · rw [if_neg (by simpa using h), Nat.sub_self]
      rfl
theorem trim_rep (l : List UInt8) (c : UInt8) : l = Lib.trimRightB l c ++ List.replicate (l.length - (Lib.trimRightB l c).length) c := by
  have h := dropW_rep c l.reverse
  have h2 := congrArg List.reverse h
  rw [List.reverse_reverse, List.reverse_append, List.reverse_replicate, List.length_reverse] at h2
  unfold Lib.trimRightB
  rw [List.length_reverse]
  exact h2
theorem loopP_length : ∀ k n, (loopP k n).length ≤ k
  | 0, _ => Nat.le_refl _
  | k + 1, n => by
    unfold loopP
    split
    · simp
    · rw [List.length_cons]
      have := loopP_length k (n % 100000000 * 10)
      omega
theorem loop_facts (m : Nat) (h0 : 0 < m) (h : m < 1000000000) : digs (loopP 9 m) = true ∧ (loopP 9 m).length ≤ 9 ∧ valA 0 (loopP 9 m ++ List.replicate (9 - (loopP 9 m).length) 48) = m := by
  obtain ⟨h1, h2⟩ := frac_val m h
  have ht := trim_frac 9 m h (by simp [Nat.mod_one]) (by omega)
  have hr := trim_rep (frac 9 m) 48
  rw [ht, frac_length] at hr
  refine ⟨?_, loopP_length 9 m, by rw [← hr, h1]⟩
  unfold digs
  rw [hr, List.all_append, Bool.and_eq_true] at h2
  rw [h2.1, Bool.true_and, Bool.not_eq_true', List.isEmpty_eq_false_iff]
  unfold loopP
  rw [if_neg (by omega)]
  simp
/-- No point among digits. -/
theorem dot_digs : ∀ (a : List UInt8), a.all isDig = true → dot a = a.length
  | [], _ => rfl
  | c :: a, h => by
    rw [List.all_cons, Bool.and_eq_true] at h
    have hc := dig_iff.1 h.1
    have ih := dot_digs a h.2
    unfold dot at ih ⊢
    rw [List.findIdx_cons, beq_eq_false_iff_ne.2 (by rintro rfl; exact absurd hc.1 (by decide)), cond_false, ih, List.length_cons]
theorem dot_point : ∀ (a b : List UInt8), a.all isDig = true → dot (a ++ 46 :: b) = a.length
  | [], b, _ => rfl
  | c :: a, b, h => by
    rw [List.all_cons, Bool.and_eq_true] at h
    have hc := dig_iff.1 h.1
    have ih := dot_point a b h.2
    unfold dot at ih ⊢
    rw [List.cons_append, List.findIdx_cons, beq_eq_false_iff_ne.2 (by rintro rfl; exact absurd hc.1 (by decide)), cond_false, ih, List.length_cons]
theorem timeB_whole (q : Bool) (u : Nat) (hu : u ≤ 9223372036854775808) : timeB q (Lib.decDigits u) = if q = false then (if 9223372036854775807 < u then none else some ((u : Int), 0)) else some (-(u : Int), 0) := by
  obtain ⟨h1, h2, h3, h4⟩ := dec_facts u
  unfold timeB
  dsimp only
  rw [dot_digs _ h1, List.take_length, dec_natOk u hu, h2, if_neg (by simp), if_neg (fun h => by omega), if_neg (Nat.lt_irrefl _)]
  rfl
theorem timeB_parts (q : Bool) (u m : Nat) (hu : u ≤ 9223372036854775807) (hm0 : 0 < m) (hm : m < 1000000000) : timeB q (Lib.decDigits u ++ [46] ++ loopP 9 m) = if q = false then some ((u : Int), (m : Int)) else some (-(u : Int) - 1, 1000000000 - (m : Int)) := by
  obtain ⟨h1, h2, h3, h4⟩ := dec_facts u
  obtain ⟨g1, g2, g3⟩ := loop_facts m hm0 hm
  have hd := dot_point (Lib.decDigits u) (loopP 9 m) h1
  unfold timeB
  dsimp only
  rw [List.append_assoc, List.singleton_append, hd]
  have e1 : (Lib.decDigits u ++ 46 :: loopP 9 m).take (Lib.decDigits u).length = Lib.decDigits u := by simp
  have e2 : (Lib.decDigits u ++ 46 :: loopP 9 m).drop ((Lib.decDigits u).length + 1) = loopP 9 m := by
    rw [List.drop_append]
    simp
  rw [e1, e2, dec_natOk u (by omega), h2, if_neg (by simp), if_neg (fun h => h.2 ⟨g1, g2⟩), if_pos (show (Lib.decDigits u).length < (Lib.decDigits u ++ 46 :: loopP 9 m).length by simp), g3, if_neg (show ¬ m = 0 by omega), if_neg (show ¬ 9223372036854775807 < u by omega), if_neg (show ¬ 9223372036854775807 < u by omega)]
theorem dec_head (u : Nat) (l : List UInt8) : (Lib.decDigits u ++ l).head? ≠ some 45 := by
  obtain ⟨h1, _, h3, _⟩ := dec_facts u
  cases hl : Lib.decDigits u with
  | nil => exact absurd hl h3
  | cons c r =>
    rw [hl, List.all_cons, Bool.and_eq_true] at h1
    have hc := dig_iff.1 h1.1
    intro e
    rw [List.cons_append, List.head?_cons, Option.some.injEq] at e
    subst e
    exact absurd hc.1 (by decide)
theorem time_print (s t : Int) (hs : -9223372036854775808 ≤ s ∧ s ≤ 9223372036854775807) (ht : 0 ≤ t ∧ t < 1000000000) : timeL (printL s t) = some (s, t) := by
  unfold printL timeL
  by_cases h0 : t = 0
  · subst h0
    rw [if_pos rfl]
    unfold Lib.itoa
    by_cases h : s < 0
    · have hh : (45 :: Lib.decDigits s.natAbs).head? = some 45 := rfl
      rw [if_pos h, if_pos hh, decide_eq_true hh, List.drop_one, List.tail_cons, timeB_whole true _ (by omega), if_neg (by simp), show -((s.natAbs : Nat) : Int) = s from by omega]
    · have hh := dec_head s.toNat []
      rw [List.append_nil] at hh
      rw [if_neg h, if_neg hh, decide_eq_false hh, timeB_whole false _ (by omega), if_pos rfl, if_neg (by omega), show ((s.toNat : Nat) : Int) = s from by omega]
  · rw [if_neg h0]
    by_cases h : s < 0
    · have hh : (45 :: (Lib.decDigits (-(s + 1)).toNat ++ [46] ++ loopP 9 (1000000000 - t).toNat)).head? = some 45 := rfl
      rw [if_pos h, List.cons_append, List.cons_append, if_pos hh, decide_eq_true hh, List.drop_one, List.tail_cons, timeB_parts true _ _ (by omega) (by omega) (by omega), if_neg (by simp)]
      rw [show -(((-(s + 1)).toNat : Nat) : Int) - 1 = s from by omega, show (1000000000 : Int) - (((1000000000 - t).toNat : Nat) : Int) = t from by omega]
    · have hh := dec_head s.toNat ([46] ++ loopP 9 t.toNat)
      rw [← List.append_assoc] at hh
      rw [if_neg h, if_neg hh, decide_eq_false hh, timeB_parts false _ _ (by omega) (by omega) (by omega), if_pos rfl, show ((s.toNat : Nat) : Int) = s from by omega, show ((t.toNat : Nat) : Int) = t from by omega]
/-! No fewer bytes. -/
theorem printL_parts (s t : Int) : (printL s t).length = (if t = 0 then (Lib.itoa s).length else if s < 0 then 1 + (Lib.decDigits (-(s + 1)).toNat).length + 1 + (loopP 9 (1000000000 - t).toNat).length else (Lib.decDigits s.toNat).length + 1 + (loopP 9 t.toNat).length) := by
  unfold printL
  split
  · rfl
  · split
    · simp; omega
    · simp; omega
end Go.Proofs.YtbkhmkcmbaffoaaGreatDoor.P04


/- The records by the definition; what fits; the first field that can't be told. -/
set_option linter.unusedVariables false
set_option linter.unusedSectionVars false
set_option linter.unusedSimpArgs false
namespace Go.Proofs.YtbkhmkcmbaffoaaGreatDoor.Eng.U
open Go Go.RowKit Go.Proofs Go.Proofs.YtbkhmkcmbaffoaaGreatDoor.Eng Go.Proofs.YtbkhmkcmbaffoaaGreatDoor.S11 Go.Proofs.YtbkhmkcmbaffoaaGreatDoor.P04
variable {E : Ext} [Core E] [HasNum E] [HasTextV E] {k n : Nat}

/-! Pairs with keys of their own, in any order, come to the same overlay. -/
def optP (c : Bool) (p : Pair) : List Pair := bif c then [] else [p]
theorem addP_opt (c : Bool) (p : Pair) (l : List Pair) : addP c p l = l ++ optP c p := by cases c <;> simp [addP, optP]
/-! Bounds. -/
theorem opt_mem {c : Bool} {p q : Pair} (h : q ∈ optP c p) : q = p := by
  cases c with
  | true => simp [optP] at h
  | false => simpa [optP] using h
theorem opt_bd {c : Bool} {key val : Tx} {q : Pair} (hq : q ∈ optP c ⟨key, val⟩) (h1 : key.length ≤ 1000000) (h2 : val.length ≤ 1000000) : q.key.length ≤ 1000000 ∧ q.val.length ≤ 1000000 := by
  rw [opt_mem hq]
  exact ⟨h1, h2⟩
theorem itoa_le' (v : Int) (h0 : -9223372036854775808 ≤ v) (h1 : v ≤ 9223372036854775807) : (Lib.itoa v).length ≤ 22 := by
  by_cases hv : 0 ≤ v
  · obtain ⟨u, rfl⟩ := Int.eq_ofNat_of_zero_le hv
    have := dig_len u (by omega)
    rw [Lib.itoa_nonneg]
    omega
  · unfold Lib.itoa
    rw [if_pos (by omega), List.length_cons]
    have := dig_len (-v).toNat (by omega)
    have e : v.natAbs = (-v).toNat := by omega
    first | omega | (rw [e]; omega)
theorem loopP_le : ∀ (f u : Nat), (loopP f u).length ≤ f
  | 0, u => Nat.le_refl _
  | f + 1, u => by
    have := loopP_le f (u % 100000000 * 10)
    unfold loopP
    split
    · simp
    · rw [List.length_cons]; omega
theorem printL_le (s t : Int) (h0 : -9223372036854775808 ≤ s) (h1 : s ≤ 9223372036854775807) (ht : rightT t = true) : (printL s t).length ≤ 100 := by
  have hp := printL_parts s t
  have hl : ∀ u : Nat, (loopP 9 u).length ≤ 9 := loopP_le 9
  have hd : ∀ u : Nat, u ≤ 9223372036854775808 → (Lib.decDigits u).length ≤ 21 := dig_len
  rw [hp]
  split
  · have := itoa_le' s h0 h1
    omega
  · split
    · have := hd (-(s + 1)).toNat (by omega)
      have := hl (1000000000 - t).toNat
      omega
    · have := hd s.toNat (by omega)
      have := hl t.toNat
      omega
theorem raw_bd {h : Head} (ho : OkHd h) : ∀ q ∈ rawH h, q.key.length ≤ 1000000 ∧ q.val.length ≤ 1000000 := by
  intro q hq
  unfold rawH rawL at hq
  simp only [addP_opt, List.mem_append] at hq
  obtain ⟨b1, b2, b3, b4, b5, b6⟩ := ho.bd
  have hf : ((fulls h.kind h.name).headD []).length ≤ 400001 := by
    cases hl : fulls h.kind h.name with
    | nil => simp
    | cons f l =>
      have := fulls_mem (kind := h.kind) (s := h.name) (f := f) (by rw [hl]; simp)
      simpa using (by omega : f.length ≤ 400001)
  have hu := itoa_le' h.uid ho.uid.1 ho.uid.2
  have hg := itoa_le' h.gid ho.gid.1 ho.gid.2
  have hs := itoa_le' h.size ho.size.1 ho.size.2
  have ht : (bif rightT h.nano then printL h.sec h.nano else []).length ≤ 100 := by
    cases hr : rightT h.nano with
    | true => exact printL_le _ _ ho.sec.1 ho.sec.2 hr
    | false => simp
  rcases hq with (((((((hq | hq) | hq) | hq) | hq) | hq) | hq) | hq) | hq
  · exact b6 q hq
  all_goals exact opt_bd hq (by decide) (by omega)
theorem raw_len (h : Head) : (rawH h).length ≤ h.extra.length + 8 := by
  unfold rawH rawL
  have := fun c p l => addP_len c p l
  refine Nat.le_trans (addP_len _ _ _) ?_
  refine Nat.le_trans (Nat.succ_le_succ (addP_len _ _ _)) ?_
  refine Nat.le_trans (Nat.succ_le_succ (Nat.succ_le_succ (addP_len _ _ _))) ?_
  refine Nat.le_trans (Nat.succ_le_succ (Nat.succ_le_succ (Nat.succ_le_succ (addP_len _ _ _)))) ?_
  refine Nat.le_trans (Nat.succ_le_succ (Nat.succ_le_succ (Nat.succ_le_succ (Nat.succ_le_succ (addP_len _ _ _))))) ?_
  refine Nat.le_trans (Nat.succ_le_succ (Nat.succ_le_succ (Nat.succ_le_succ (Nat.succ_le_succ (Nat.succ_le_succ (addP_len _ _ _)))))) ?_
  refine Nat.le_trans (Nat.succ_le_succ (Nat.succ_le_succ (Nat.succ_le_succ (Nat.succ_le_succ (Nat.succ_le_succ (Nat.succ_le_succ (addP_len _ _ _))))))) ?_
  refine Nat.le_trans (Nat.succ_le_succ (Nat.succ_le_succ (Nat.succ_le_succ (Nat.succ_le_succ (Nat.succ_le_succ (Nat.succ_le_succ (Nat.succ_le_succ (addP_len _ _ _)))))))) ?_
  omega
theorem rec_bd {h : Head} (ho : OkHd h) : ∀ q ∈ recsL h, q.key.length ≤ 1000000 ∧ q.val.length ≤ 1000000 := fun q hq => raw_bd ho q (mem_layAll hq)
theorem rec_len {h : Head} (ho : OkHd h) : (recsL h).length ≤ 108 := by
  have h1 := lay_len (rawH h)
  have h2 := raw_len h
  have h3 := ho.ext
  unfold recsL
  omega
theorem recA_bd {h : Head} (ho : OkHd h) : (∀ q ∈ (recA h).1, q.key.length ≤ 1000000 ∧ q.val.length ≤ 1000000) ∧ (recA h).1.length ≤ 108 := by
  unfold recA
  split
  · split
    · exact ⟨rec_bd ho, rec_len ho⟩
    · exact ⟨fun q hq => by simp at hq, by simp⟩
  · exact ⟨fun q hq => by simp at hq, by simp⟩
/-! How many bytes they have. -/
def sumLen : List Pair → Nat
  | [] => 0
  | p :: l => lenP p + sumLen l
def fitsB (h : Head) : Bool := !decide ((recA h).2 = 0) || decide (sumLen (recA h).1 ≤ 65536)
theorem fits_loop (kap : FuncId → List AV → Option AV) (c : Int) (l : List Pair) (hl : l.length ≤ 1000) (hb : ∀ p ∈ l, lenP p ≤ 3000000) (hL : ∀ p ∈ l, kap pax_Len [.agg [.str (str p.key), .str (str p.val)]] = some (.int .i64 ((lenP p : Nat) : Int))) : ∀ (suf pre : List Pair) (s k0 : Nat), suf.length < k0 → l = pre ++ suf → s ≤ 4000000 →
    rep_fits_L0 kap k k0 c ((s : Nat) : Int) (prs l) ((l.length : Nat) : Int) ((pre.length : Nat) : Int) = some (.bool (!decide (c = 0) || decide (s + sumLen suf ≤ 65536)))
  | [], pre, s, k0 + 1, hk, he, hs => by
    have hll : l.length = pre.length := by rw [he]; simp
    have hd : decide (((s : Nat) : Int) ≤ 65536) = decide (s + sumLen [] ≤ 65536) := by rw [decide_eq_decide]; simp only [sumLen]; omega
    rw [rep_fits_L0_s, bif_f (by omega), hd]
    cases decide (c = 0) <;> rfl
  | p :: suf, pre, s, k0 + 1, hk, he, hs => by
    have hll : l.length = pre.length + suf.length + 1 := by rw [he]; exact mid_len pre suf p
    have hpm : p ∈ l := by rw [he]; simp
    have hg : ∀ F : AV → Option AV, ((prs l)[pre.length]?).bind F = F (elPair p) := fun F => by rw [he]; exact prs_mid _ _ _ _
    have hp := hb p hpm
    have hLp := hL p hpm
    rw [rep_fits_L0_s, bif_t (by omega), prs_len, inb (by omega), cond_true, Int.toNat_natCast, hg, cells_pair, p_0, p_1]
    by_cases hgt : s > 65536
    · have hd : decide (s + sumLen (p :: suf) ≤ 65536) = false := decide_eq_false (by omega)
      have hd2 : decide (((s : Nat) : Int) ≤ 65536) = false := decide_eq_false (by omega)
      rw [bif_t (by omega), hd, hd2]
      cases decide (c = 0) <;> rfl
    · have hw : IntKind.wrap .i64 (((s : Nat) : Int) + ((lenP p : Nat) : Int)) = ((s + lenP p : Nat) : Int) := by rw [i64w (by omega)]; omega
      have ih := fits_loop kap c l hl hb hL suf (pre ++ [p]) (s + lenP p) k0 (by simpa using hk) (by rw [he]; simp) (by omega)
      rw [List.length_append, List.length_singleton] at ih
      have hsum : s + lenP p + sumLen suf = s + sumLen (p :: suf) := by simp only [sumLen]; omega
      rw [bif_f (by omega), hLp, callI_ok, hw, wrap1 (by omega), ih, hsum]
theorem len_bd {p : Pair} (h : p.key.length ≤ 1000000 ∧ p.val.length ≤ 1000000) : lenP p ≤ 3000000 := by
  have h1 := (lenP_facts p h.1 h.2).2.1
  have h2 : restP p = p.key.length + p.val.length + 3 := rfl
  omega
theorem fits_k [HasRec E] (h : Head) (ho : OkHd h) (hk : 1000000 < k) : kp E k (n + 2) rep_fits [.agg (encHead h)] = some (.bool (fitsB h)) := by
  have e1 := HasRec.recs (E := E) k (n + 1) h ho
  obtain ⟨hb, hl⟩ := recA_bd ho
  have e2 := fits_loop (k := k) (kp E k (n + 1)) (recA h).2 (recA h).1 (by omega) (fun p hp => len_bd (hb p hp)) (fun p hp => paxLen_k (n := n) p (hb p hp).1 (hb p hp).2 (by omega)) (recA h).1 [] 0 k (by omega) rfl (by omega)
  unfold encHead at e1 ⊢
  rw [rep_fits_eq, e1, callT_ok, tupL_ok, tupI_ok, atNil_ok, prs_len]
  refine e2.trans ?_
  unfold fitsB
  rw [Nat.zero_add]
end Go.Proofs.YtbkhmkcmbaffoaaGreatDoor.Eng.U


/- The records by the definition; what fits; the first field that can't be told; the program's own answers. -/
set_option linter.unusedVariables false
set_option linter.unusedSectionVars false
set_option linter.unusedSimpArgs false
namespace Go.Proofs.YtbkhmkcmbaffoaaGreatDoor.Eng.U
open Go Go.RowKit Go.Proofs Go.Proofs.YtbkhmkcmbaffoaaGreatDoor.Eng Go.Proofs.YtbkhmkcmbaffoaaGreatDoor.S11 Go.Proofs.YtbkhmkcmbaffoaaGreatDoor.P04
variable {E : Ext} [Core E] [HasNum E] [HasTextV E] {k n : Nat}

def canX (d : Int) (h : Head) (f : Int) : Bool := canF d h f (fitsB h)
/-! The first field that can't be told. -/
def fgo (c : Int → Bool) : Nat → Int → Int
  | 0, i => 0
  | m + 1, i => bif c i then fgo c m (i + 1) else i
def firstF (c : Int → Bool) : Int := fgo c 14 1
/-! The program's own answers. -/
theorem repCan_X [HasRec E] (d : Int) (h : Head) (f : Int) (ho : OkHd h) (hk : 1000000 < k) : kp E k (n + 8) rep_can [.int .i64 d, .agg (encHead h), .int .i64 f] = some (.bool (canX d h f)) :=
  can_k d h f (fitsB h) ho.bd.1 ho.bd.2.1 ho.bd.2.2.1 ho.bd.2.2.2.1 hk fun _ _ => fits_k (n := n + 5) h ho hk
def diaB (d : Int) : Bool := decide (1 ≤ d) && decide (d ≤ 4)
theorem dia_k (d : Int) : kp E k (n + 1) rep_Dialect [.int .i64 d] = some (.bool (diaB d)) := by
  rw [rep_Dialect_eq]
  unfold diaB
  by_cases h1 : 1 ≤ d
  · rw [bif_t h1, decide_eq_true h1, Bool.true_and]
  · rw [bif_f h1, decide_eq_false h1]; rfl
theorem repFirst_loop (kap : FuncId → List AV → Option AV) (d : Int) (h : Head) (hC : ∀ f, kap rep_can [.int .i64 d, .agg (encHead h), .int .i64 f] = some (.bool (canX d h f))) : ∀ (m : Nat) (i : Int) (k0 : Nat), m < k0 → 1 ≤ i → i + (m : Int) = 15 →
    rep_First_L0 kap k k0 d i h.kind (str h.name) (str h.link) h.mode h.uid h.gid h.size h.sec h.nano (str h.user) (str h.group) h.major h.minor (prs h.extra) = some (.tup [.int .i64 (fgo (canX d h) m i), .int .u8 0])
  | 0, i, k0 + 1, hk, h1, h2 => by
    rw [rep_First_L0_s, bif_f (by omega)]
    rfl
  | m + 1, i, k0 + 1, hk, h1, h2 => by
    have ih := repFirst_loop kap d h hC m (i + 1) k0 (by omega) (by omega) (by omega)
    have hc := hC i
    unfold encHead at hc
    rw [rep_First_L0_s, bif_t (by omega), hc, callB_ok, i64w (by omega)]
    unfold fgo
    cases canX d h i with
    | true => exact ih
    | false => rfl
theorem repFirst_k [HasRec E] (d : Int) (h : Head) (ho : OkHd h) (hk : 1000000 < k) : kp E k (n + 9) rep_First [.int .i64 d, .agg (encHead h)] = some (.tup (bif !diaB d then [.int .i64 0, .int .u8 2] else bif !decide (wrongH h = 0) then [.int .i64 0, .int .u8 15] else [.int .i64 (firstF (canX d h)), .int .u8 0])) := by
  have e := repFirst_loop (k := k) (kp E k (n + 8)) d h (fun f => repCan_X d h f ho hk) 14 1 k (by omega) (by omega) (by omega)
  have e2 := wrong_kv (E := E) (k := k) (n := n) h ho.bd hk
  unfold encHead at e2 ⊢
  rw [rep_First_eq, dia_k, callB_ok, e2, callI_ok]
  cases diaB d with
  | false => rfl
  | true =>
    cases decide (wrongH h = 0) with
    | false => rfl
    | true => exact e
end Go.Proofs.YtbkhmkcmbaffoaaGreatDoor.Eng.U


/- Records of a right head: an overlay; what Ustar can tell Pax can. In plain words. -/
set_option linter.unusedVariables false
set_option linter.unusedSectionVars false
set_option linter.unusedSimpArgs false
namespace Go.Proofs.YtbkhmkcmbaffoaaGreatDoor.Eng.U
open Go Go.RowKit Go.Proofs Go.Proofs.YtbkhmkcmbaffoaaGreatDoor.Eng Go.Lib Go.Proofs.YtbkhmkcmbaffoaaGreatDoor.S11 Go.Proofs.YtbkhmkcmbaffoaaGreatDoor.P04

/-! Texts that are right stay right with more bytes below 128. -/
theorem decN_ext {n n' b0 b1 b2 b3 c1 c2 c3 : Nat} (h : decodeN n b0 b1 b2 b3 ≠ (65533, 1)) (hn : n ≤ n') (e1 : 1 < n → c1 = b1) (e2 : 2 < n → c2 = b2) (e3 : 3 < n → c3 = b3) : decodeN n' b0 c1 c2 c3 = decodeN n b0 b1 b2 b3 := by
  unfold decodeN at *
  by_cases h0 : b0 < 128
  · rw [if_pos h0, if_pos h0]
  rw [if_neg h0] at h
  rw [if_neg h0, if_neg h0]
  by_cases hA : b0 / 32 = 6 ∧ (1 < n ∧ b1 / 64 = 2)
  · have := e1 hA.2.1
    subst this
    rw [if_pos hA, if_pos ⟨hA.1, by omega, hA.2.2⟩]
  rw [if_neg hA] at h
  rw [if_neg hA]
  by_cases hB : b0 / 16 = 14 ∧ (1 < n ∧ b1 / 64 = 2) ∧ (2 < n ∧ b2 / 64 = 2)
  · have q1 := e1 hB.2.1.1
    have q2 := e2 hB.2.2.1
    subst q1 q2
    rw [if_pos hB, if_neg (by omega), if_pos ⟨hB.1, ⟨by omega, hB.2.1.2⟩, by omega, hB.2.2.2⟩]
  rw [if_neg hB] at h
  rw [if_neg hB]
  by_cases hC : b0 / 8 = 30 ∧ (1 < n ∧ b1 / 64 = 2) ∧ (2 < n ∧ b2 / 64 = 2) ∧ (3 < n ∧ b3 / 64 = 2)
  · have q1 := e1 hC.2.1.1
    have q2 := e2 hC.2.2.1.1
    have q3 := e3 hC.2.2.2.1
    subst q1 q2 q3
    rw [if_pos hC, if_neg (by omega), if_neg (by omega), if_pos ⟨hC.1, ⟨by omega, hC.2.1.2⟩, ⟨by omega, hC.2.2.1.2⟩, by omega, hC.2.2.2.2⟩]
  · rw [if_neg hC] at h
    exact absurd rfl h
theorem decN_asc {n b0 b1 b2 b3 : Nat} (h : b0 < 128) : decodeN n b0 b1 b2 b3 = (b0, 1) := by unfold decodeN; rw [if_pos h]
theorem by_app {a l : Tx} {i : Nat} (h : i < a.length) : by_ (str (a ++ l)) i = by_ (str a) i := by
  show ((a ++ l).getD i 0).toNat = (a.getD i 0).toNat
  rw [List.getD_eq_getElem?_getD, List.getD_eq_getElem?_getD, List.getElem?_append_left h]
theorem by_right {a l : Tx} {i : Nat} (h : a.length ≤ i) : by_ (str (a ++ l)) i = by_ (str l) (i - a.length) := by
  show ((a ++ l).getD i 0).toNat = (l.getD (i - a.length) 0).toNat
  rw [List.getD_eq_getElem?_getD, List.getD_eq_getElem?_getD, List.getElem?_append_right h]
theorem first_asc (s : ByteArray) : ∀ (m pos : Nat), (∀ i, pos ≤ i → i < s.size → by_ s i < 128) → firstL s m pos = -1
  | 0, pos, h => rfl
  | m + 1, pos, h => by
    unfold firstL
    by_cases hp : pos < s.size
    · have hd : Utf8.decode s pos = (by_ s pos, 1) := by rw [decode_at, get_by, decN_asc (h pos (Nat.le_refl _) hp)]
      have hb : ¬ bad s pos := by
        unfold bad
        rw [hd]
        intro e
        have := h pos (Nat.le_refl _) hp
        injection e
        omega
      have hn : nx s pos = pos + 1 := by unfold nx; rw [hd]
      rw [if_pos hp, if_neg hb, hn]
      exact first_asc s m (pos + 1) fun i h1 h2 => h i (by omega) h2
    · rw [if_neg hp]
theorem firstL_ge (s : ByteArray) : ∀ (m pos : Nat), firstL s m pos < 0 → firstL s m pos = -1
  | 0, pos, h => rfl
  | m + 1, pos, h => by
    unfold firstL at h ⊢
    by_cases hp : pos < s.size
    · rw [if_pos hp] at h ⊢
      by_cases hb : bad s pos
      · rw [if_pos hb] at h; omega
      · rw [if_neg hb] at h ⊢
        exact firstL_ge s m _ h
    · rw [if_neg hp]
theorem first_app (a l : Tx) (hl : ∀ i, i < l.length → by_ (str l) i < 128) : ∀ (m n pos : Nat), firstL (str a) n pos = -1 → a.length ≤ pos + n → pos ≤ a.length → firstL (str (a ++ l)) m pos = -1
  | 0, n, pos, h, hn, hp => rfl
  | m + 1, n, pos, h, hn, hp => by
    by_cases ha : pos < a.length
    · obtain ⟨n', rfl⟩ : ∃ n', n = n' + 1 := ⟨n - 1, by omega⟩
      have hsz : pos < (str a).size := by rw [str_size]; exact ha
      unfold firstL at h
      rw [if_pos hsz] at h
      by_cases hb : bad (str a) pos
      · rw [if_pos hb] at h; omega
      rw [if_neg hb] at h
      have hd : Utf8.decode (str (a ++ l)) pos = Utf8.decode (str a) pos := by
        rw [decode_at, decode_at]
        simp only [get_by]
        have hb' : decodeN ((str a).size - pos) (by_ (str a) pos) (by_ (str a) (pos + 1)) (by_ (str a) (pos + 2)) (by_ (str a) (pos + 3)) ≠ (65533, 1) := fun e => hb (by unfold bad; rw [decode_at]; simp only [get_by]; exact e)
        have hsa : (str a).size = a.length := str_size a
        have hsb : (str (a ++ l)).size = a.length + l.length := by rw [str_size, List.length_append]
        rw [by_app ha]
        exact decN_ext hb' (by omega) (fun h1 => by_app (by omega)) (fun h1 => by_app (by omega)) (fun h1 => by_app (by omega))
      have hnx : nx (str (a ++ l)) pos = nx (str a) pos := by unfold nx; rw [hd]
      have hb2 : ¬ bad (str (a ++ l)) pos := by unfold bad; rw [hd]; exact hb
      have hin := decode_in (str a) pos hsz
      have hgt := nx_gt (str a) pos
      rw [str_size] at hin
      unfold firstL
      rw [if_pos (by rw [str_size, List.length_append]; omega), if_neg hb2, hnx]
      exact first_app a l hl m n' (nx (str a) pos) h (by omega) hin
    · refine first_asc _ _ _ fun i h1 h2 => ?_
      rw [str_size, List.length_append] at h2
      rw [by_right (by omega)]
      exact hl _ (by omega)
def ascB (l : Tx) : Bool := l.all fun c => decide (c.toNat < 128)
theorem asc_by {l : Tx} (h : ascB l = true) (i : Nat) (hi : i < l.length) : by_ (str l) i < 128 := by
  unfold ascB at h
  rw [List.all_eq_true] at h
  have e : by_ (str l) i = (l[i]).toNat := by
    show (l.getD i 0).toNat = _
    rw [List.getD_eq_getElem?_getD, List.getElem?_eq_getElem hi]; rfl
  rw [e]
  exact of_decide_eq_true (h _ (List.getElem_mem hi))
theorem utf_asc {l : Tx} (h : ascB l = true) : utfOk l = true := by
  unfold utfOk first
  rw [first_asc _ _ _ fun i _ hi => asc_by h i (by rwa [str_size] at hi)]
  rfl
theorem utf_app {a l : Tx} (ha : utfOk a = true) (hl : ascB l = true) : utfOk (a ++ l) = true := by
  unfold utfOk first at ha ⊢
  have h1 := firstL_ge _ _ _ (of_decide_eq_true ha)
  rw [first_app a l (fun i hi => asc_by hl i hi) _ _ 0 h1 (by rw [str_size]; omega) (by omega)]
  rfl
theorem asc_dig {l : Tx} (h : l.all isDig = true) : ascB l = true := by
  unfold ascB
  rw [List.all_eq_true] at h ⊢
  intro c hc
  have := h c hc
  unfold isDig at this
  simp only [Bool.and_eq_true, decide_eq_true_eq] at this ⊢
  omega
theorem asc_app {a b : Tx} (ha : ascB a = true) (hb : ascB b = true) : ascB (a ++ b) = true := by
  unfold ascB at *
  rw [List.all_append, ha, hb]
  rfl
theorem asc_dec (u : Nat) : ascB (Lib.decDigits u) = true := asc_dig (dec_facts u).1
theorem asc_itoa (v : Int) : ascB (Lib.itoa v) = true := by
  unfold Lib.itoa
  split
  · exact asc_app (a := [45]) (by decide) (asc_dec _)
  · exact asc_dec _
theorem asc_loop {m : Nat} (h0 : 0 < m) (h : m < 1000000000) : ascB (loopP 9 m) = true := by
  have := (loop_facts m h0 h).1
  unfold digs at this
  rw [Bool.and_eq_true] at this
  exact asc_dig this.1
theorem asc_print (s t : Int) (h0 : 0 ≤ t) (h1 : t < 1000000000) : ascB (printL s t) = true := by
  unfold printL
  split
  · exact asc_itoa s
  · have h46 : ascB [46] = true := by decide
    have h45 : ascB [45] = true := by decide
    split
    · have hl := asc_loop (m := (1000000000 - t).toNat) (by omega) (by omega)
      have hd := asc_dec (-(s + 1)).toNat
      first
      | exact asc_app (asc_app h45 hd) (asc_app h46 hl)
      | (unfold ascB at *; simp only [List.all_append, List.all_cons, List.cons_append, hl, hd] at *; simp_all)
    · have hl := asc_loop (m := t.toNat) (by omega) (by omega)
      have hd := asc_dec s.toNat
      first
      | exact asc_app hd (asc_app h46 hl)
      | (unfold ascB at *; simp only [List.all_append, List.all_cons, List.cons_append, hl, hd] at *; simp_all)
theorem num_itoa {v : Int} (h0 : 0 ≤ v) (h1 : v ≤ 9223372036854775807) : numOk (Lib.itoa v) = true := by
  obtain ⟨u, rfl⟩ := Int.eq_ofNat_of_zero_le h0
  unfold numOk
  rw [Lib.itoa_nonneg, dec_natOk u (by omega), (dec_facts u).2.1, Bool.true_and]
  exact decide_eq_true (by omega)
/-! The pairs. -/
theorem pair_text {key val : Tx} (hk : utfOk key = true) (hn : noEq key = true) (he : key ≠ []) (h0 : 0 ≤ whichL key) (h4 : whichL key < 4) (hu : utfOk val = true) (hc : clean val = true) : pairOk ⟨key, val⟩ = true := by
  unfold pairOk valR
  simp only [hk, hn, hu, Bool.true_and, decide_eq_true he]
  by_cases hv : val = []
  · rw [if_pos hv]
  · rw [if_neg hv, if_neg (by omega), if_pos h4, hc]
theorem pair_num {key val : Tx} (hk : utfOk key = true) (hn : noEq key = true) (he : key ≠ []) (h0 : 4 ≤ whichL key) (h4 : whichL key < 7) (hu : utfOk val = true) (hc : numOk val = true) : pairOk ⟨key, val⟩ = true := by
  unfold pairOk valR
  simp only [hk, hn, hu, Bool.true_and, decide_eq_true he]
  by_cases hv : val = []
  · rw [if_pos hv]
  · rw [if_neg hv, if_neg (by omega), if_neg (by omega), if_pos h4, hc]
theorem pair_time {key val : Tx} (hk : utfOk key = true) (hn : noEq key = true) (he : key ≠ []) (h0 : 7 ≤ whichL key) (hu : utfOk val = true) (hc : (timeL val).isSome = true) : pairOk ⟨key, val⟩ = true := by
  unfold pairOk valR
  simp only [hk, hn, hu, Bool.true_and, decide_eq_true he]
  by_cases hv : val = []
  · rw [if_pos hv]
  · rw [if_neg hv, if_neg (by omega), if_neg (by omega), if_neg (by omega), hc]
theorem clean_app {a b : Tx} (ha : clean a = true) (hb : clean b = true) : clean (a ++ b) = true := by
  unfold clean at *
  rw [List.all_append, ha, hb]
  rfl
theorem text_23 {s : Tx} {m : Nat} (h3 : textB 3 s m = true) (h2 : textB 2 s m = false) : utfOk s = true := by
  unfold textB at h3 h2
  by_cases hm : s.length ≤ m
  · rw [decide_eq_true hm] at h2; cases h2
  · rw [decide_eq_false hm] at h3; exact h3
theorem rec_ok {h : Head} (hr : RightH h) (ho : OkHd h) (ht : texts3 h = true) : overOk (recsL h) = true := by
  unfold overOk recsL
  rw [lay_okst, Bool.true_and, List.all_eq_true]
  intro q hq
  have hq := mem_layAll hq
  unfold texts3 at ht
  simp only [Bool.and_eq_true] at ht
  obtain ⟨⟨⟨t2, t3⟩, t9⟩, t10⟩ := ht
  have h13 := hr.a13
  unfold f13 overOk at h13
  simp only [Bool.and_eq_true, List.all_eq_true] at h13
  have hname : nameOk h.name = true := by
    have := hr.a2
    unfold f2 at this
    rw [Bool.and_eq_true] at this
    exact this.1
  have hcn : clean h.name = true := by
    unfold nameOk at hname
    simp only [Bool.and_eq_true] at hname
    exact hname.2.2
  have hcl : clean h.link = true := by
    have := hr.a3
    unfold f3 at this
    cases hl : links h with
    | true =>
      rw [hl, cond_true] at this
      unfold nameOk at this
      simp only [Bool.and_eq_true] at this
      exact this.2.2
    | false =>
      rw [hl, cond_false, decide_eq_true_eq] at this
      rw [this]; rfl
  have hcu : clean h.user = true := by
    have := hr.a9
    unfold f9 plainOk at this
    simp only [Bool.and_eq_true] at this
    exact this.2
  have hcg : clean h.group = true := by
    have := hr.a10
    unfold f10 plainOk at this
    simp only [Bool.and_eq_true] at this
    exact this.2
  have h5 : 0 ≤ h.uid := of_decide_eq_true hr.a5
  have h6 : 0 ≤ h.gid := of_decide_eq_true hr.a6
  have h7 : 0 ≤ h.size := by
    have := hr.a7
    unfold f7 at this
    simp only [Bool.or_eq_true, Bool.and_eq_true, decide_eq_true_eq] at this
    omega
  have h8 : rightT h.nano = true := hr.a8
  have h8' := h8
  unfold rightT at h8'
  simp only [Bool.and_eq_true, decide_eq_true_eq] at h8'
  unfold rawH rawL at hq
  simp only [addP_opt, List.mem_append] at hq
  rcases hq with (((((((hq | hq) | hq) | hq) | hq) | hq) | hq) | hq) | hq
  · exact h13.1.2 q hq
  · rw [opt_mem hq]
    cases hc : canB 2 h 2 with
    | true => rw [hc] at hq; exact absurd hq (by simp [optP])
    | false =>
      have e3 : (fullO 3 h).isSome = true := t2
      have e2 : (fullO 2 h).isSome = false := hc
      rw [full_23, e2, Bool.false_or] at e3
      refine pair_text (utf_asc (by decide)) (by decide) (by decide) (by decide) (by decide) ?_ ?_
      · unfold fulls
        split
        · split
          · exact utf_app e3 (by decide)
          · exact e3
        · exact e3
      · unfold fulls
        split
        · split
          · exact clean_app hcn (by decide)
          · exact hcn
        · exact hcn
  · rw [opt_mem hq]
    cases hc : canB 2 h 3 with
    | true => rw [hc] at hq; exact absurd hq (by simp [optP])
    | false => exact pair_text (utf_asc (by decide)) (by decide) (by decide) (by decide) (by decide) (text_23 (m := 100) t3 hc) hcl
  · rw [opt_mem hq]
    exact pair_num (utf_asc (by decide)) (by decide) (by decide) (by decide) (by decide) (utf_asc (asc_itoa _)) (num_itoa h5 ho.uid.2)
  · rw [opt_mem hq]
    exact pair_num (utf_asc (by decide)) (by decide) (by decide) (by decide) (by decide) (utf_asc (asc_itoa _)) (num_itoa h6 ho.gid.2)
  · rw [opt_mem hq]
    exact pair_num (utf_asc (by decide)) (by decide) (by decide) (by decide) (by decide) (utf_asc (asc_itoa _)) (num_itoa h7 ho.size.2)
  · rw [opt_mem hq, h8]
    exact pair_time (utf_asc (by decide)) (by decide) (by decide) (by decide) (utf_asc (asc_print _ _ h8'.1 h8'.2)) (by rw [cond_true, time_print _ _ ho.sec h8']; rfl)
  · rw [opt_mem hq]
    cases hc : canB 2 h 9 with
    | true => rw [hc] at hq; exact absurd hq (by simp [optP])
    | false => exact pair_text (utf_asc (by decide)) (by decide) (by decide) (by decide) (by decide) (text_23 (m := 32) t9 hc) hcu
  · rw [opt_mem hq]
    cases hc : canB 2 h 10 with
    | true => rw [hc] at hq; exact absurd hq (by simp [optP])
    | false => exact pair_text (utf_asc (by decide)) (by decide) (by decide) (by decide) (by decide) (text_23 (m := 32) t10 hc) hcg
/-! What Ustar can tell. -/
end Go.Proofs.YtbkhmkcmbaffoaaGreatDoor.Eng.U


/- RepFields, RepRecords, RepOrder are true. -/
set_option linter.unusedVariables false
set_option linter.unusedSectionVars false
set_option linter.unusedSimpArgs false
namespace Go.Proofs.YtbkhmkcmbaffoaaGreatDoor.Eng.U
open Go Go.RowKit Go.Proofs Go.Proofs.YtbkhmkcmbaffoaaGreatDoor.Eng Go.Proofs.YtbkhmkcmbaffoaaGreatDoor.S11
variable {E : Ext} [Core E] [HasNum E] [HasTextV E] {k n : Nat}

theorem many11_loop (kap : FuncId → List AV → Option AV) (h : Head) : ∀ (suf pre : List Pair) (k0 : Nat) (s : Int), suf.length < k0 → h.extra = pre ++ suf → h.extra.length < 1000000000000000 →
    law11_many_L0 kap k k0 s ((pre.length : Nat) : Int) h.kind (str h.name) (str h.link) h.mode h.uid h.gid h.size h.sec h.nano (str h.user) (str h.group) h.major h.minor (prs h.extra) = some (.bool (decide (manyW s suf > 300000) || decide (40 < h.extra.length)))
  | [], pre, k0 + 1, s, hk, he, hb => by
    have hll : h.extra.length = pre.length := by rw [he]; simp
    rw [law11_many_L0_s, prs_len, bif_f (by omega)]
    unfold manyW
    by_cases h1 : s > 300000
    · rw [bif_t h1, decide_eq_true h1]; rfl
    · rw [bif_f h1, decide_eq_false h1, Bool.false_or]
      congr 2
      rw [decide_eq_decide]
      omega
  | p :: suf, pre, k0 + 1, s, hk, he, hb => by
    have hll : h.extra.length = pre.length + suf.length + 1 := by rw [he]; exact mid_len pre suf p
    have hg : ∀ F : AV → Option AV, ((prs h.extra)[pre.length]?).bind F = F (elPair p) := fun F => by rw [he]; exact prs_mid _ _ _ _
    have ih := many11_loop kap h suf (pre ++ [p]) k0 (IntKind.wrap .i64 (IntKind.wrap .i64 (s + ((p.key.length : Nat) : Int)) + ((p.val.length : Nat) : Int))) (by simpa using hk) (by rw [he]; simp) hb
    rw [List.length_append, List.length_singleton] at ih
    rw [law11_many_L0_s, prs_len, bif_t (by omega), inb (by omega), cond_true, Int.toNat_natCast, hg, cells_pair, p_0, cond_true, hg, cells_pair, p_1, str_size, str_size, wrap1 (by omega)]
    exact ih
def many11B (h : Head) : Bool := decide (manyW (((h.name.length + h.link.length + h.user.length + h.group.length : Nat)) : Int) h.extra > 300000) || decide (40 < h.extra.length)
theorem many11_k (h : Head) (g : G_apiHead h) (hk : 10000000000000 ≤ k) : kp E k (n + 1) law11_many [.agg (encHead h)] = some (.bool (many11B h)) := by
  have g1 := g.name
  have g2 := g.link
  have g3 := g.user
  have g4 := g.group
  have g5 := g.extra
  unfold encHead
  rw [law11_many_eq]
  have := many11_loop (k := k) (kp E k n) h h.extra [] k (((h.name.length + h.link.length + h.user.length + h.group.length : Nat)) : Int) (by omega) rfl (by omega)
  rw [str_size, str_size, str_size, str_size, wrapP (by omega) (by omega), wrapP (by omega) (by omega), wrapP (by omega) (by omega)]
  exact this
theorem ok_of (h : Head) (g : G_apiHead h) (hm : many11B h = false) : OkHd h := by
  have g1 := g.name
  have g2 := g.link
  have g3 := g.user
  have g4 := g.group
  have g5 := g.extra
  unfold many11B at hm
  rw [Bool.or_eq_false_iff, decide_eq_false_iff_not, decide_eq_false_iff_not] at hm
  obtain ⟨h1, h2⟩ := manyW_few _ rfl h.extra (((h.name.length + h.link.length + h.user.length + h.group.length : Nat)) : Int) (fun p hp => ⟨(g.pairs p hp).key, (g.pairs p hp).val⟩) (by omega) (by omega)
  refine ⟨⟨by omega, by omega, by omega, by omega, by omega, fun p hp => ?_⟩, by omega, g.uid, g.gid, g.size, g.sec⟩
  have := h2 p hp
  omega
def hA : Head := ⟨7, [97], [], 0, 0, 0, 0, 0, 0, [], [], 0, 0, []⟩
theorem okA : OkHd hA := okHd_iff.1 (by decide)
theorem wrongA : wrongH hA = 0 := right_wrong ⟨rfl, by rfl, rfl, rfl, rfl, rfl, rfl, rfl, rfl, rfl, rfl, rfl, by rfl⟩
theorem alive11 [HasRec E] (hk : 1000000 < k) : kp E k (n + 10) law11_alive [] = some (.bool true) := by
  have e1 := repFirst_k (E := E) (k := k) (n := n) 1 hA okA hk
  have e4 := repFirst_k (E := E) (k := k) (n := n) 4 hA okA hk
  have hn : (decide (wrongH hA = 0)) = true := decide_eq_true wrongA
  have f1 : firstF (canX 1 hA) = 1 := rfl
  have f4 : firstF (canX 4 hA) = 0 := rfl
  rw [hn, f1] at e1
  rw [hn, f4] at e4
  rw [law11_alive_eq]
  have q1 : kp E k (n + 9) rep_First [(.int .i64 (1 : Int)), (.agg [(.int .i64 (7 : Int)), (.str (str [97])), (.str (str [])), (.int .i64 (0 : Int)), (.int .i64 (0 : Int)), (.int .i64 (0 : Int)), (.int .i64 (0 : Int)), (.int .i64 (0 : Int)), (.int .i64 (0 : Int)), (.str (str [])), (.str (str [])), (.int .i64 (0 : Int)), (.int .i64 (0 : Int)), (.list 2 [])])] = some (.tup [.int .i64 1, .int .u8 0]) := e1
  have q4 : kp E k (n + 9) rep_First [(.int .i64 (4 : Int)), (.agg [(.int .i64 (7 : Int)), (.str (str [97])), (.str (str [])), (.int .i64 (0 : Int)), (.int .i64 (0 : Int)), (.int .i64 (0 : Int)), (.int .i64 (0 : Int)), (.int .i64 (0 : Int)), (.int .i64 (0 : Int)), (.str (str [])), (.str (str [])), (.int .i64 (0 : Int)), (.int .i64 (0 : Int)), (.list 2 [])])] = some (.tup [.int .i64 0, .int .u8 0]) := e4
  rw [q1, q4]
  rfl
end Go.Proofs.YtbkhmkcmbaffoaaGreatDoor.Eng.U


/- Overlays, the program's side: laid one by one; what is said of a head, both sides. -/
set_option linter.unusedVariables false
set_option linter.unusedSectionVars false
set_option linter.unusedSimpArgs false
namespace Go.Proofs.YtbkhmkcmbaffoaaGreatDoor.Eng.U
open Go Go.Proofs Go.Proofs.YtbkhmkcmbaffoaaGreatDoor.Eng Go.Proofs.YtbkhmkcmbaffoaaGreatDoor.P04
variable {E : Ext} [Core E] {k n : Nat}

class HasIns (E : Ext) : Prop where
  cmp : ∀ (k n : Nat) (a b : Tx), kp E k n strings_Compare [.str (str a), .str (str b)] = some (.int .i64 (Lib.compareBytes a b))
section
variable [HasIns E]
end
/-! What pairs say of a head. -/
def numV (s : Tx) : Int := if (natOk s && decide (valA 0 s ≤ 9223372036854775807)) = true then (valA 0 s : Int) else 0
def timV (s : Tx) : Int × Int := (timeL s).getD (0, 0)
def sayH (h : Head) (p : Pair) : Head :=
  if whichL p.key = 0 then { h with name := p.val } else if whichL p.key = 1 then { h with link := p.val } else if whichL p.key = 2 then { h with user := p.val } else if whichL p.key = 3 then { h with group := p.val }
  else if whichL p.key = 4 then { h with uid := numV p.val } else if whichL p.key = 5 then { h with gid := numV p.val } else if whichL p.key = 6 then { h with size := numV p.val }
  else if whichL p.key = 7 then { h with sec := (timV p.val).1, nano := (timV p.val).2 } else { h with extra := h.extra ++ [p] }
def applyL (h : Head) (l : List Pair) : Head := l.foldl sayH { h with extra := [] }
theorem say_k [HasNum E] (h : Head) (p : Pair) (hp : p.val.length ≤ 1000000) (hk : 1000000 < k) (hw : 0 ≤ whichL p.key) :
    kp E k (n + 4) over_say [.lent [.int .i64 h.kind, .str (str h.name), .str (str h.link), .int .i64 h.mode, .int .i64 h.uid, .int .i64 h.gid, .int .i64 h.size, .int .i64 h.sec, .int .i64 h.nano, .str (str h.user), .str (str h.group), .int .i64 h.major, .int .i64 h.minor, .hold], .agg [.str (str p.key), .str (str p.val)]] =
      some (.lback (.tup []) [.lent [.int .i64 (sayH h p).kind, .str (str (sayH h p).name), .str (str (sayH h p).link), .int .i64 (sayH h p).mode, .int .i64 (sayH h p).uid, .int .i64 (sayH h p).gid, .int .i64 (sayH h p).size, .int .i64 (sayH h p).sec, .int .i64 (sayH h p).nano, .str (str (sayH h p).user), .str (str (sayH h p).group), .int .i64 (sayH h p).major, .int .i64 (sayH h p).minor, .hold]]) := by
  have hN : ∀ K : List AV → Option AV, callT (kp E k (n + 3) dec_Number [.str (str p.val)]) K = K [.int .i64 (numV p.val), .int .u8 (if (natOk p.val && decide (valA 0 p.val ≤ 9223372036854775807)) = true then 0 else 15)] := fun K => by
    rw [number_k p.val (by omega) (by omega)]
    unfold numV
    cases natOk p.val && decide (valA 0 p.val ≤ 9223372036854775807) <;> rfl
  have hT : ∀ K : List AV → Option AV, ∃ z : Int, callT (kp E k (n + 3) dec_Time [.str (str p.val)]) K = K [.agg [.int .i64 (timV p.val).1, .int .i64 (timV p.val).2], .int .u8 z] := fun K => by
    rw [time_k p.val (by omega) (by omega)]
    unfold timV
    cases timeL p.val with
    | none => exact ⟨15, rfl⟩
    | some x => exact ⟨0, rfl⟩
  rw [over_say_eq, is_path, is_linkpath, is_uname, is_gname, is_uid, is_gid, is_size, is_mtime]
  have hlt := which_lt p.key
  unfold sayH
  generalize whichL p.key = w at hw hlt
  have : w = 0 ∨ w = 1 ∨ w = 2 ∨ w = 3 ∨ w = 4 ∨ w = 5 ∨ w = 6 ∨ w = 7 := by omega
  rcases this with rfl | rfl | rfl | rfl | rfl | rfl | rfl | rfl
  · rfl
  · rfl
  · rfl
  · rfl
  · simp only [hN]; rfl
  · simp only [hN]; rfl
  · simp only [hN]; rfl
  · obtain ⟨z, hz⟩ := hT (fun vt20 => (tupG 2 vt20 fun vg21 vt22 => (cellI .i64 vg21 0 fun vn23 => (cellI .i64 vg21 1 fun vn24 => (tupI .u8 vt22 fun vn25 vt26 => (atNil vt26 (some (.lback (.tup []) [(.lent [(.int .i64 h.kind), (.str (str h.name)), (.str (str h.link)), (.int .i64 h.mode), (.int .i64 h.uid), (.int .i64 h.gid), (.int .i64 h.size), (.int .i64 vn23), (.int .i64 vn24), (.str (str h.user)), (.str (str h.group)), (.int .i64 h.major), (.int .i64 h.minor), .hold])]))))))))
    exact hz
theorem prs_sn (a : List Pair) (p : Pair) : prs a ++ [.agg [.str (str p.key), .str (str p.val)]] = prs (a ++ [p]) := by simp [prs, elPair, encPair]
theorem apply_loop (kap : FuncId → List AV → Option AV) (l : List Pair) (hl : l.length ≤ 100000) (hK : ∀ s : Tx, kap pax_Known [.str (str s)] = some (.bool (decide (0 ≤ whichL s))))
    (hS : ∀ (h : Head) (p : Pair), p ∈ l → 0 ≤ whichL p.key → kap over_say [.lent [.int .i64 h.kind, .str (str h.name), .str (str h.link), .int .i64 h.mode, .int .i64 h.uid, .int .i64 h.gid, .int .i64 h.size, .int .i64 h.sec, .int .i64 h.nano, .str (str h.user), .str (str h.group), .int .i64 h.major, .int .i64 h.minor, .hold], .agg [.str (str p.key), .str (str p.val)]] =
      some (.lback (.tup []) [.lent [.int .i64 (sayH h p).kind, .str (str (sayH h p).name), .str (str (sayH h p).link), .int .i64 (sayH h p).mode, .int .i64 (sayH h p).uid, .int .i64 (sayH h p).gid, .int .i64 (sayH h p).size, .int .i64 (sayH h p).sec, .int .i64 (sayH h p).nano, .str (str (sayH h p).user), .str (str (sayH h p).group), .int .i64 (sayH h p).major, .int .i64 (sayH h p).minor, .hold]]))
    (c0 c3 c4 c5 c6 c7 c8 c11 c12 : Int) (c1 c2 c9 c10 : ByteArray) (y : List AV) : ∀ (suf pre : List Pair) (h : Head) (k0 : Nat), suf.length < k0 → pre ++ suf = l → h.extra.length + suf.length ≤ 100000 →
    over_Apply_L0 kap k k0 (prs l) ((l.length : Nat) : Int) ((pre.length : Nat) : Int) h.kind (str h.name) (str h.link) h.mode h.uid h.gid h.size h.sec h.nano (str h.user) (str h.group) h.major h.minor c0 c1 c2 c3 c4 c5 c6 c7 c8 c9 c10 c11 c12 (prs h.extra) y = some (.tup [.agg (encHead (suf.foldl sayH h)), .int .u8 0])
  | [], pre, h, k0 + 1, hk, he, hx => by
    rw [List.append_nil] at he
    subst he
    rw [over_Apply_L0_s, bif_f (by omega)]
    rfl
  | p :: suf, pre, h, k0 + 1, hk, he, hx => by
    have hi : pre.length < l.length := by rw [← he]; simp
    have hmm : ∀ F : AV → Option AV, ((prs l)[pre.length]?).bind F = F (elPair p) := fun F => by rw [← he]; exact prs_mid pre suf p F
    rw [List.length_cons] at hk hx
    have ih := fun (g : Head) (hg : g.extra.length ≤ h.extra.length + 1) => apply_loop kap l hl hK hS c0 c3 c4 c5 c6 c7 c8 c11 c12 c1 c2 c9 c10 y suf (pre ++ [p]) g k0 (by omega) (by rw [← he]; simp) (by omega)
    rw [List.length_append, List.length_singleton] at ih
    rw [over_Apply_L0_s, bif_t (by omega), prs_len, bif_a, bif_t (by omega), bif_t (by omega), Int.toNat_natCast, hmm, cells_pair, p_0, p_1, hK, callB_ok, List.foldl_cons, wrap1 (by omega)]
    by_cases hw : 0 ≤ whichL p.key
    · have hex : (sayH h p).extra = h.extra := by
        have hlt := which_lt p.key
        unfold sayH
        generalize whichL p.key = w at hw hlt
        have : w = 0 ∨ w = 1 ∨ w = 2 ∨ w = 3 ∨ w = 4 ∨ w = 5 ∨ w = 6 ∨ w = 7 := by omega
        rcases this with rfl | rfl | rfl | rfl | rfl | rfl | rfl | rfl <;> rfl
      rw [bif_t hw, hS h p (by rw [← he]; simp) hw, callX_ok, nxX_ok, nxI_ok, nxS_ok, nxS_ok, nxI_ok, nxI_ok, nxI_ok, nxI_ok, nxI_ok, nxI_ok, nxS_ok, nxS_ok, nxI_ok, nxI_ok, nxH_ok, atNil_ok, atNil_ok, callT_ok, atNil_ok]
      rw [← hex]
      exact ih (sayH h p) (by rw [hex]; omega)
    · have hs : sayH h p = { h with extra := h.extra ++ [p] } := by
        unfold sayH
        rw [if_neg (by omega), if_neg (by omega), if_neg (by omega), if_neg (by omega), if_neg (by omega), if_neg (by omega), if_neg (by omega), if_neg (by omega)]
      rw [bif_f hw, prs_len, show (decide ((h.extra.length + 1) * 32 ≤ 140737488355328) && decide (h.extra.length + 1 ≤ 9223372036854775807)) = true by simp; omega, cond_true, prs_sn, hs]
      exact ih { h with extra := h.extra ++ [p] } (by simp)
end Go.Proofs.YtbkhmkcmbaffoaaGreatDoor.Eng.U


/- What pairs say of a head: the whole, both sides; two heads that are the same. -/
set_option linter.unusedVariables false
set_option linter.unusedSectionVars false
set_option linter.unusedSimpArgs false
namespace Go.Proofs.YtbkhmkcmbaffoaaGreatDoor.Eng.U
open Go Go.Proofs Go.Proofs.YtbkhmkcmbaffoaaGreatDoor.Eng Go.Proofs.YtbkhmkcmbaffoaaGreatDoor.P04
variable {E : Ext} [Core E] [HasNum E] {k n : Nat}

theorem overApply_k [HasTextV E] (h : Head) (l : List Pair) (hl : l.length ≤ 10000) (hp : ∀ p ∈ l, p.key.length ≤ 1000000 ∧ p.val.length ≤ 1000000) (hk : 1000000 < k) :
    kp E k (n + 7) over_Apply [.agg (encHead h), .list 2 (prs l)] = some (bif overOk l then .tup [.agg (encHead (applyL h l)), .int .u8 0] else .tup [.agg (encHead ⟨0, [], [], 0, 0, 0, 0, 0, 0, [], [], 0, 0, []⟩), .int .u8 15]) := by
  unfold encHead
  rw [over_Apply_eq, overRight_k (n := n) l (by omega) hp hk, callB_ok]
  cases ho : overOk l with
  | false => rfl
  | true =>
    rw [Bool.not_true, cond_false, prs_len]
    exact apply_loop (k := k) (kp E k (n + 6)) l (by omega) (fun s => known_k (n := n + 5) s) (fun h p hm hw => say_k (n := n + 2) h p (hp p hm).2 hk hw) 0 0 0 0 0 0 0 0 0 (str []) (str []) (str []) (str []) [] l [] { h with extra := [] } k (by omega) rfl (by simp; omega)
theorem sameHead_k (a b : Head) (ha : a.extra.length ≤ 1000000) (hk : a.extra.length < k) : kp E k (n + 2) ref08_SameHead [.agg (encHead a), .agg (encHead b)] = some (.bool (decide (a = b))) := by
  unfold encHead
  rw [ref08_SameHead_eq, pSame_k (n := n) a.extra b.extra ha hk, callB_ok, str_dec, str_dec, str_dec, str_dec]
  have e : decide (a = b) = (decide (a.kind = b.kind) && (decide (a.name = b.name) && (decide (a.link = b.link) && (decide (a.mode = b.mode) && (decide (a.uid = b.uid) && (decide (a.gid = b.gid) && (decide (a.size = b.size) && ((decide (a.sec = b.sec) && (decide (a.nano = b.nano) && true)) && (decide (a.user = b.user) && (decide (a.group = b.group) && (decide (a.major = b.major) && (decide (a.minor = b.minor) && decide (a.extra = b.extra))))))))))))) := by
    rw [Bool.eq_iff_iff]
    simp only [Bool.and_eq_true, decide_eq_true_eq, and_true]
    constructor
    · rintro rfl; simp
    · rintro ⟨h1, h2, h3, h4, h5, h6, h7, ⟨h8, h9⟩, h10, h11, h12, h13, h14⟩
      cases a; cases b
      simp only at h1 h2 h3 h4 h5 h6 h7 h8 h9 h10 h11 h12 h13 h14
      subst h1 h2 h3 h4 h5 h6 h7 h8 h9 h10 h11 h12 h13 h14
      rfl
  rw [e]
  generalize decide (a.kind = b.kind) = x1
  generalize decide (a.name = b.name) = x2
  generalize decide (a.link = b.link) = x3
  generalize decide (a.mode = b.mode) = x4
  generalize decide (a.uid = b.uid) = x5
  generalize decide (a.gid = b.gid) = x6
  generalize decide (a.size = b.size) = x7
  generalize (decide (a.sec = b.sec) && (decide (a.nano = b.nano) && true)) = x8
  generalize decide (a.user = b.user) = x9
  generalize decide (a.group = b.group) = x10
  generalize decide (a.major = b.major) = x11
  generalize decide (a.minor = b.minor) = x12
  generalize decide (a.extra = b.extra) = x13
  cases x1
  · rfl
  cases x2
  · rfl
  cases x3
  · rfl
  cases x4
  · rfl
  cases x5
  · rfl
  cases x6
  · rfl
  cases x7
  · rfl
  cases x8
  · rfl
  cases x9
  · rfl
  cases x10
  · rfl
  cases x11
  · rfl
  cases x12
  · rfl
  rfl
end Go.Proofs.YtbkhmkcmbaffoaaGreatDoor.Eng.U


/- Which bytes are records: in plain words. -/
set_option linter.unusedVariables false
set_option linter.unusedSectionVars false
set_option linter.unusedSimpArgs false
namespace Go.Proofs.YtbkhmkcmbaffoaaGreatDoor.Eng.U
open Go Go.Proofs Go.Proofs.YtbkhmkcmbaffoaaGreatDoor.Eng Go.Proofs.YtbkhmkcmbaffoaaGreatDoor.P04

def upto (c : UInt8) (l : Tx) : Tx := l.takeWhile fun x => decide (x ≠ c)
theorem upto_nil (c : UInt8) : upto c [] = [] := rfl
theorem upto_hit (c : UInt8) (l : Tx) : upto c (c :: l) = [] := by simp [upto]
theorem upto_cons {c x : UInt8} (h : x ≠ c) (l : Tx) : upto c (x :: l) = x :: upto c l := by simp [upto, h]
theorem upto_le (c : UInt8) : ∀ l : Tx, (upto c l).length ≤ l.length
  | [] => Nat.le_refl _
  | x :: l => by
    have := upto_le c l
    by_cases h : x = c
    · subst h; rw [upto_hit]; simp
    · rw [upto_cons h]; simp only [List.length_cons]; omega
theorem upto_app {c : UInt8} : ∀ {a : Tx} (r : Tx), (∀ x ∈ a, x ≠ c) → upto c (a ++ c :: r) = a
  | [], r, _ => upto_hit c r
  | x :: a, r, h => by
    rw [List.cons_append, upto_cons (h x (.head _)), upto_app r fun y hy => h y (.tail _ hy)]
theorem upto_take (c : UInt8) : ∀ l : Tx, l.take (upto c l).length = upto c l
  | [] => rfl
  | x :: l => by
    by_cases h : x = c
    · subst h; rw [upto_hit]; rfl
    · rw [upto_cons h, List.length_cons, List.take_succ_cons, upto_take c l]
/-- A record of n bytes, whose number has d digits. -/
def recT (b : Tx) (n d : Nat) : Option (Pair × Nat) :=
  let m := (b.take (n - 1)).drop (d + 1)
  if (upto 61 m).length < m.length ∧ pairOk ⟨upto 61 m, m.drop ((upto 61 m).length + 1)⟩ = true then some (⟨upto 61 m, m.drop ((upto 61 m).length + 1)⟩, n) else none
def recL (b : Tx) : Option (Pair × Nat) :=
  if natOk (upto 32 b) = true ∧ valA 0 (upto 32 b) ≤ b.length ∧ (upto 32 b).length + 2 ≤ valA 0 (upto 32 b) ∧ b.getD (valA 0 (upto 32 b) - 1) 0 = 10 then recT b (valA 0 (upto 32 b)) (upto 32 b).length else none
def parseL : Nat → Tx → Option (List Pair)
  | 0, b => if b = [] then some [] else none
  | f + 1, b => if b = [] then some [] else match recL b with
    | none => none
    | some (p, n) => (parseL f (b.drop n)).map (p :: ·)
theorem recL_facts {b : Tx} {p : Pair} {n : Nat} (h : recL b = some (p, n)) : 2 ≤ n ∧ n ≤ b.length ∧ pairOk p = true ∧ natOk (upto 32 b) = true ∧ n = valA 0 (upto 32 b) ∧ n = (upto 32 b).length + restP p ∧ (upto 32 b).length + 2 ≤ n := by
  unfold recL at h
  split at h
  · rename_i hc
    obtain ⟨h1, h2, h3, h4⟩ := hc
    unfold recT at h
    dsimp only at h
    split at h
    · rename_i hd
      obtain ⟨h5, h6⟩ := hd
      rw [Option.some.injEq, Prod.mk.injEq] at h
      obtain ⟨rfl, rfl⟩ := h
      refine ⟨by omega, h2, h6, h1, rfl, ?_, h3⟩
      unfold restP
      dsimp only
      rw [List.length_drop] at *
      rw [List.length_drop, List.length_take] at *
      omega
    · cases h
  · cases h
/-- The bytes of a pair's record. -/
def recB (p : Pair) : Tx := Lib.decDigits (lenP p) ++ 32 :: (p.key ++ 61 :: (p.val ++ [10]))
theorem recB_len (p : Pair) (h1 : p.key.length ≤ 1000000) (h2 : p.val.length ≤ 1000000) : (recB p).length = lenP p := by
  have := lenP_facts p h1 h2
  unfold recB restP at *
  simp only [List.length_append, List.length_cons, List.length_nil]
  have e : (Lib.decDigits (lenP p)).length = dl (lenP p) := rfl
  omega
theorem dig_no {c x : UInt8} (h : isDig x = true) (hc : c.toNat < 48) : x ≠ c := by
  rintro rfl
  have := dig_iff.1 h
  omega
theorem rec_print (p : Pair) (r : Tx) (h1 : p.key.length ≤ 1000000) (h2 : p.val.length ≤ 1000000) (hp : pairOk p = true) : recL (recB p ++ r) = some (p, lenP p) := by
  have hf := lenP_facts p h1 h2
  have hl := recB_len p h1 h2
  obtain ⟨d1, d2, d3, d4⟩ := dec_facts (lenP p)
  have e : (Lib.decDigits (lenP p)).length = dl (lenP p) := rfl
  have hD : upto 32 (recB p ++ r) = Lib.decDigits (lenP p) := by
    unfold recB
    rw [List.append_assoc, List.cons_append]
    exact upto_app _ fun x hx => dig_no (List.all_eq_true.1 d1 x hx) (by decide)
  have hr : restP p = p.key.length + p.val.length + 3 := rfl
  unfold recL
  rw [hD, d2]
  have hb : (recB p ++ r).take (lenP p - 1) = Lib.decDigits (lenP p) ++ 32 :: (p.key ++ 61 :: p.val) := by
    rw [List.take_append_of_le_length (by omega)]
    have e2 : recB p = (Lib.decDigits (lenP p) ++ 32 :: (p.key ++ 61 :: p.val)) ++ [10] := by unfold recB; simp
    rw [e2]
    have : lenP p - 1 = (Lib.decDigits (lenP p) ++ 32 :: (p.key ++ 61 :: p.val)).length := by
      simp only [List.length_append, List.length_cons]; omega
    rw [this, List.take_left']
    rfl
  have hlast : (recB p ++ r).getD (lenP p - 1) 0 = 10 := by
    have e2 : recB p ++ r = (Lib.decDigits (lenP p) ++ 32 :: (p.key ++ 61 :: p.val)) ++ 10 :: r := by unfold recB; simp
    have : lenP p - 1 = (Lib.decDigits (lenP p) ++ 32 :: (p.key ++ 61 :: p.val)).length := by
      simp only [List.length_append, List.length_cons]; omega
    rw [e2, this, List.getD_eq_getElem?_getD, List.getElem?_append_right (Nat.le_refl _)]
    simp
  rw [if_pos ⟨dec_natOk _ (by omega), by rw [List.length_append]; omega, by omega, hlast⟩]
  unfold recT
  rw [hb]
  have hm : (Lib.decDigits (lenP p) ++ 32 :: (p.key ++ 61 :: p.val)).drop ((Lib.decDigits (lenP p)).length + 1) = p.key ++ 61 :: p.val := by
    rw [List.drop_append, List.drop_eq_nil_of_le (by omega), List.nil_append, show (Lib.decDigits (lenP p)).length + 1 - (Lib.decDigits (lenP p)).length = 1 by omega]
    rfl
  dsimp only
  rw [hm]
  have hk : upto 61 (p.key ++ 61 :: p.val) = p.key := upto_app _ fun x hx => by
    unfold pairOk at hp
    simp only [Bool.and_eq_true] at hp
    have := hp.2.2.1
    unfold noEq at this
    have := List.all_eq_true.1 this x hx
    simp only [Bool.and_eq_true, decide_eq_true_eq] at this
    first | exact this.1 | exact this.2
  rw [hk]
  have hv : (p.key ++ 61 :: p.val).drop (p.key.length + 1) = p.val := by
    rw [List.drop_append, List.drop_eq_nil_of_le (by omega), List.nil_append, show p.key.length + 1 - p.key.length = 1 by omega]
    rfl
  rw [hv, if_pos ⟨by simp, hp⟩]
theorem parse_print : ∀ (l : List Pair) (f : Nat), (∀ p ∈ l, p.key.length ≤ 1000000 ∧ p.val.length ≤ 1000000) → l.all pairOk = true → l.length ≤ f → parseL f (l.flatMap recB) = some l
  | [], f, _, _, _ => by cases f <;> rfl
  | p :: l, f, hb, ho, hf => by
    obtain ⟨f, rfl⟩ : ∃ j, f = j + 1 := ⟨f - 1, by rw [List.length_cons] at hf; omega⟩
    rw [List.all_cons, Bool.and_eq_true] at ho
    have hp := hb p (.head _)
    have hlen := recB_len p hp.1 hp.2
    have h3 : 3 ≤ lenP p := by have := lenP_facts p hp.1 hp.2; unfold restP at this; omega
    rw [List.flatMap_cons]
    unfold parseL
    rw [if_neg (by intro h; have := congrArg List.length h; rw [List.length_append, hlen, List.length_nil] at this; omega), rec_print p _ hp.1 hp.2 ho.1]
    dsimp only
    rw [← hlen, List.drop_left', parse_print l f (fun q hq => hb q (.tail _ hq)) ho.2 (by rw [List.length_cons] at hf; omega)]
    rfl
    rfl
/-- The number ahead of a record, as the program reads it. -/
def lenG (T : Nat) : Tx → Nat → Nat → Option (Nat × Nat)
  | [], _, _ => none
  | c :: r, i, n => if c = 32 ∧ 0 < i then some (n, i) else if isDig c = false ∨ (i = 0 ∧ c = 48) then none else if T < n * 10 + (c.toNat - 48) then none else lenG T r (i + 1) (n * 10 + (c.toNat - 48))
theorem lenG_in (T : Nat) : ∀ (s : Tx) (i n : Nat), 0 < i → n ≤ T → lenG T s i n = if (upto 32 s).all isDig = true ∧ (upto 32 s).length < s.length ∧ valA n (upto 32 s) ≤ T then some (valA n (upto 32 s), i + (upto 32 s).length) else none
  | [], i, n, hi, hn => by simp [lenG, upto_nil]
  | c :: r, i, n, hi, hn => by
    unfold lenG
    by_cases hc : c = 32
    · subst hc
      rw [if_pos ⟨rfl, hi⟩, upto_hit, if_pos ⟨rfl, by simp, hn⟩]
      rfl
    · rw [if_neg (fun h => hc h.1), upto_cons hc, List.all_cons]
      cases hd : isDig c with
      | false => rw [if_pos (.inl rfl), if_neg (by simp)]
      | true =>
        rw [if_neg (by simp; omega)]
        rw [valA_cons]
        by_cases ht : T < n * 10 + (c.toNat - 48)
        · rw [if_pos ht, if_neg]
          rintro ⟨_, _, h⟩
          have := valA_ge (upto 32 r) (n * 10 + (c.toNat - 48))
          omega
        · rw [if_neg ht, lenG_in T r (i + 1) _ (by omega) (by omega)]
          simp only [List.length_cons, Bool.true_and, Nat.add_lt_add_iff_right]
          split
          · rw [show i + 1 + (upto 32 r).length = i + ((upto 32 r).length + 1) by omega]
          · rfl
theorem lenG_rec (b : Tx) (hb : b.length ≤ 9223372036854775807) : recL b = match lenG b.length b 0 0 with
    | none => none
    | some (n, d) => if n < d + 2 ∨ b.getD (n - 1) 0 ≠ 10 then none else recT b n d := by
  cases b with
  | nil => rfl
  | cons c r =>
    unfold lenG
    rw [if_neg (by omega)]
    by_cases hz : isDig c = false ∨ c = 48
    · rw [if_pos (by rcases hz with h | h; exact .inl h; exact .inr ⟨rfl, h⟩)]
      unfold recL
      rw [if_neg]
      rintro ⟨h1, h2, h3, h4⟩
      rcases hz with hz | rfl
      · by_cases h32 : c = 32
        · subst h32; rw [upto_hit] at h1; revert h1; decide
        · rw [upto_cons h32] at h1
          simp [natOk, digs, hz] at h1
      · rw [upto_cons (by decide)] at h1 h3
        by_cases hr : upto 32 r = []
        · rw [hr] at h3; revert h3; decide
        · have : 0 < (upto 32 r).length := List.length_pos_iff.2 hr
          have hl : lead (48 :: upto 32 r) = true := by unfold lead; rw [List.headD_cons, List.length_cons, decide_eq_true rfl, decide_eq_true (by omega)]; rfl
          unfold natOk at h1
          rw [hl] at h1
          simp at h1
    · have hd : isDig c = true := by cases h : isDig c; exact absurd (.inl h) hz; rfl
      have h48 : c ≠ 48 := fun h => hz (.inr h)
      have hc2 := dig_iff.1 hd
      rw [if_neg (by rintro (h | h); exact hz (.inl h); exact h48 h.2)]
      have h32 : c ≠ 32 := by rintro rfl; revert hc2; decide
      have hlead : lead (upto 32 (c :: r)) = false := by
        rw [upto_cons h32]; unfold lead; rw [List.headD_cons, decide_eq_false h48]; rfl
      have hdig : digs (upto 32 (c :: r)) = (upto 32 r).all isDig := by
        rw [upto_cons h32]; unfold digs; rw [List.all_cons, hd]; simp
      have hval : valA 0 (upto 32 (c :: r)) = valA (0 * 10 + (c.toNat - 48)) (upto 32 r) := by rw [upto_cons h32, valA_cons]
      have hlen : (upto 32 (c :: r)).length = (upto 32 r).length + 1 := by rw [upto_cons h32]; rfl
      have hge := valA_ge (upto 32 r) (0 * 10 + (c.toNat - 48))
      unfold recL natOk
      rw [hlead, hdig, hval, hlen]
      by_cases ht : (c :: r).length < 0 * 10 + (c.toNat - 48)
      · rw [if_pos ht]
        rw [if_neg]
        rintro ⟨_, h, _⟩
        omega
      · rw [if_neg ht, lenG_in _ _ _ _ (by omega) (by omega)]
        have hul := upto_le 32 r
        by_cases hq : (upto 32 r).all isDig = true ∧ (upto 32 r).length < r.length ∧ valA (0 * 10 + (c.toNat - 48)) (upto 32 r) ≤ (c :: r).length
        · rw [if_pos hq]
          dsimp only
          rw [show 0 + 1 + (upto 32 r).length = (upto 32 r).length + 1 by omega, hq.1]
          by_cases hw : valA (0 * 10 + (c.toNat - 48)) (upto 32 r) < (upto 32 r).length + 1 + 2 ∨ (c :: r).getD (valA (0 * 10 + (c.toNat - 48)) (upto 32 r) - 1) 0 ≠ 10
          · rw [if_pos hw, if_neg]
            rintro ⟨_, h2, h3, h4⟩
            rcases hw with hw | hw
            · omega
            · exact hw h4
          · rw [if_neg hw, if_pos]
            refine ⟨by rw [Bool.not_false, Bool.and_true, Bool.true_and, decide_eq_true_eq]; omega, hq.2.2, by omega, ?_⟩
            by_cases h10 : (c :: r).getD (valA (0 * 10 + (c.toNat - 48)) (upto 32 r) - 1) 0 = 10
            · exact h10
            · exact absurd (.inr h10) hw
        · rw [if_neg hq, if_neg]
          rintro ⟨h1, h2, h3, h4⟩
          simp only [Bool.and_eq_true] at h1
          refine hq ⟨h1.1.1, ?_, h2⟩
          rw [List.length_cons] at h2
          omega
end Go.Proofs.YtbkhmkcmbaffoaaGreatDoor.Eng.U


/- Records, both sides: printed and parsed. -/
set_option linter.unusedVariables false
set_option linter.unusedSectionVars false
set_option linter.unusedSimpArgs false
namespace Go.Proofs.YtbkhmkcmbaffoaaGreatDoor.Eng.U
open Go Go.Proofs Go.Proofs.YtbkhmkcmbaffoaaGreatDoor.Eng Go.Proofs.YtbkhmkcmbaffoaaGreatDoor.P04
variable {E : Ext} [Core E] [HasNum E] {k n : Nat}

theorem digw {acc : Nat} {c : UInt8} (ha : acc ≤ 1000000000) (hc : isDig c = true) : IntKind.wrap .i64 (IntKind.wrap .i64 ((acc : Int) * 10) + IntKind.wrap .i64 (IntKind.wrap .u8 (((c.toNat : Nat) : Int) - 48))) = ((acc * 10 + (c.toNat - 48) : Nat) : Int) := by
  have := dig_iff.1 hc
  rw [IntWalk.u8_in _ (by omega), i64w (x := (acc : Int) * 10) (by omega), i64w (x := ((c.toNat : Nat) : Int) - 48) (by omega), i64w (by omega)]
  omega
def lenAV : Option (Nat × Nat) → AV
  | none => .tup [.int .i64 0, .int .i64 0, .bool false]
  | some x => .tup [.int .i64 (x.1 : Int), .int .i64 (x.2 : Int), .bool true]
theorem length_loop (kap : FuncId → List AV → Option AV) (b : Tx) (hb : b.length ≤ 100000000) : ∀ (suf pre : Tx) (acc k0 : Nat), suf.length < k0 → pre ++ suf = b → acc ≤ b.length →
    pax_length_L0 kap k k0 (bys b) ((acc : Nat) : Int) (bys b) ((b.length : Nat) : Int) ((pre.length : Nat) : Int) = some (lenAV (lenG b.length suf pre.length acc))
  | [], pre, acc, k0 + 1, h, he, ha => by
    rw [pax_length_L0_s, bif_f (by rw [← he]; simp)]; rfl
  | c :: suf, pre, acc, k0 + 1, h, he, ha => by
    have hp : pre.length < b.length := by rw [← he]; simp
    have hm : ∀ F : AV → Option AV, ((bys b)[pre.length]?).bind F = F (byteAV c) := fun F => by rw [← he]; exact bys_mid pre suf c F
    have ih := fun a ha => length_loop kap b hb suf (pre ++ [c]) a k0 (by simpa using h) (by rw [← he]; simp) ha
    have hn : (((pre ++ [c]).length : Nat) : Int) = IntKind.wrap .i64 (((pre.length : Nat) : Int) + 1) := by rw [i64w (by omega)]; simp
    have hn2 : (pre ++ [c]).length = pre.length + 1 := by simp
    rw [pax_length_L0_s, bys_len, bif_t (by omega), bif_a, bif_t (by omega), bif_t (by omega), Int.toNat_natCast, hm, byte_c]
    unfold lenG
    by_cases h32 : c = 32
    · subst h32
      rw [bif_t (by rfl)]
      by_cases h0 : 0 < pre.length
      · rw [bif_t (by omega), if_pos ⟨rfl, h0⟩]; rfl
      · rw [bif_f (by omega), bif_t (by decide), if_neg (fun h => h0 h.2), if_pos (.inl rfl)]; rfl
    · have h32' : ¬ ((c.toNat : Nat) : Int) = 32 := fun h => h32 (UInt8.toNat_inj.1 (by show c.toNat = 32; omega))
      rw [bif_f h32', if_neg (fun h => h32 h.1)]
      cases hd : isDig c with
      | false =>
        rw [if_pos (.inl rfl)]
        by_cases h1 : c.toNat < 48
        · rw [bif_t (by omega)]; rfl
        · rw [bif_f (by omega), bif_t (by simp [isDig] at hd; omega)]; rfl
      | true =>
        have hd2 := dig_iff.1 hd
        rw [bif_f (by omega), bif_f (by omega), digw (by omega) hd]
        by_cases h0 : pre.length = 0
        · rw [bif_t (by omega)]
          by_cases h48 : c = 48
          · rw [if_pos (.inr ⟨h0, h48⟩), h48, bif_t (by rfl)]; rfl
          · have h48' : ¬ ((c.toNat : Nat) : Int) = 48 := fun h => h48 (UInt8.toNat_inj.1 (by show c.toNat = 48; omega))
            rw [bif_f h48', if_neg (by rintro (h | h); cases h; exact h48 h.2)]
            by_cases hT : b.length < acc * 10 + (c.toNat - 48)
            · rw [bif_t (by omega), if_pos hT]; rfl
            · rw [bif_f (by omega), if_neg hT, ← hn, ih _ (by omega), hn2]
        · rw [bif_f (by omega), if_neg (by rintro (h | h); cases h; exact h0 h.1)]
          by_cases hT : b.length < acc * 10 + (c.toNat - 48)
          · rw [bif_t (by omega), if_pos hT]; rfl
          · rw [bif_f (by omega), if_neg hT, ← hn, ih _ (by omega), hn2]
theorem length_k (b : Tx) (hb : b.length ≤ 100000000) (hk : b.length < k) : kp E k (n + 1) pax_length [.list 1 (bys b)] = some (lenAV (lenG b.length b 0 0)) := by
  have := length_loop (k := k) (kp E k n) b hb b [] 0 k hk rfl (by omega)
  rw [pax_length_eq, bys_len]
  exact this
theorem lenG_facts (T : Nat) : ∀ (s : Tx) (i a m d : Nat), lenG T s i a = some (m, d) → a ≤ T → m ≤ T ∧ d ≤ i + s.length ∧ i ≤ d
  | [], i, a, m, d, h, ha => by cases h
  | c :: r, i, a, m, d, h, ha => by
    unfold lenG at h
    split at h
    · cases h; exact ⟨ha, by omega, by omega⟩
    · split at h
      · cases h
      · split at h
        · cases h
        · have := lenG_facts T r _ _ m d h (by omega)
          rw [List.length_cons]
          omega
theorem index_upto (x : UInt8) : ∀ l : Tx, Lib.indexByte l x = if (upto x l).length < l.length then ((upto x l).length : Int) else -1
  | [] => rfl
  | c :: l => by
    have ih := index_upto x l
    unfold Lib.indexByte
    by_cases hc : c = x
    · subst hc
      rw [upto_hit, if_pos (by simp)]
      simp
    · have h1 : (c == x) = false := by simpa using hc
      have hl := upto_le x l
      rw [upto_cons hc, List.length_cons, List.length_cons, h1]
      simp only [Bool.false_eq_true, if_false]
      rw [ih]
      by_cases h : (upto x l).length < l.length
      · rw [if_pos h, if_pos (show (upto x l).length + 1 < l.length + 1 by omega)]
        rw [if_neg (by simp)]
        omega
      · rw [if_neg h, if_neg (show ¬ (upto x l).length + 1 < l.length + 1 by omega)]
        rfl
theorem cutB_k (x : UInt8) (t : Tx) (ht : t.length < 1000000000000) : kp E k (n + 2) strings_Cut [.str (str t), .str (str [x])] = some (.tup [.str (str (upto x t)), .str (str (t.drop ((upto x t).length + 1))), .bool (decide ((upto x t).length < t.length))]) := by
  have hd := upto_le x t
  rw [strings_Cut_eq, stringslite_Cut_eq, HasNum.index k n t x, callI_ok, index_upto]
  by_cases h : (upto x t).length < t.length
  · rw [if_pos h, decide_eq_true h, bif_t (by omega), str_size, str_size, List.length_singleton, wrapP (by omega) (by omega), bif_a, bif_t (by omega), bif_t (by omega), bif_a, bif_t (by omega), bif_t (by omega), Int.toNat_natCast, Int.toNat_natCast, str_ext, str_ext, List.take_length, List.drop_zero, upto_take]
    rfl
  · have e : upto x t = t := by have := upto_take x t; rw [List.take_of_length_le (by omega)] at this; exact this.symm
    rw [if_neg h, decide_eq_false h, bif_f (by omega), e, List.drop_of_length_le (by omega)]
    rfl
def recAV : Option (Pair × Nat) → AV
  | none => .tup [.agg [.str (str []), .str (str [])], .int .i64 0]
  | some x => .tup [elPair x.1, .int .i64 (x.2 : Int)]
theorem toBytes_bys (l : Tx) (a b : Nat) : toBytes (((bys l).take a).drop b) = some ((l.take a).drop b) := by
  unfold bys
  rw [← List.map_take, ← List.map_drop, toBytes_map]
theorem getD_of (b : Tx) (i : Nat) (h : i < b.length) : b.getD i 0 = b[i] := by rw [List.getD_eq_getElem?_getD, List.getElem?_eq_getElem h]; rfl
theorem record_k [HasTextV E] (b : Tx) (hb : b.length ≤ 1000000) (hk : 1000000 < k) : kp E k (n + 6) pax_record [.list 1 (bys b)] = some (recAV (recL b)) := by
  rw [pax_record_eq, length_k b (by omega) (by omega), lenG_rec b (by omega)]
  cases hg : lenG b.length b 0 0 with
  | none => rfl
  | some x =>
    obtain ⟨m, d⟩ := x
    have hf := lenG_facts _ _ _ _ _ _ hg (by omega)
    have e : ∀ K : List AV → Option AV, callT (some (lenAV (some (m, d)))) K = K [.int .i64 (m : Int), .int .i64 (d : Int), .bool true] := fun K => rfl
    rw [e, tupI_ok, tupI_ok, tupB_ok, atNil_ok, Bool.not_true, cond_false, i64w (x := (d : Int) + 2) (by omega)]
    dsimp only
    by_cases h1 : m < d + 2
    · rw [bif_t (by omega), if_pos (.inl h1)]; rfl
    · rw [bif_f (by omega), i64w (x := (m : Int) - 1) (by omega), i64w (x := (d : Int) + 1) (by omega), bys_len, bif_a, bif_t (by omega), bif_t (by omega)]
      have e1 : ((m : Int) - 1).toNat = m - 1 := by omega
      have e2 : ((d : Int) + 1).toNat = d + 1 := by omega
      rw [e1, e2, bys_at b (m - 1) (by omega), byte_c, show decide (((b[m - 1].toNat : Nat) : Int) = 10) = decide (b[m - 1] = 10) from byte_is _ 10 (by omega), ← getD_of b (m - 1) (by omega)]
      by_cases h2 : b.getD (m - 1) 0 = 10
      · rw [decide_eq_true h2, Bool.not_true, cond_false, bif_a, bif_t (by omega), bif_t (by omega), bif_a, bif_t (by omega), bif_t (by omega), toBytes_bys, Option.bind_some, if_neg (by rintro (h | h); exact h1 h; exact h h2)]
        have hml : ((b.take (m - 1)).drop (d + 1)).length ≤ 1000000 := by rw [List.length_drop, List.length_take]; omega
        rw [cutB_k (n := n + 3) 61 _ (by omega), callT_ok, tupS_ok, tupS_ok, tupB_ok, atNil_ok]
        unfold recT
        dsimp only
        generalize hM : (b.take (m - 1)).drop (d + 1) = M at hml
        have hu := upto_le 61 M
        by_cases h3 : (upto 61 M).length < M.length
        · rw [decide_eq_true h3, Bool.not_true, cond_false, paxRight_k ⟨upto 61 M, M.drop ((upto 61 M).length + 1)⟩ (by dsimp only; omega) (by dsimp only; rw [List.length_drop]; omega) hk, callB_ok]
          cases hp : pairOk ⟨upto 61 M, M.drop ((upto 61 M).length + 1)⟩ with
          | false => rw [Bool.not_false, cond_true, if_neg (by simp)]; rfl
          | true => rw [Bool.not_true, cond_false, if_pos ⟨h3, rfl⟩]; rfl
        · rw [decide_eq_false h3, Bool.not_false, cond_true, if_neg (fun h => h3 h.1)]; rfl
      · rw [decide_eq_false h2, Bool.not_false, cond_true, if_pos (.inr h2)]; rfl
def parAV (a b : AV) : Option (List Pair) → AV
  | none => .tup [.list 2 [], b]
  | some l => .tup [.list 2 (prs l), a]
theorem prs_snoc (a : List Pair) (p : Pair) : prs a ++ [.agg [.str (str p.key), .str (str p.val)]] = prs (a ++ [p]) := by simp [prs, elPair, encPair]
theorem parse_loop (kap : FuncId → List AV → Option AV) (hR : ∀ b : Tx, b.length ≤ 1000000 → kap pax_record [.list 1 (bys b)] = some (recAV (recL b))) : ∀ (f : Nat) (b : Tx) (acc : List Pair) (k0 : Nat), b.length ≤ f → f < k0 → b.length ≤ 1000000 → acc.length + b.length ≤ 1000000 →
    pax_Parse_L0 kap k k0 (bys b) (prs acc) = some (parAV (.int .u8 0) (.int .u8 6) ((parseL f b).map (acc ++ ·)))
  | 0, b, acc, k0 + 1, hf, hk, hb, ha => by
    have : b = [] := List.eq_nil_of_length_eq_zero (by omega)
    subst this
    rw [pax_Parse_L0_s, bys_len, bif_f (by simp)]
    simp [parseL, parAV]
  | f + 1, b, acc, k0 + 1, hf, hk, hb, ha => by
    rw [pax_Parse_L0_s, bys_len]
    unfold parseL
    by_cases hn : b = []
    · subst hn
      rw [bif_f (by simp), if_pos rfl]
      simp [parAV]
    · have hpos : 0 < b.length := List.length_pos_iff.2 hn
      rw [bif_t (by omega), if_neg hn, hR b hb]
      cases hr : recL b with
      | none => rfl
      | some x =>
        obtain ⟨p, m⟩ := x
        have hx := recL_facts hr
        have e : ∀ K : List AV → Option AV, callT (some (recAV (some (p, m)))) K = K [elPair p, .int .i64 (m : Int)] := fun K => rfl
        rw [e, tupG_pair, p_0, p_1, tupI_ok, atNil_ok, bif_f (by omega), prs_len]
        rw [show (decide ((acc.length + 1) * 32 ≤ 140737488355328) && decide (acc.length + 1 ≤ 9223372036854775807)) = true by simp; omega, cond_true, bif_a, bif_t (by omega), bif_t (by omega), Int.toNat_natCast]
        have e2 : ((bys b).take b.length).drop m = bys (b.drop m) := by
          rw [← bys_len b, List.take_length]; unfold bys; rw [List.map_drop]
        have ih := parse_loop kap hR f (b.drop m) (acc ++ [p]) k0 (by rw [List.length_drop]; omega) (by omega) (by rw [List.length_drop]; omega) (by simp only [List.length_append, List.length_drop, List.length_singleton]; omega)
        rw [e2, prs_snoc, ih]
        dsimp only
        cases parseL f (b.drop m) with
        | none => rfl
        | some l => simp
theorem parse_k [HasTextV E] (b : Tx) (hb : b.length ≤ 1000000) (hk : 1000001 < k) : kp E k (n + 7) pax_Parse [.list 1 (bys b)] = some (parAV (.int .u8 0) (.int .u8 6) (parseL b.length b)) := by
  have := parse_loop (k := k) (kp E k (n + 6)) (fun b hb => record_k b hb (by omega)) b.length b [] k (Nat.le_refl _) (by omega) hb (by simpa using hb)
  rw [pax_Parse_eq]
  refine this.trans ?_
  cases parseL b.length b <;> rfl
end Go.Proofs.YtbkhmkcmbaffoaaGreatDoor.Eng.U


/- Records, laid over what Ustar tells of a head, say the head again: in plain words. -/
set_option linter.unusedVariables false
set_option linter.unusedSectionVars false
set_option linter.unusedSimpArgs false
namespace Go.Proofs.YtbkhmkcmbaffoaaGreatDoor.Eng.U
open Go Go.RowKit Go.Proofs Go.Proofs.YtbkhmkcmbaffoaaGreatDoor.Eng Go.Proofs.YtbkhmkcmbaffoaaGreatDoor.S11 Go.Proofs.YtbkhmkcmbaffoaaGreatDoor.P04

theorem pair_ext {p q : Pair} (h1 : p.key = q.key) (h2 : p.val = q.val) : p = q := by cases p; cases q; simp only at h1 h2; subst h1 h2; rfl
/-- Pairs with keys and values of their own: what is laid has just them. -/
theorem lay_mem {l : List Pair} (hk : keysN l) (hv : ∀ q ∈ l, q.val ≠ []) (p : Pair) : p ∈ layAll l ↔ p ∈ l := by
  refine ⟨mem_layAll, fun hp => ?_⟩
  have h1 : valOf (layAll l) p.key = p.val := by rw [lay_val, last_mem l hk hp]
  obtain ⟨q, hq, hqv⟩ := getL_val (layAll l) p.key (by rw [h1]; exact hv p hp)
  have hm : q ∈ layAll l := List.mem_of_find?_eq_some hq
  have hkq : q.key = p.key := by simpa using List.find?_some hq
  have : q = p := pair_ext hkq (hqv.trans h1)
  exact this ▸ hm
theorem nodup_of {l : List Pair} (hk : keysN l) : l.Nodup := hk.imp fun hne e => hne (by rw [e])
theorem keys_lay (l : List Pair) : keysN (layAll l) := (okSt_facts _ _ (lay_okst l)).2.imp fun hab e => by rw [e, lt_irr] at hab; cases hab
theorem perm_lay {l : List Pair} (hk : keysN l) (hv : ∀ q ∈ l, q.val ≠ []) : (layAll l).Perm l := (List.perm_ext_iff_of_nodup (nodup_of (keys_lay l)) (nodup_of hk)).2 fun p => lay_mem hk hv p
/-! The pairs of a right head. -/
def valW (h : Head) (w : Int) : Tx := if w = 0 then (fulls h.kind h.name).headD [] else if w = 1 then h.link else if w = 2 then h.user else if w = 3 then h.group else if w = 4 then Lib.itoa h.uid else if w = 5 then Lib.itoa h.gid else if w = 6 then Lib.itoa h.size else printL h.sec h.nano
theorem raw_val {h : Head} (hr : RightH h) {q : Pair} (hq : q ∈ rawH h) : (whichL q.key < 0 ∧ q ∈ h.extra) ∨ (0 ≤ whichL q.key ∧ q.val = valW h (whichL q.key)) := by
  have h13 := hr.a13
  unfold f13 at h13
  simp only [Bool.and_eq_true, List.all_eq_true, decide_eq_true_eq] at h13
  have ht : rightT h.nano = true := hr.a8
  unfold rawH rawL at hq
  simp only [addP_opt, List.mem_append] at hq
  rcases hq with (((((((hq | hq) | hq) | hq) | hq) | hq) | hq) | hq) | hq
  · exact .inl ⟨h13.2 q hq, hq⟩
  all_goals refine .inr ?_
  all_goals rw [opt_mem hq]
  · exact ⟨show (0 : Int) ≤ whichL kPath by decide, rfl⟩
  · exact ⟨show (0 : Int) ≤ whichL kLink by decide, rfl⟩
  · exact ⟨show (0 : Int) ≤ whichL kUid by decide, rfl⟩
  · exact ⟨show (0 : Int) ≤ whichL kGid by decide, rfl⟩
  · exact ⟨show (0 : Int) ≤ whichL kSize by decide, rfl⟩
  · exact ⟨show (0 : Int) ≤ whichL kTime by decide, by rw [ht]; rfl⟩
  · exact ⟨show (0 : Int) ≤ whichL kUser by decide, rfl⟩
  · exact ⟨show (0 : Int) ≤ whichL kGroup by decide, rfl⟩
theorem extra_raw {h : Head} {q : Pair} (hq : q ∈ h.extra) : q ∈ rawH h := by
  unfold rawH rawL
  simp only [addP_opt, List.mem_append]
  exact .inl (.inl (.inl (.inl (.inl (.inl (.inl (.inl hq)))))))
theorem rec_val {h : Head} (hr : RightH h) {q : Pair} (hq : q ∈ recsL h) (w : Int) (hw : 0 ≤ w) (he : whichL q.key = w) : q.val = valW h w := by
  rcases raw_val hr (mem_layAll hq) with ⟨h1, _⟩ | ⟨_, h2⟩
  · omega
  · rw [h2, he]
/-! Heads, field by field. -/
theorem fold_skip {α : Type} (π : Head → α) (w : Int) (step : Head → Pair → Head) (hs : ∀ x p, whichL p.key ≠ w → π (step x p) = π x) : ∀ (l : List Pair) (x : Head), (∀ p ∈ l, whichL p.key ≠ w) → π (l.foldl step x) = π x
  | [], x, _ => rfl
  | p :: l, x, h => by
    rw [List.foldl_cons, fold_skip π w step hs l _ fun q hq => h q (by simp [hq])]
    exact hs x p (h p (by simp))
theorem fold_hit {α : Type} (π : Head → α) (w : Int) (step : Head → Pair → Head) (c : α) (hs : ∀ x p, whichL p.key ≠ w → π (step x p) = π x) : ∀ (l : List Pair) (x : Head), (∀ p ∈ l, whichL p.key = w → ∀ x, π (step x p) = c) → (∃ p ∈ l, whichL p.key = w) → π (l.foldl step x) = c
  | [], x, _, h => by obtain ⟨p, hp, _⟩ := h; cases hp
  | p :: l, x, hh, h => by
    rw [List.foldl_cons]
    by_cases he : ∃ q ∈ l, whichL q.key = w
    · exact fold_hit π w step c hs l _ (fun q hq => hh q (by simp [hq])) he
    · have hp : whichL p.key = w := by
        obtain ⟨q, hq, hw⟩ := h
        rcases List.mem_cons.1 hq with rfl | hq
        · exact hw
        · exact absurd ⟨q, hq, hw⟩ he
      rw [fold_skip π w step hs l _ fun q hq e => he ⟨q, hq, e⟩]
      exact hh p (by simp) hp x
def kOther : Tx := [111, 116, 104, 101, 114]
/-- What the law puts in the place of what stands in a record. -/
def othH (o : Head) (p : Pair) : Head :=
  if whichL p.key = 0 then { o with name := kOther } else if whichL p.key = 1 then { o with link := kOther } else if whichL p.key = 2 then { o with user := kOther } else if whichL p.key = 3 then { o with group := kOther }
  else if whichL p.key = 4 then { o with uid := 0 } else if whichL p.key = 5 then { o with gid := 0 } else if whichL p.key = 6 then { o with size := 0 }
  else if whichL p.key = 7 then { o with sec := 0, nano := 0 } else o
/-- A field that is told by a record is the record's; another one stays. -/
theorem field_say {α : Type} (π : Head → α) (w : Int) (c : α) {h : Head} (l : List Pair) (hx : ∀ (x : Head) (e : List Pair), π { x with extra := e } = π x)
    (h1 : ∀ x p, whichL p.key ≠ w → π (sayH x p) = π x) (h2 : ∀ x p, whichL p.key ≠ w → π (othH x p) = π x) (h3 : ∀ p ∈ l, whichL p.key = w → ∀ x, π (sayH x p) = c) : π (applyL (l.foldl othH h) l) = if ∃ p ∈ l, whichL p.key = w then c else π h := by
  unfold applyL
  split
  · rename_i he
    exact fold_hit π w sayH c h1 l _ h3 he
  · rename_i he
    have hn : ∀ p ∈ l, whichL p.key ≠ w := fun p hp e => he ⟨p, hp, e⟩
    rw [fold_skip π w sayH h1 l _ hn, hx, fold_skip π w othH h2 l _ hn]
theorem field_same {α : Type} (π : Head → α) (w : Int) {h : Head} (l : List Pair) (hx : ∀ (x : Head) (e : List Pair), π { x with extra := e } = π x)
    (h1 : ∀ x p, whichL p.key ≠ w → π (sayH x p) = π x) (h2 : ∀ x p, whichL p.key ≠ w → π (othH x p) = π x) (h3 : ∀ p ∈ l, whichL p.key = w → ∀ x, π (sayH x p) = π h) : π (applyL (l.foldl othH h) l) = π h := by
  rw [field_say π w (π h) l hx h1 h2 h3]
  split <;> rfl
theorem say_at (x : Head) (p : Pair) : (whichL p.key = 0 → sayH x p = { x with name := p.val }) ∧ (whichL p.key = 1 → sayH x p = { x with link := p.val }) ∧ (whichL p.key = 2 → sayH x p = { x with user := p.val }) ∧ (whichL p.key = 3 → sayH x p = { x with group := p.val }) ∧
    (whichL p.key = 4 → sayH x p = { x with uid := numV p.val }) ∧ (whichL p.key = 5 → sayH x p = { x with gid := numV p.val }) ∧ (whichL p.key = 6 → sayH x p = { x with size := numV p.val }) ∧ (whichL p.key = 7 → sayH x p = { x with sec := (timV p.val).1, nano := (timV p.val).2 }) := by
  unfold sayH
  refine ⟨fun e => ?_, fun e => ?_, fun e => ?_, fun e => ?_, fun e => ?_, fun e => ?_, fun e => ?_, fun e => ?_⟩ <;> rw [e] <;> rfl
theorem num_back {v : Int} (h0 : 0 ≤ v) (h1 : v ≤ 9223372036854775807) : numV (Lib.itoa v) = v := by
  have h := num_itoa h0 h1
  unfold numV
  unfold numOk at h
  rw [if_pos h]
  obtain ⟨u, rfl⟩ := Int.eq_ofNat_of_zero_le h0
  rw [Lib.itoa_nonneg, (dec_facts u).2.1]
theorem tim_back {s t : Int} (hs : -9223372036854775808 ≤ s ∧ s ≤ 9223372036854775807) (ht : 0 ≤ t ∧ t < 1000000000) : timV (printL s t) = (s, t) := by
  unfold timV
  rw [time_print s t hs ht]
  rfl
theorem say_extra (l : List Pair) : ∀ (x : Head), (l.foldl sayH x).extra = x.extra ++ l.filter fun p => decide (whichL p.key < 0) := by
  induction l with
  | nil => intro x; simp
  | cons p l ih =>
    intro x
    have hlt := which_lt p.key
    rw [List.foldl_cons, ih]
    by_cases hw : whichL p.key < 0
    · have e : sayH x p = { x with extra := x.extra ++ [p] } := by
        unfold sayH
        rw [if_neg (by omega), if_neg (by omega), if_neg (by omega), if_neg (by omega), if_neg (by omega), if_neg (by omega), if_neg (by omega), if_neg (by omega)]
      rw [e, List.filter_cons_of_pos (by rw [decide_eq_true hw]), List.append_assoc, List.singleton_append]
    · have e : (sayH x p).extra = x.extra := by
        unfold sayH
        repeat' split
        all_goals first | rfl | (exfalso; omega)
      rw [e, List.filter_cons_of_neg (by rw [decide_eq_false hw]; simp)]
theorem okSt_filter (f : Pair → Bool) : ∀ (l : List Pair) (a : Option Tx), okSt a l = true → okSt a (l.filter f) = true
  | [], a, _ => rfl
  | p :: l, a, h => by
    have hf := okSt_facts _ _ h
    have ho := h
    unfold okSt at ho
    simp only [Bool.and_eq_true, decide_eq_true_eq] at ho
    cases hp : f p with
    | true =>
      rw [List.filter_cons_of_pos hp]
      unfold okSt
      rw [ho.1.1, okSt_filter f l _ ho.2, decide_eq_true ho.1.2]
      rfl
    | false =>
      rw [List.filter_cons_of_neg (by rw [hp]; simp)]
      refine okSt_filter f l a ?_
      cases l with
      | nil => rfl
      | cons q l =>
        have h2 := ho.2
        unfold okSt at h2 ⊢
        simp only [Bool.and_eq_true, decide_eq_true_eq] at h2 ⊢
        exact ⟨⟨(hf.1 q (by simp)).1, h2.1.2⟩, h2.2⟩
theorem okSt_mem {x y : List Pair} (hx : okSt none x = true) (hy : okSt none y = true) (h : ∀ p, p ∈ x ↔ p ∈ y) : x = y := by
  have hno : ∀ (l : List Pair) (k : Tx), (∀ q ∈ l, q.key ≠ k) → valOf l k = [] := by
    intro l k
    induction l with
    | nil => intro _; rfl
    | cons p l ih =>
      intro h
      unfold valOf
      rw [if_neg (h p (by simp))]
      exact ih fun q hq => h q (by simp [hq])
  refine over_ext hx hy fun k => ?_
  by_cases he : ∃ p ∈ x, p.key = k
  · obtain ⟨p, hp, rfl⟩ := he
    rw [valOf_ne hx p hp, valOf_ne hy p ((h p).1 hp)]
  · rw [hno x k fun q hq e => he ⟨q, hq, e⟩, hno y k fun q hq e => he ⟨q, (h q).2 hq, e⟩]
theorem rec_extra {h : Head} (hr : RightH h) : ((recsL h).filter fun p => decide (whichL p.key < 0)) = h.extra := by
  obtain ⟨hk, hv⟩ := raw_facts hr
  have h13 := hr.a13
  unfold f13 overOk at h13
  simp only [Bool.and_eq_true, List.all_eq_true, decide_eq_true_eq] at h13
  refine okSt_mem (okSt_filter _ _ _ (lay_okst _)) h13.1.1 fun p => ?_
  rw [List.mem_filter]
  constructor
  · rintro ⟨h1, h2⟩
    rcases raw_val hr (mem_layAll h1) with ⟨_, h3⟩ | ⟨h3, _⟩
    · exact h3
    · have := of_decide_eq_true h2
      omega
  · intro hp
    exact ⟨(lay_mem hk hv p).2 (extra_raw hp), decide_eq_true (h13.2 p hp)⟩
theorem say_name (x : Head) (p : Pair) (hw : whichL p.key ≠ 0) : (sayH x p).name = x.name := by unfold sayH; (repeat' split) <;> first | rfl | (exfalso; omega)
theorem oth_name (x : Head) (p : Pair) (hw : whichL p.key ≠ 0) : (othH x p).name = x.name := by unfold othH; (repeat' split) <;> first | rfl | (exfalso; omega)
theorem say_link (x : Head) (p : Pair) (hw : whichL p.key ≠ 1) : (sayH x p).link = x.link := by unfold sayH; (repeat' split) <;> first | rfl | (exfalso; omega)
theorem oth_link (x : Head) (p : Pair) (hw : whichL p.key ≠ 1) : (othH x p).link = x.link := by unfold othH; (repeat' split) <;> first | rfl | (exfalso; omega)
theorem say_user (x : Head) (p : Pair) (hw : whichL p.key ≠ 2) : (sayH x p).user = x.user := by unfold sayH; (repeat' split) <;> first | rfl | (exfalso; omega)
theorem oth_user (x : Head) (p : Pair) (hw : whichL p.key ≠ 2) : (othH x p).user = x.user := by unfold othH; (repeat' split) <;> first | rfl | (exfalso; omega)
theorem say_group (x : Head) (p : Pair) (hw : whichL p.key ≠ 3) : (sayH x p).group = x.group := by unfold sayH; (repeat' split) <;> first | rfl | (exfalso; omega)
theorem oth_group (x : Head) (p : Pair) (hw : whichL p.key ≠ 3) : (othH x p).group = x.group := by unfold othH; (repeat' split) <;> first | rfl | (exfalso; omega)
theorem say_uid (x : Head) (p : Pair) (hw : whichL p.key ≠ 4) : (sayH x p).uid = x.uid := by unfold sayH; (repeat' split) <;> first | rfl | (exfalso; omega)
theorem oth_uid (x : Head) (p : Pair) (hw : whichL p.key ≠ 4) : (othH x p).uid = x.uid := by unfold othH; (repeat' split) <;> first | rfl | (exfalso; omega)
theorem say_gid (x : Head) (p : Pair) (hw : whichL p.key ≠ 5) : (sayH x p).gid = x.gid := by unfold sayH; (repeat' split) <;> first | rfl | (exfalso; omega)
theorem oth_gid (x : Head) (p : Pair) (hw : whichL p.key ≠ 5) : (othH x p).gid = x.gid := by unfold othH; (repeat' split) <;> first | rfl | (exfalso; omega)
theorem say_size (x : Head) (p : Pair) (hw : whichL p.key ≠ 6) : (sayH x p).size = x.size := by unfold sayH; (repeat' split) <;> first | rfl | (exfalso; omega)
theorem oth_size (x : Head) (p : Pair) (hw : whichL p.key ≠ 6) : (othH x p).size = x.size := by unfold othH; (repeat' split) <;> first | rfl | (exfalso; omega)
theorem say_time (x : Head) (p : Pair) (hw : whichL p.key ≠ 7) : ((sayH x p).sec, (sayH x p).nano) = (x.sec, x.nano) := by unfold sayH; (repeat' split) <;> first | rfl | (exfalso; omega)
theorem say_rest (x : Head) (p : Pair) (hw : whichL p.key ≠ -2) : ((sayH x p).kind, (sayH x p).mode, (sayH x p).major, (sayH x p).minor) = (x.kind, x.mode, x.major, x.minor) := by unfold sayH; (repeat' split) <;> rfl
theorem oth_time (x : Head) (p : Pair) (hw : whichL p.key ≠ 7) : ((othH x p).sec, (othH x p).nano) = (x.sec, x.nano) := by unfold othH; (repeat' split) <;> first | rfl | (exfalso; omega)
theorem oth_rest (x : Head) (p : Pair) (hw : whichL p.key ≠ -2) : ((othH x p).kind, (othH x p).mode, (othH x p).major, (othH x p).minor) = (x.kind, x.mode, x.major, x.minor) := by unfold othH; (repeat' split) <;> rfl
theorem head_ext {a b : Head} (e0 : (a.kind, a.mode, a.major, a.minor) = (b.kind, b.mode, b.major, b.minor)) (e1 : a.name = b.name) (e2 : a.link = b.link) (e3 : a.user = b.user) (e4 : a.group = b.group) (e5 : a.uid = b.uid) (e6 : a.gid = b.gid) (e7 : a.size = b.size) (e8 : (a.sec, a.nano) = (b.sec, b.nano)) (e9 : a.extra = b.extra) : a = b := by
  cases a
  cases b
  simp only [Prod.mk.injEq] at e0 e1 e2 e3 e4 e5 e6 e7 e8 e9
  obtain ⟨d0, d1, d2, d3⟩ := e0
  obtain ⟨d4, d5⟩ := e8
  subst d0 d1 d2 d3 d4 d5 e1 e2 e3 e4 e5 e6 e7 e9
  rfl
/-- The records say the head again; its name as it is told in full. -/
theorem says {h : Head} (hr : RightH h) (ho : OkHd h) : applyL ((recsL h).foldl othH h) (recsL h) = { h with name := if ∃ p ∈ recsL h, whichL p.key = 0 then (fulls h.kind h.name).headD [] else h.name } := by
  have h5 : 0 ≤ h.uid := of_decide_eq_true hr.a5
  have h6 : 0 ≤ h.gid := of_decide_eq_true hr.a6
  have h7 : 0 ≤ h.size := by
    have := hr.a7
    unfold f7 at this
    simp only [Bool.or_eq_true, Bool.and_eq_true, decide_eq_true_eq] at this
    omega
  have h8 : rightT h.nano = true := hr.a8
  unfold rightT at h8
  simp only [Bool.and_eq_true, decide_eq_true_eq] at h8
  have hv : ∀ q ∈ recsL h, ∀ w : Int, 0 ≤ w → whichL q.key = w → q.val = valW h w := fun q hq w hw he => rec_val hr hq w hw he
  refine head_ext ?_ ?_ ?_ ?_ ?_ ?_ ?_ ?_ ?_ ?_
  · exact field_same (fun x => (x.kind, x.mode, x.major, x.minor)) (-2) (h := h) (recsL h) (fun _ _ => rfl) say_rest oth_rest (fun p hp hw x => by have := which_lt p.key; omega)
  · exact field_say (fun x => x.name) 0 ((fulls h.kind h.name).headD []) (h := h) (recsL h) (fun _ _ => rfl) say_name oth_name (fun p hp hw x => by rw [(say_at x p).1 hw]; exact hv p hp 0 (by omega) hw)
  · exact field_same (fun x => x.link) 1 (h := h) (recsL h) (fun _ _ => rfl) say_link oth_link (fun p hp hw x => by rw [(say_at x p).2.1 hw]; exact hv p hp 1 (by omega) hw)
  · exact field_same (fun x => x.user) 2 (h := h) (recsL h) (fun _ _ => rfl) say_user oth_user (fun p hp hw x => by rw [(say_at x p).2.2.1 hw]; exact hv p hp 2 (by omega) hw)
  · exact field_same (fun x => x.group) 3 (h := h) (recsL h) (fun _ _ => rfl) say_group oth_group (fun p hp hw x => by rw [(say_at x p).2.2.2.1 hw]; exact hv p hp 3 (by omega) hw)
  · exact field_same (fun x => x.uid) 4 (h := h) (recsL h) (fun _ _ => rfl) say_uid oth_uid (fun p hp hw x => by rw [(say_at x p).2.2.2.2.1 hw, hv p hp 4 (by omega) hw]; exact num_back h5 ho.uid.2)
  · exact field_same (fun x => x.gid) 5 (h := h) (recsL h) (fun _ _ => rfl) say_gid oth_gid (fun p hp hw x => by rw [(say_at x p).2.2.2.2.2.1 hw, hv p hp 5 (by omega) hw]; exact num_back h6 ho.gid.2)
  · exact field_same (fun x => x.size) 6 (h := h) (recsL h) (fun _ _ => rfl) say_size oth_size (fun p hp hw x => by rw [(say_at x p).2.2.2.2.2.2.1 hw, hv p hp 6 (by omega) hw]; exact num_back h7 ho.size.2)
  · exact field_same (fun x => (x.sec, x.nano)) 7 (h := h) (recsL h) (fun _ _ => rfl) say_time oth_time (fun p hp hw x => by
      rw [(say_at x p).2.2.2.2.2.2.2 hw, hv p hp 7 (by omega) hw]
      exact tim_back ho.sec h8)
  · show (applyL ((recsL h).foldl othH h) (recsL h)).extra = h.extra
    unfold applyL
    rw [say_extra, List.nil_append, rec_extra hr]
theorem told_head {h : Head} (hr : RightH h) : (told h.kind ((fulls h.kind h.name).headD [])).2 = h.name := by
  have h2 := hr.a2
  unfold f2 nameOk at h2
  simp only [Bool.and_eq_true, decide_eq_true_eq, Bool.not_eq_true', Bool.and_eq_false_iff, decide_eq_false_iff_not] at h2
  have hm : (fulls h.kind h.name).headD [] ∈ fulls h.kind h.name := by
    cases hf : fulls h.kind h.name with
    | nil => exact absurd hf (fulls_ne _ _)
    | cons x l => simp
  rw [(told_fulls h.kind h.name [] h2.1.1 (fun ⟨a, b⟩ => by rcases h2.2 with h | h; exact h a; rw [b] at h; cases h)).1 _ hm]
/-! How long the records are. -/
def szP (l : List Pair) : Nat := (l.map fun p => p.key.length + p.val.length).sum
theorem manyW_sum : ∀ (l : List Pair) (s : Nat), (∀ p ∈ l, p.key.length ≤ 140737488351232 ∧ p.val.length ≤ 140737488351232) → s + l.length * 281474976702464 ≤ 9000000000000000000 → manyW (s : Int) l = ((s + szP l : Nat) : Int)
  | [], s, _, _ => by simp [manyW, szP]
  | p :: l, s, hp, hs => by
    obtain ⟨h1, h2⟩ := hp p (by simp)
    rw [List.length_cons] at hs
    have ih := manyW_sum l (s + p.key.length + p.val.length) (fun q hq => hp q (by simp [hq])) (by omega)
    unfold manyW
    rw [i64w (x := (s : Int) + ((p.key.length : Nat) : Int)) (by omega), i64w (x := (s : Int) + ((p.key.length : Nat) : Int) + ((p.val.length : Nat) : Int)) (by omega)]
    rw [show (s : Int) + ((p.key.length : Nat) : Int) + ((p.val.length : Nat) : Int) = ((s + p.key.length + p.val.length : Nat) : Int) by omega, ih]
    have : szP (p :: l) = p.key.length + p.val.length + szP l := by simp [szP]
    omega
theorem szP_app (a b : List Pair) : szP (a ++ b) = szP a + szP b := by simp [szP]
theorem szP_opt (c : Bool) (p : Pair) : szP (optP c p) ≤ p.key.length + p.val.length := by cases c <;> simp [szP, optP]
theorem recs_sz : ∀ l : List Pair, (∀ p ∈ l, p.key.length ≤ 1000000 ∧ p.val.length ≤ 1000000) → (l.flatMap recB).length ≤ szP l + l.length * 24
  | [], _ => by simp
  | p :: l, h => by
    have hp := h p (by simp)
    have ih := recs_sz l fun q hq => h q (by simp [hq])
    have := lenP_facts p hp.1 hp.2
    have hr : restP p = p.key.length + p.val.length + 3 := rfl
    have e : szP (p :: l) = p.key.length + p.val.length + szP l := by simp [szP]
    rw [List.flatMap_cons, List.length_append, recB_len p hp.1 hp.2, List.length_cons]
    omega
theorem rec_bytes {h : Head} (g : G_apiHead h) (hm : many11B h = false) (hr : RightH h) (ho : OkHd h) : ((recsL h).flatMap recB).length ≤ 1000000 := by
  obtain ⟨hk, hv⟩ := raw_facts hr
  have h1 := recs_sz (recsL h) (rec_bd ho)
  have h2 := rec_len ho
  have h3 : szP (recsL h) = szP (rawH h) := ((perm_lay hk hv).map _).sum_nat
  have hsum : h.name.length + h.link.length + h.user.length + h.group.length + szP h.extra ≤ 300000 := by
    have g1 := g.name
    have g2 := g.link
    have g3 := g.user
    have g4 := g.group
    unfold many11B at hm
    rw [Bool.or_eq_false_iff, decide_eq_false_iff_not, decide_eq_false_iff_not, manyW_sum _ _ (fun p hp => ⟨(g.pairs p hp).key, (g.pairs p hp).val⟩) (by omega)] at hm
    omega
  have hf : ((fulls h.kind h.name).headD []).length ≤ h.name.length + 1 := by
    cases hl : fulls h.kind h.name with
    | nil => simp
    | cons f l => simpa using fulls_mem (kind := h.kind) (s := h.name) (f := f) (by rw [hl]; simp)
  have hu := itoa_le' h.uid ho.uid.1 ho.uid.2
  have hg := itoa_le' h.gid ho.gid.1 ho.gid.2
  have hs := itoa_le' h.size ho.size.1 ho.size.2
  have ht : (bif rightT h.nano then printL h.sec h.nano else []).length ≤ 100 := by
    cases hr : rightT h.nano with
    | true => exact printL_le _ _ ho.sec.1 ho.sec.2 hr
    | false => simp
  have h4 : szP (rawH h) ≤ 400000 := by
    unfold rawH rawL
    simp only [addP_opt, szP_app]
    have a1 := szP_opt (canB 2 h 2) ⟨kPath, (fulls h.kind h.name).headD []⟩
    have a2 := szP_opt (canB 2 h 3) ⟨kLink, h.link⟩
    have a3 := szP_opt (canB 2 h 5) ⟨kUid, Lib.itoa h.uid⟩
    have a4 := szP_opt (canB 2 h 6) ⟨kGid, Lib.itoa h.gid⟩
    have a5 := szP_opt (canB 2 h 7) ⟨kSize, Lib.itoa h.size⟩
    have a6 := szP_opt (canB 2 h 8) ⟨kTime, bif rightT h.nano then printL h.sec h.nano else []⟩
    have a7 := szP_opt (canB 2 h 9) ⟨kUser, h.user⟩
    have a8 := szP_opt (canB 2 h 10) ⟨kGroup, h.group⟩
    have l1 : kPath.length = 4 := rfl
    have l2 : kLink.length = 8 := rfl
    have l3 : kUid.length = 3 := rfl
    have l4 : kGid.length = 3 := rfl
    have l5 : kSize.length = 4 := rfl
    have l6 : kTime.length = 5 := rfl
    have l7 : kUser.length = 5 := rfl
    have l8 : kGroup.length = 5 := rfl
    simp only [] at a1 a2 a3 a4 a5 a6 a7 a8
    omega
  omega
end Go.Proofs.YtbkhmkcmbaffoaaGreatDoor.Eng.U


/- pax.Print's drawn region, by the engine: the line that is written. -/
set_option linter.unusedVariables false
set_option linter.unusedSectionVars false
set_option linter.unusedSimpArgs false
namespace Go.Proofs.YtbkhmkcmbaffoaaGreatDoor.Eng.U
open Go Go.RowKit Go.Proofs Go.Proofs.YtbkhmkcmbaffoaaGreatDoor.Eng

noncomputable def os7A : Array Oper := match sel (Tryz.f28.body.getD .skip) [1, 1, 0, 1, 0, 0, 1, 1, 0, 0, 1, 1] with | .region _ os _ => os | _ => #[]
noncomputable def strOf (fr : Fr) : Option ByteArray := match fr.get 27 with | .str s => some s | _ => none
theorem ahead7 (kap : FuncId → List AV → Option AV) (k : Nat) (x y : ByteArray) : aheadK ((bs E0 k).cfg kap pax_Print) os7A.toList 12 (mkFr 31 [(6, .eptr [.str x, .str y] 0)] []) strOf =
  (callI .i64 (kap pax_Len [(.agg [(.str x), (.str y)])]) fun vn2 => (callS (kap strconv_Itoa [(.int .i64 vn2)]) fun vs4 => (bif (decide ((ByteArray.size vs4) + 1 ≤ 9223372036854775807)) then (bif (decide ((ByteArray.size (vs4 ++ (str [32]))) + (ByteArray.size x) ≤ 9223372036854775807)) then (bif (decide ((ByteArray.size ((vs4 ++ (str [32])) ++ x)) + 1 ≤ 9223372036854775807)) then (bif (decide ((ByteArray.size (((vs4 ++ (str [32])) ++ x) ++ (str [61]))) + (ByteArray.size y) ≤ 9223372036854775807)) then (bif (decide ((ByteArray.size ((((vs4 ++ (str [32])) ++ x) ++ (str [61])) ++ y)) + 1 ≤ 9223372036854775807)) then (some (((((vs4 ++ (str [32])) ++ x) ++ (str [61])) ++ y) ++ (str [10]))) else none) else none) else none) else none) else none))) := by kernel_rfl
end Go.Proofs.YtbkhmkcmbaffoaaGreatDoor.Eng.U


/- pax.Print's drawn region: whatever order is drawn, the line of the pair is written. -/
set_option linter.unusedVariables false
set_option linter.unusedSectionVars false
set_option linter.unusedSimpArgs false
namespace Go.Proofs.YtbkhmkcmbaffoaaGreatDoor.Eng.U
open Go Go.RowKit Go.Proofs Go.Proofs.YtbkhmkcmbaffoaaGreatDoor.Eng Go.Proofs.YtbkhmkcmbaffoaaGreatDoor.Eng.Rdv

theorem eptr_two {w : World} {b : Nat} {x y : ByteArray} (h0 : w.cell? ⟨b, 0, none⟩ = some (.string x)) (h1 : w.cell? ⟨b, 1, none⟩ = some (.string y)) : V (stab w) (.eptr [.str x, .str y] 0) (.pointer (some ⟨b, 0, none⟩)) := by
  have e : ∀ j, (⟨b, 0, none⟩ : Addr).add j = ⟨b, j, none⟩ := fun j => by rw [add_lit', Nat.zero_add]
  have := V.eptr (S := stab w) [.str x, .str y] 0 ⟨b, 0, none⟩ (fun j => if j = 0 then .string x else .string y) (fun j c h => by
    match j, h with
    | 0, h => cases h; rfl
    | 1, h => cases h; rfl) (fun j c h => by
    rw [e]
    match j, h with
    | 0, h => exact h0
    | 1, h => exact h1) (fun j c h => by
    match j, h with
    | 0, h => cases h; exact V.str _
    | 1, h => cases h; exact V.str _)
  rwa [e] at this
theorem rel_one {P : Program} {w : World} {a : Act} {N t : Nat} {c : AV} (hsz : a.tmps.size = N) (hdf : a.defers = []) (ht : t < N) (h : V (stab w) c (a.tmps.getD t undef)) (hp : ∀ S gv ob v, V S c v → SV P S gv ob c v) :
    Rel P (stab w) { w := w, x := [], held := fun _ => none } (stab w) (fun _ => undef) (mkFr N [(t, c)] []) a w where
  below := BelX.refl _
  agree := agree_stab w
  ext := fun _ _ h => h
  fresh := fun x v h => .inl h
  held := fun r v h => by cases h
  len := by simp [mkFr, fillS, hsz]
  obl := by simp [mkFr, fillS, fillO]
  defers := hdf
  slot := fun s hs => by
    have hs : s < N := by simpa [mkFr, fillS] using hs
    by_cases e : s = t
    · subst e
      have : (mkFr N [(s, c)] []).get s = c := by
        simp only [mkFr, fillS, Fr.get, List.getD_eq_getElem?_getD]
        rw [List.getElem?_set_self (by rw [List.length_replicate]; exact ht)]; rfl
      rw [this]
      exact hp _ _ _ _ h
    · have : (mkFr N [(t, c)] []).get s = .junk := by
        simp only [mkFr, fillS, Fr.get, List.getD_eq_getElem?_getD]
        rw [List.getElem?_set_ne (fun h => e h.symm)]
        simp [hs]
      rw [this]; trivial
  objs := fun r o h => by
    have : (mkFr N [(t, c)] []).obj r = none := by simp [mkFr, fillO, Fr.obj, List.getD_eq_getElem?_getD, List.getElem?_replicate]; split <;> rfl
    rw [this] at h; cases h
  dis := fun r r' o o' g h => by
    have : (mkFr N [(t, c)] []).obj r = none := by simp [mkFr, fillO, Fr.obj, List.getD_eq_getElem?_getD, List.getElem?_replicate]; split <;> rfl
    rw [this] at h; cases h
def lineOf (s : ByteArray) (key val : List UInt8) : ByteArray := ((((s ++ (str [32])) ++ str key) ++ (str [61])) ++ str val) ++ (str [10])
theorem arr31 {a : Array Value} (h : a.size = 31) : a = #[a.getD 0 undef, a.getD 1 undef, a.getD 2 undef, a.getD 3 undef, a.getD 4 undef, a.getD 5 undef, a.getD 6 undef, a.getD 7 undef, a.getD 8 undef, a.getD 9 undef, a.getD 10 undef, a.getD 11 undef, a.getD 12 undef, a.getD 13 undef, a.getD 14 undef, a.getD 15 undef, a.getD 16 undef, a.getD 17 undef, a.getD 18 undef, a.getD 19 undef, a.getD 20 undef, a.getD 21 undef, a.getD 22 undef, a.getD 23 undef, a.getD 24 undef, a.getD 25 undef, a.getD 26 undef, a.getD 27 undef, a.getD 28 undef, a.getD 29 undef, a.getD 30 undef] := by
  obtain ⟨l⟩ := a
  match l, h with
  | [x0, x1, x2, x3, x4, x5, x6, x7, x8, x9, x10, x11, x12, x13, x14, x15, x16, x17, x18, x19, x20, x21, x22, x23, x24, x25, x26, x27, x28, x29, x30], _ => rfl
theorem reg7 {E : Ext} [Core E] {k n : Nat} (hB : (bs E k).Good) (key val : List UInt8) (m : Int) (s : ByteArray)
    (hLen : kp E k n pax_Len [.agg [.str (str key), .str (str val)]] = some (.int .i64 m)) (hIt : kp E k n strconv_Itoa [.int .i64 m] = some (.str s))
    (hs : s.size ≤ 1000) (hk : key.length ≤ 1000000) (hv : val.length ≤ 1000000)
    {a : Act} {w : World} {bt : Nat} (h6 : a.tmps.getD 6 undef = .pointer (some ⟨bt, 0, none⟩)) (hc0 : w.cell? ⟨bt, 0, none⟩ = some (.string (str key))) (hc1 : w.cell? ⟨bt, 1, none⟩ = some (.string (str val)))
    (hsz : a.tmps.size = 31) (hdf : a.defers = []) (hG : GlobOk glob (stab w) w) {Q : Exit → Act → World → Prop} {o : Oper} (ho : os7A[12]? = some o) (hwant : ∀ a' : Act, Region.wanted o (yielded os7A a'.tmps) = true)
    {os : Array Oper} (hos : os = os7A) (hQ : ∀ a' w', HeldT (os7A.toList.filterMap (·.dst)) a a' → a'.tmps.size = 31 → a'.defers = [] → a'.tmps.getD 27 undef = .string (lineOf s key val) → Below w.heap.size w w' → o.wp Tryz.prog a' w' (fun a2 w2 => Q .normal a2 w2) Q) : (Code.region 7 os true).wp Tryz.prog Q a w := by
  subst hos
  have hr : Rel Tryz.prog (stab w) { w := w, x := [], held := fun _ => none } (stab w) (fun _ => undef) (mkFr 31 [(6, .eptr [.str (str key), .str (str val)] 0)] []) a w :=
    rel_one hsz hdf (by omega) (by rw [h6]; exact eptr_two hc0 hc1) (fun _ _ _ _ h => h)
  have hS : Sound ((bs E k).cfg (kp E k n) pax_Print) := fun f args res h => Base.sound hB n pax_Print f args res h
  have hC : Ctx ((bs E k).cfg (kp E k n) pax_Print) (stab w) { w := w, x := [], held := fun _ => none } := ⟨⟨hG, fun _ _ _ => by simp⟩, fun _ _ => rfl⟩
  have hke : aheadK ((bs E k).cfg (kp E k n) pax_Print) os7A.toList 12 (mkFr 31 [(6, .eptr [.str (str key), .str (str val)] 0)] []) strOf = some (lineOf s key val) := by
    have := ahead7 (kp E k n) k (str key) (str val)
    rw [hLen, callI_ok, hIt, callS_ok, bif_t (by omega), bif_t (by rw [ByteArray.size_append, str_size, str_size]; simp only [List.length_cons, List.length_nil]; omega), bif_t (by rw [ByteArray.size_append, ByteArray.size_append, str_size, str_size]; simp only [List.length_cons, List.length_nil]; omega),
      bif_t (by rw [ByteArray.size_append, ByteArray.size_append, ByteArray.size_append, str_size, str_size, str_size, str_size]; simp only [List.length_cons, List.length_nil]; omega),
      bif_t (by rw [ByteArray.size_append, ByteArray.size_append, ByteArray.size_append, ByteArray.size_append, str_size, str_size, str_size, str_size]; simp only [List.length_cons, List.length_nil]; omega)] at this
    exact this
  refine draw_last (C := (bs E k).cfg (kp E k n) pax_Print) hB.mixed hS hC (show os7A.size = 12 + 1 by kernel_rfl) ho hr hke hwant fun fr1 S' gv' a' w' hf hj hR => ?_
  refine hQ a' w' hj (hj.1.trans hsz) hR.defers ?_ ?_
  · have h27 : fr1.get 27 = .str (lineOf s key val) := by
      unfold strOf at hf
      cases hx : fr1.get 27 with
      | str t => rw [hx] at hf; simp only [Option.some.injEq] at hf; rw [hf]
      | _ => rw [hx] at hf; cases hf
    have hlen : 27 < fr1.sl.length := by have := hR.len; have := hj.1; omega
    have := hR.slot 27 hlen
    rw [h27] at this
    exact V_str this
  · exact ⟨hR.below.os, hR.below.tape, hR.below.output, hR.below.size, fun j hj => hR.below.block j hj (by simp)⟩
end Go.Proofs.YtbkhmkcmbaffoaaGreatDoor.Eng.U


/- pax.Print, walked. (under way) -/
set_option linter.unusedVariables false
set_option linter.unusedSectionVars false
set_option linter.unusedSimpArgs false
namespace Go.Proofs.YtbkhmkcmbaffoaaGreatDoor.Eng.U
open Go Go.RowKit Go.Proofs Go.Shelf Go.Proofs.YtbkhmkcmbaffoaaGreatDoor.Eng Go.Proofs.YtbkhmkcmbaffoaaGreatDoor.Eng.Rdv

/-- The lines of pairs. -/
def linesOf (txt : Pair → ByteArray) (l : List Pair) : List UInt8 := l.flatMap fun p => (lineOf (txt p) p.key p.val).data.toList
theorem glob_below {w w1 : World} (h : GlobOk glob (stab w) w) (hb : Below w.heap.size w w1) : GlobOk glob (stab w1) w1 := fun g cs hg => by
  obtain ⟨h1, arr, t, f, h2, h3⟩ := h g cs hg
  refine ⟨h1.mono (agree_below (agree_stab w) hb), arr, t, f, ?_, h3⟩
  rw [hb.block g (Array.getElem?_eq_some_iff.1 h2).1]
  exact h2
theorem dst7 : os7A.toList.filterMap (·.dst) = [16, 17, 18, 19, 20, 21, 22, 23, 24, 25, 26, 27, 28] := by kernel_rfl
noncomputable def op12 : Oper := os7A[12]?.getD default
/-- The write at the end of the region. -/
theorem write7 {a' : Act} {w2 : World} {K : Act → World → Prop} {Q : Exit → Act → World → Prop} {B : Nat} {bs : List Value} {s : ByteArray} (h4 : a'.tmps.getD 4 undef = .pointer (some ⟨B, 0, none⟩)) (h27 : a'.tmps.getD 27 undef = .string s)
    (hI : Lib.IsBuffer 109 5 B B bs w2) (hB : B ≤ w2.heap.size) (h1 : ∀ v ∈ bs, v.oneCell' = true) (hlim : bs.length + s.size ≤ 140737488355328)
    (hK : ∀ v w3, Lib.IsBuffer 109 5 B B (bs ++ Lib.byteCells s.data.toList) w3 → Below B w2 w3 → K (a'.put (some 28) v) w3) : op12.wp Tryz.prog a' w2 K Q := by
  unfold Oper.wp
  rw [run_enter (o := op12) (fo := .func 73) (args := #[.tmp 4, .tmp 27]) (ats := #[109, 9]) (cv := []) (fn := Tryz.f73) Tryz.func73 (by kernel_rfl) (by kernel_rfl) (by kernel_rfl) rfl, Oper.upon_enter]
  have e : (((#[Operand.tmp 4, Operand.tmp 27] : Array Operand).toList.map a'.eval ++ []).toArray : Array Value) = #[.pointer (some ⟨B, 0, none⟩), .string s] := by
    rw [← h4, ← h27]; rfl
  rw [e]
  refine (Tryz.Buffer_WriteString_k B B bs s w2 hI hB h1 hlim).mono ?_
  rintro e w3 ⟨rfl, k1, k2, _⟩
  exact hK _ _ k1 k2
theorem size_toList (s : ByteArray) : s.data.toList.length = s.size := Array.length_toList
theorem lines_app (txt : Pair → ByteArray) (l : List Pair) (p : Pair) : linesOf txt (l ++ [p]) = linesOf txt l ++ (lineOf (txt p) p.key p.val).data.toList := by simp [linesOf]
theorem one_bytes (l : List UInt8) : ∀ v ∈ Lib.byteCells l, v.oneCell' = true := by
  intro v hv
  obtain ⟨b, _, rfl⟩ := List.mem_map.1 hv
  rfl
theorem right_calls {E : Ext} [Core E] {k n : Nat} (hB : (bs E k).Good) (p : Pair) (h : kp E k n pax_Right [.agg [.str (str p.key), .str (str p.val)]] = some (.bool (pairOk p))) {w : World} (hG : GlobOk glob (stab w) w) :
    Calls Tryz.prog 56 #[.agg #[.string (str p.key), .string (str p.val)]] w fun e w' => e = .returned (.bool (pairOk p)) ∧ Below w.heap.size w w' := by
  have hok := Base.ok (B := bs E k) hB (n := n) h
  refine (hok.plain (stab w) w [.agg #[.string (str p.key), .string (str p.val)]] (agree_stab w) hG ⟨rfl, fun j c x hc hx => by
    match j, hc, hx with
    | 0, hc, hx =>
      cases hc; cases hx
      exact V.agg _ [.string (str p.key), .string (str p.val)] rfl (fun j c h => by
        match j, h with
        | 0, h => cases h; rfl
        | 1, h => cases h; rfl) (fun j c u h hu => by
        match j, h, hu with
        | 0, h, hu => cases h; cases hu; exact V.str _
        | 1, h, hu => cases h; cases hu; exact V.str _)⟩).mono fun e w' ⟨v, S', he, _, _, _, bel, hv⟩ => ?_
  obtain rfl : v = .bool (pairOk p) := by cases (show V S' (.bool (pairOk p)) v from hv); rfl
  exact ⟨he, bel⟩
set_option maxHeartbeats 4000000 in
set_option maxRecDepth 1000000 in
theorem print_walk {E : Ext} [Core E] {k n : Nat} (hB : (bs E k).Good) (txt : Pair → ByteArray) (len : Pair → Int) (l : List Pair) (ao : Option Addr) (cap : Nat) (w : World) (hl : l.length ≤ 1000000) (hG : GlobOk glob (stab w) w)
    (hb : ∀ p ∈ l, p.key.length ≤ 1000000 ∧ p.val.length ≤ 1000000 ∧ (txt p).size ≤ 1000) (htot : ∀ i, (linesOf txt (l.take i)).length ≤ 100000000000)
    (hLen : ∀ p ∈ l, kp E k n pax_Len [.agg [.str (str p.key), .str (str p.val)]] = some (.int .i64 (len p))) (hIt : ∀ p ∈ l, kp E k n strconv_Itoa [.int .i64 (len p)] = some (.str (txt p)))
    (hR : ∀ p ∈ l, kp E k n pax_Right [.agg [.str (str p.key), .str (str p.val)]] = some (.bool (pairOk p)))
    (hc : ∀ (i : Nat) (p : Pair), l[i]? = some p → ∃ a : Addr, ao = some a ∧ w.cell? (a.add (i * 2)) = some (.string (str p.key)) ∧ w.cell? (a.add (i * 2 + 1)) = some (.string (str p.val))) :
    Calls Tryz.prog 28 #[.slice ao l.length cap] w fun e w' => Below w.heap.size w w' ∧
      ((l.all pairOk = true ∧ ∃ r, e = .returned (.tuple #[r, .int .u8 0]) ∧ w'.ownsRow w.heap.size 5 1 r (linesOf txt l).length (Lib.byteCells (linesOf txt l))) ∨ (l.all pairOk = false ∧ e = .returned (.tuple #[.slice none 0 0, .int .u8 15]))) := by
  go_enter Tryz.func28, Tryz.ntmps28
  go_wp2
  go_loopw [9] (fun s9 wr => ∃ i : Nat, s9 = .int .i64 (i : Int) ∧ i ≤ l.length ∧ Lib.IsBuffer 109 5 w.heap.size w.heap.size (Lib.byteCells (linesOf txt (l.take i))) wr ∧ Below w.heap.size w wr ∧ (l.take i).all pairOk = true) (fun s9 wr => l.length - (intOf s9).toNat)
  case atStart =>
    exact ⟨0, rfl, by omega, Lib.fresh_isBuffer 109 5 w, (Below.refl _ w).alloc (Nat.le_refl _) _, rfl⟩
  case round =>
    obtain ⟨i, rfl, hi, hI, hbw, hall⟩ := hrel
    by_cases hlt : i < l.length
    · obtain ⟨p, hp⟩ : ∃ p, l[i]? = some p := ⟨l[i], List.getElem?_eq_getElem hlt⟩
      have hmem := List.mem_of_getElem? hp
      obtain ⟨a, rfl, hc0, hc1⟩ := hc i p hp
      obtain ⟨q1, q2, q3⟩ := hb p hmem
      have g0 : wr.cell? (a.add (i * 2)) = some (.string (str p.key)) := agree_below (agree_stab w) hbw _ _ hc0
      have g1 : wr.cell? { block := (a.add (i * 2)).block, off := (a.add (i * 2)).off + 1 } = some (.string (str p.val)) := by
        have h := agree_below (agree_stab w) hbw _ _ hc1
        rw [← Addr.add_add] at h
        exact h
      have hsz : w.heap.size ≤ wr.heap.size := hbw.size
      have hbw1 := hbw.alloc (show w.heap.size ≤ wr.heap.size by omega) (.cells #[.string (str p.key), .string (str p.val)] 50)
      go_wp2_with (go_at_call 56; refine (right_calls hB p (hR p hmem) (glob_below hG hbw1)).mono ?_)
      rintro e w1 ⟨rfl, b1⟩
      have hbw2 := hbw1.trans (b1.mono (show w.heap.size ≤ _ by rw [World.size_alloc]; omega))
      have hI1 := (hI.alloc (.cells #[.string (str p.key), .string (str p.val)] 50)).old b1
      cases hpo : pairOk p with
      | false =>
        go_wp2
        refine bodyPost_ret (results_tmp2 rfl _ _ _) rfl ?_
        exact ⟨hbw2, .inr ⟨List.all_eq_false.2 ⟨p, hmem, by rw [hpo]; simp⟩, rfl⟩⟩
      | true =>
        have hn := cell_two_new wr (.string (str p.key)) (.string (str p.val)) 50
        have e0 : w1.cell? ⟨wr.heap.size, 0, none⟩ = some (.string (str p.key)) := by
          rw [b1.cell (by rw [World.size_alloc]; exact Nat.lt_succ_self _)]
          exact hn 0 _ rfl
        have e1 : w1.cell? ⟨wr.heap.size, 1, none⟩ = some (.string (str p.val)) := by
          rw [b1.cell (by rw [World.size_alloc]; exact Nat.lt_succ_self _)]
          have := hn 1 _ rfl
          rwa [add_lit', Nat.zero_add] at this
        go_wp2
        refine reg7 hB p.key p.val (len p) (txt p) (hLen p hmem) (hIt p hmem) q3 q1 q2 (bt := wr.heap.size) rfl e0 e1 rfl rfl (glob_below hG hbw2) (o := op12) (by kernel_rfl) (fun _ => rfl) (by kernel_rfl) ?_
        intro a' w2 hj hsz2 hdf2 h27 b2
        rw [dst7] at hj
        have hI2 := hI1.old b2
        have hbw3 := hbw2.trans (b2.mono hbw2.size)
        have hln : (linesOf txt (l.take (i + 1))) = linesOf txt (l.take i) ++ (lineOf (txt p) p.key p.val).data.toList := by
          rw [List.take_add_one, hp]; exact lines_app txt _ p
        have htl := htot (i + 1)
        rw [hln, List.length_append] at htl
        refine write7 (hj.2 4 (by decide)) h27 hI2 hbw3.size (one_bytes _) (by rw [Lib.byteCells_length]; rw [size_toList] at htl; omega) fun v w3 k1 k2 => ?_
        rw [← Lib.byteCells_append, ← hln] at k1
        have ha' := arr31 hsz2
        obtain ⟨tm, df⟩ := a'
        rename_i hgo
        refine hgo _ _ ?_
        have z0 : tm.getD 0 undef = _ := hj.2 0 (by decide)
        have z1 : tm.getD 1 undef = _ := hj.2 1 (by decide)
        have z4 : tm.getD 4 undef = _ := hj.2 4 (by decide)
        have z5 : tm.getD 5 undef = _ := hj.2 5 (by decide)
        have z7 : tm.getD 7 undef = _ := hj.2 7 (by decide)
        have z8 : tm.getD 8 undef = _ := hj.2 8 (by decide)
        have z9 : tm.getD 9 undef = _ := hj.2 9 (by decide)
        have z30 : tm.getD 30 undef = _ := hj.2 30 (by decide)
        have ha2 : tm = _ := ha'
        have hdf3 : df = [] := hdf2
        subst hdf3
        rw [ha2]
        rw [z0, z1, z4, z5, z7, z8, z9, z30]
        generalize tm.getD 2 undef = y2
        generalize tm.getD 3 undef = y3
        generalize tm.getD 6 undef = y6
        generalize tm.getD 10 undef = y10
        generalize tm.getD 11 undef = y11
        generalize tm.getD 12 undef = y12
        generalize tm.getD 13 undef = y13
        generalize tm.getD 14 undef = y14
        generalize tm.getD 15 undef = y15
        generalize tm.getD 16 undef = y16
        generalize tm.getD 17 undef = y17
        generalize tm.getD 18 undef = y18
        generalize tm.getD 19 undef = y19
        generalize tm.getD 20 undef = y20
        generalize tm.getD 21 undef = y21
        generalize tm.getD 22 undef = y22
        generalize tm.getD 23 undef = y23
        generalize tm.getD 24 undef = y24
        generalize tm.getD 25 undef = y25
        generalize tm.getD 26 undef = y26
        generalize tm.getD 27 undef = y27
        generalize tm.getD 28 undef = y28
        generalize tm.getD 29 undef = y29
        simp only [Act.put]
        go_wp2
        go_roundw
        case rel =>
          exact ⟨i + 1, by simp, by omega, k1, hbw3.trans k2, by rw [List.take_add_one, hp]; simp [hall, hpo]⟩
        case measure =>
          show l.length - (intOf (.int .i64 ((i : Int) + 1))).toNat < l.length - (intOf (.int .i64 (i : Int))).toNat
          show l.length - ((i : Int) + 1).toNat < l.length - (i : Int).toNat
          omega
    · obtain rfl : i = l.length := by omega
      rw [List.take_length] at hI hall
      go_wp2_with (go_at_call 76; refine (Tryz.Buffer_Bytes w.heap.size w.heap.size _ _ hI).mono ?_)
      rintro e w1 ⟨v, rfl, hown, m, rfl⟩
      go_wp2
      refine bodyPost_ret (results_tmp2 rfl _ _ _) rfl ?_
      rw [Lib.byteCells_length] at hown
      exact ⟨⟨hbw.os, hbw.tape, hbw.output, hbw.size, hbw.block⟩, .inl ⟨hall, v, rfl, hown⟩⟩
end Go.Proofs.YtbkhmkcmbaffoaaGreatDoor.Eng.U


/- pax.Print as a given function: the lines of the pairs, a new row. -/
set_option linter.unusedVariables false
set_option linter.unusedSectionVars false
set_option linter.unusedSimpArgs false
namespace Go.Proofs.YtbkhmkcmbaffoaaGreatDoor.Eng.U
open Go Go.RowKit Go.Proofs Go.Proofs.YtbkhmkcmbaffoaaGreatDoor.Eng Go.Proofs.YtbkhmkcmbaffoaaGreatDoor.Eng.Rdv

def okP (l : List Pair) : Bool := decide (l.length ≤ 1000) && l.all fun p => decide (p.key.length ≤ 1000000) && decide (p.val.length ≤ 1000000)
def txtP (p : Pair) : ByteArray := str (Lib.decDigits (lenP p))
def linesL (l : List Pair) : List UInt8 := linesOf txtP l
noncomputable def pPrint : Piece := { f := pax_Print, ans := fun args => match args with
  | [.list 2 xs] => (toPrs xs).bind fun l => bif okP l then some (bif l.all pairOk then .tup [.list 1 (bys (linesL l)), .int .u8 0] else .tup [.list 1 [], .int .u8 15]) else none
  | _ => none }
theorem lines_le : ∀ l : List Pair, (∀ p ∈ l, p.key.length ≤ 1000000 ∧ p.val.length ≤ 1000000) → (linesOf txtP l).length ≤ l.length * 3000000
  | [], _ => by simp [linesOf]
  | p :: l, h => by
    have hp := h p (.head _)
    have ih := lines_le l fun q hq => h q (.tail _ hq)
    have := lenP_facts p hp.1 hp.2
    have hr : restP p = p.key.length + p.val.length + 3 := rfl
    have hd := dl_le (lenP p) (by omega)
    have e : (Lib.decDigits (lenP p)).length = dl (lenP p) := rfl
    have e2 : linesOf txtP (p :: l) = (lineOf (txtP p) p.key p.val).data.toList ++ linesOf txtP l := rfl
    rw [e2, List.length_append, size_toList, List.length_cons]
    have e3 : (lineOf (txtP p) p.key p.val).size = dl (lenP p) + 1 + p.key.length + 1 + p.val.length + 1 := by
      unfold lineOf txtP
      rw [ByteArray.size_append, ByteArray.size_append, ByteArray.size_append, ByteArray.size_append, ByteArray.size_append, str_size, str_size, str_size, str_size, str_size, str_size]
      rfl
    omega
theorem print_right : pPrint.Right := by
  refine ⟨⟨Tryz.f28, Tryz.func28, by kernel_rfl, by kernel_rfl⟩, fun args res h => ?_⟩
  unfold pPrint at h
  dsimp only at h
  split at h
  · rename_i xs
    obtain ⟨l, hl, h2⟩ := Option.bind_eq_some_iff.1 h
    clear h
    obtain rfl := toPrs_some hl
    obtain ⟨hok, h3⟩ := some_of_bif h2
    clear h2
    obtain rfl := Option.some.inj h3
    clear h3
    unfold okP at hok
    rw [Bool.and_eq_true, decide_eq_true_eq, List.all_eq_true] at hok
    obtain ⟨hl1, hb⟩ := hok
    have hb : ∀ p ∈ l, p.key.length ≤ 1000000 ∧ p.val.length ≤ 1000000 := fun p hp => by have := hb p hp; simpa using this
    have hB : (bs ext09 2000000).Good := good09 2000000
    have key : ∀ (S : Stab) (w : World) (vals : List Value), Agree S w → GlobOk glob S w → VL S [.list 2 (prs l)] vals → Calls Tryz.prog 28 vals.toArray w fun e w' => Below w.heap.size w w' ∧
      ((l.all pairOk = true ∧ ∃ r, e = .returned (.tuple #[r, .int .u8 0]) ∧ w'.ownsRow w.heap.size 5 1 r (linesL l).length (Lib.byteCells (linesL l))) ∨ (l.all pairOk = false ∧ e = .returned (.tuple #[.slice none 0 0, .int .u8 15]))) := by
      intro S w vals hag hG hV
      obtain ⟨v, rfl, hv⟩ := VL_1 hV
      obtain ⟨ao, cap, rfl, hel⟩ := list_inv hv
      rw [prs_len]
      refine print_walk (E := ext09) (k := 2000000) (n := 5) hB txtP (fun p => (lenP p : Nat)) l ao cap w (by omega) (fun g cs hg => by
        obtain ⟨h1, h2⟩ := hG g cs hg
        exact ⟨h1.mono fun x v hx => hag x v hx, h2⟩) (fun p hp => ⟨(hb p hp).1, (hb p hp).2, by
          have := lenP_facts p (hb p hp).1 (hb p hp).2
          have hd := dl_le (lenP p) (by have : restP p = p.key.length + p.val.length + 3 := rfl; have := hb p hp; omega)
          show (str (Lib.decDigits (lenP p))).size ≤ 1000
          rw [str_size]
          have e : (Lib.decDigits (lenP p)).length = dl (lenP p) := rfl
          omega⟩) (fun i => ?_) (fun p hp => paxLen_k p (hb p hp).1 (hb p hp).2 (by omega)) (fun p hp => by
          have := lenP_facts p (hb p hp).1 (hb p hp).2
          have : restP p = p.key.length + p.val.length + 3 := rfl
          have := hb p hp
          rw [HasNum.itoa 2000000 5 _ (by omega) (by omega), itoa_nat]; rfl) (fun p hp => paxRight_k (n := 0) p (hb p hp).1 (hb p hp).2 (by omega)) (fun i p hp => ?_)
      · have := lines_le (l.take i) fun p hp => hb p (List.mem_of_mem_take hp)
        have h3 : (l.take i).length ≤ 1000 := by rw [List.length_take]; omega
        omega
      · obtain ⟨a, f, ha, hc⟩ := hel i (elPair p) (by unfold prs; rw [List.getElem?_map, hp]; rfl)
        obtain ⟨c0, d0⟩ := hc 0 (.str (str p.key)) rfl
        obtain ⟨c1, d1⟩ := hc 1 (.str (str p.val)) rfl
        rw [V_str d0] at c0
        rw [V_str d1] at c1
        exact ⟨a, ha, hag _ _ c0, hag _ _ c1⟩
    cases hall : l.all pairOk with
    | true =>
      rw [cond_true]
      refine ok_rowint (e := 5) fun S w vals hag hG hV => (key S w vals hag hG hV).mono ?_
      rintro e w' ⟨hb', ⟨_, r, rfl, hown⟩ | ⟨hf, _⟩⟩
      · refine ⟨r, _, rfl, by rw [bys_len]; exact hown, fun i x hx => ?_, hb'⟩
        unfold bys at hx
        rw [List.getElem?_map] at hx
        obtain ⟨b, hb2, rfl⟩ := Option.map_eq_some_iff.1 hx
        refine ⟨rfl, fun j c hc => ?_⟩
        match j, hc with
        | 0, hc =>
          cases hc
          refine ⟨rfl, fun u hu => ?_⟩
          rw [show i * 1 + 0 = i by omega] at hu
          unfold Lib.byteCells at hu
          rw [List.getElem?_map, hb2] at hu
          cases hu
          exact V.int _ _
      · rw [hall] at hf; cases hf
    | false =>
      rw [cond_false]
      refine ok_rowint (e := 5) (sz := 1) (xs := []) fun S w vals hag hG hV => (key S w vals hag hG hV).mono ?_
      rintro e w' ⟨hb', ⟨ht, _⟩ | ⟨_, rfl⟩⟩
      · rw [hall] at ht; cases ht
      · exact ⟨_, [], rfl, World.ownsRow_nil _ _ _ _, fun i x hx => by simp at hx, hb'⟩
  · cases h
end Go.Proofs.YtbkhmkcmbaffoaaGreatDoor.Eng.U


/- The library's functions and pax.Print, given together. -/
set_option linter.unusedVariables false
set_option linter.unusedSectionVars false
set_option linter.unusedSimpArgs false
namespace Go.Proofs.YtbkhmkcmbaffoaaGreatDoor.Eng.U
open Go Go.RowKit Go.Proofs Go.Proofs.YtbkhmkcmbaffoaaGreatDoor.Eng

class HasPrint (E : Ext) : Prop where
  print : ∀ (k n : Nat) (l : List Pair), okP l = true → kp E k n pax_Print [.list 2 (prs l)] = some (bif l.all pairOk then .tup [.list 1 (bys (linesL l)), .int .u8 0] else .tup [.list 1 [], .int .u8 15])
noncomputable def ps07 : List Piece := [pFmt, pItoa, pCutP, pTrimR, pIndex, pIndexByte, pRepeat, pPInt, pPUint, pDec, pAny, pPrint]
noncomputable def ext07 : Ext := extOf ps07
instance core07 : Core ext07 := core_of (by kernel_rfl)
instance num07 : HasNum ext07 := num_of rfl rfl rfl rfl rfl rfl rfl rfl rfl
instance text07 : HasText ext07 where
  dec k n s := ⟨_, _, (kp_piece (ps := ps07) (p := pDec) (k := k) (n := n) (args := [.str (str s)]) rfl).trans rfl⟩
  idx k n s hs := by
    have h := kp_piece (ps := ps07) (p := pAny) (k := k) (n := n) (args := [.str (str s), .str (str [61, 0])]) rfl
    have e : pAny.ans [.str (str s), .str (str [61, 0])] = (bif decide (str [61, 0] = str [61, 0]) && decide ((str s).size ≤ 1000000) then (bif decide (8 < (str s).size) then some (.int .i64 (Lib.indexAny (str s).data.toList [61, 0])) else (bs ext09a 100).kap 3 strings_IndexAny [.str (str s), .str (str [61, 0])]) else none) := rfl
    rw [e, str_size, decide_eq_true rfl, decide_eq_true hs, Bool.true_and, cond_true] at h
    by_cases h8 : 8 < s.length
    · rw [decide_eq_true h8, cond_true] at h
      exact ⟨_, h⟩
    · rw [decide_eq_false h8, cond_false] at h
      obtain ⟨r, hr⟩ := any_short (E := ext09a) (k := 100) (n := 0) (by kernel_rfl) (by kernel_rfl) (by omega) s (by omega)
      exact ⟨r, h.trans hr⟩
instance textV07 : HasTextV ext07 where
  dec k n s := (kp_piece (ps := ps07) (p := pDec) (k := k) (n := n) (args := [.str s]) rfl).trans rfl
  idx k n s hs := by
    have h := kp_piece (ps := ps07) (p := pAny) (k := k) (n := n) (args := [.str (str s), .str (str [61, 0])]) rfl
    have e : pAny.ans [.str (str s), .str (str [61, 0])] = (bif decide (str [61, 0] = str [61, 0]) && decide ((str s).size ≤ 1000000) then (bif decide (8 < (str s).size) then some (.int .i64 (Lib.indexAny (str s).data.toList [61, 0])) else (bs ext09a 100).kap 3 strings_IndexAny [.str (str s), .str (str [61, 0])]) else none) := rfl
    rw [e, str_size, decide_eq_true rfl, decide_eq_true hs, Bool.true_and, cond_true] at h
    by_cases h8 : 8 < s.length
    · rw [decide_eq_true h8, cond_true] at h
      exact ⟨_, h, any_long_v s⟩
    · rw [decide_eq_false h8, cond_false] at h
      obtain ⟨r, hr, hv⟩ := any_short_v (E := ext09a) (k := 100) (n := 0) (by kernel_rfl) (by kernel_rfl) (by omega) s (by omega)
      exact ⟨r, h.trans hr, hv⟩
instance print07 : HasPrint ext07 where
  print k n l hl := by
    have h := kp_piece (ps := ps07) (p := pPrint) (k := k) (n := n) (args := [.list 2 (prs l)]) rfl
    have e : pPrint.ans [.list 2 (prs l)] = (toPrs (prs l)).bind fun l => bif okP l then some (bif l.all pairOk then .tup [.list 1 (bys (linesL l)), .int .u8 0] else .tup [.list 1 [], .int .u8 15]) else none := rfl
    rw [e, toPrs_prs, Option.bind_some, hl, cond_true] at h
    exact h
end Go.Proofs.YtbkhmkcmbaffoaaGreatDoor.Eng.U


/- over.Get, walked: a function value that looks at a box. -/
set_option linter.unusedVariables false
set_option linter.unusedSimpArgs false
set_option linter.unusedSectionVars false
namespace Go.Proofs.YtbkhmkcmbaffoaaGreatDoor.S08
open Go Go.RowKit Go.Shelf Go.Proofs Go.Proofs.YtbkhmkcmbaffoaaGreatDoor.Eng Go.Proofs.YtbkhmkcmbaffoaaGreatDoor.Eng.U Go.Proofs.YtbkhmkcmbaffoaaGreatDoor.Eng.Rdv

set_option maxHeartbeats 1000000 in
set_option maxRecDepth 100000 in
theorem get1_calls (p : Pair) (key : List UInt8) (kb : Nat) (w : World) (hk : w.cell? ⟨kb, 0, none⟩ = some (.string (str key))) :
    Calls Tryz.prog 72 #[.agg #[.string (str p.key), .string (str p.val)], .pointer (some ⟨kb, 0, none⟩)] w fun e w' => e = .returned (.bool (decide (p.key = key))) ∧ Below w.heap.size w w' := by
  have hlt : kb < w.heap.size := World.block_lt_of_cell? w ⟨kb, 0, none⟩ hk
  have hk2 : ∀ o, (w.alloc o).cell? ⟨kb, 0, none⟩ = some (.string (str key)) := fun o => (World.cell?_of_block (Below.heap_alloc w o kb hlt)).trans hk
  go_enter Tryz.func72, Tryz.ntmps72
  go_wp2
  refine bodyPost_ret (results_tmp rfl _ _ _) rfl ?_
  refine ⟨?_, (Below.refl _ w).alloc (Nat.le_refl _) _⟩
  show Ending.returned (Value.bool ((str p.key).toList == (str key).toList)) = _
  rw [str_list, str_list]
  congr 2
  rw [Bool.eq_iff_iff, beq_iff_eq, decide_eq_true_eq]
def posG (l : List Pair) (key : Tx) : Nat := l.findIdx fun p => decide (p.key = key)
def idxG (l : List Pair) (key : Tx) : Int := if posG l key < l.length then (posG l key : Int) else -1
theorem posG_at {l : List Pair} {key : Tx} {i : Nat} {p : Pair} (h : l[i]? = some p) (hp : p.key = key) (hn : ∀ q ∈ l.take i, q.key ≠ key) : posG l key = i := by
  have hi := (List.getElem?_eq_some_iff.1 h).1
  unfold posG
  refine (List.findIdx_eq hi).2 ⟨?_, fun j hj => ?_⟩
  · rw [(List.getElem?_eq_some_iff.1 h).2, decide_eq_true hp]
  · have hj' : j < l.length := by omega
    exact decide_eq_false (hn _ (by rw [List.mem_take_iff_getElem]; exact ⟨j, by omega, rfl⟩))
theorem posG_none {l : List Pair} {key : Tx} (hn : ∀ q ∈ l, q.key ≠ key) : idxG l key = -1 := by
  unfold idxG posG
  rw [if_neg]
  intro h
  have := List.findIdx_getElem (w := h)
  exact hn _ (List.getElem_mem h) (of_decide_eq_true this)
theorem getL_pos (l : List Pair) (key : Tx) : getL l key = if idxG l key < 0 then none else l[(idxG l key).toNat]? := by
  unfold idxG
  by_cases h : posG l key < l.length
  · rw [if_pos h, if_neg (by omega), Int.toNat_natCast]
    unfold getL posG
    rw [List.find?_eq_getElem?_findIdx]
  · rw [if_neg h, if_pos (by omega)]
    unfold getL
    rw [List.find?_eq_none]
    intro q hq e
    exact h (List.findIdx_lt_length.2 ⟨q, hq, e⟩)
set_option maxHeartbeats 4000000 in
set_option maxRecDepth 1000000 in
theorem index_walk (l : List Pair) (key : List UInt8) (ao : Option Addr) (cap kb : Nat) (w : World) (hl : l.length ≤ 1000000000) (hk : w.cell? ⟨kb, 0, none⟩ = some (.string (str key)))
    (hc : ∀ (i : Nat) (p : Pair), l[i]? = some p → ∃ a : Addr, ao = some a ∧ w.cell? (a.add (i * 2)) = some (.string (str p.key)) ∧ w.cell? (a.add (i * 2 + 1)) = some (.string (str p.val))) :
    Calls Tryz.prog 71 #[.slice ao l.length cap, .func (.func 72) #[] #[.pointer (some ⟨kb, 0, none⟩)]] w fun e w' => e = .returned (.int .i64 (idxG l key)) ∧ Below w.heap.size w w' := by
  go_enter Tryz.func71, Tryz.ntmps71
  go_wp2
  go_loopw [8] (fun s8 wr => ∃ i : Nat, s8 = .int .i64 (i : Int) ∧ i ≤ l.length ∧ (∀ q ∈ l.take i, q.key ≠ key) ∧ Below w.heap.size w wr) (fun s8 wr => l.length - (intOf s8).toNat)
  case atStart =>
    exact ⟨0, rfl, by omega, fun q hq => by simp at hq, Below.refl _ w⟩
  case round =>
    obtain ⟨i, rfl, hi, hno, hbw⟩ := hrel
    by_cases hlt : i < l.length
    · obtain ⟨p, hp⟩ : ∃ p, l[i]? = some p := ⟨l[i], List.getElem?_eq_getElem hlt⟩
      obtain ⟨a, rfl, hc0, hc1⟩ := hc i p hp
      have g0 : wr.cell? (a.add (i * 2)) = some (.string (str p.key)) := agree_below (agree_stab w) hbw _ _ hc0
      have g1 : wr.cell? { block := (a.add (i * 2)).block, off := (a.add (i * 2)).off + 1 } = some (.string (str p.val)) := by
        have h := agree_below (agree_stab w) hbw _ _ hc1
        rw [← Addr.add_add] at h
        exact h
      have gk : wr.cell? ⟨kb, 0, none⟩ = some (.string (str key)) := agree_below (agree_stab w) hbw _ _ hk
      go_wp2_with (go_at_call 72; refine (get1_calls p key kb _ gk).mono ?_)
      rintro e w1 ⟨rfl, b1⟩
      have hb1 := hbw.trans (b1.mono hbw.size)
      by_cases hd : p.key = key
      · rw [decide_eq_true hd]
        go_wp2
        refine bodyPost_ret (results_tmp rfl _ _ _) rfl ?_
        refine ⟨?_, hb1⟩
        show Ending.returned (Value.int IntKind.i64 (i : Int)) = _
        unfold idxG
        rw [posG_at hp hd hno, if_pos hlt]
      · rw [decide_eq_false hd]
        go_wp2
        go_roundw
        case rel =>
          refine ⟨i + 1, by simp, by omega, ?_, hb1⟩
          rw [List.take_add_one, hp]
          intro q hq
          rcases List.mem_append.1 hq with hq | hq
          · exact hno q hq
          · simp at hq; subst hq; exact hd
        case measure =>
          show l.length - (intOf (.int .i64 ((i : Int) + 1))).toNat < l.length - (intOf (.int .i64 (i : Int))).toNat
          show l.length - ((i : Int) + 1).toNat < l.length - (i : Int).toNat
          omega
    · obtain rfl : i = l.length := by omega
      rw [List.take_length] at hno
      go_wp2
      refine bodyPost_ret (results_tmp rfl _ _ _) rfl ?_
      exact ⟨by rw [posG_none hno]; rfl, hbw⟩
theorem cells_new {l : List Pair} {ao : Option Addr} {w : World} {o : Obj} (hc : ∀ (i : Nat) (p : Pair), l[i]? = some p → ∃ a : Addr, ao = some a ∧ w.cell? (a.add (i * 2)) = some (.string (str p.key)) ∧ w.cell? (a.add (i * 2 + 1)) = some (.string (str p.val))) :
    ∀ (i : Nat) (p : Pair), l[i]? = some p → ∃ a : Addr, ao = some a ∧ (w.alloc o).cell? (a.add (i * 2)) = some (.string (str p.key)) ∧ (w.alloc o).cell? (a.add (i * 2 + 1)) = some (.string (str p.val)) := fun i p hp => by
  obtain ⟨a, h1, h2, h3⟩ := hc i p hp
  exact ⟨a, h1, agree_below (agree_stab w) ((Below.refl _ w).alloc (Nat.le_refl _) _) _ _ h2, agree_below (agree_stab w) ((Below.refl _ w).alloc (Nat.le_refl _) _) _ _ h3⟩
set_option maxHeartbeats 4000000 in
set_option maxRecDepth 1000000 in
theorem Get_walk (l : List Pair) (key : List UInt8) (ao : Option Addr) (cap : Nat) (w : World) (hl : l.length ≤ 1000000000)
    (hc : ∀ (i : Nat) (p : Pair), l[i]? = some p → ∃ a : Addr, ao = some a ∧ w.cell? (a.add (i * 2)) = some (.string (str p.key)) ∧ w.cell? (a.add (i * 2 + 1)) = some (.string (str p.val))) :
    Calls Tryz.prog 26 #[.slice ao l.length cap, .string (str key)] w fun e w' => e = .returned (.tuple (match getL l key with | some p => #[.string (str p.val), .bool true] | none => #[.string ⟨#[]⟩, .bool false])) ∧ Below w.heap.size w w' := by
  have hk : (w.alloc (.cells #[.string (str key)] 9)).cell? ⟨w.heap.size, 0, none⟩ = some (.string (str key)) := by
    rw [World.cell?_alloc_at (w := w) #[.string (str key)] _ w.heap.size 0 rfl]; rfl
  have hal : Below w.heap.size w (w.alloc (.cells #[.string (str key)] 9)) := (Below.refl _ w).alloc (Nat.le_refl _) _
  by_cases hneg : idxG l key < 0
  · have hg : getL l key = none := by rw [getL_pos, if_pos hneg]
    rw [hg]
    go_enter Tryz.func26, Tryz.ntmps26
    go_wp2_with (go_at_call 71; refine (index_walk l key ao cap w.heap.size _ hl hk ?hcc).mono ?_)
    case hcc => exact cells_new hc
    rintro e w1 ⟨rfl, b1⟩
    have hb1 := hal.trans (b1.mono hal.size)
    go_wp2
    refine bodyPost_ret (results_tmp2 rfl _ _ _) rfl ?_
    exact ⟨rfl, hb1⟩
  · obtain ⟨i, hi⟩ := Int.eq_ofNat_of_zero_le (show 0 ≤ idxG l key by omega)
    have hlt : i < l.length := by
      unfold idxG at hi
      split at hi <;> omega
    obtain ⟨p, hp⟩ : ∃ p, l[i]? = some p := ⟨l[i], List.getElem?_eq_getElem hlt⟩
    have hg : getL l key = some p := by rw [getL_pos, if_neg hneg, hi, Int.toNat_natCast, hp]
    rw [hg]
    go_enter Tryz.func26, Tryz.ntmps26
    go_wp2_with (go_at_call 71; refine (index_walk l key ao cap w.heap.size _ hl hk ?hcc).mono ?_)
    case hcc => exact cells_new hc
    rintro e w1 rfl b1
    have hb1 := hal.trans (b1.mono (by omega))
    obtain ⟨a, rfl, hc0, hc1⟩ := hc i p hp
    have g1 : w1.cell? { block := (a.add (i * 2)).block, off := (a.add (i * 2)).off + 1 } = some (.string (str p.val)) := by
      have h := agree_below (agree_stab w) hb1 _ _ hc1
      rw [← Addr.add_add] at h
      exact h
    go_wp2
    refine bodyPost_ret (results_tmp2 rfl _ _ _) rfl ?_
    exact ⟨rfl, hb1⟩
end Go.Proofs.YtbkhmkcmbaffoaaGreatDoor.S08


/- over.Get as a given function. -/
set_option linter.unusedVariables false
set_option linter.unusedSectionVars false
set_option linter.unusedSimpArgs false
namespace Go.Proofs.YtbkhmkcmbaffoaaGreatDoor.Eng.U
open Go Go.RowKit Go.Proofs Go.Proofs.YtbkhmkcmbaffoaaGreatDoor.Eng Go.Proofs.YtbkhmkcmbaffoaaGreatDoor.Eng.Rdv Go.Proofs.YtbkhmkcmbaffoaaGreatDoor.S08

def getAV : Option Pair → AV
  | some p => .tup [.str (str p.val), .bool true]
  | none => .tup [.str (str []), .bool false]
class HasGet (E : Ext) : Prop where
  get : ∀ (k n : Nat) (l : List Pair) (key : Tx), l.length ≤ 1000000 → kp E k n over_Get [.list 2 (prs l), .str (str key)] = some (getAV (getL l key))
noncomputable def pGet : Piece := { f := over_Get, ans := fun args => match args with
  | [.list 2 xs, .str s] => (toPrs xs).bind fun l => bif decide (l.length ≤ 1000000) then some (getAV (getL l s.data.toList)) else none
  | _ => none }
theorem get_right : pGet.Right := by
  refine ⟨⟨Tryz.f26, Tryz.func26, by kernel_rfl, by kernel_rfl⟩, fun args res h => ?_⟩
  unfold pGet at h
  dsimp only at h
  split at h
  · rename_i xs s
    obtain ⟨l, hl, h2⟩ := Option.bind_eq_some_iff.1 h
    clear h
    obtain rfl := toPrs_some hl
    obtain ⟨hc, h3⟩ := some_of_bif h2
    clear h2
    obtain rfl := Option.some.inj h3
    clear h3
    have hc : l.length ≤ 1000000 := by simpa using hc
    have es : str s.data.toList = s := str_self s
    have key : ∀ (S : Stab) (w : World) (vals : List Value), Agree S w → VL S [.list 2 (prs l), .str s] vals → Calls Tryz.prog over_Get vals.toArray w fun e w' => e = .returned (.tuple (match getL l s.data.toList with | some p => #[.string (str p.val), .bool true] | none => #[.string ⟨#[]⟩, .bool false])) ∧ Below w.heap.size w w' := by
      intro S w vals hag hV
      obtain ⟨v, u, rfl, hv, hu⟩ := VL_2 hV
      obtain rfl := V_str hu
      obtain ⟨ao, cap, rfl, hel⟩ := list_inv hv
      rw [prs_len]
      have := Get_walk l s.data.toList ao cap w (by omega) (fun i p hp => by
        obtain ⟨a, f, rfl, hf⟩ := hel i (elPair p) (by unfold prs; rw [List.getElem?_map, hp]; rfl)
        obtain ⟨h0, h1⟩ := hf 0 (.str (str p.key)) rfl
        obtain ⟨h2, h3⟩ := hf 1 (.str (str p.val)) rfl
        refine ⟨a, rfl, ?_, ?_⟩
        · have := hag _ _ h0
          rw [V_str h1] at this
          exact this
        · have := hag _ _ h2
          rw [V_str h3] at this
          exact this)
      rw [es] at this
      exact this
    cases hg : getL l s.data.toList with
    | none =>
      rw [hg] at key
      refine ok_tup rfl fun S w vals hag hG hV => (key S w vals hag hV).mono ?_
      rintro e w' ⟨rfl, hb⟩
      exact ⟨[_, _], rfl, rfl, fun S' => V2 (V.str _) (V.bool _), hb⟩
    | some p =>
      rw [hg] at key
      refine ok_tup rfl fun S w vals hag hG hV => (key S w vals hag hV).mono ?_
      rintro e w' ⟨rfl, hb⟩
      exact ⟨[_, _], rfl, rfl, fun S' => V2 (V.str _) (V.bool _), hb⟩
  · cases h
end Go.Proofs.YtbkhmkcmbaffoaaGreatDoor.Eng.U


/- RepSays is true. -/
set_option linter.unusedVariables false
set_option linter.unusedSectionVars false
set_option linter.unusedSimpArgs false
namespace Go.Proofs.YtbkhmkcmbaffoaaGreatDoor.Eng.U
open Go Go.RowKit Go.Proofs Go.Proofs.YtbkhmkcmbaffoaaGreatDoor.Eng Go.Proofs.YtbkhmkcmbaffoaaGreatDoor.S11 Go.Proofs.YtbkhmkcmbaffoaaGreatDoor.P04
variable {E : Ext} [Core E] [HasNum E] [HasTextV E] {k n : Nat}

theorem lines11 (l : List Pair) : linesL l = l.flatMap recB := by
  unfold linesL linesOf
  congr 1
  funext p
  unfold lineOf txtP recB
  rw [str_app, str_app, str_app, str_app, str_app]
  show _ = _
  simp [str]
theorem recs11_ge : ∀ l : List Pair, (∀ p ∈ l, p.key.length ≤ 1000000 ∧ p.val.length ≤ 1000000) → l.length ≤ (l.flatMap recB).length
  | [], _ => by simp
  | p :: l, h => by
    have hp := h p (.head _)
    have ih := recs11_ge l (fun q hq => h q (.tail _ hq))
    have hf := lenP_facts p hp.1 hp.2
    have hr : restP p = p.key.length + p.val.length + 3 := rfl
    rw [List.flatMap_cons, List.length_append, recB_len p hp.1 hp.2, List.length_cons]
    omega
theorem same11_k (a : Head) (ha : a.extra.length ≤ 1000000) (hk : a.extra.length < k) : kp E k (n + 3) ref09_Same [.agg [.int .i64 a.kind, .str (str a.name), .str (str a.link), .int .i64 a.mode, .int .i64 a.uid, .int .i64 a.gid, .int .i64 a.size, .int .i64 a.sec, .int .i64 a.nano, .str (str a.user), .str (str a.group), .int .i64 a.major, .int .i64 a.minor, .list 2 (prs a.extra), .list 1 []], .agg [.int .i64 a.kind, .str (str a.name), .str (str a.link), .int .i64 a.mode, .int .i64 a.uid, .int .i64 a.gid, .int .i64 a.size, .int .i64 a.sec, .int .i64 a.nano, .str (str a.user), .str (str a.group), .int .i64 a.major, .int .i64 a.minor, .list 2 (prs a.extra), .list 1 []]] = some (.bool true) := by
  have hh := sameHead_k (E := E) (k := k) (n := n) a a ha hk
  have hb : kp E k (n + 2) ref01_Same [.list 1 [], .list 1 []] = some (.bool true) := by rw [ref01_Same_eq]; rfl
  unfold encHead at hh
  rw [ref09_Same_eq, hh, callB_ok, decide_eq_true rfl, cond_true, hb, callB_ok]
theorem get_path {l : List Pair} : (getL l kPath = none → ¬ ∃ p ∈ l, whichL p.key = 0) ∧ (∀ p, getL l kPath = some p → ∃ p ∈ l, whichL p.key = 0) := by
  refine ⟨fun h => ?_, fun p h => ?_⟩
  · rintro ⟨p, hp, hw⟩
    refine getL_none h p hp ?_
    have := is_path p.key
    rw [decide_eq_true hw, str_dec, decide_eq_true_eq] at this
    exact this
  · refine ⟨p, List.mem_of_find?_eq_some h, ?_⟩
    have hk : p.key = kPath := by simpa using List.find?_some h
    rw [hk]
    decide
theorem says_loop (kap : FuncId → List AV → Option AV) (h : Head) (l : List Pair) (hl : l.length ≤ 100000)
    (hend : ∀ (o : Head) (j : Nat), o = l.foldl othH h → law11_RepSays_L0 kap k (j + 1) (prs l) ((l.length : Nat) : Int) h.kind (str h.name) (str h.link) h.mode h.uid h.gid h.size h.sec h.nano (str h.user) (str h.group) h.major h.minor (prs h.extra) o.kind (str o.name) (str o.link) o.mode o.uid o.gid o.size o.sec o.nano (str o.user) (str o.group) o.major o.minor (prs o.extra) = some (.bool true)) :
    ∀ (suf pre : List Pair) (o : Head) (k0 : Nat), suf.length < k0 → l = pre ++ suf → o = pre.foldl othH h →
    law11_RepSays_L0 kap k k0 (prs l) ((pre.length : Nat) : Int) h.kind (str h.name) (str h.link) h.mode h.uid h.gid h.size h.sec h.nano (str h.user) (str h.group) h.major h.minor (prs h.extra) o.kind (str o.name) (str o.link) o.mode o.uid o.gid o.size o.sec o.nano (str o.user) (str o.group) o.major o.minor (prs o.extra) = some (.bool true)
  | [], pre, o, k0 + 1, hk, he, ho => by
    rw [List.append_nil] at he
    subst he
    exact hend o k0 ho
  | p :: suf, pre, o, k0 + 1, hk, he, ho => by
    have hll : l.length = pre.length + suf.length + 1 := by rw [he]; exact mid_len pre suf p
    have hg : ∀ F : AV → Option AV, ((prs l)[pre.length]?).bind F = F (elPair p) := fun F => by rw [he]; exact prs_mid _ _ _ _
    have ih := fun (o' : Head) (ho' : o' = othH o p) => says_loop kap h l hl hend suf (pre ++ [p]) o' k0 (by simpa using hk) (by rw [he]; simp) (by rw [ho', ho]; simp)
    rw [List.length_append, List.length_singleton] at ih
    rw [law11_RepSays_L0_s, prs_len, bif_t (by omega), inb (by omega), cond_true, Int.toNat_natCast, hg, cells_pair, p_0, wrap1 (by omega), is_path, is_linkpath, is_uname, is_gname, is_uid, is_gid, is_size, is_mtime]
    have hlt := which_lt p.key
    have hs : othH o p = othH o p := rfl
    conv at hs => rhs; unfold othH
    generalize whichL p.key = w at hlt hs
    have : w = -1 ∨ w = 0 ∨ w = 1 ∨ w = 2 ∨ w = 3 ∨ w = 4 ∨ w = 5 ∨ w = 6 ∨ w = 7 := by omega
    rcases this with rfl | rfl | rfl | rfl | rfl | rfl | rfl | rfl | rfl
    · exact ih o hs.symm
    · exact ih { o with name := kOther } hs.symm
    · exact ih { o with link := kOther } hs.symm
    · exact ih { o with user := kOther } hs.symm
    · exact ih { o with group := kOther } hs.symm
    · exact ih { o with uid := 0 } hs.symm
    · exact ih { o with gid := 0 } hs.symm
    · exact ih { o with size := 0 } hs.symm
    · exact ih { o with sec := 0, nano := 0 } hs.symm
theorem repSays_true [HasRec E] [HasPrint E] [HasGet E] (h : Head) (g : G_apiHead h) (hk : 10000000000000 ≤ k) : kp E k (n + 11) law11_RepSays [.agg (encHead h)] = some (.bool true) := by
  have ha := alive11 (E := E) (k := k) (n := n) (by omega)
  have hm := many11_k (E := E) (k := k) (n := n + 9) h g hk
  unfold encHead at hm ⊢
  rw [law11_RepSays_eq, ha, callB_ok, Bool.not_true, cond_false, hm, callB_ok]
  cases hmb : many11B h with
  | true => rfl
  | false =>
  have ho := ok_of h g hmb
  have hw := wrong_kv (E := E) (k := k) (n := n + 2) h ho.bd (by omega)
  have er := HasRec.recs (E := E) k (n + 10) h ho
  unfold encHead at hw er
  rw [cond_false, hw, callI_ok]
  by_cases h0 : wrongH h = 0
  · have hr := rightH_of h0
    rw [decide_eq_true h0, Bool.not_true, cond_false, er, callT_ok, tupL_ok, tupI_ok, atNil_ok]
    by_cases ht : texts3 h = true
    · have hra : recA h = (recsL h, 0) := by unfold recA; rw [if_pos h0, if_pos ht]
      have hok := rec_ok hr ho ht
      have hall : (recsL h).all pairOk = true := by
        unfold overOk at hok
        rw [Bool.and_eq_true] at hok
        exact hok.2
      have hbd := rec_bd ho
      have hlen := rec_len ho
      have hbytes := rec_bytes g hmb hr ho
      have hokP : okP (recsL h) = true := by
        unfold okP
        rw [Bool.and_eq_true, decide_eq_true_eq, List.all_eq_true]
        exact ⟨by omega, fun p hp => by have := hbd p hp; simp; omega⟩
      have hsay := says hr ho
      have hprint := HasPrint.print (E := E) k (n + 10) (recsL h) hokP
      have hparse := parse_k (E := E) (k := k) (n := n + 3) ((recsL h).flatMap recB) hbytes (by omega)
      have hpb := parse_print (recsL h) ((recsL h).flatMap recB).length hbd hall (recs11_ge _ hbd)
      have hsame := pSame_k (E := E) (k := k) (n := n + 9) (recsL h) (recsL h) (by omega) (by omega)
      have hs9 := same11_k (E := E) (k := k) (n := n + 7) h (by have := ho.ext; omega) (by have := ho.ext; omega)
      have hget := HasGet.get (E := E) k (n + 10) (recsL h) kPath (by omega)
      have htold := told_head hr
      have hfl : ((fulls h.kind h.name).headD []).length ≤ 400001 := by
        cases hl : fulls h.kind h.name with
        | nil => simp
        | cons f l =>
          have := fulls_mem (kind := h.kind) (s := h.name) (f := f) (by rw [hl]; simp)
          have := ho.bd.1
          simpa using (by omega : f.length ≤ 400001)
      have htk := told_k (E := E) (k := k) (n := n + 7) h.kind ((fulls h.kind h.name).headD []) (by omega)
      rw [hall, cond_true, lines11] at hprint
      rw [hpb] at hparse
      rw [decide_eq_true rfl] at hsame
      rw [htold] at htk
      rw [hra]
      refine says_loop (k := k) (kp E k (n + 10)) h (recsL h) (by omega) (fun o j hoj => ?_) (recsL h) [] h k (by omega) rfl rfl
      have happ := overApply_k (E := E) (k := k) (n := n + 3) o (recsL h) (by omega) hbd (by omega)
      have hG : ∀ (x : Head) (t : List AV) (K : List AV → List AV → Option AV), tupG 14 (.agg (encHead x) :: t) K = K (encHead x) t := fun x t K => tupG_head x t K
      have hP : ∀ K : List AV → Option AV, callT (some (parAV (.int .u8 0) (.int .u8 6) (some (recsL h)))) K = K [.list 2 (prs (recsL h)), .int .u8 0] := fun K => rfl
      have hz : decide (IntKind.wrap .i64 (IntKind.wrap .i64 (IntKind.wrap .i64 0 + IntKind.wrap .i64 0) + IntKind.wrap .i64 0) = 0) = true := rfl
      rw [hok, cond_true, hoj, hsay, ← hoj] at happ
      have happ' : kp E k (n + 10) over_Apply [.agg [.int .i64 o.kind, .str (str o.name), .str (str o.link), .int .i64 o.mode, .int .i64 o.uid, .int .i64 o.gid, .int .i64 o.size, .int .i64 o.sec, .int .i64 o.nano, .str (str o.user), .str (str o.group), .int .i64 o.major, .int .i64 o.minor, .list 2 (prs o.extra)], .list 2 (prs (recsL h))] = _ := happ
      rw [law11_RepSays_L0_s, prs_len, bif_f (by omega), happ', callT_ok, hG, h_0, h_1, h_2, h_3, h_4, h_5, h_6, h_7, h_8, h_9, h_10, h_11, h_12, h_13, tupI_ok, atNil_ok]
      rw [show (str [112, 97, 116, 104]) = str kPath from rfl, hget]
      cases hgp : getL (recsL h) kPath with
      | none =>
        rw [if_neg (get_path.1 hgp)]
        show (callT (some (AV.tup [.str (str []), .bool false])) _) = _
        rw [callT_ok, tupS_ok, tupB_ok, atNil_ok, cond_false, hprint, callT_ok, tupL_ok, tupI_ok, atNil_ok, hparse, hP, tupL_ok, tupI_ok, atNil_ok, hz, cond_true, hsame, callB_ok, cond_true, hs9, callB_ok]
      | some p =>
        rw [if_pos (get_path.2 p hgp)]
        show (callT (some (AV.tup [.str (str p.val), .bool true])) _) = _
        rw [callT_ok, tupS_ok, tupB_ok, atNil_ok, cond_true, htk, callT_ok, tupI_ok, tupS_ok, atNil_ok, hprint, callT_ok, tupL_ok, tupI_ok, atNil_ok, hparse, hP, tupL_ok, tupI_ok, atNil_ok, hz, cond_true, hsame, callB_ok, cond_true, hs9, callB_ok]
    · have hra : recA h = ([], 13) := by unfold recA; rw [if_pos h0, if_neg ht]
      rw [hra]
      rfl
  · rw [decide_eq_false h0]; rfl
end Go.Proofs.YtbkhmkcmbaffoaaGreatDoor.Eng.U


/- The library's functions and rep.Records, pax.Print, over.Get given together; RepSays over them. -/
set_option linter.unusedVariables false
set_option linter.unusedSectionVars false
set_option linter.unusedSimpArgs false
namespace Go.Proofs.YtbkhmkcmbaffoaaGreatDoor.Eng.U
open Go Go.RowKit Go.Proofs Go.Proofs.YtbkhmkcmbaffoaaGreatDoor.Eng

noncomputable def ps11s : List Piece := [pFmt, pItoa, pCutP, pTrimR, pIndex, pIndexByte, pRepeat, pPInt, pPUint, pDec, pAny, pRec, pPrint, pGet]
noncomputable def ext11s : Ext := extOf ps11s
instance core11s : Core ext11s := core_of (by kernel_rfl)
instance num11s : HasNum ext11s := num_of rfl rfl rfl rfl rfl rfl rfl rfl rfl
instance text11s : HasText ext11s where
  dec k n s := ⟨_, _, (kp_piece (ps := ps11s) (p := pDec) (k := k) (n := n) (args := [.str (str s)]) rfl).trans rfl⟩
  idx k n s hs := by
    have h := kp_piece (ps := ps11s) (p := pAny) (k := k) (n := n) (args := [.str (str s), .str (str [61, 0])]) rfl
    have e : pAny.ans [.str (str s), .str (str [61, 0])] = (bif decide (str [61, 0] = str [61, 0]) && decide ((str s).size ≤ 1000000) then (bif decide (8 < (str s).size) then some (.int .i64 (Lib.indexAny (str s).data.toList [61, 0])) else (bs ext09a 100).kap 3 strings_IndexAny [.str (str s), .str (str [61, 0])]) else none) := rfl
    rw [e, str_size, decide_eq_true rfl, decide_eq_true hs, Bool.true_and, cond_true] at h
    by_cases h8 : 8 < s.length
    · rw [decide_eq_true h8, cond_true] at h
      exact ⟨_, h⟩
    · rw [decide_eq_false h8, cond_false] at h
      obtain ⟨r, hr⟩ := any_short (E := ext09a) (k := 100) (n := 0) (by kernel_rfl) (by kernel_rfl) (by omega) s (by omega)
      exact ⟨r, h.trans hr⟩
instance textV11s : HasTextV ext11s where
  dec k n s := (kp_piece (ps := ps11s) (p := pDec) (k := k) (n := n) (args := [.str s]) rfl).trans rfl
  idx k n s hs := by
    have h := kp_piece (ps := ps11s) (p := pAny) (k := k) (n := n) (args := [.str (str s), .str (str [61, 0])]) rfl
    have e : pAny.ans [.str (str s), .str (str [61, 0])] = (bif decide (str [61, 0] = str [61, 0]) && decide ((str s).size ≤ 1000000) then (bif decide (8 < (str s).size) then some (.int .i64 (Lib.indexAny (str s).data.toList [61, 0])) else (bs ext09a 100).kap 3 strings_IndexAny [.str (str s), .str (str [61, 0])]) else none) := rfl
    rw [e, str_size, decide_eq_true rfl, decide_eq_true hs, Bool.true_and, cond_true] at h
    by_cases h8 : 8 < s.length
    · rw [decide_eq_true h8, cond_true] at h
      exact ⟨_, h, any_long_v s⟩
    · rw [decide_eq_false h8, cond_false] at h
      obtain ⟨r, hr, hv⟩ := any_short_v (E := ext09a) (k := 100) (n := 0) (by kernel_rfl) (by kernel_rfl) (by omega) s (by omega)
      exact ⟨r, h.trans hr, hv⟩
instance rec11s : HasRec ext11s := ⟨fun k n h ho => by
  have e := kp_piece (ps := ps11s) (p := pRec) (k := k) (n := n) (args := [.agg (encHead h)]) rfl
  refine e.trans ?_
  show ((toHead (encHead h)).bind fun h => bif okHd h then some (AV.tup [.list 2 (prs (recA h).1), .int .u8 (recA h).2]) else none) = _
  rw [toHead_enc, Option.bind_some, okHd_iff.2 ho, cond_true]⟩
theorem good11s (k : Nat) : (bs ext11s k).Good := good_of (fun p hp => by
  simp only [ps11s, List.mem_cons, List.not_mem_nil, or_false] at hp
  rcases hp with rfl | rfl | rfl | rfl | rfl | rfl | rfl | rfl | rfl | rfl | rfl | rfl | rfl | rfl
  · exact fmt_right
  · exact itoa_right
  · exact cutP_right
  · exact trimR_right
  · exact index_right
  · exact indexByte_right
  · exact repeat_right
  · exact pInt_right
  · exact pUint_right
  · exact dec_right
  · exact any_right
  · exact rec_right
  · exact print_right
  · exact get_right) names_ok k
instance print11s : HasPrint ext11s where
  print k n l hl := by
    have h := kp_piece (ps := ps11s) (p := pPrint) (k := k) (n := n) (args := [.list 2 (prs l)]) rfl
    have e : pPrint.ans [.list 2 (prs l)] = (toPrs (prs l)).bind fun l => bif okP l then some (bif l.all pairOk then .tup [.list 1 (bys (linesL l)), .int .u8 0] else .tup [.list 1 [], .int .u8 15]) else none := rfl
    rw [e, toPrs_prs, Option.bind_some, hl, cond_true] at h
    exact h
instance get11s : HasGet ext11s where
  get k n l key hl := by
    have h := kp_piece (ps := ps11s) (p := pGet) (k := k) (n := n) (args := [.list 2 (prs l), .str (str key)]) rfl
    have e : pGet.ans [.list 2 (prs l), .str (str key)] = (toPrs (prs l)).bind fun l => bif decide (l.length ≤ 1000000) then some (getAV (getL l (str key).data.toList)) else none := rfl
    rw [e, toPrs_prs, Option.bind_some, decide_eq_true hl, cond_true] at h
    exact h
theorem says11 (h : Head) (g : G_apiHead h) : (bs ext11s 10000000000000).kap 11 law11_RepSays [.agg (encHead h)] = some (.bool true) :=
  repSays_true (E := ext11s) (n := 0) (k := 10000000000000) h g (by omega)
end Go.Proofs.YtbkhmkcmbaffoaaGreatDoor.Eng.U

