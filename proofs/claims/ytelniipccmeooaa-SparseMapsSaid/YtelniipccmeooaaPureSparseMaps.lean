/- The segments of any bytes: the printed functions of the program and of the reference find the same ones, for every input. -/
import Derived.Test.YtelniipccmeooaaPSparseMapsx4
import Derived.Test.YtelniipccmeooaaBase
set_option linter.unusedVariables false
set_option linter.unusedSimpArgs false
namespace Go.Proofs.Ytelniipccmeooaa.Pure
open Go.RowKit Go.Proofs.Ytelniipccmeooaa.PSparseMaps Go.Proofs.YtelniipccmeooaaW.PrintWords Go.Proofs.YtelniipccmeooaaW.PrintLast Go.Proofs.YtelniipccmeooaaW.PrintMore Go.Proofs.Ytelniipccmeooaa.Base

/-- Noughts alone from i on? -/
def blankFrom (l : List Int) : Bool := l.all (· == 0)

theorem blank_l0 (l : List Int) (hl : l.length ≤ 140737488351232) : ∀ (d : Nat) (i : Nat), i + d = l.length → Ev (fun k => text_Blank.l0 k l (l.length : Int) i) (blankFrom (l.drop i)) := by
  intro d
  induction d with
  | zero =>
    intro i hi
    refine Ev.step (f := fun _ => some true) (fun k => by simp only [text_Blank.l0]; rw [if_neg (by omega)]) ?_
    have : l.drop i = [] := List.drop_eq_nil_of_le (by omega)
    rw [this]; exact Ev.now _
  | succ d ih =>
    intro i hi
    have hlt : i < l.length := by omega
    have e : rd l (i : Int) = l[i] := by simp [rd, List.getD_eq_getElem?_getD, List.getElem?_eq_getElem hlt]
    have ew : wrap64 ((i : Int) + 1) = ((i + 1 : Nat) : Int) := by rw [wrap64_id (by omega) (by omega)]; omega
    rw [List.drop_eq_getElem_cons hlt]
    by_cases h : l[i] = 0
    · refine Ev.step (f := fun k => text_Blank.l0 k l (l.length : Int) ((i + 1 : Nat) : Int)) (fun k => by
        simp only [text_Blank.l0]; rw [if_pos (by omega), if_pos (by omega), if_pos (by omega), e, if_pos h, ew]) ?_
      have : blankFrom (l[i] :: l.drop (i + 1)) = blankFrom (l.drop (i + 1)) := by simp [blankFrom, h]
      rw [this]
      exact ih (i + 1) (by omega)
    · refine Ev.step (f := fun _ => some false) (fun k => by
        simp only [text_Blank.l0]; rw [if_pos (by omega), if_pos (by omega), if_pos (by omega), e, if_neg h]) ?_
      have : blankFrom (l[i] :: l.drop (i + 1)) = false := by
        show (l[i] == 0 && (l.drop (i + 1)).all (· == 0)) = false
        rw [beq_eq_false_iff_ne.2 h]; rfl
      rw [this]
      exact Ev.now _
theorem blank_ev (l : List Int) (hl : l.length ≤ 140737488351232) : Ev (fun k => text_Blank.f k l) (blankFrom l) := by
  have := blank_l0 l hl l.length 0 (by omega)
  simpa [text_Blank.f] using this
theorem blank_ref0 (l : List Int) (hl : l.length ≤ 140737488351232) (hp : ∀ x ∈ l, 0 ≤ x) : ∀ (d : Nat) (i : Nat), i + d = l.length → Ev (fun k => oakumref02_Blank.l0 k l i) (blankFrom (l.drop i)) := by
  intro d
  induction d with
  | zero =>
    intro i hi
    refine Ev.step (f := fun _ => some true) (fun k => by simp only [oakumref02_Blank.l0]; rw [if_neg (by omega)]) ?_
    have : l.drop i = [] := List.drop_eq_nil_of_le (by omega)
    rw [this]; exact Ev.now _
  | succ d ih =>
    intro i hi
    have hlt : i < l.length := by omega
    have e : rd l (i : Int) = l[i] := by simp [rd, List.getD_eq_getElem?_getD, List.getElem?_eq_getElem hlt]
    have ew : wrap64 ((i : Int) + 1) = ((i + 1 : Nat) : Int) := by rw [wrap64_id (by omega) (by omega)]; omega
    have hpos := hp l[i] (List.getElem_mem hlt)
    rw [List.drop_eq_getElem_cons hlt]
    by_cases h : l[i] = 0
    · refine Ev.step (f := fun k => oakumref02_Blank.l0 k l ((i + 1 : Nat) : Int)) (fun k => by
        simp only [oakumref02_Blank.l0]; rw [if_pos (by omega), if_pos (by omega), e, if_neg (by omega), ew]) ?_
      have : blankFrom (l[i] :: l.drop (i + 1)) = blankFrom (l.drop (i + 1)) := by simp [blankFrom, h]
      rw [this]
      exact ih (i + 1) (by omega)
    · refine Ev.step (f := fun _ => some false) (fun k => by
        simp only [oakumref02_Blank.l0]; rw [if_pos (by omega), if_pos (by omega), e, if_pos (by omega)]) ?_
      have : blankFrom (l[i] :: l.drop (i + 1)) = false := by
        show (l[i] == 0 && (l.drop (i + 1)).all (· == 0)) = false
        rw [beq_eq_false_iff_ne.2 h]; rfl
      rw [this]
      exact Ev.now _
theorem blank_ref (l : List Int) (hl : l.length ≤ 140737488351232) (hp : ∀ x ∈ l, 0 ≤ x) : Ev (fun k => oakumref02_Blank.f k l) (blankFrom l) := by
  have := blank_ref0 l hl hp l.length 0 (by omega)
  simpa [oakumref02_Blank.f] using this

/-- A segment of the program's, as the reference has it. -/
def conv (s : S29) : S30 := ⟨s.f0, s.f1⟩
theorem rd_snoc29 (xs : List S29) (x : S29) : rd_T29 (xs ++ [x]) (xs.length : Int) = x := by simp [rd_T29]
theorem rd_snoc30 (xs : List S30) (x : S30) : rd_T30 (xs ++ [x]) (xs.length : Int) = x := by simp [rd_T30]
theorem rd_conv (xs : List S29) (i : Int) : rd_T30 (xs.map conv) i = conv (rd_T29 xs i) := by
  simp only [rd_T30, rd_T29, List.getD_eq_getElem?_getD, List.getElem?_map]
  cases xs[i.toNat]? <;> rfl

/-- What is known of the segments so far, at the block that begins at 'at_'. -/
def Good (xs : List S29) (op : Bool) (at_ : Int) : Prop :=
  (xs = [] ∧ op = false) ∨ ∃ xi a b, xs = xi ++ [⟨a, b⟩] ∧ 0 ≤ a ∧ 0 ≤ b ∧ a + b ≤ at_ ∧ (op = true ↔ a + b = at_)

theorem maps (l : List Int) (hl : l.length ≤ 140737488351232) (hp : ∀ x ∈ l, 0 ≤ x) : ∀ (n : Nat) (xs : List S29) (op : Bool) (at_ : Int), 0 ≤ at_ → (l.length : Int) - at_ ≤ n → xs.length * 512 ≤ at_ →
    at_ ≤ l.length + 512 → (at_ < l.length → Good xs op at_) →
    ∃ ys, ys.length * 512 ≤ l.length + 512 ∧ Ev (fun k => sparse_Map.l0 k l xs op at_) ys ∧ Ev (fun k => oakumref36_Map.l0 k l (xs.map conv) at_) (ys.map conv) := by
  intro n
  induction n using Nat.strongRecOn with
  | ind n ih =>
    intro xs op at_ h0 hn hx hle hg
    by_cases hlt : at_ < l.length
    · have hg := hg hlt
      have ew : wrap64 (at_ + 512) = at_ + 512 := wrap64_id (by omega) (by omega)
      generalize he : mn (at_ + 512) (l.length : Int) = e
      have he1 : at_ < e ∧ e ≤ l.length ∧ e ≤ at_ + 512 ∧ (at_ + 512 < l.length → e = at_ + 512) := by
        unfold mn at he; split at he <;> omega
      have hlen : ((l.take e.toNat).drop at_.toNat).length = e.toNat - at_.toNat := by
        rw [List.length_drop, List.length_take]; omega
      have hpl : ∀ x ∈ (l.take e.toNat).drop at_.toNat, 0 ≤ x := fun x hx => hp x (List.mem_of_mem_take (List.mem_of_mem_drop hx))
      have hb1 := blank_ev ((l.take e.toNat).drop at_.toNat) (by omega)
      have hb2 := blank_ref ((l.take e.toNat).drop at_.toNat) (by omega) hpl
      generalize hbl : blankFrom ((l.take e.toNat).drop at_.toNat) = bl at hb1 hb2
      have hcast : (((l.take e.toNat).drop at_.toNat).length : Int) = e - at_ := by rw [hlen]; omega
      cases bl with
      | true =>
        obtain ⟨ys, hy, i1, i2⟩ := ih (n - 1) (by omega) xs false (at_ + 512) (by omega) (by omega) (by omega) (by omega) (fun h => by
          rcases hg with ⟨rfl, _⟩ | ⟨xi, a, b, rfl, ha, hb, hab, _⟩
          · exact .inl ⟨rfl, rfl⟩
          · exact .inr ⟨xi, a, b, rfl, ha, hb, by omega, by simp; omega⟩)
        refine ⟨ys, hy, ?_, ?_⟩
        · refine Ev.step (fun k => by
            simp only [sparse_Map.l0]; rw [if_pos hlt, if_pos h0, ew, he, if_pos (by omega), if_pos (by omega)]) (Ev.bind hb1 ?_)
          simpa using i1
        · refine Ev.step (fun k => by
            simp only [oakumref36_Map.l0]; rw [if_pos hlt, if_pos h0, ew, he, if_pos (by omega), if_pos (by omega)]) (Ev.bind hb2 ?_)
          simpa using i2
      | false =>
        have key : ∃ xs', xs'.length * 512 ≤ at_ + 512 ∧ (at_ + 512 < l.length → Good xs' true (at_ + 512)) ∧
            (∀ k, (if op = true then (if 0 ≤ (wrap64 ((xs.length : Int) - 1)) then (if (wrap64 ((xs.length : Int) - 1)) < (xs.length : Int) then (sparse_Map.l0 k l (xs.set ((wrap64 ((xs.length : Int) - 1)) : Int).toNat (⟨(rd_T29 xs (wrap64 ((xs.length : Int) - 1))).f0, wrap64 (((rd_T29 xs (wrap64 ((xs.length : Int) - 1))).f1) + (e - at_))⟩ : S29)) op (at_ + 512)) else (none)) else (none)) else (if xs.length < 8796093022208 then (sparse_Map.l0 k l (xs ++ [(⟨at_, e - at_⟩ : S29)]) true (at_ + 512)) else (none))) = sparse_Map.l0 k l xs' true (at_ + 512)) ∧
            (∀ k, (if (wrap64 (((xs.map conv).length : Int) - 1)) ≥ 0 then (if 0 ≤ (wrap64 (((xs.map conv).length : Int) - 1)) then (if (wrap64 (((xs.map conv).length : Int) - 1)) < ((xs.map conv).length : Int) then (if (wrap64 (((rd_T30 (xs.map conv) (wrap64 (((xs.map conv).length : Int) - 1))).f0) + ((rd_T30 (xs.map conv) (wrap64 (((xs.map conv).length : Int) - 1))).f1))) = at_ then (oakumref36_Map.l0 k l ((xs.map conv).set ((wrap64 (((xs.map conv).length : Int) - 1)) : Int).toNat (⟨(rd_T30 (xs.map conv) (wrap64 (((xs.map conv).length : Int) - 1))).f0, wrap64 (e - ((rd_T30 (xs.map conv) (wrap64 (((xs.map conv).length : Int) - 1))).f0))⟩ : S30)) (at_ + 512)) else (if (xs.map conv).length < 8796093022208 then (oakumref36_Map.l0 k l ((xs.map conv) ++ [(⟨at_, wrap64 (e - at_)⟩ : S30)]) (at_ + 512)) else (none))) else (none)) else (none)) else (if (xs.map conv).length < 8796093022208 then (oakumref36_Map.l0 k l ((xs.map conv) ++ [(⟨at_, wrap64 (e - at_)⟩ : S30)]) (at_ + 512)) else (none))) = oakumref36_Map.l0 k l (xs'.map conv) (at_ + 512)) := by
          have ew2 : wrap64 (e - at_) = e - at_ := wrap64_id (by omega) (by omega)
          have hlim : xs.length < 8796093022208 := by omega
          rcases hg with ⟨rfl, rfl⟩ | ⟨xi, a, b, rfl, ha, hb, hab, hop⟩
          · refine ⟨[⟨at_, e - at_⟩], by simp; omega, fun h => .inr ⟨[], at_, e - at_, rfl, by omega, by omega, by omega, by simp; omega⟩, fun k => by simp, fun k => ?_⟩
            have : wrap64 ((([] : List S29).map conv).length - 1 : Int) = -1 := by simp; exact wrap64_id (by omega) (by omega)
            rw [this, if_neg (by omega), if_pos (by simp), ew2]; rfl
          · have hlx : wrap64 (((xi ++ [⟨a, b⟩] : List S29).length : Int) - 1) = (xi.length : Int) := by
              rw [List.length_append, List.length_singleton, wrap64_id (by omega) (by simp at hlim; omega)]; omega
            have hly : wrap64 ((((xi ++ [⟨a, b⟩] : List S29).map conv).length : Int) - 1) = (xi.length : Int) := by rw [List.length_map]; exact hlx
            have hset : ∀ v, (xi ++ [⟨a, b⟩] : List S29).set ((xi.length : Int)).toNat v = xi ++ [v] := fun v => by simp
            have hrd : rd_T29 (xi ++ [⟨a, b⟩]) (xi.length : Int) = ⟨a, b⟩ := rd_snoc29 _ _
            have hsety : ∀ v, ((xi ++ [⟨a, b⟩] : List S29).map conv).set ((xi.length : Int)).toNat v = xi.map conv ++ [v] := fun v => by simp
            have hrdy : rd_T30 ((xi ++ [⟨a, b⟩] : List S29).map conv) (xi.length : Int) = ⟨a, b⟩ := by rw [rd_conv, hrd]; rfl
            have hll : (xi.length : Int) < ((xi ++ [⟨a, b⟩] : List S29).length : Int) := by simp; omega
            have hlly : (xi.length : Int) < (((xi ++ [⟨a, b⟩] : List S29).map conv).length : Int) := by simp; omega
            have es : wrap64 (a + b) = a + b := wrap64_id (by omega) (by omega)
            cases op with
            | true =>
              have hs : a + b = at_ := hop.1 rfl
              have e1 : wrap64 (b + (e - at_)) = b + (e - at_) := wrap64_id (by omega) (by omega)
              have e2 : wrap64 (e - a) = b + (e - at_) := by rw [wrap64_id (by omega) (by omega)]; omega
              refine ⟨xi ++ [⟨a, b + (e - at_)⟩], by simp at hx ⊢; omega, fun h => .inr ⟨xi, a, b + (e - at_), rfl, ha, by omega, by omega, by simp; omega⟩, fun k => ?_, fun k => ?_⟩
              · rw [if_pos rfl, hlx, if_pos (by omega), if_pos hll, hset, hrd, e1]
              · rw [hly, if_pos (by omega), if_pos (by omega), if_pos hlly, hrdy, es, if_pos hs, hsety, e2]
                simp [conv]
            | false =>
              have hs : ¬ a + b = at_ := fun h => by have := hop.2 h; cases this
              refine ⟨(xi ++ [⟨a, b⟩]) ++ [⟨at_, e - at_⟩], by simp at hx ⊢; omega, fun h => .inr ⟨_, at_, e - at_, rfl, by omega, by omega, by omega, by simp; omega⟩, fun k => ?_, fun k => ?_⟩
              · rw [if_neg (by simp), if_pos hlim]
              · rw [hly, if_pos (by omega), if_pos (by omega), if_pos hlly, hrdy, es, if_neg hs, if_pos (by rw [List.length_map]; exact hlim), ew2]
                simp [conv]
        obtain ⟨xs', hx', hg', k1, k2⟩ := key
        obtain ⟨ys, hy, i1, i2⟩ := ih (n - 1) (by omega) xs' true (at_ + 512) (by omega) (by omega) (by omega) (by omega) hg'
        refine ⟨ys, hy, ?_, ?_⟩
        · refine Ev.step (fun k => by
            simp only [sparse_Map.l0]; rw [if_pos hlt, if_pos h0, ew, he, if_pos (by omega), if_pos (by omega), hcast]) (Ev.bind hb1 ?_)
          refine Ev.congr (fun k => ?_) i1
          rw [if_neg (by simp)]
          exact k1 k
        · refine Ev.step (fun k => by
            simp only [oakumref36_Map.l0]; rw [if_pos hlt, if_pos h0, ew, he, if_pos (by omega), if_pos (by omega)]) (Ev.bind hb2 ?_)
          refine Ev.congr (fun k => ?_) i2
          rw [if_neg (by simp)]
          exact k2 k
    · refine ⟨xs, by omega, ?_, ?_⟩
      · exact Ev.step (f := fun _ => some xs) (fun k => by simp only [sparse_Map.l0]; rw [if_neg hlt]) (Ev.now _)
      · exact Ev.step (f := fun _ => some (xs.map conv)) (fun k => by simp only [oakumref36_Map.l0]; rw [if_neg hlt]) (Ev.now _)

theorem holds (xs : List S29) (hx : xs.length ≤ 140737488351232) : ∀ (d i : Nat), i + d = xs.length → Ev (fun k => oakumlaw36_SparseMaps.l0 k xs (xs.map conv) i) true := by
  intro d
  induction d with
  | zero =>
    intro i hi
    exact Ev.step (f := fun _ => some true) (fun k => by simp only [oakumlaw36_SparseMaps.l0]; rw [if_neg (by omega)]) (Ev.now _)
  | succ d ih =>
    intro i hi
    have ew : wrap64 ((i : Int) + 1) = ((i + 1 : Nat) : Int) := by rw [wrap64_id (by omega) (by omega)]; omega
    refine Ev.step (fun k => by
      simp only [oakumlaw36_SparseMaps.l0]
      rw [if_pos (by omega), if_pos (by omega), if_pos (by rw [List.length_map]; omega), rd_conv]
      simp only [conv, if_true, ew]) (ih (i + 1) (by omega))

theorem alive : oakumlaw36_alive.f 600 = some true := by decide +kernel

theorem SparseMaps : oakumlaw36_SparseMaps.Pure := by
  intro l hm hl hw
  have hp : ∀ x ∈ l, 0 ≤ x := fun x hx => (wf_u8 (hw x hx)).1
  refine Ev.rounds (r := true) ?_
  have ha : Ev (fun k => oakumlaw36_alive.f k) true := Ev.of (oakumlaw36_alive.mono) alive
  unfold oakumlaw36_SparseMaps.f
  refine Ev.bind ha ?_
  simp only [if_true]
  by_cases hbig : (l.length : Int) > 20000
  · simp only [if_pos hbig]; exact Ev.now _
  · simp only [if_neg hbig]
    obtain ⟨ys, hy, e1, e2⟩ := maps l (by omega) hp l.length [] false 0 (by omega) (by omega) (by simp) (by omega) (fun _ => .inl ⟨rfl, rfl⟩)
    refine Ev.bind (g := fun k => sparse_Map.f k l) e1 (Ev.bind (g := fun k => oakumref36_Map.f k l) e2 ?_)
    simp only [List.length_map, if_true]
    exact holds ys (by omega) ys.length 0 (by omega)
end Go.Proofs.Ytelniipccmeooaa.Pure
