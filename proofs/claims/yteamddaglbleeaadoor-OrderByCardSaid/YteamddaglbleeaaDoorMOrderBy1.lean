/- Several texts of this proof in one file: V40, ApiR, B40, BCmp, Q38, R38, U38, Q08, Q08b, U38b, U38c, U38d, B38. -/
import Derived.Test.YteamddaglbleeaaDoorMOrderBy0
import Derived.Below
import Derived.Test.YteamddaglbleeaaDoorMEOrderBy2
import Derived.Lib.Bytealg
/- The Order laws in plain words: OrderSorts and OrderStays answer true. -/
set_option linter.unusedVariables false
set_option linter.unusedSimpArgs false
set_option linter.unusedSectionVars false
namespace Go.Proofs.YteamddaglbleeaaDoor.Eng.U
open Go Go.Proofs Go.Proofs.YteamddaglbleeaaDoor.Eng Go.Proofs.YteamddaglbleeaaDoor.P24 Go.Proofs.YteamddaglbleeaaDoor.P40
variable {E : Ext} [Core E] [HasParts E] [HasJoin E] [HasClone E] {k n : Nat}

def fewL (l : List Item) : Bool := l.all (fun x => decide (x.head.name.length + x.head.link.length ≤ 300)) && !manyGo l.length 0 l
theorem few_loop (l : List Item) (hl : l.length < 1000000000000) (hlk : l.length < k) (hx : ∀ x ∈ l, x.head.extra.length < k ∧ x.head.extra.length < 1000000000000000) (hb : ∀ x ∈ l, BdI x) : ∀ (suf pre : List Item) (k0 : Nat), suf.length < k0 → l = pre ++ suf →
    law40_few_L0 (kp E k (n + 1)) k k0 (its l) ((pre.length : Nat) : Int) = some (.bool (suf.all (fun x => decide (x.head.name.length + x.head.link.length ≤ 300)) && !manyGo l.length 0 l))
  | [], pre, k0 + 1, hk, he => by
    rw [List.append_nil] at he
    have hm := many_k (E := E) (k := k) (n := n) l hl hlk hx
    rw [law40_few_L0_s]
    subst he
    simp (disch := first | omega | (simp only [List.length_append, List.length_cons, List.length_nil, List.length_take, List.length_drop]; done) | (simp only [List.length_append, List.length_cons, List.length_nil, List.length_take, List.length_drop]; omega) | fail) only [bif_t, bif_f, bif_n, bif_a, callB_ok, callI_ok, callS_ok, callL_ok, callF_ok, callT_ok, tupB_ok, tupI_ok, tupS_ok, tupL_ok, tupF_ok, atNil_ok, wrap1, wrapM, wrapP, Int.toNat_natCast, svs_len, ivs_len, bvs_len, str_size, svs_mid, ivs_mid, str_dec, str_ext, str_byte, mid_byte, mid_cut, List.length_nil, List.length_singleton, svs_snoc, ivs_snoc, svs_take, svs_drop, str_app, List.take_length, List.drop_zero, List.nil_append, cond_true, cond_false, Option.bind_some, Bool.not_true, Bool.not_false, Bool.true_and, Bool.and_true, bys_len, prs_len, its_len, cells_pair, cells_time, cells_head, cells_item, fold_pair, fold_time, fold_head, fold_ihead, fold_item, prs_mid, its_mid, bys_mid, byte_c, callG_pair, callG_time, callG_head, callG_item, tupG_pair, tupG_time, tupG_head, tupG_item, h_0, i_0, h_1, i_1, h_2, i_2, h_3, i_3, h_4, i_4, h_5, i_5, h_6, i_6, h_7, i_7, h_8, i_8, h_9, i_9, h_10, i_10, h_11, i_11, h_12, i_12, h_13, i_13, i_14, p_0, p_1, t_0, t_1, hm]
    rfl
  | x :: suf, pre, k0 + 1, hk, he => by
    have hm := mid_len pre suf x
    obtain ⟨b1, b2, _⟩ := hb x (by rw [he]; simp)
    have ih := few_loop l hl hlk hx hb suf (pre ++ [x]) k0 (by simpa using hk) (by rw [he]; simp)
    rw [List.length_append, List.length_singleton] at ih
    have hg : ∀ F : AV → Option AV, ((its l)[pre.length]?).bind F = F (elItem x) := fun F => by rw [he]; exact its_mid _ _ _ _
    have hll : l.length = pre.length + suf.length + 1 := by rw [he]; exact hm
    rw [law40_few_L0_s]
    simp (disch := first | omega | (simp only [List.length_append, List.length_cons, List.length_nil, List.length_take, List.length_drop]; done) | (simp only [List.length_append, List.length_cons, List.length_nil, List.length_take, List.length_drop]; omega) | fail) only [bif_t, bif_f, bif_n, bif_a, callB_ok, callI_ok, callS_ok, callL_ok, callF_ok, callT_ok, tupB_ok, tupI_ok, tupS_ok, tupL_ok, tupF_ok, atNil_ok, wrap1, wrapM, wrapP, Int.toNat_natCast, svs_len, ivs_len, bvs_len, str_size, svs_mid, ivs_mid, str_dec, str_ext, str_byte, mid_byte, mid_cut, List.length_nil, List.length_singleton, svs_snoc, ivs_snoc, svs_take, svs_drop, str_app, List.take_length, List.drop_zero, List.nil_append, cond_true, cond_false, Option.bind_some, Bool.not_true, Bool.not_false, Bool.true_and, Bool.and_true, bys_len, prs_len, its_len, cells_pair, cells_time, cells_head, cells_item, fold_pair, fold_time, fold_head, fold_ihead, fold_item, prs_mid, its_mid, bys_mid, byte_c, callG_pair, callG_time, callG_head, callG_item, tupG_pair, tupG_time, tupG_head, tupG_item, h_0, i_0, h_1, i_1, h_2, i_2, h_3, i_3, h_4, i_4, h_5, i_5, h_6, i_6, h_7, i_7, h_8, i_8, h_9, i_9, h_10, i_10, h_11, i_11, h_12, i_12, h_13, i_13, i_14, p_0, p_1, t_0, t_1, hg, hll]
    rw [ih, List.all_cons, ← hll]
    by_cases h : x.head.name.length + x.head.link.length ≤ 300
    · rw [bif_f (by omega), decide_eq_true h]; simp
    · rw [bif_t (by omega), decide_eq_false h]; simp
theorem few_k (l : List Item) (hl : l.length < 1000000000000) (hlk : l.length < k) (hx : ∀ x ∈ l, x.head.extra.length < k ∧ x.head.extra.length < 1000000000000000) (hb : ∀ x ∈ l, BdI x) : kp E k (n + 2) law40_few [.list 15 (its l)] = some (.bool (fewL l)) := by
  rw [law40_few_eq]
  exact few_loop l hl hlk hx hb l [] k hlk rfl
theorem few_is {l : List Item} (hb : ∀ x ∈ l, BdI x) (h : fewL l = true) : Short l ∧ l.length ≤ 12 ∧ (∀ x ∈ l, FewI x) ∧ Small l := by
  unfold fewL at h
  simp only [Bool.and_eq_true, Bool.not_eq_true'] at h
  obtain ⟨h1, h2⟩ := many_few l.length l 0 hb (by omega) (by omega) h.2
  refine ⟨fun x hx => by simpa using List.all_eq_true.1 h.1 x hx, h1, h2, fun x hx => ?_⟩
  obtain ⟨_, _, _, _, a, b⟩ := h2 x hx
  omega

/-! The chapter's example. -/
def h0 (kind : Int) (name : Tx) : Head := ⟨kind, name, [], 0, 0, 0, 0, 0, 0, [], [], 0, 0, []⟩
def aliveL : List Item := [⟨h0 1 [97, 47, 98], []⟩, ⟨h0 6 [97], []⟩]
theorem aliveL_its : its aliveL = [(.agg [(.int .i64 (1 : Int)), (.str (str [97, 47, 98])), (.str (str [])), (.int .i64 (0 : Int)), (.int .i64 (0 : Int)), (.int .i64 (0 : Int)), (.int .i64 (0 : Int)), (.int .i64 (0 : Int)), (.int .i64 (0 : Int)), (.str (str [])), (.str (str [])), (.int .i64 (0 : Int)), (.int .i64 (0 : Int)), (.list 2 []), (.list 1 [])]), (.agg [(.int .i64 (6 : Int)), (.str (str [97])), (.str (str [])), (.int .i64 (0 : Int)), (.int .i64 (0 : Int)), (.int .i64 (0 : Int)), (.int .i64 (0 : Int)), (.int .i64 (0 : Int)), (.int .i64 (0 : Int)), (.str (str [])), (.str (str [])), (.int .i64 (0 : Int)), (.int .i64 (0 : Int)), (.list 2 []), (.list 1 [])])] := rfl
theorem alive40_k (hk : 10000 < k) : kp E k (n + 9) law40_alive [] = some (.bool true) := by
  have hs : Short aliveL := by
    intro x hx
    rcases List.mem_cons.1 hx with rfl | hx
    · decide
    · rw [List.mem_singleton.1 hx]; decide
  have e1 := Sorted_k (E := E) (k := k) (n := n) aliveL hs hk (by decide)
  have e2 := is_k (E := E) (k := k) (n := n) aliveL hs hk (by decide)
  have e3 := sameInts_k (E := E) (k := k) (n := n + 7) [1, 0] [1, 0] (by decide) (by simp; omega)
  rw [show nats (sorted aliveL.length (rel aliveL)) = [1, 0] from by decide +kernel] at e1
  rw [show isOrd aliveL = false from by decide +kernel] at e2
  rw [law40_alive_eq, ← aliveL_its, e1, callL_ok, show ([(.int .i64 (1 : Int)), (.int .i64 (0 : Int))] : List AV) = ivs [1, 0] from rfl, e3, callB_ok, e2, callB_ok]
  rfl

section
variable (l : List Item) (hs : Short l) (hk : 10000 < k) (hl : l.length ≤ 12)
include hs hk hl in
include hs hk hl in
include hs hk hl in
end
/-! What stays. -/
end Go.Proofs.YteamddaglbleeaaDoor.Eng.U


/- The program's own data as a row hands them in: what is read is some item, with bounds. -/
set_option linter.unusedVariables false
set_option linter.unusedSimpArgs false
namespace Go.Proofs.YteamddaglbleeaaDoor.Eng.U
open Go Go.Proofs Go.Proofs.YteamddaglbleeaaDoor.Eng Go.Proofs.YteamddaglbleeaaDoor.Eng.Rdv

def InR (n : Int) : Prop := -9223372036854775808 ≤ n ∧ n ≤ 9223372036854775807
structure G_apiPair (p : Pair) : Prop where
  key : p.key.length ≤ 140737488351232
  val : p.val.length ≤ 140737488351232
structure G_apiTime (t : Time) : Prop where
  sec : InR t.sec
  nano : InR t.nano
structure G_apiHead (h : Head) : Prop where
  kind : InR h.kind
  name : h.name.length ≤ 140737488351232
  link : h.link.length ≤ 140737488351232
  mode : InR h.mode
  uid : InR h.uid
  gid : InR h.gid
  size : InR h.size
  sec : InR h.sec
  nano : InR h.nano
  user : h.user.length ≤ 140737488351232
  group : h.group.length ≤ 140737488351232
  major : InR h.major
  minor : InR h.minor
  extra : h.extra.length * 32 ≤ 140737488351232
  pairs : ∀ p ∈ h.extra, G_apiPair p
structure G_apiItem (x : Item) : Prop where
  head : G_apiHead x.head
  data : x.data.length ≤ 140737488351232
def G_LapiItem (l : List Item) : Prop := l.length * 184 ≤ 140737488351232 ∧ ∀ x ∈ l, G_apiItem x
def G_LapiPair (l : List Pair) : Prop := l.length * 32 ≤ 140737488351232 ∧ ∀ x ∈ l, G_apiPair x
theorem rdi {t : TypeId} (hu : Tryd.prog.underlying t = some (.int .i64)) (hc : Tryd.prog.cellsOf t = 1) : Rd Tryd.prog t (fun n : Int => [.int .i64 n]) InR := int hu hc
theorem rds {t : TypeId} (hu : Tryd.prog.underlying t = some .string) (hc : Tryd.prog.cellsOf t = 1) : Rd Tryd.prog t (fun s : Tx => [.str (str s)]) (fun s => s.length ≤ 140737488351232) := string hu hc
theorem rd_pair : Rd Tryd.prog 58 encPair G_apiPair :=
  weaken (struct (P := Tryd.prog) (t := 58) Tryd.underlying58 rfl (by kernel_rfl) (by kernel_rfl)
    (iso encPair (fun p : Pair => (p.key, p.val)) (fun y => ⟨y.1, y.2⟩) (fun _ => rfl) (fun _ => rfl)
      (cons (rds (by kernel_rfl) (by kernel_rfl)) (one (rds (by kernel_rfl) (by kernel_rfl)))))) (fun _ h => ⟨h.1, h.2⟩)
theorem rd_time : Rd Tryd.prog 28 encTime G_apiTime :=
  weaken (struct (P := Tryd.prog) (t := 28) Tryd.underlying28 rfl (by kernel_rfl) (by kernel_rfl)
    (iso encTime (fun p : Time => (p.sec, p.nano)) (fun y => ⟨y.1, y.2⟩) (fun _ => rfl) (fun _ => rfl)
      (cons (rdi (by kernel_rfl) (by kernel_rfl)) (one (rdi (by kernel_rfl) (by kernel_rfl)))))) (fun _ h => ⟨h.1, h.2⟩)
theorem rd_pairs : Rd Tryd.prog 29 (fun l : List Pair => [.list 2 (prs l)]) G_LapiPair :=
  weaken (sliceAt (B := 32) elPair (fun _ => rfl) Tryd.underlying29 (by kernel_rfl) (by kernel_rfl) (by kernel_rfl) rd_pair) (fun _ h => h)
theorem rd_head : Rd Tryd.prog 31 encHead G_apiHead :=
  weaken (struct (P := Tryd.prog) (t := 31) Tryd.underlying31 rfl (by kernel_rfl) (by kernel_rfl)
    (iso encHead (fun h : Head => (h.kind, h.name, h.link, h.mode, h.uid, h.gid, h.size, (⟨h.sec, h.nano⟩ : Time), h.user, h.group, h.major, h.minor, h.extra))
      (fun y => ⟨y.1, y.2.1, y.2.2.1, y.2.2.2.1, y.2.2.2.2.1, y.2.2.2.2.2.1, y.2.2.2.2.2.2.1, y.2.2.2.2.2.2.2.1.sec, y.2.2.2.2.2.2.2.1.nano, y.2.2.2.2.2.2.2.2.1, y.2.2.2.2.2.2.2.2.2.1, y.2.2.2.2.2.2.2.2.2.2.1, y.2.2.2.2.2.2.2.2.2.2.2.1, y.2.2.2.2.2.2.2.2.2.2.2.2⟩) (fun _ => rfl) (fun _ => rfl)
      (cons (rdi (by kernel_rfl) (by kernel_rfl)) (cons (rds (by kernel_rfl) (by kernel_rfl)) (cons (rds (by kernel_rfl) (by kernel_rfl))
        (cons (rdi (by kernel_rfl) (by kernel_rfl)) (cons (rdi (by kernel_rfl) (by kernel_rfl)) (cons (rdi (by kernel_rfl) (by kernel_rfl)) (cons (rdi (by kernel_rfl) (by kernel_rfl))
          (cons rd_time (cons (rds (by kernel_rfl) (by kernel_rfl)) (cons (rds (by kernel_rfl) (by kernel_rfl))
            (cons (rdi (by kernel_rfl) (by kernel_rfl)) (cons (rdi (by kernel_rfl) (by kernel_rfl)) (one rd_pairs))))))))))))))) (fun h g =>
      ⟨g.1, g.2.1, g.2.2.1, g.2.2.2.1, g.2.2.2.2.1, g.2.2.2.2.2.1, g.2.2.2.2.2.2.1, g.2.2.2.2.2.2.2.1.sec, g.2.2.2.2.2.2.2.1.nano, g.2.2.2.2.2.2.2.2.1, g.2.2.2.2.2.2.2.2.2.1, g.2.2.2.2.2.2.2.2.2.2.1, g.2.2.2.2.2.2.2.2.2.2.2.1, g.2.2.2.2.2.2.2.2.2.2.2.2.1, g.2.2.2.2.2.2.2.2.2.2.2.2.2⟩)
theorem rd_bytes : Rd Tryd.prog 32 (fun l : Tx => [.list 1 (bys l)]) (fun l => l.length ≤ 140737488351232) := by
  have h := sliceAt (sz := 1) (P := Tryd.prog) (t := 32) (e := 5) (B := 1) (en := fun n : Int => [.int .u8 n]) (fun n : Int => .int .u8 n) (fun _ => rfl) Tryd.underlying32 (by kernel_rfl) (by kernel_rfl) (by kernel_rfl) (int (k := .u8) Tryd.underlying5 (by kernel_rfl))
  refine ⟨fun _ => (by kernel_rfl), fun a b => ?_⟩
  obtain ⟨r, h1, h2, h3⟩ := h.out a b
  have e : r.map (fun n : Int => AV.int .u8 n) = bys (r.map fun n => UInt8.ofNat n.toNat) := by
    unfold bys
    rw [List.map_map]
    apply List.map_congr_left
    intro n hn
    have := h3 n hn
    simp [IntKind.min, IntKind.max, IntKind.signed, IntKind.bits] at this
    show AV.int .u8 n = byteAV (UInt8.ofNat n.toNat)
    have h8 : (UInt8.ofNat n.toNat).toNat = n.toNat := by rw [UInt8.toNat_ofNat']; omega
    simp only [byteAV, h8, Int.toNat_of_nonneg this.1]
  refine ⟨r.map fun n => UInt8.ofNat n.toNat, ?_, by simp; omega⟩
  rw [e] at h1
  exact h1
theorem rd_item : Rd Tryd.prog 34 encItem G_apiItem :=
  weaken (struct (P := Tryd.prog) (t := 34) Tryd.underlying34 rfl (by kernel_rfl) (by kernel_rfl)
    (iso encItem (fun x : Item => (x.head, x.data)) (fun y => ⟨y.1, y.2⟩) (fun _ => rfl) (fun _ => rfl) (cons rd_head (one rd_bytes)))) (fun _ h => ⟨h.1, h.2⟩)
theorem rd_items : Rd Tryd.prog 22 (fun l : List Item => [.list 15 (its l)]) G_LapiItem :=
  weaken (sliceAt (B := 184) elItem (fun _ => rfl) Tryd.underlying22 (by kernel_rfl) (by kernel_rfl) (by kernel_rfl) rd_item) (fun _ h => h)
end Go.Proofs.YteamddaglbleeaaDoor.Eng.U


/- What the Order functions take as given beside the Path functions' own: slices.Clone; items as a row hands them in. -/
set_option linter.unusedVariables false
set_option linter.unusedSimpArgs false
set_option linter.unusedSectionVars false
namespace Go.Proofs.YteamddaglbleeaaDoor.Eng.U
open Go Go.Proofs Go.Proofs.YteamddaglbleeaaDoor.Eng Go.RowKit

/-- A list that is handed in, by its cells. -/
theorem list_cells {S : Stab} {w : World} {sz : Nat} {xs : List AV} {v : Value} (hag : Agree S w) (hz : 0 < sz) (h : V S (.list sz xs) v) : v = .slice none 0 0 ∧ xs = [] ∨ ∃ (a : Addr) (c : Nat) (news : List Value), v = .slice (some a) xs.length c ∧ news.length = xs.length * sz ∧ (∀ j u, news[j]? = some u → w.cell? (a.add j) = some u) ∧ (∀ u ∈ news, u.oneCell' = true) ∧
    (∀ (i : Nat) (x : AV), xs[i]? = some x → x.cells.length = sz ∧ ∀ (j : Nat) (c : AV), x.cells[j]? = some c → c.leaf = true ∧ ∀ u, news[i * sz + j]? = some u → V S c u) := by
  cases h with
  | list0 _ a c => exact .inr ⟨a, c, [], rfl, by simp, by simp, by simp, by simp⟩
  | listn _ => exact .inl ⟨rfl, rfl⟩
  | list _ _ a c f h0 h1 h2 h3 h4 =>
    have key : ∀ k, k < xs.length * sz → ∃ y d, xs[k / sz]? = some y ∧ y.cells[k % sz]? = some d ∧ k / sz * sz + k % sz = k := by
      intro k hk
      have hd : k / sz < xs.length := Nat.div_lt_of_lt_mul (by rw [Nat.mul_comm]; exact hk)
      have hm : k % sz < sz := Nat.mod_lt _ hz
      have hm' : k % sz < (xs[k / sz]).cells.length := by rw [h1 _ _ (List.getElem?_eq_getElem hd)]; exact hm
      exact ⟨_, _, List.getElem?_eq_getElem hd, List.getElem?_eq_getElem hm', by rw [Nat.mul_comm]; exact Nat.div_add_mod _ _⟩
    have hget : ∀ k u, ((List.range (xs.length * sz)).map fun k => f (k / sz) (k % sz))[k]? = some u → k < xs.length * sz ∧ u = f (k / sz) (k % sz) := by
      intro k u hu
      rw [List.getElem?_map] at hu
      obtain ⟨i, hi, rfl⟩ := Option.map_eq_some_iff.1 hu
      obtain ⟨hlt, rfl⟩ := List.getElem?_eq_some_iff.1 hi
      rw [List.length_range] at hlt
      rw [List.getElem_range]
      exact ⟨hlt, rfl⟩
    refine .inr ⟨a, c, (List.range (xs.length * sz)).map fun k => f (k / sz) (k % sz), rfl, by simp, fun k u hu => ?_, fun u hu => ?_, fun i x hx => ⟨h1 i x hx, fun j d hd => ⟨h2 i x j d hx hd, fun u hu => ?_⟩⟩⟩
    · obtain ⟨hlt, rfl⟩ := hget k u hu
      obtain ⟨y, d, hy, hd, hkk⟩ := key k hlt
      have := h3 _ y _ d hy hd
      rw [hkk] at this
      exact hag _ _ this
    · obtain ⟨k, hk⟩ := List.getElem?_of_mem hu
      obtain ⟨hlt, rfl⟩ := hget k u hk
      obtain ⟨y, d, hy, hd, _⟩ := key k hlt
      exact (h4 _ y _ d hy hd).one (h2 _ y _ d hy hd)
    · obtain ⟨_, rfl⟩ := hget _ u hu
      have hj : j < sz := by rw [← h1 i x hx]; exact (List.getElem?_eq_some_iff.1 hd).1
      rw [show (i * sz + j) / sz = i from by rw [Nat.mul_comm, Nat.mul_add_div hz, Nat.div_eq_of_lt hj]; omega, show (i * sz + j) % sz = j from by rw [Nat.mul_comm, Nat.mul_add_mod, Nat.mod_eq_of_lt hj]]
      exact h4 i x j d hx hd
def pClone (f : FuncId) (sz : Nat) : Piece := { f := f, ans := fun args => match args with
  | [.list s xs] => bif (s == sz) && decide (xs.length ≤ 1000000000) then some (.list s xs) else none
  | _ => none }
theorem clone_right {f : FuncId} {sz : Nat} {e : TypeId} (hz : 0 < sz) (hE : Enters Tryd.prog f) (h0 : ∀ w, Calls Tryd.prog f #[.slice none 0 0] w fun en w' => en = .returned (.slice none 0 0) ∧ w' = w)
    (h1 : ∀ (a : Addr) (m c : Nat) (news : List Value) (w : World), news.length = m * sz → (∀ j u, news[j]? = some u → w.cell? (a.add j) = some u) → (∀ u ∈ news, u.oneCell' = true) → m ≤ 1000000000 →
      Calls Tryd.prog f #[.slice (some a) m c] w fun en w' => ∃ v, en = .returned v ∧ w'.ownsRow w.heap.size e sz v m news ∧ Below w.heap.size w w') : (pClone f sz).Right := by
  refine ⟨hE, fun args res h => ?_⟩
  unfold pClone at h
  dsimp only at h
  split at h
  · rename_i s xs
    obtain ⟨hc, h'⟩ := some_of_bif h
    clear h
    simp only [Bool.and_eq_true, beq_iff_eq, decide_eq_true_eq] at hc
    obtain ⟨rfl, hm⟩ := hc
    obtain rfl := Option.some.inj h'
    refine ok_row (e := e) fun S w vals hag hG hV => ?_
    obtain ⟨v, rfl, hv⟩ := VL_1 hV
    rcases list_cells hag hz hv with ⟨rfl, rfl⟩ | ⟨a, c, news, rfl, g1, g2, g3, g4⟩
    · refine (h0 w).mono ?_
      rintro en w' ⟨rfl, rfl⟩
      exact ⟨_, [], rfl, World.ownsRow_nil _ _ _ _, by simp, Below.refl _ _⟩
    · refine (h1 a xs.length c news w g1 g2 g3 hm).mono ?_
      rintro en w' ⟨v, rfl, ho, hb⟩
      exact ⟨v, news, rfl, ho, g4, hb⟩
  · cases h
def pCloneP : Piece := pClone slices_Clone_api_Pair 2
def pCloneB : Piece := pClone slices_Clone_byte 1
theorem cloneP_right : pCloneP.Right := clone_right (by omega) ⟨Tryd.f31, Tryd.func31, by kernel_rfl, by kernel_rfl⟩ S40.pairs_nil S40.pairs_some
theorem cloneB_right : pCloneB.Right := clone_right (by omega) ⟨Tryd.f32, Tryd.func32, by kernel_rfl, by kernel_rfl⟩ S40.bytes_nil S40.bytes_some
theorem clone_ans {f : FuncId} {sz : Nat} {xs : List AV} (h : xs.length ≤ 1000000000) : (pClone f sz).ans [.list sz xs] = some (.list sz xs) := by
  show (bif (sz == sz) && decide (xs.length ≤ 1000000000) then _ else none) = _
  rw [decide_eq_true h, beq_self_eq_true]
  rfl
def ps40 : List Piece := [pParts, pJoin, pCloneP, pCloneB]
def ext40 : Ext := extOf ps40
instance core40 : Core ext40 := core_of (by kernel_rfl)
instance parts40 : HasParts ext40 := ⟨fun k n s hs => by
  have := kp_piece (ps := ps40) (p := pParts) (k := k) (n := n) (args := [.str (str s)]) rfl
  refine this.trans ?_
  show (bif decide ((str s).size < 1000000) then _ else none) = _
  rw [str_size, decide_eq_true hs]
  rfl⟩
instance join40 : HasJoin ext40 := ⟨fun k n l sep h1 h2 => by
  have := kp_piece (ps := ps40) (p := pJoin) (k := k) (n := n) (args := [.list 1 (svs l), .str (str sep)]) rfl
  refine this.trans ?_
  show (toStrs (svs l)).bind _ = _
  rw [toStrs_svs]
  show (bif (1 == 1) && decide (l.length ≤ 1000000) && decide ((sep.intercalate l).length ≤ 1000000000) then _ else none) = _
  rw [decide_eq_true h1, decide_eq_true h2]
  rfl⟩
instance clone40 : HasClone ext40 where
  pairs k n l h := (kp_piece (ps := ps40) (p := pCloneP) (k := k) (n := n) rfl).trans (clone_ans (by rw [prs_len]; exact h))
  bytes k n l h := (kp_piece (ps := ps40) (p := pCloneB) (k := k) (n := n) rfl).trans (clone_ans (by rw [bys_len]; exact h))
theorem bd_of {l : List Item} (g : G_LapiItem l) : (∀ x ∈ l, BdI x) ∧ l.length < 1000000000000 ∧ ∀ x ∈ l, x.head.extra.length < 10000000000000 := by
  refine ⟨fun x hx => ?_, by have := g.1; omega, fun x hx => ?_⟩
  · obtain ⟨h, d⟩ := g.2 x hx
    exact ⟨h.name, h.link, h.user, h.group, d, fun p hp => ⟨(h.pairs p hp).key, (h.pairs p hp).val⟩⟩
  · have := (g.2 x hx).head.extra
    omega
end Go.Proofs.YteamddaglbleeaaDoor.Eng.U


/- strings.Compare: the piece. -/
set_option linter.unusedVariables false
set_option linter.unusedSectionVars false
set_option linter.unusedSimpArgs false
namespace Go.Proofs.YteamddaglbleeaaDoor.Eng.U
open Go Go.RowKit Go.Proofs Go.Proofs.YteamddaglbleeaaDoor.Eng Go.Proofs.YteamddaglbleeaaDoor.Eng.Rdv

noncomputable def pCmp : Piece := { f := strings_Compare, ans := fun args => match args with
  | [.str a, .str b] => some (.int .i64 (Lib.compareBytes a.data.toList b.data.toList))
  | _ => none }
theorem cmp_right : pCmp.Right := by
  refine ⟨⟨Tryd.f38, Tryd.func38, by kernel_rfl, by kernel_rfl⟩, fun args res h => ?_⟩
  unfold pCmp at h
  dsimp only at h
  split at h
  · rename_i a b
    obtain rfl := Option.some.inj h
    refine ok_pure ⟨rfl, rfl⟩ fun S w vals hag hG hV => ?_
    obtain ⟨v, u, rfl, h1, h2⟩ := VL_2 hV
    obtain rfl := V_str h1
    obtain rfl := V_str h2
    refine (Tryd.strings_Compare a b w).mono ?_
    rintro e w' ⟨rfl, hw⟩
    first
      | (subst hw; exact ⟨_, rfl, fun S' => V.int _ _, Below.refl _ _⟩)
      | (obtain ⟨m, rfl⟩ := hw; exact ⟨_, rfl, fun S' => V.int _ _, (Below.refl _ w).ahead _⟩)
  · cases h
end Go.Proofs.YteamddaglbleeaaDoor.Eng.U


/- Sorting from the right, and what is least of what is left: plain. -/
set_option linter.unusedVariables false
namespace Go.Proofs.YteamddaglbleeaaDoor.Eng.U
open Go Go.Proofs.YteamddaglbleeaaDoor.Eng

/-- A strict weak order, told by a test. -/
structure Swo (c : Nat → Nat → Bool) : Prop where
  asym : ∀ a b, c a b = true → c b a = false
  neg : ∀ a b d, c a b = false → c b d = false → c a d = false
def lt2 (c : Nat → Nat → Bool) (i j : Nat) : Prop := c j i = false ∧ (c i j = true ∨ i < j)
theorem lt2_asym {c : Nat → Nat → Bool} {a b : Nat} (h : lt2 c a b) (k : lt2 c b a) : False := by
  obtain ⟨h1, h2⟩ := h
  obtain ⟨k1, k2⟩ := k
  rw [k1] at h2
  rw [h1] at k2
  rcases h2 with h2 | h2
  · cases h2
  · rcases k2 with k2 | k2
    · cases k2
    · omega
def insR (c : Nat → Nat → Bool) (x : Nat) : List Nat → List Nat
  | [] => [x]
  | y :: r => if c x y then y :: insR c x r else x :: y :: r
def sortR (c : Nat → Nat → Bool) (l acc : List Nat) : List Nat := l.foldl (fun acc x => insR c x acc) acc
def isort (c : Nat → Nat → Bool) (n : Nat) : List Nat := (sortR c (List.range n) []).reverse
theorem insR_perm (c : Nat → Nat → Bool) (x : Nat) : ∀ r, (insR c x r).Perm (x :: r)
  | [] => List.Perm.refl _
  | y :: r => by
    unfold insR
    split
    · exact ((insR_perm c x r).cons y).trans (List.Perm.swap x y r)
    · exact List.Perm.refl _
theorem insR_sorted {c : Nat → Nat → Bool} (hc : Swo c) (x : Nat) : ∀ r, r.Pairwise (fun y z => lt2 c z y) → (∀ z ∈ r, z < x) → (insR c x r).Pairwise (fun y z => lt2 c z y)
  | [], _, _ => by simp [insR]
  | y :: r, h, hx => by
    rw [List.pairwise_cons] at h
    unfold insR
    split
    · rename_i hxy
      rw [List.pairwise_cons]
      refine ⟨fun z hz => ?_, insR_sorted hc x r h.2 fun z hz => hx z (by simp [hz])⟩
      rcases List.mem_cons.1 ((insR_perm c x r).mem_iff.1 hz) with rfl | hz
      · exact ⟨hc.asym _ _ hxy, .inl hxy⟩
      · exact h.1 z hz
    · rename_i hxy
      have hxy : c x y = false := by simpa using hxy
      rw [List.pairwise_cons]
      refine ⟨fun z hz => ?_, List.pairwise_cons.2 h⟩
      have hlt := hx z hz
      rcases List.mem_cons.1 hz with rfl | hz
      · exact ⟨hxy, .inr hlt⟩
      · exact ⟨hc.neg _ _ _ hxy (h.1 z hz).1, .inr hlt⟩
theorem sortR_spec {c : Nat → Nat → Bool} (hc : Swo c) : ∀ (l acc : List Nat), acc.Pairwise (fun y z => lt2 c z y) → (∀ z ∈ acc, ∀ x ∈ l, z < x) → l.Pairwise (· < ·) → (sortR c l acc).Pairwise (fun y z => lt2 c z y) ∧ (sortR c l acc).Perm (l ++ acc)
  | [], acc, h, _, _ => ⟨h, List.Perm.refl _⟩
  | x :: l, acc, h, hx, hl => by
    rw [List.pairwise_cons] at hl
    have ih := sortR_spec hc l (insR c x acc) (insR_sorted hc x acc h fun z hz => hx z hz x (by simp)) (fun z hz y hy => by
      rcases List.mem_cons.1 ((insR_perm c x acc).mem_iff.1 hz) with rfl | hz
      · exact hl.1 y hy
      · exact hx z hz y (by simp [hy])) hl.2
    refine ⟨ih.1, ih.2.trans ?_⟩
    refine (List.Perm.append_left l (insR_perm c x acc)).trans ?_
    exact List.perm_middle
theorem isort_spec {c : Nat → Nat → Bool} (hc : Swo c) (n : Nat) : (isort c n).Perm (List.range n) ∧ (isort c n).Pairwise (lt2 c) := by
  obtain ⟨h1, h2⟩ := sortR_spec hc (List.range n) [] List.Pairwise.nil (by simp) List.pairwise_lt_range
  unfold isort
  rw [List.append_nil] at h2
  exact ⟨(List.reverse_perm _).trans h2, List.pairwise_reverse.2 h1⟩
theorem isort_len {c : Nat → Nat → Bool} (hc : Swo c) (n : Nat) : (isort c n).length = n := by rw [(isort_spec hc n).1.length_eq, List.length_range]
theorem isort_lt {c : Nat → Nat → Bool} (hc : Swo c) {n k : Nat} (h : k ∈ isort c n) : k < n := List.mem_range.1 ((isort_spec hc n).1.mem_iff.1 h)
theorem isort_nodup {c : Nat → Nat → Bool} (hc : Swo c) (n : Nat) : (isort c n).Nodup := (isort_spec hc n).1.nodup_iff.2 List.nodup_range
/-- The first that is least, of those below m that are left. -/
def best (c : Nat → Nat → Bool) (taken : Nat → Bool) : Nat → Option Nat
  | 0 => none
  | m + 1 => match best c taken m with
    | none => if taken m then none else some m
    | some b => if !taken m && c m b then some m else some b
theorem best_spec {c : Nat → Nat → Bool} (hc : Swo c) (taken : Nat → Bool) : ∀ m, (best c taken m = none → ∀ k, k < m → taken k = true) ∧ (∀ b, best c taken m = some b → b < m ∧ taken b = false ∧ ∀ k, k < m → taken k = false → k ≠ b → lt2 c b k)
  | 0 => ⟨fun _ k hk => by omega, fun b h => by simp [best] at h⟩
  | m + 1 => by
    obtain ⟨h1, h2⟩ := best_spec hc taken m
    unfold best
    cases hb : best c taken m with
    | none =>
      have h1 := h1 hb
      cases ht : taken m with
      | true =>
        simp only [if_true]
        refine ⟨fun _ k hk => ?_, fun b h => (by cases h)⟩
        by_cases e : k = m
        · rw [e]; exact ht
        · exact h1 k (by omega)
      | false =>
        simp only [Bool.false_eq_true, if_false]
        refine ⟨fun h => (by cases h), fun b h => ?_⟩
        cases h
        refine ⟨by omega, ht, fun k hk hkt hne => ?_⟩
        rw [h1 k (by omega)] at hkt
        cases hkt
    | some b0 =>
      obtain ⟨g1, g2, g3⟩ := h2 b0 hb
      refine ⟨fun h => (by dsimp only at h; split at h <;> cases h), fun b h => ?_⟩
      dsimp only at h
      split at h
      · rename_i hm
        rw [Bool.and_eq_true, Bool.not_eq_true'] at hm
        cases h
        refine ⟨by omega, hm.1, fun k hk hkt hne => ?_⟩
        have hbm := hc.asym _ _ hm.2
        by_cases e : k = b0
        · subst e
          exact ⟨hbm, .inl hm.2⟩
        · obtain ⟨q1, q2⟩ := g3 k (by omega) hkt e
          refine ⟨hc.neg _ _ _ q1 hbm, .inl ?_⟩
          cases hmk : c m k with
          | true => rfl
          | false => exact absurd hm.2 (by rw [hc.neg _ _ _ hmk q1]; simp)
      · rename_i hm
        cases h
        refine ⟨by omega, g2, fun k hk hkt hne => ?_⟩
        by_cases e : k = m
        · subst e
          rw [hkt] at hm
          exact ⟨by simpa using hm, .inr g1⟩
        · exact g3 k (by omega) hkt hne
/-- What is sorted holds at each place the first that is least of what is left. -/
theorem best_isort {c : Nat → Nat → Bool} (hc : Swo c) (n i : Nat) (hi : i < n) (taken : Nat → Bool) (ht : ∀ k, k < n → taken k = decide (k ∈ (isort c n).take i)) : best c taken n = some ((isort c n).getD i 0) := by
  obtain ⟨p1, p2⟩ := isort_spec hc n
  have hl := isort_len hc n
  have hnd := isort_nodup hc n
  generalize hs : isort c n = s at p1 p2 hl hnd ht ⊢
  have hget : s.getD i 0 = s[i] := by simp [List.getD_eq_getElem?_getD, hl, hi]
  have hsp : s.take i ++ s[i] :: s.drop (i + 1) = s := by rw [List.getElem_cons_drop]; exact List.take_append_drop i s
  have hmem : ∀ k, k < n → k ∈ s := fun k hk => p1.mem_iff.2 (List.mem_range.2 hk)
  have hai : s[i] < n := List.mem_range.1 (p1.mem_iff.1 (List.getElem_mem _))
  have hnt : taken s[i] = false := by
    rw [ht _ hai, decide_eq_false_iff_not]
    intro hm
    rw [← hsp, List.nodup_append] at hnd
    exact hnd.2.2 _ hm _ List.mem_cons_self rfl
  obtain ⟨b1, b2⟩ := best_spec hc taken n
  rw [hget]
  cases hb : best c taken n with
  | none => rw [b1 hb _ hai] at hnt; cases hnt
  | some b =>
    obtain ⟨c1, c2, c3⟩ := b2 b hb
    by_cases e : b = s[i]
    · rw [e]
    · exfalso
      have l1 := c3 s[i] hai hnt (fun h => e h.symm)
      have hbm := hmem b c1
      rw [ht b c1, decide_eq_false_iff_not] at c2
      rw [← hsp, List.mem_append, List.mem_cons] at hbm
      rcases hbm with h | h | h
      · exact c2 h
      · exact e h
      · rw [← hsp, List.pairwise_append, List.pairwise_cons] at p2
        exact lt2_asym l1 (p2.2.1.1 b h)
end Go.Proofs.YteamddaglbleeaaDoor.Eng.U


/- What functions answer, as the engine evaluates their code. Printed by gen2.py. -/
set_option linter.unusedVariables false
namespace Go.Proofs.YteamddaglbleeaaDoor.Eng.U
open Go Go.Proofs Go.Proofs.YteamddaglbleeaaDoor.Eng
/- oakum/oakumlaw38.UsageGreatest -/
/- oakum/oakumlaw38.alive -/
/- oakum/oakumlaw38.few -/
/- oakum/usage.Greatest -/
/- oakum/usage.Of -/
noncomputable def usage_Of_bd : Code := Tryd.f13.body.getD .skip
noncomputable def usage_Of_L0 (kap : FuncId → List AV → Option AV) (k : Nat) (k0 : Nat) (s11 : List AV) (s12 : Int) (s13 : Int) (b4_0 : ByteArray) (b4_1 : Int) (b4_2 : Int) (b4_3 : Int) (b5_0 : ByteArray) (b5_1 : Int) (b5_2 : Int) (b5_3 : Int) : Option AV :=
  loop (fun fr K => code ((bs E0 k).cfg kap usage_Of) (sel usage_Of_bd [1, 1, 0, 1, 0, 0]) fr K) (canon ((bs E0 k).cfg kap usage_Of) (firstReg (sel usage_Of_bd [1, 1, 0, 1, 0, 0]))) k0 (mkFr 27 [(4, (.loc 4 0)), (5, (.loc 5 0)), (11, (.list 15 s11)), (12, (.int .i64 s12)), (13, (.int .i64 s13))] [(4, (.box [(.str b4_0), (.int .i64 b4_1), (.int .i64 b4_2), (.int .i64 b4_3)])), (5, (.box [(.str b5_0), (.int .i64 b5_1), (.int .i64 b5_2), (.int .i64 b5_3)]))]) (plug ((bs E0 k).cfg kap usage_Of) (retK ((bs E0 k).cfg kap usage_Of) [] Tryd.f13 [] some) [.blk 0, .seqR (sel usage_Of_bd [1, 1, 1])])
theorem usage_Of_L0_s (kap : FuncId → List AV → Option AV) (k : Nat) (k0 : Nat) (s11 : List AV) (s12 : Int) (s13 : Int) (b4_0 : ByteArray) (b4_1 : Int) (b4_2 : Int) (b4_3 : Int) (b5_0 : ByteArray) (b5_1 : Int) (b5_2 : Int) (b5_3 : Int) : usage_Of_L0 kap k (k0 + 1) s11 s12 s13 b4_0 b4_1 b4_2 b4_3 b5_0 b5_1 b5_2 b5_3 =
  (bif (decide (s13 < s12)) then (bif ((decide ((0 : Int) ≤ s13)) && (decide (s13 < (((List.length s11) : Nat) : Int)))) then ((s11[(Int.toNat s13)]?).bind fun vy3 => (cellI .i64 (AV.cells vy3) 0 fun vn4 => (cellS (AV.cells vy3) 1 fun vs5 => (cellS (AV.cells vy3) 2 fun vs6 => (cellI .i64 (AV.cells vy3) 3 fun vn7 => (cellI .i64 (AV.cells vy3) 4 fun vn8 => (cellI .i64 (AV.cells vy3) 5 fun vn9 => (cellI .i64 (AV.cells vy3) 6 fun vn10 => (cellI .i64 (AV.cells vy3) 7 fun vn11 => (cellI .i64 (AV.cells vy3) 8 fun vn12 => (cellS (AV.cells vy3) 9 fun vs13 => (cellS (AV.cells vy3) 10 fun vs14 => (cellI .i64 (AV.cells vy3) 11 fun vn15 => (cellI .i64 (AV.cells vy3) 12 fun vn16 => (cellL 2 (AV.cells vy3) 13 fun vl17 => (cellL 1 (AV.cells vy3) 14 fun vl18 => (callB (kap usage_in [(.str vs5), (.str b5_0)]) fun vq20 => (bif vq20 then (callX (kap usage_Use_add [(.lent [(.str b5_0), (.int .i64 b5_1), (.int .i64 b5_2), (.int .i64 b5_3)]), (.agg [(.int .i64 vn4), (.str vs5), (.str vs6), (.int .i64 vn7), (.int .i64 vn8), (.int .i64 vn9), (.int .i64 vn10), (.int .i64 vn11), (.int .i64 vn12), (.str vs13), (.str vs14), (.int .i64 vn15), (.int .i64 vn16), (.list 2 vl17), (.list 1 vl18)])]) fun vb21 vz22 => (nxX vz22 fun vx24 vz23 => (nxS vx24 fun vs26 vx25 => (nxI .i64 vx25 fun vn28 vx27 => (nxI .i64 vx27 fun vn30 vx29 => (nxI .i64 vx29 fun vn32 vx31 => (atNil vx31 (atNil vz23 (callT (some vb21) fun vt33 => (atNil vt33 (usage_Of_L0 kap k k0 s11 s12 (IntKind.wrap .i64 (s13 + (1 : Int))) b4_0 b4_1 b4_2 b4_3 vs26 vn28 vn30 vn32))))))))))) else (usage_Of_L0 kap k k0 s11 s12 (IntKind.wrap .i64 (s13 + (1 : Int))) b4_0 b4_1 b4_2 b4_3 b5_0 b5_1 b5_2 b5_3))))))))))))))))))) else none) else (some (.agg [(.str b5_0), (.int .i64 b5_1), (.int .i64 b5_2), (.int .i64 b5_3)]))) := by kernel_rfl
/- slices.SortStableFunc[[]int,int] -/
theorem slices_SortStableFunc_int_at_order_By_1_eq {E : Ext} [Core E] (k n : Nat) (a0 : List AV) (a1_v0 : List AV) (a1_v1 : Int) : kp E k (n + 1) slices_SortStableFunc_int [(.lrow 3 a0), (.func (.func order_By_1) [] [(.eptr [(.list 15 a1_v0)] 0), (.eptr [(.int .i64 a1_v1)] 0)])] =
  (callX (kp E k n slices_stableCmpFunc_int [(.lrow 3 a0), (.int .i64 (((List.length a0) : Nat) : Int)), (.func (.func order_By_1) [] [(.eptr [(.list 15 a1_v0)] 0), (.eptr [(.int .i64 a1_v1)] 0)])]) fun vb1 vz2 => (nxR 3 vz2 fun vw4 vz3 => (bif List.length vw4 == (List.length a0) then (atNil vz3 (callT (some vb1) fun vt5 => (atNil vt5 (some (.lback (.tup []) [(.lrow 3 vw4)]))))) else none))) := (kp_at (by kernel_rfl)).trans (by kernel_rfl)
/- slices.SortStableFunc[[]int,int] -/
/- oakum/usage.Greatest$1 -/
/- cmp.Compare[int] -/
/- oakum/usage.in -/
theorem usage_in_eq {E : Ext} [Core E] (k n : Nat) (a0 : ByteArray) (a1 : ByteArray) : kp E k (n + 1) usage_in [(.str a0), (.str a1)] =
  (bif (decide (a1 = (str [46]))) then (callB (kp E k n path_Safe [(.str a0)]) fun vq2 => (some (.bool vq2))) else (callS (kp E k n path_Clean [(.str a0)]) fun vs4 => (bif (decide (vs4 = a1)) then (some (.bool true)) else (callB (kp E k n path_In [(.str a0), (.str a1)]) fun vq6 => (some (.bool vq6)))))) := (kp_at (by kernel_rfl)).trans (by kernel_rfl)
/- (*oakum/usage.Use).add -/
theorem usage_Use_add_eq {E : Ext} [Core E] (k n : Nat) (a0_0 : ByteArray) (a0_1 : Int) (a0_2 : Int) (a0_3 : Int) (a1_0 : Int) (a1_1 : ByteArray) (a1_2 : ByteArray) (a1_3 : Int) (a1_4 : Int) (a1_5 : Int) (a1_6 : Int) (a1_7 : Int) (a1_8 : Int) (a1_9 : ByteArray) (a1_10 : ByteArray) (a1_11 : Int) (a1_12 : Int) (a1_13 : List AV) (a1_14 : List AV) : kp E k (n + 1) usage_Use_add [(.lent [(.str a0_0), (.int .i64 a0_1), (.int .i64 a0_2), (.int .i64 a0_3)]), (.agg [(.int .i64 a1_0), (.str a1_1), (.str a1_2), (.int .i64 a1_3), (.int .i64 a1_4), (.int .i64 a1_5), (.int .i64 a1_6), (.int .i64 a1_7), (.int .i64 a1_8), (.str a1_9), (.str a1_10), (.int .i64 a1_11), (.int .i64 a1_12), (.list 2 a1_13), (.list 1 a1_14)])] =
  (callI .i64 (kp E k n text_Blocks [(.int .i64 (((List.length a1_14) : Nat) : Int))]) fun vn2 => (some (.lback (.tup []) [(.lent [(.str a0_0), (.int .i64 (IntKind.wrap .i64 (a0_1 + (1 : Int)))), (.int .i64 (IntKind.wrap .i64 (a0_2 + (((List.length a1_14) : Nat) : Int)))), (.int .i64 (IntKind.wrap .i64 (a0_3 + vn2)))])]))) := (kp_at (by kernel_rfl)).trans (by kernel_rfl)
/- slices.stableCmpFunc[int] -/
noncomputable def slices_stableCmpFunc_int_at_order_By_1_bd : Code := Tryd.f29.body.getD .skip
noncomputable def slices_stableCmpFunc_int_at_order_By_1_L0 (kap : FuncId → List AV → Option AV) (k : Nat) (k0 : Nat) (s1 : Int) (s2_c0_0 : List AV) (s2_c1_0 : Int) (s6 : Int) (s7 : Int) (s8 : Int) (x0 : List AV) : Option AV :=
  loop (fun fr K => code ({ (bs E0 k).cfg kap slices_stableCmpFunc_int with rs := [0] } : Cfg) (sel slices_stableCmpFunc_int_at_order_By_1_bd [1, 1, 0, 0, 0]) fr K) (canon ({ (bs E0 k).cfg kap slices_stableCmpFunc_int with rs := [0] } : Cfg) (firstReg (sel slices_stableCmpFunc_int_at_order_By_1_bd [1, 1, 0, 0, 0]))) k0 (mkFr 63 [(0, (.own 0)), (1, (.int .i64 s1)), (2, (.func (.func order_By_1) [] [(.eptr [(.list 15 s2_c0_0)] 0), (.eptr [(.int .i64 s2_c1_0)] 0)])), (6, (.int .i64 s6)), (7, (.int .i64 s7)), (8, (.int .i64 s8))] [(0, (.row 3 x0 false))]) (plug ({ (bs E0 k).cfg kap slices_stableCmpFunc_int with rs := [0] } : Cfg) (retK ({ (bs E0 k).cfg kap slices_stableCmpFunc_int with rs := [0] } : Cfg) [] Tryd.f29 [.lrow 0 [], .junk, .junk] some) [.blk 0, .seqR (sel slices_stableCmpFunc_int_at_order_By_1_bd [1, 1, 1])])
noncomputable def slices_stableCmpFunc_int_at_order_By_1_L1 (kap : FuncId → List AV → Option AV) (k : Nat) (k1 : Nat) (s1 : Int) (s2_c0_0 : List AV) (s2_c1_0 : Int) (s6 : Int) (x0 : List AV) : Option AV :=
  loop (fun fr K => code ({ (bs E0 k).cfg kap slices_stableCmpFunc_int with rs := [0] } : Cfg) (sel slices_stableCmpFunc_int_at_order_By_1_bd [1, 1, 1, 1, 0, 0]) fr K) (canon ({ (bs E0 k).cfg kap slices_stableCmpFunc_int with rs := [0] } : Cfg) (firstReg (sel slices_stableCmpFunc_int_at_order_By_1_bd [1, 1, 1, 1, 0, 0]))) k1 (mkFr 63 [(0, (.own 0)), (1, (.int .i64 s1)), (2, (.func (.func order_By_1) [] [(.eptr [(.list 15 s2_c0_0)] 0), (.eptr [(.int .i64 s2_c1_0)] 0)])), (6, (.int .i64 s6))] [(0, (.row 3 x0 false))]) (plug ({ (bs E0 k).cfg kap slices_stableCmpFunc_int with rs := [0] } : Cfg) (retK ({ (bs E0 k).cfg kap slices_stableCmpFunc_int with rs := [0] } : Cfg) [] Tryd.f29 [.lrow 0 [], .junk, .junk] some) [.blk 2])
noncomputable def slices_stableCmpFunc_int_at_order_By_1_L2 (kap : FuncId → List AV → Option AV) (k : Nat) (k1 : Nat) (k2 : Nat) (s1 : Int) (s2_c0_0 : List AV) (s2_c1_0 : Int) (s6 : Int) (s7 : Int) (s8 : Int) (x0 : List AV) : Option AV :=
  loop (fun fr K => code ({ (bs E0 k).cfg kap slices_stableCmpFunc_int with rs := [0] } : Cfg) (sel slices_stableCmpFunc_int_at_order_By_1_bd [1, 1, 1, 1, 0, 0, 1, 0, 1, 0, 0, 0]) fr K) (canon ({ (bs E0 k).cfg kap slices_stableCmpFunc_int with rs := [0] } : Cfg) (firstReg (sel slices_stableCmpFunc_int_at_order_By_1_bd [1, 1, 1, 1, 0, 0, 1, 0, 1, 0, 0, 0]))) k2 (mkFr 63 [(0, (.own 0)), (1, (.int .i64 s1)), (2, (.func (.func order_By_1) [] [(.eptr [(.list 15 s2_c0_0)] 0), (.eptr [(.int .i64 s2_c1_0)] 0)])), (6, (.int .i64 s6)), (7, (.int .i64 s7)), (8, (.int .i64 s8))] [(0, (.row 3 x0 false))]) (plug ({ (bs E0 k).cfg kap slices_stableCmpFunc_int with rs := [0] } : Cfg) (retK ({ (bs E0 k).cfg kap slices_stableCmpFunc_int with rs := [0] } : Cfg) [] Tryd.f29 [.lrow 0 [], .junk, .junk] some) [.blk 4, .seqR (sel slices_stableCmpFunc_int_at_order_By_1_bd [1, 1, 1, 1, 0, 0, 1, 0, 1, 1]), .blk 3, .lp (sel slices_stableCmpFunc_int_at_order_By_1_bd [1, 1, 1, 1, 0, 0]) k1, .blk 2])
theorem slices_stableCmpFunc_int_at_order_By_1_L0_s (kap : FuncId → List AV → Option AV) (k : Nat) (k0 : Nat) (s1 : Int) (s2_c0_0 : List AV) (s2_c1_0 : Int) (s6 : Int) (s7 : Int) (s8 : Int) (x0 : List AV) : slices_stableCmpFunc_int_at_order_By_1_L0 kap k (k0 + 1) s1 s2_c0_0 s2_c1_0 s6 s7 s8 x0 =
  (bif (decide (s8 ≤ s1)) then (callX (kap slices_insertionSortCmpFunc_int [(.lrow 3 x0), (.int .i64 s7), (.int .i64 s8), (.func (.func order_By_1) [] [(.eptr [(.list 15 s2_c0_0)] 0), (.eptr [(.int .i64 s2_c1_0)] 0)])]) fun vb1 vz2 => (nxR 3 vz2 fun vw4 vz3 => (bif List.length vw4 == (List.length x0) then (atNil vz3 (callT (some vb1) fun vt5 => (atNil vt5 (slices_stableCmpFunc_int_at_order_By_1_L0 kap k k0 s1 s2_c0_0 s2_c1_0 s6 s8 (IntKind.wrap .i64 (s8 + s6)) vw4)))) else none))) else (callX (kap slices_insertionSortCmpFunc_int [(.lrow 3 x0), (.int .i64 s7), (.int .i64 s1), (.func (.func order_By_1) [] [(.eptr [(.list 15 s2_c0_0)] 0), (.eptr [(.int .i64 s2_c1_0)] 0)])]) fun vb6 vz7 => (nxR 3 vz7 fun vw9 vz8 => (bif List.length vw9 == (List.length x0) then (atNil vz8 (callT (some vb6) fun vt10 => (atNil vt10 (slices_stableCmpFunc_int_at_order_By_1_L1 kap k k s1 s2_c0_0 s2_c1_0 s6 vw9)))) else none)))) := by kernel_rfl
theorem slices_stableCmpFunc_int_at_order_By_1_L1_s (kap : FuncId → List AV → Option AV) (k : Nat) (k1 : Nat) (s1 : Int) (s2_c0_0 : List AV) (s2_c1_0 : Int) (s6 : Int) (x0 : List AV) : slices_stableCmpFunc_int_at_order_By_1_L1 kap k (k1 + 1) s1 s2_c0_0 s2_c1_0 s6 x0 =
  (bif (decide (s6 < s1)) then (slices_stableCmpFunc_int_at_order_By_1_L2 kap k k1 k s1 s2_c0_0 s2_c1_0 s6 (0 : Int) (IntKind.wrap .i64 ((2 : Int) * s6)) x0) else (some (.lback (.tup []) [(.lrow 3 x0)]))) := by kernel_rfl
theorem slices_stableCmpFunc_int_at_order_By_1_eq {E : Ext} [Core E] (k n : Nat) (a0 : List AV) (a1 : Int) (a2_v0 : List AV) (a2_v1 : Int) : kp E k (n + 1) slices_stableCmpFunc_int [(.lrow 3 a0), (.int .i64 a1), (.func (.func order_By_1) [] [(.eptr [(.list 15 a2_v0)] 0), (.eptr [(.int .i64 a2_v1)] 0)])] =
  (slices_stableCmpFunc_int_at_order_By_1_L0 (kp E k n) k k a1 a2_v0 a2_v1 (20 : Int) (0 : Int) (20 : Int) a0) := (kp_at (by kernel_rfl)).trans (by kernel_rfl)
/- slices.stableCmpFunc[int] -/
/- cmp.isNaN[int] -/
/- cmp.Compare[int64] -/
theorem cmp_Compare_int64_eq {E : Ext} [Core E] (k n : Nat) (a0 : Int) (a1 : Int) : kp E k (n + 1) cmp_Compare_int64 [(.int .i64 a0), (.int .i64 a1)] =
  (callB (kp E k n cmp_isNaN_int64 [(.int .i64 a0)]) fun vq2 => (callB (kp E k n cmp_isNaN_int64 [(.int .i64 a1)]) fun vq4 => (bif vq2 then (bif vq4 then (some (.int .i64 (0 : Int))) else (some (.int .i64 (-1 : Int)))) else (bif vq4 then (some (.int .i64 (1 : Int))) else (bif (decide (a0 < a1)) then (some (.int .i64 (-1 : Int))) else (bif (decide (a0 > a1)) then (some (.int .i64 (1 : Int))) else (some (.int .i64 (0 : Int))))))))) := (kp_at (by kernel_rfl)).trans (by kernel_rfl)
/- cmp.Or[int] -/
noncomputable def cmp_Or_int_bd : Code := Tryd.f39.body.getD .skip
noncomputable def cmp_Or_int_L0 (kap : FuncId → List AV → Option AV) (k : Nat) (k0 : Nat) (s3 : Int) (s6 : List AV) (s7 : Int) (s8 : Int) : Option AV :=
  loop (fun fr K => code ((bs E0 k).cfg kap cmp_Or_int) (sel cmp_Or_int_bd [1, 1, 0, 1, 0, 0]) fr K) (canon ((bs E0 k).cfg kap cmp_Or_int) (firstReg (sel cmp_Or_int_bd [1, 1, 0, 1, 0, 0]))) k0 (mkFr 18 [(3, (.int .i64 s3)), (6, (.list 1 s6)), (7, (.int .i64 s7)), (8, (.int .i64 s8))] []) (plug ((bs E0 k).cfg kap cmp_Or_int) (retK ((bs E0 k).cfg kap cmp_Or_int) [] Tryd.f39 [] some) [.blk 0, .seqR (sel cmp_Or_int_bd [1, 1, 1])])
theorem cmp_Or_int_L0_s (kap : FuncId → List AV → Option AV) (k : Nat) (k0 : Nat) (s3 : Int) (s6 : List AV) (s7 : Int) (s8 : Int) : cmp_Or_int_L0 kap k (k0 + 1) s3 s6 s7 s8 =
  (bif (decide (s8 < s7)) then (bif ((decide ((0 : Int) ≤ s8)) && (decide (s8 < (((List.length s6) : Nat) : Int)))) then ((s6[(Int.toNat s8)]?).bind fun vy1 => (cellI .i64 (AV.cells vy1) 0 fun vn2 => (bif (!(decide (vn2 = s3))) then (some (.int .i64 vn2)) else (cmp_Or_int_L0 kap k k0 s3 s6 s7 (IntKind.wrap .i64 (s8 + (1 : Int))))))) else none) else (some (.int .i64 s3))) := by kernel_rfl
theorem cmp_Or_int_eq {E : Ext} [Core E] (k n : Nat) (a0 : List AV) : kp E k (n + 1) cmp_Or_int [(.list 1 a0)] =
  (cmp_Or_int_L0 (kp E k n) k k (0 : Int) a0 (((List.length a0) : Nat) : Int) (0 : Int)) := (kp_at (by kernel_rfl)).trans (by kernel_rfl)
/- oakum/text.Blocks -/
theorem text_Blocks_eq {E : Ext} [Core E] (k n : Nat) (a0 : Int) : kp E k (n + 1) text_Blocks [(.int .i64 a0)] =
  (bif (decide (a0 ≤ (0 : Int))) then (some (.int .i64 (0 : Int))) else (some (.int .i64 (IntKind.wrap .i64 ((IntKind.wrap .i64 (Int.tdiv (IntKind.wrap .i64 (a0 - (1 : Int))) (512 : Int))) + (1 : Int)))))) := (kp_at (by kernel_rfl)).trans (by kernel_rfl)
/- slices.insertionSortCmpFunc[int] -/
noncomputable def slices_insertionSortCmpFunc_int_at_order_By_1_bd : Code := Tryd.f46.body.getD .skip
noncomputable def slices_insertionSortCmpFunc_int_at_order_By_1_L0 (kap : FuncId → List AV → Option AV) (k : Nat) (k0 : Nat) (s1 : Int) (s2 : Int) (s3_c0_0 : List AV) (s3_c1_0 : Int) (s8 : Int) (x0 : List AV) : Option AV :=
  loop (fun fr K => code ({ (bs E0 k).cfg kap slices_insertionSortCmpFunc_int with rs := [0] } : Cfg) (sel slices_insertionSortCmpFunc_int_at_order_By_1_bd [1, 0, 0]) fr K) (canon ({ (bs E0 k).cfg kap slices_insertionSortCmpFunc_int with rs := [0] } : Cfg) (firstReg (sel slices_insertionSortCmpFunc_int_at_order_By_1_bd [1, 0, 0]))) k0 (mkFr 53 [(0, (.own 0)), (1, (.int .i64 s1)), (2, (.int .i64 s2)), (3, (.func (.func order_By_1) [] [(.eptr [(.list 15 s3_c0_0)] 0), (.eptr [(.int .i64 s3_c1_0)] 0)])), (8, (.int .i64 s8))] [(0, (.row 3 x0 false))]) (plug ({ (bs E0 k).cfg kap slices_insertionSortCmpFunc_int with rs := [0] } : Cfg) (retK ({ (bs E0 k).cfg kap slices_insertionSortCmpFunc_int with rs := [0] } : Cfg) [] Tryd.f46 [.lrow 0 [], .junk, .junk, .junk] some) [.blk 0])
noncomputable def slices_insertionSortCmpFunc_int_at_order_By_1_L1 (kap : FuncId → List AV → Option AV) (k : Nat) (k0 : Nat) (k1 : Nat) (s1 : Int) (s2 : Int) (s3_c0_0 : List AV) (s3_c1_0 : Int) (s8 : Int) (s9 : Int) (x0 : List AV) : Option AV :=
  loop (fun fr K => code ({ (bs E0 k).cfg kap slices_insertionSortCmpFunc_int with rs := [0] } : Cfg) (sel slices_insertionSortCmpFunc_int_at_order_By_1_bd [1, 0, 0, 1, 0, 0, 1, 0, 0]) fr K) (canon ({ (bs E0 k).cfg kap slices_insertionSortCmpFunc_int with rs := [0] } : Cfg) (firstReg (sel slices_insertionSortCmpFunc_int_at_order_By_1_bd [1, 0, 0, 1, 0, 0, 1, 0, 0]))) k1 (mkFr 53 [(0, (.own 0)), (1, (.int .i64 s1)), (2, (.int .i64 s2)), (3, (.func (.func order_By_1) [] [(.eptr [(.list 15 s3_c0_0)] 0), (.eptr [(.int .i64 s3_c1_0)] 0)])), (8, (.int .i64 s8)), (9, (.int .i64 s9))] [(0, (.row 3 x0 false))]) (plug ({ (bs E0 k).cfg kap slices_insertionSortCmpFunc_int with rs := [0] } : Cfg) (retK ({ (bs E0 k).cfg kap slices_insertionSortCmpFunc_int with rs := [0] } : Cfg) [] Tryd.f46 [.lrow 0 [], .junk, .junk, .junk] some) [.blk 2, .blk 1, .seqR (sel slices_insertionSortCmpFunc_int_at_order_By_1_bd [1, 0, 0, 1, 1]), .lp (sel slices_insertionSortCmpFunc_int_at_order_By_1_bd [1, 0, 0]) k0, .blk 0])
theorem slices_insertionSortCmpFunc_int_at_order_By_1_L0_s (kap : FuncId → List AV → Option AV) (k : Nat) (k0 : Nat) (s1 : Int) (s2 : Int) (s3_c0_0 : List AV) (s3_c1_0 : Int) (s8 : Int) (x0 : List AV) : slices_insertionSortCmpFunc_int_at_order_By_1_L0 kap k (k0 + 1) s1 s2 s3_c0_0 s3_c1_0 s8 x0 =
  (bif (decide (s8 < s2)) then (slices_insertionSortCmpFunc_int_at_order_By_1_L1 kap k k0 k s1 s2 s3_c0_0 s3_c1_0 s8 s8 x0) else (some (.lback (.tup []) [(.lrow 3 x0)]))) := by kernel_rfl
theorem slices_insertionSortCmpFunc_int_at_order_By_1_L1_s (kap : FuncId → List AV → Option AV) (k : Nat) (k0 : Nat) (k1 : Nat) (s1 : Int) (s2 : Int) (s3_c0_0 : List AV) (s3_c1_0 : Int) (s8 : Int) (s9 : Int) (x0 : List AV) : slices_insertionSortCmpFunc_int_at_order_By_1_L1 kap k k0 (k1 + 1) s1 s2 s3_c0_0 s3_c1_0 s8 s9 x0 =
  (bif (decide (s9 > s1)) then (bif ((decide ((0 : Int) ≤ s9)) && (decide (s9 < (((List.length x0) : Nat) : Int)))) then ((x0[(Int.toNat s9)]?).bind fun vy1 => (cellI .i64 (AV.cells vy1) 0 fun vn2 => (bif ((decide ((0 : Int) ≤ (IntKind.wrap .i64 (s9 - (1 : Int))))) && (decide ((IntKind.wrap .i64 (s9 - (1 : Int))) < (((List.length x0) : Nat) : Int)))) then ((x0[(Int.toNat (IntKind.wrap .i64 (s9 - (1 : Int))))]?).bind fun vy3 => (cellI .i64 (AV.cells vy3) 0 fun vn4 => (callI .i64 (kap order_By_1 [(.int .i64 vn2), (.int .i64 vn4), (.eptr [(.list 15 s3_c0_0)] 0), (.eptr [(.int .i64 s3_c1_0)] 0)]) fun vn6 => (bif (decide (vn6 < (0 : Int))) then (bif ((decide ((0 : Int) ≤ (IntKind.wrap .i64 (s9 - (1 : Int))))) && (decide ((IntKind.wrap .i64 (s9 - (1 : Int))) < (((List.length x0) : Nat) : Int)))) then ((x0[(Int.toNat (IntKind.wrap .i64 (s9 - (1 : Int))))]?).bind fun vy7 => (cellI .i64 (AV.cells vy7) 0 fun vn8 => (bif ((decide ((0 : Int) ≤ s9)) && (decide (s9 < (((List.length x0) : Nat) : Int)))) then ((x0[(Int.toNat s9)]?).bind fun vy9 => (cellI .i64 (AV.cells vy9) 0 fun vn10 => (bif ((decide ((0 : Int) ≤ s9)) && (decide (s9 < (((List.length x0) : Nat) : Int)))) then ((x0[(Int.toNat s9)]?).bind fun vy11 => (bif (decide (0 + 1 ≤ (AV.cells vy11).length) && true) then (bif ((decide ((0 : Int) ≤ (IntKind.wrap .i64 (s9 - (1 : Int))))) && (decide ((IntKind.wrap .i64 (s9 - (1 : Int))) < (((List.length (List.set x0 (Int.toNat s9) (mkElem 1 (splice (AV.cells vy11) 0 [(.int .i64 vn8)]) vy11))) : Nat) : Int)))) then (((List.set x0 (Int.toNat s9) (mkElem 1 (splice (AV.cells vy11) 0 [(.int .i64 vn8)]) vy11))[(Int.toNat (IntKind.wrap .i64 (s9 - (1 : Int))))]?).bind fun vy12 => (bif (decide (0 + 1 ≤ (AV.cells vy12).length) && true) then (slices_insertionSortCmpFunc_int_at_order_By_1_L1 kap k k0 k1 s1 s2 s3_c0_0 s3_c1_0 s8 (IntKind.wrap .i64 (s9 - (1 : Int))) (List.set (List.set x0 (Int.toNat s9) (mkElem 1 (splice (AV.cells vy11) 0 [(.int .i64 vn8)]) vy11)) (Int.toNat (IntKind.wrap .i64 (s9 - (1 : Int)))) (mkElem 1 (splice (AV.cells vy12) 0 [(.int .i64 vn10)]) vy12))) else none)) else none) else none)) else none))) else none))) else none) else (slices_insertionSortCmpFunc_int_at_order_By_1_L0 kap k k0 s1 s2 s3_c0_0 s3_c1_0 (IntKind.wrap .i64 (s8 + (1 : Int))) x0))))) else none))) else none) else (slices_insertionSortCmpFunc_int_at_order_By_1_L0 kap k k0 s1 s2 s3_c0_0 s3_c1_0 (IntKind.wrap .i64 (s8 + (1 : Int))) x0)) := by kernel_rfl
theorem slices_insertionSortCmpFunc_int_at_order_By_1_eq {E : Ext} [Core E] (k n : Nat) (a0 : List AV) (a1 : Int) (a2 : Int) (a3_v0 : List AV) (a3_v1 : Int) : kp E k (n + 1) slices_insertionSortCmpFunc_int [(.lrow 3 a0), (.int .i64 a1), (.int .i64 a2), (.func (.func order_By_1) [] [(.eptr [(.list 15 a3_v0)] 0), (.eptr [(.int .i64 a3_v1)] 0)])] =
  (slices_insertionSortCmpFunc_int_at_order_By_1_L0 (kp E k n) k k a1 a2 a3_v0 a3_v1 (IntKind.wrap .i64 (a1 + (1 : Int))) a0) := (kp_at (by kernel_rfl)).trans (by kernel_rfl)
/- slices.insertionSortCmpFunc[int] -/
/- cmp.isNaN[int64] -/
theorem cmp_isNaN_int64_eq {E : Ext} [Core E] (k n : Nat) (a0 : Int) : kp E k (n + 1) cmp_isNaN_int64 [(.int .i64 a0)] =
  (some (.bool (!(decide (a0 = a0))))) := (kp_at (by kernel_rfl)).trans (by kernel_rfl)
end Go.Proofs.YteamddaglbleeaaDoor.Eng.U


/- slices.SortStableFunc at few numbers, in plain words. Written by gen/u38.py. -/
set_option linter.unusedVariables false
set_option linter.unusedSectionVars false
set_option linter.unusedSimpArgs false
namespace Go.Proofs.YteamddaglbleeaaDoor.Eng.U
open Go Go.Proofs Go.Proofs.YteamddaglbleeaaDoor.Eng
variable {E : Ext} [Core E] {k n k0 : Nat}

def nv (i : Nat) : AV := .int .i64 ((i : Nat) : Int)
def nvs (l : List Nat) : List AV := l.map nv
theorem nvs_len (l : List Nat) : (nvs l).length = l.length := by simp [nvs]
theorem nvs_mid {β : Type} (a b : List Nat) (x : Nat) (F : AV → Option β) : ((nvs (a ++ x :: b))[a.length]?).bind F = F (nv x) := by
  unfold nvs
  rw [List.getElem?_map]
  simp
theorem nvs_mid1 {β : Type} (a b : List Nat) (y x : Nat) (F : AV → Option β) : ((nvs (a ++ y :: x :: b))[a.length + 1]?).bind F = F (nv x) := by
  have := nvs_mid (a ++ [y]) b x F
  rw [List.length_append, List.length_singleton, List.append_assoc, List.singleton_append] at this
  exact this
theorem nvs_set (a b : List Nat) (x y : Nat) : (nvs (a ++ x :: b)).set a.length (nv y) = nvs (a ++ y :: b) := by simp [nvs]
theorem nvs_set1 (a b : List Nat) (y x z : Nat) : (nvs (a ++ y :: x :: b)).set (a.length + 1) (nv z) = nvs (a ++ y :: z :: b) := by
  have := nvs_set (a ++ [y]) b x z
  rw [List.length_append, List.length_singleton, List.append_assoc, List.singleton_append, List.append_assoc, List.singleton_append] at this
  exact this
theorem nv_int {β : Type} (x : Nat) (K : Int → Option β) : cellI .i64 (AV.cells (nv x)) 0 K = K ((x : Nat) : Int) := cellI_0 _ _ _
theorem nv_mk (x y : Nat) : mkElem 1 (splice (AV.cells (nv x)) 0 [(.int .i64 ((y : Nat) : Int))]) (nv x) = nv y := rfl
theorem nv_room (x : Nat) : (decide (0 + 1 ≤ (AV.cells (nv x)).length) && true) = true := rfl
def ltV (v : Nat → Nat → Int) (x y : Nat) : Bool := decide (v x y < 0)

theorem ins1_b (kap : FuncId → List AV → Option AV) (k : Nat) (L : List AV) (f : Int) (v : Nat → Nat → Int) (m : Nat) (hm : m ≤ 1000000) (hv : ∀ x y, x < m → y < m → kap order_By_1 [.int .i64 ((x : Nat) : Int), .int .i64 ((y : Nat) : Int), (.eptr [(.list 15 L)] 0), (.eptr [(.int .i64 f)] 0)] = some (.int .i64 (v x y))) (b s8 : Int) (x : Nat) (hx : x < m) :
    ∀ (rp q : List Nat) (k1 : Nat), rp.length < k1 → rp.length + q.length ≤ 1000000 → (∀ y ∈ rp, y < m) →
    slices_insertionSortCmpFunc_int_at_order_By_1_L1 kap k k0 k1 0 b L f s8 ((rp.length : Nat) : Int) (nvs (rp.reverse ++ x :: q)) =
    slices_insertionSortCmpFunc_int_at_order_By_1_L0 kap k k0 0 b L f (IntKind.wrap .i64 (s8 + 1)) (nvs ((insR (ltV v) x rp).reverse ++ q))
  | [], q, k1 + 1, h, hq, hr => by
    rw [slices_insertionSortCmpFunc_int_at_order_By_1_L1_s, bif_f (by simp)]
    rfl
  | y :: rp, q, k1 + 1, h, hq, hr => by
    have hy := hr y (by simp)
    simp only [List.length_cons] at h hq
    have ih := ins1_b kap k L f v m hm hv b s8 x hx rp (y :: q) k1 (by omega) (by simp only [List.length_cons]; omega) (fun z hz => hr z (by simp [hz]))
    have e0 : (y :: rp).reverse ++ x :: q = rp.reverse ++ y :: x :: q := by simp
    have hl : (nvs (rp.reverse ++ y :: x :: q)).length = rp.length + q.length + 2 := by rw [nvs_len]; simp; omega
    have hl2 : (nvs (rp.reverse ++ y :: y :: q)).length = rp.length + q.length + 2 := by rw [nvs_len]; simp; omega
    have at0 : ∀ F : AV → Option AV, ((nvs (rp.reverse ++ y :: x :: q))[rp.length]?).bind F = F (nv y) := fun F => by have := nvs_mid rp.reverse (x :: q) y F; rwa [List.length_reverse] at this
    have at1 : ∀ F : AV → Option AV, ((nvs (rp.reverse ++ y :: x :: q))[rp.length + 1]?).bind F = F (nv x) := fun F => by have := nvs_mid1 rp.reverse q y x F; rwa [List.length_reverse] at this
    have at2 : ∀ F : AV → Option AV, ((nvs (rp.reverse ++ y :: y :: q))[rp.length]?).bind F = F (nv y) := fun F => by have := nvs_mid rp.reverse (y :: q) y F; rwa [List.length_reverse] at this
    have st1 : (nvs (rp.reverse ++ y :: x :: q)).set (rp.length + 1) (nv y) = nvs (rp.reverse ++ y :: y :: q) := by have := nvs_set1 rp.reverse q y x y; rwa [List.length_reverse] at this
    have st2 : (nvs (rp.reverse ++ y :: y :: q)).set rp.length (nv x) = nvs (rp.reverse ++ x :: y :: q) := by have := nvs_set rp.reverse (y :: q) y x; rwa [List.length_reverse] at this
    have em : IntKind.wrap .i64 (((rp.length + 1 : Nat) : Int) - 1) = ((rp.length : Nat) : Int) := by rw [wrapM (by omega) (by omega)]; rfl
    rw [slices_insertionSortCmpFunc_int_at_order_By_1_L1_s, List.length_cons, e0, bif_t (by omega), hl, inb (by omega), cond_true, Int.toNat_natCast, at1, nv_int, em, inb (by omega), cond_true, Int.toNat_natCast, at0, nv_int, hv x y hx hy, callI_ok]
    unfold insR
    by_cases hc : v x y < 0
    · have hc' : ltV v x y = true := by unfold ltV; exact decide_eq_true hc
      rw [if_pos hc', decide_eq_true hc, cond_true, cond_true, at0, nv_int, cond_true, at1, nv_int, cond_true, at1, nv_room, cond_true, nv_mk, st1, hl2, inb (by omega), cond_true, at2, nv_room, cond_true, nv_mk, st2]
      refine ih.trans ?_
      simp
    · have hc' : ltV v x y = false := by unfold ltV; exact decide_eq_false hc
      rw [if_neg (by rw [hc']; simp), decide_eq_false hc, cond_false]
      simp
theorem ins0_b (kap : FuncId → List AV → Option AV) (k : Nat) (L : List AV) (f : Int) (v : Nat → Nat → Int) (m : Nat) (hm : m ≤ 1000) (hk : 2000 < k) (hv : ∀ x y, x < m → y < m → kap order_By_1 [.int .i64 ((x : Nat) : Int), .int .i64 ((y : Nat) : Int), (.eptr [(.list 15 L)] 0), (.eptr [(.int .i64 f)] 0)] = some (.int .i64 (v x y))) :
    ∀ (rest acc : List Nat) (k0 : Nat), rest.length < k0 → acc.length + rest.length = m → (∀ y ∈ acc, y < m) → (∀ y ∈ rest, y < m) →
    slices_insertionSortCmpFunc_int_at_order_By_1_L0 kap k k0 0 ((m : Nat) : Int) L f ((acc.length : Nat) : Int) (nvs (acc.reverse ++ rest)) = some (.lback (.tup []) [(.lrow 3 (nvs (sortR (ltV v) rest acc).reverse))])
  | [], acc, k0 + 1, h, hl, ha, hr => by
    rw [slices_insertionSortCmpFunc_int_at_order_By_1_L0_s, bif_f (by simp at hl; omega), List.append_nil]
    rfl
  | x :: rest, acc, k0 + 1, h, hl, ha, hr => by
    simp only [List.length_cons] at h hl
    have hx := hr x (by simp)
    have hp := insR_perm (ltV v) x acc
    have ih := ins0_b kap k L f v m hm hk hv rest (insR (ltV v) x acc) k0 (by omega) (by rw [hp.length_eq, List.length_cons]; omega) (fun y hy => by
      rcases List.mem_cons.1 (hp.mem_iff.1 hy) with rfl | hy
      · exact hx
      · exact ha y hy) (fun y hy => hr y (by simp [hy]))
    rw [slices_insertionSortCmpFunc_int_at_order_By_1_L0_s, bif_t (by omega), ins1_b kap k L f v m (by omega) hv ((m : Nat) : Int) ((acc.length : Nat) : Int) x hx acc rest k (by omega) (by omega) ha, wrap1 (by omega)]
    rw [hp.length_eq, List.length_cons] at ih
    exact ih
theorem sort_b (L : List AV) (f : Int) (v : Nat → Nat → Int) (m : Nat) (hm : m ≤ 12) (hk : 2000 < k) (hv : ∀ x y, x < m → y < m → kp E k n order_By_1 [.int .i64 ((x : Nat) : Int), .int .i64 ((y : Nat) : Int), (.eptr [(.list 15 L)] 0), (.eptr [(.int .i64 f)] 0)] = some (.int .i64 (v x y))) :
    kp E k (n + 3) slices_SortStableFunc_int [(.lrow 3 (nvs (List.range m))), (.func (.func order_By_1) [] [(.eptr [(.list 15 L)] 0), (.eptr [(.int .i64 f)] 0)])] = some (.lback (.tup []) [(.lrow 3 (nvs (isort (ltV v) m)))]) := by
  have hl : (nvs (List.range m)).length = m := by rw [nvs_len, List.length_range]
  have hins : kp E k (n + 1) slices_insertionSortCmpFunc_int [(.lrow 3 (nvs (List.range m))), (.int .i64 0), (.int .i64 ((m : Nat) : Int)), (.func (.func order_By_1) [] [(.eptr [(.list 15 L)] 0), (.eptr [(.int .i64 f)] 0)])] = some (.lback (.tup []) [(.lrow 3 (nvs (isort (ltV v) m)))]) := by
    rw [slices_insertionSortCmpFunc_int_at_order_By_1_eq]
    cases m with
    | zero =>
      obtain ⟨k, rfl⟩ : ∃ j, k = j + 1 := ⟨k - 1, by omega⟩
      rw [slices_insertionSortCmpFunc_int_at_order_By_1_L0_s, bif_f (by decide)]
      rfl
    | succ m =>
      have hr : List.range (m + 1) = [0] ++ (List.range m).map (· + 1) := by rw [List.range_succ_eq_map]; rfl
      have := ins0_b (kp E k n) k L f v (m + 1) (by omega) hk hv ((List.range m).map (· + 1)) [0] k (by simp; omega) (by simp; omega) (by simp) (by simp)
      rw [show ([0] : List Nat).reverse = [0] from rfl, ← hr] at this
      refine this.trans ?_
      unfold isort
      rw [hr]
      rfl
  have hil : (nvs (isort (ltV v) m)).length = m := by
    have hp : ∀ (l acc : List Nat), (sortR (ltV v) l acc).length = l.length + acc.length := by
      intro l
      induction l with
      | nil => intro acc; simp [sortR]
      | cons x l ih =>
        intro acc
        have := ih (insR (ltV v) x acc)
        rw [(insR_perm (ltV v) x acc).length_eq] at this
        show (sortR (ltV v) l (insR (ltV v) x acc)).length = _
        rw [this, List.length_cons, List.length_cons]; omega
    rw [nvs_len]; unfold isort
    rw [List.length_reverse, hp, List.length_range]; rfl
  have hst : kp E k (n + 2) slices_stableCmpFunc_int [(.lrow 3 (nvs (List.range m))), (.int .i64 ((m : Nat) : Int)), (.func (.func order_By_1) [] [(.eptr [(.list 15 L)] 0), (.eptr [(.int .i64 f)] 0)])] = some (.lback (.tup []) [(.lrow 3 (nvs (isort (ltV v) m)))]) := by
    obtain ⟨k', hk'⟩ : ∃ j, k = j + 1 := ⟨k - 1, by omega⟩
    rw [slices_stableCmpFunc_int_at_order_By_1_eq]
    have hL0 := slices_stableCmpFunc_int_at_order_By_1_L0_s (kp E k (n + 1)) k k' ((m : Nat) : Int) L f 20 0 20 (nvs (List.range m))
    rw [← hk'] at hL0
    have hL1 := slices_stableCmpFunc_int_at_order_By_1_L1_s (kp E k (n + 1)) k k' ((m : Nat) : Int) L f 20 (nvs (isort (ltV v) m))
    rw [← hk'] at hL1
    rw [hL0, bif_f (by omega), hins, callX_ok, nxR_ok, hil, hl, beq_self_eq_true, cond_true, atNil_ok, callT_ok, atNil_ok, hL1, bif_f (by omega)]
  rw [slices_SortStableFunc_int_at_order_By_1_eq, hl, hst, callX_ok, nxR_ok, hil, beq_self_eq_true, cond_true, atNil_ok, callT_ok, atNil_ok]
end Go.Proofs.YteamddaglbleeaaDoor.Eng.U


/- Overlays in plain words: the order of keys, what is laid. No program. -/
set_option linter.unusedVariables false
set_option linter.unusedSimpArgs false
namespace Go.Proofs.YteamddaglbleeaaDoor.Eng.U
open Go Go.Proofs Go.Proofs.YteamddaglbleeaaDoor.Eng

theorem u8_lt_irrefl (a : UInt8) : ¬ a < a := fun h => by rw [UInt8.lt_iff_toNat_lt] at h; omega
theorem lt_irr : ∀ a : Tx, Op.bytesLess a a = false
  | [] => rfl
  | a :: x => by
    unfold Op.bytesLess
    rw [lt_irr x, decide_eq_false (u8_lt_irrefl a), Bool.and_false, Bool.or_false]
theorem lt_cons (a b : UInt8) (x y : Tx) : Op.bytesLess (a :: x) (b :: y) = true ↔ a.toNat < b.toNat ∨ a = b ∧ Op.bytesLess x y = true := by
  rw [Op.bytesLess, Bool.or_eq_true, Bool.and_eq_true, decide_eq_true_eq, beq_iff_eq, UInt8.lt_iff_toNat_lt]
theorem lt_tr : ∀ {a b c : Tx}, Op.bytesLess a b = true → Op.bytesLess b c = true → Op.bytesLess a c = true
  | _, _, [], _, h => by cases ‹Tx› <;> simp [Op.bytesLess] at h
  | [], _, _ :: _, _, _ => rfl
  | a :: x, [], c :: z, h, _ => by simp [Op.bytesLess] at h
  | a :: x, b :: y, c :: z, h1, h2 => by
    rw [lt_cons] at *
    rcases h1 with h1 | ⟨rfl, h1⟩
    · rcases h2 with h2 | ⟨rfl, h2⟩
      · left; omega
      · left; exact h1
    · rcases h2 with h2 | ⟨rfl, h2⟩
      · left; exact h2
      · right; exact ⟨rfl, lt_tr h1 h2⟩
theorem lt_tot : ∀ {a b : Tx}, Op.bytesLess a b = false → a ≠ b → Op.bytesLess b a = true
  | [], [], _, h => absurd rfl h
  | [], _ :: _, h, _ => by simp [Op.bytesLess] at h
  | _ :: _, [], _, _ => rfl
  | a :: x, b :: y, h, hn => by
    rw [lt_cons]
    have h' : ¬ (a.toNat < b.toNat ∨ a = b ∧ Op.bytesLess x y = true) := by rw [← lt_cons, h]; simp
    by_cases e : a = b
    · subst e
      right
      refine ⟨rfl, lt_tot ?_ fun e => hn (by rw [e])⟩
      cases hq : Op.bytesLess x y with
      | false => rfl
      | true => exact absurd (.inr ⟨rfl, hq⟩) h'
    · left
      have : a.toNat ≠ b.toNat := fun h => e (UInt8.toNat_inj.1 h)
      omega
theorem lt_asym {a b : Tx} (h : Op.bytesLess a b = true) : Op.bytesLess b a = false := by
  cases hq : Op.bytesLess b a with
  | false => rfl
  | true => have := lt_tr h hq; rw [lt_irr] at this; cases this
theorem not_le (a b : Tx) : (!(Op.bytesLess a b || decide (a = b))) = Op.bytesLess b a := by
  by_cases e : a = b
  · subst e; rw [decide_eq_true rfl, Bool.or_true, lt_irr]; rfl
  · rw [decide_eq_false e, Bool.or_false]
    cases h : Op.bytesLess a b with
    | true => rw [lt_asym h]; rfl
    | false => rw [lt_tot h e]; rfl

end Go.Proofs.YteamddaglbleeaaDoor.Eng.U


/- Overlays in plain words, part 2: laid one by one. No program. -/
set_option linter.unusedVariables false
set_option linter.unusedSimpArgs false
namespace Go.Proofs.YteamddaglbleeaaDoor.Eng.U
open Go Go.Proofs Go.Proofs.YteamddaglbleeaaDoor.Eng

/-- The order that strings.Compare tells. -/
theorem compare_lt : ∀ a b : Tx, Lib.compareBytes a b < 0 ↔ Op.bytesLess a b = true
  | [], [] => by simp [Lib.compareBytes, Op.bytesLess]
  | [], _ :: _ => by simp [Lib.compareBytes, Op.bytesLess]
  | _ :: _, [] => by simp [Lib.compareBytes, Op.bytesLess]
  | a :: x, b :: y => by
    have ih := compare_lt x y
    rw [lt_cons]
    unfold Lib.compareBytes
    by_cases h1 : a < b
    · rw [if_pos h1]
      rw [UInt8.lt_iff_toNat_lt] at h1
      simp [h1]
    · rw [if_neg h1]
      by_cases h2 : b < a
      · rw [if_pos h2]
        rw [UInt8.lt_iff_toNat_lt] at h1 h2
        constructor
        · intro h; omega
        · rintro (h | ⟨rfl, _⟩)
          · exact absurd h h1
          · omega
      · rw [if_neg h2, ih]
        rw [UInt8.lt_iff_toNat_lt] at h1 h2
        have e : a = b := UInt8.toNat_inj.1 (by omega)
        subst e
        simp
end Go.Proofs.YteamddaglbleeaaDoor.Eng.U


/- What the stable sorts are handed, in plain words: usage.Greatest's and order.By's orders; ref40.Less. -/
set_option linter.unusedVariables false
set_option linter.unusedSimpArgs false
set_option linter.unusedSectionVars false
namespace Go.Proofs.YteamddaglbleeaaDoor.Eng.U
open Go Go.Proofs Go.Proofs.YteamddaglbleeaaDoor.Eng Go.Proofs.YteamddaglbleeaaDoor.P24 Go.Proofs.YteamddaglbleeaaDoor.P40
class HasCmp (E : Ext) : Prop where
  cmp : ∀ (k n : Nat) (a b : Tx), kp E k n strings_Compare [.str (str a), .str (str b)] = some (.int .i64 (Lib.compareBytes a b))
variable {E : Ext} [Core E] {k n : Nat}

def cmpI (a b : Int) : Int := if a < b then -1 else if a > b then 1 else 0
theorem cmpI_lt (a b : Int) : cmpI a b < 0 ↔ a < b := by
  unfold cmpI
  split
  · simp [*]
  · split <;> omega
theorem cmpI_0 (a b : Int) : cmpI a b = 0 ↔ a = b := by
  unfold cmpI
  split
  · omega
  · split <;> omega
theorem compareInt64_k (a b : Int) : kp E k (n + 2) cmp_Compare_int64 [.int .i64 a, .int .i64 b] = some (.int .i64 (cmpI a b)) := by
  rw [cmp_Compare_int64_eq, cmp_isNaN_int64_eq, cmp_isNaN_int64_eq, callB_ok, callB_ok, decide_eq_true rfl, decide_eq_true rfl]
  unfold cmpI
  by_cases h1 : a < b
  · rw [if_pos h1, decide_eq_true h1]; rfl
  · rw [if_neg h1, decide_eq_false h1]
    by_cases h2 : a > b
    · rw [if_pos h2, decide_eq_true h2]; rfl
    · rw [if_neg h2, decide_eq_false h2]; rfl
theorem orInt_k (a b : Int) (hk : 10 < k) : kp E k (n + 1) cmp_Or_int [.list 1 [.int .i64 a, .int .i64 b]] = some (.int .i64 (if a = 0 then b else a)) := by
  rw [cmp_Or_int_eq]
  generalize kp E k n = kap
  obtain ⟨k1, rfl⟩ : ∃ j, k = j + 3 := ⟨k - 3, by omega⟩
  have e0 : ∀ (j : Nat), cmp_Or_int_L0 kap (k1 + 3) (j + 1) 0 [.int .i64 a, .int .i64 b] 2 0 = (bif !decide (a = 0) then some (.int .i64 a) else cmp_Or_int_L0 kap (k1 + 3) j 0 [.int .i64 a, .int .i64 b] 2 1) := fun j => by
    rw [cmp_Or_int_L0_s]
    have g : ∀ F : AV → Option AV, (([.int .i64 a, .int .i64 b] : List AV)[Int.toNat (0)]?).bind F = F (.int .i64 a) := fun F => rfl
    have c : ∀ K : Int → Option AV, cellI .i64 (AV.cells (.int .i64 a)) 0 K = K a := fun K => cellI_0 _ _ _
    rw [bif_t (by omega), show (decide ((0 : Int) ≤ 0) && decide ((0 : Int) < ((([.int .i64 a, .int .i64 b] : List AV).length : Nat) : Int))) = true from rfl, cond_true, g, c, show IntKind.wrap .i64 ((0 : Int) + 1) = 1 from rfl]
  have e1 : ∀ (j : Nat), cmp_Or_int_L0 kap (k1 + 3) (j + 1) 0 [.int .i64 a, .int .i64 b] 2 1 = (bif !decide (b = 0) then some (.int .i64 b) else cmp_Or_int_L0 kap (k1 + 3) j 0 [.int .i64 a, .int .i64 b] 2 2) := fun j => by
    rw [cmp_Or_int_L0_s]
    have g : ∀ F : AV → Option AV, (([.int .i64 a, .int .i64 b] : List AV)[Int.toNat (1)]?).bind F = F (.int .i64 b) := fun F => rfl
    have c : ∀ K : Int → Option AV, cellI .i64 (AV.cells (.int .i64 b)) 0 K = K b := fun K => cellI_0 _ _ _
    rw [bif_t (by omega), show (decide ((0 : Int) ≤ 1) && decide ((1 : Int) < ((([.int .i64 a, .int .i64 b] : List AV).length : Nat) : Int))) = true from rfl, cond_true, g, c, show IntKind.wrap .i64 ((1 : Int) + 1) = 2 from rfl]
  have e2 : ∀ (j : Nat), cmp_Or_int_L0 kap (k1 + 3) (j + 1) 0 [.int .i64 a, .int .i64 b] 2 2 = some (.int .i64 0) := fun j => by
    rw [cmp_Or_int_L0_s]
    rfl
  show cmp_Or_int_L0 kap (k1 + 3) (k1 + 2 + 1) 0 [.int .i64 a, .int .i64 b] 2 0 = _
  rw [e0, show k1 + 2 = k1 + 1 + 1 from rfl, e1, e2]
  by_cases ha : a = 0
  · by_cases hb : b = 0
    · simp [ha, hb]
    · simp [ha, hb]
  · simp [ha]

/-! By a field. -/
def isNum (f : Int) : Bool := decide (f = 1) || decide (f = 4) || decide (f = 5) || decide (f = 6) || decide (f = 7) || decide (f = 11) || decide (f = 12)
def isTxt (f : Int) : Bool := decide (f = 2) || decide (f = 3) || decide (f = 9) || decide (f = 10)
def numH (h : Head) (f : Int) : Int := if f = 1 then h.kind else if f = 4 then h.mode else if f = 5 then h.uid else if f = 6 then h.gid else if f = 7 then h.size else if f = 11 then h.major else if f = 12 then h.minor else 0
def txtH (h : Head) (f : Int) : Tx := if f = 2 then h.name else if f = 3 then h.link else if f = 9 then h.user else if f = 10 then h.group else []
theorem number_k (h : Head) (f : Int) : kp E k (n + 1) order_number [elHead h, .int .i64 f] = some (.tup [.int .i64 (numH h f), .bool (isNum f)]) := by
  refine (order_number_eq (E := E) k n h.kind (str h.name) (str h.link) h.mode h.uid h.gid h.size h.sec h.nano (str h.user) (str h.group) h.major h.minor (prs h.extra) f).trans ?_
  unfold numH isNum
  by_cases h1 : f = 1
  · simp [h1]
  by_cases h2 : f = 4
  · simp [h2]
  by_cases h3 : f = 5
  · simp [h3]
  by_cases h4 : f = 6
  · simp [h4]
  by_cases h5 : f = 7
  · simp [h5]
  by_cases h6 : f = 11
  · simp [h6]
  by_cases h7 : f = 12
  · simp [h7]
  simp [h1, h2, h3, h4, h5, h6, h7]
theorem text_k (h : Head) (f : Int) : kp E k (n + 1) order_text [elHead h, .int .i64 f] = some (.tup [.str (str (txtH h f)), .bool (isTxt f)]) := by
  refine (order_text_eq (E := E) k n h.kind (str h.name) (str h.link) h.mode h.uid h.gid h.size h.sec h.nano (str h.user) (str h.group) h.major h.minor (prs h.extra) f).trans ?_
  unfold txtH isTxt
  by_cases h1 : f = 2
  · simp [h1]
  by_cases h2 : f = 3
  · simp [h2]
  by_cases h3 : f = 9
  · simp [h3]
  by_cases h4 : f = 10
  · simp [h4]
  simp [h1, h2, h3, h4]
/-- Two heads by a field. -/
def cmpH (f : Int) (a b : Head) : Int := bif isNum f then cmpI (numH a f) (numH b f) else bif isTxt f then Lib.compareBytes (txtH a f) (txtH b f) else if cmpI a.sec b.sec = 0 then cmpI a.nano b.nano else cmpI a.sec b.sec
def isField (f : Int) : Bool := isNum f || isTxt f || decide (f = 8)
theorem compare_k [HasCmp E] (a b : Head) (f : Int) (hk : 10 < k) : kp E k (n + 3) order_compare [elHead a, elHead b, .int .i64 f] = some (.tup [.int .i64 (cmpH f a b), .bool (isField f)]) := by
  have e1 := number_k (E := E) (k := k) (n := n + 1) a f
  have e2 := number_k (E := E) (k := k) (n := n + 1) b f
  have t1 := text_k (E := E) (k := k) (n := n + 1) a f
  have t2 := text_k (E := E) (k := k) (n := n + 1) b f
  have c1 := compareInt64_k (E := E) (k := k) (n := n) (numH a f) (numH b f)
  have c2 := compareInt64_k (E := E) (k := k) (n := n) a.sec b.sec
  have c3 := compareInt64_k (E := E) (k := k) (n := n) a.nano b.nano
  have c4 := orInt_k (E := E) (k := k) (n := n + 1) (cmpI a.sec b.sec) (cmpI a.nano b.nano) hk
  have c5 := HasCmp.cmp (E := E) k (n + 2) (txtH a f) (txtH b f)
  refine (order_compare_eq (E := E) k (n + 2) a.kind (str a.name) (str a.link) a.mode a.uid a.gid a.size a.sec a.nano (str a.user) (str a.group) a.major a.minor (prs a.extra) b.kind (str b.name) (str b.link) b.mode b.uid b.gid b.size b.sec b.nano (str b.user) (str b.group) b.major b.minor (prs b.extra) f).trans ?_
  unfold cmpH isField
  simp (disch := first | omega | (simp only [List.length_append, List.length_cons, List.length_nil, List.length_take, List.length_drop]; done) | (simp only [List.length_append, List.length_cons, List.length_nil, List.length_take, List.length_drop]; omega) | fail) only [bif_t, bif_f, bif_n, bif_a, callB_ok, callI_ok, callS_ok, callL_ok, callF_ok, callT_ok, tupB_ok, tupI_ok, tupS_ok, tupL_ok, tupF_ok, atNil_ok, wrap1, wrapM, wrapP, Int.toNat_natCast, svs_len, ivs_len, bvs_len, str_size, svs_mid, ivs_mid, str_dec, str_ext, str_byte, mid_byte, mid_cut, List.length_nil, List.length_singleton, svs_snoc, ivs_snoc, svs_take, svs_drop, str_app, List.take_length, List.drop_zero, List.nil_append, cond_true, cond_false, Option.bind_some, Bool.not_true, Bool.not_false, Bool.true_and, Bool.and_true, bys_len, prs_len, its_len, cells_pair, cells_time, cells_head, cells_item, fold_pair, fold_time, fold_head, fold_ihead, fold_item, prs_mid, its_mid, bys_mid, byte_c, callG_pair, callG_time, callG_head, callG_item, tupG_pair, tupG_time, tupG_head, tupG_item, h_0, i_0, h_1, i_1, h_2, i_2, h_3, i_3, h_4, i_4, h_5, i_5, h_6, i_6, h_7, i_7, h_8, i_8, h_9, i_9, h_10, i_10, h_11, i_11, h_12, i_12, h_13, i_13, i_14, p_0, p_1, t_0, t_1, e1, e2, t1, t2]
  cases h1 : isNum f with
  | true =>
    rw [cond_true, c1, callI_ok, cond_true]
    rfl
  | false =>
    rw [cond_false, cond_false]
    cases h2 : isTxt f with
    | true =>
      rw [cond_true, c5, callI_ok, cond_true]
      rfl
    | false =>
      rw [cond_false, c2, callI_ok, c3, callI_ok, c4, callI_ok, cond_false]
      rfl
/-- Less, by a field. -/
def lessH (f : Int) (a b : Head) : Bool := decide (cmpH f a b < 0)
theorem less_k (a b : Head) (f : Int) (hf : 1 ≤ f ∧ f ≤ 12) : kp E k (n + 1) ref40_Less [elHead a, elHead b, .int .i64 f] = some (.bool (lessH f a b)) := by
  refine (ref40_Less_eq (E := E) k n a.kind (str a.name) (str a.link) a.mode a.uid a.gid a.size a.sec a.nano (str a.user) (str a.group) a.major a.minor (prs a.extra) b.kind (str b.name) (str b.link) b.mode b.uid b.gid b.size b.sec b.nano (str b.user) (str b.group) b.major b.minor (prs b.extra) f).trans ?_
  have hL : ∀ x y : Tx, Op.bytesLess (ByteArray.toList (str x)) (ByteArray.toList (str y)) = decide (Lib.compareBytes x y < 0) := fun x y => by
    rw [str_list, str_list, Bool.eq_iff_iff, decide_eq_true_iff]
    exact (compare_lt x y).symm
  have hI : ∀ x y : Int, decide (x < y) = decide (cmpI x y < 0) := fun x y => by
    rw [Bool.eq_iff_iff, decide_eq_true_iff, decide_eq_true_iff]
    exact (cmpI_lt x y).symm
  unfold lessH cmpH
  rw [hL, hL, hL, hL]
  obtain ⟨h1, h2⟩ := hf
  obtain h | h | h | h | h | h | h | h | h | h | h | h : f = 1 ∨ f = 2 ∨ f = 3 ∨ f = 4 ∨ f = 5 ∨ f = 6 ∨ f = 7 ∨ f = 8 ∨ f = 9 ∨ f = 10 ∨ f = 11 ∨ f = 12 := by omega
  all_goals subst h
  · exact congrArg (fun b => some (AV.bool b)) (hI a.kind b.kind)
  · rfl
  · rfl
  · exact congrArg (fun b => some (AV.bool b)) (hI a.mode b.mode)
  · exact congrArg (fun b => some (AV.bool b)) (hI a.uid b.uid)
  · exact congrArg (fun b => some (AV.bool b)) (hI a.gid b.gid)
  · exact congrArg (fun b => some (AV.bool b)) (hI a.size b.size)
  · show (bif decide (a.sec < b.sec) then _ else _) = some (AV.bool (decide ((if cmpI a.sec b.sec = 0 then cmpI a.nano b.nano else cmpI a.sec b.sec) < 0)))
    have q1 := cmpI_lt a.sec b.sec
    have q2 := cmpI_0 a.sec b.sec
    by_cases g1 : a.sec < b.sec
    · rw [decide_eq_true g1, cond_true, if_neg (by rw [q2]; omega), decide_eq_true (q1.2 g1)]
    · rw [decide_eq_false g1, cond_false]
      by_cases g2 : a.sec = b.sec
      · rw [decide_eq_true g2, cond_true, if_pos (q2.2 g2), hI]
      · rw [decide_eq_false g2, cond_false, if_neg (fun h => g2 (q2.1 h)), decide_eq_false (fun h => g1 (q1.1 h))]
  · rfl
  · rfl
  · exact congrArg (fun b => some (AV.bool b)) (hI a.major b.major)
  · exact congrArg (fun b => some (AV.bool b)) (hI a.minor b.minor)
theorem lt_neg {a b d : Tx} (h1 : Op.bytesLess a b = false) (h2 : Op.bytesLess b d = false) : Op.bytesLess a d = false := by
  cases h : Op.bytesLess a d with
  | false => rfl
  | true =>
    by_cases e : a = b
    · subst e
      rw [h2] at h
      cases h
    · have := lt_tr (lt_tot h1 e) h
      rw [h2] at this
      cases this
/-- Any reading of heads gives a strict weak order. -/
theorem swo_head (f : Int) (hd : Nat → Head) : Swo (fun x y => decide (cmpH f (hd x) (hd y) < 0)) := by
  unfold cmpH
  cases h1 : isNum f with
  | true =>
    simp only [cond_true, cmpI_lt]
    exact ⟨fun a b h => by simp only [decide_eq_true_eq, decide_eq_false_iff_not] at h ⊢; omega, fun a b d h g => by simp only [decide_eq_false_iff_not] at h g ⊢; omega⟩
  | false =>
    cases h2 : isTxt f with
    | true =>
      simp only [cond_false, cond_true, compare_lt]
      exact ⟨fun a b h => by simp only [Bool.decide_eq_true] at h ⊢; exact lt_asym h, fun a b d h g => by simp only [Bool.decide_eq_true] at h g ⊢; exact lt_neg h g⟩
    | false =>
      have q : ∀ x y : Nat, (if cmpI (hd x).sec (hd y).sec = 0 then cmpI (hd x).nano (hd y).nano else cmpI (hd x).sec (hd y).sec) < 0 ↔ (hd x).sec < (hd y).sec ∨ (hd x).sec = (hd y).sec ∧ (hd x).nano < (hd y).nano := fun x y => by
        have q1 := cmpI_lt (hd x).sec (hd y).sec
        have q2 := cmpI_0 (hd x).sec (hd y).sec
        have q3 := cmpI_lt (hd x).nano (hd y).nano
        split
        · omega
        · omega
      simp only [cond_false, q]
      exact ⟨fun a b h => by simp only [decide_eq_true_eq, decide_eq_false_iff_not] at h ⊢; omega, fun a b d h g => by simp only [decide_eq_false_iff_not] at h g ⊢; omega⟩
def hdOf (l : List Item) (x : Nat) : Head := ((l[x]?).getD default).head
theorem hdOf_at (l : List Item) {x : Nat} (h : x < l.length) : hdOf l x = l[x].head := by unfold hdOf; rw [List.getElem?_eq_getElem h]; rfl
def vB (l : List Item) (f : Int) (x y : Nat) : Int := cmpH f (hdOf l x) (hdOf l y)
theorem swo_b (l : List Item) (f : Int) : Swo (ltV (vB l f)) := swo_head f (hdOf l)
theorem by1_k [HasCmp E] (l : List Item) (f : Int) (hl : l.length ≤ 1000000) (hk : 10 < k) (x y : Nat) (hx : x < l.length) (hy : y < l.length) : kp E k (n + 4) order_By_1 [.int .i64 ((x : Nat) : Int), .int .i64 ((y : Nat) : Int), .eptr [.list 15 (its l)] 0, .eptr [.int .i64 f] 0] = some (.int .i64 (vB l f x y)) := by
  have c := compare_k (E := E) (k := k) (n := n) l[x].head l[y].head f hk
  have gx : ∀ F : AV → Option AV, ((its l)[x]?).bind F = F (elItem l[x]) := fun F => its_at _ _ hx F
  have gy : ∀ F : AV → Option AV, ((its l)[y]?).bind F = F (elItem l[y]) := fun F => its_at _ _ hy F
  rw [order_By_1_eq]
  simp (disch := first | omega | (simp only [List.length_append, List.length_cons, List.length_nil, List.length_take, List.length_drop]; done) | (simp only [List.length_append, List.length_cons, List.length_nil, List.length_take, List.length_drop]; omega) | fail) only [bif_t, bif_f, bif_n, bif_a, callB_ok, callI_ok, callS_ok, callL_ok, callF_ok, callT_ok, tupB_ok, tupI_ok, tupS_ok, tupL_ok, tupF_ok, atNil_ok, wrap1, wrapM, wrapP, Int.toNat_natCast, svs_len, ivs_len, bvs_len, str_size, svs_mid, ivs_mid, str_dec, str_ext, str_byte, mid_byte, mid_cut, List.length_nil, List.length_singleton, svs_snoc, ivs_snoc, svs_take, svs_drop, str_app, List.take_length, List.drop_zero, List.nil_append, cond_true, cond_false, Option.bind_some, Bool.not_true, Bool.not_false, Bool.true_and, Bool.and_true, bys_len, prs_len, its_len, cells_pair, cells_time, cells_head, cells_item, fold_pair, fold_time, fold_head, fold_ihead, fold_item, prs_mid, its_mid, bys_mid, byte_c, callG_pair, callG_time, callG_head, callG_item, tupG_pair, tupG_time, tupG_head, tupG_item, h_0, i_0, h_1, i_1, h_2, i_2, h_3, i_3, h_4, i_4, h_5, i_5, h_6, i_6, h_7, i_7, h_8, i_8, h_9, i_9, h_10, i_10, h_11, i_11, h_12, i_12, h_13, i_13, i_14, p_0, p_1, t_0, t_1, gx, gy, c]
  unfold vB
  rw [hdOf_at _ hx, hdOf_at _ hy]
end Go.Proofs.YteamddaglbleeaaDoor.Eng.U


/- usage.Greatest and order.By in plain words; the laws' loops; usage.Of. -/
set_option linter.unusedVariables false
set_option linter.unusedSimpArgs false
set_option linter.unusedSectionVars false
namespace Go.Proofs.YteamddaglbleeaaDoor.Eng.U
open Go Go.Proofs Go.Proofs.YteamddaglbleeaaDoor.Eng Go.Proofs.YteamddaglbleeaaDoor.P24 Go.Proofs.YteamddaglbleeaaDoor.P40
variable {E : Ext} [Core E] [HasParts E] [HasJoin E] [HasClone E] {k n : Nat}

/-! The row of places, as it is filled. -/
def fillV (m i : Nat) : List AV := nvs (List.range i) ++ List.replicate (m - i) (.int .i64 0)
theorem fillV_len {m i : Nat} (h : i ≤ m) : (fillV m i).length = m := by
  unfold fillV
  rw [List.length_append, nvs_len, List.length_range, List.length_replicate]
  omega
theorem fillV_0 (m : Nat) : List.replicate m (AV.int .i64 0) = fillV m 0 := by unfold fillV; simp [nvs]
theorem fillV_all (m : Nat) : fillV m m = nvs (List.range m) := by unfold fillV; simp
theorem fillV_split {m i : Nat} (h : i < m) : fillV m i = nvs (List.range i) ++ .int .i64 0 :: List.replicate (m - (i + 1)) (.int .i64 0) := by
  unfold fillV
  rw [show m - i = (m - (i + 1)) + 1 from by omega, List.replicate_succ]
theorem fillV_at {m i : Nat} (h : i < m) {β : Type} (F : AV → Option β) : ((fillV m i)[i]?).bind F = F (.int .i64 0) := by
  rw [fillV_split h, List.getElem?_append_right (by rw [nvs_len, List.length_range]; omega)]
  rw [nvs_len, List.length_range, Nat.sub_self]
  rfl
theorem fillV_set {m i : Nat} (h : i < m) : (fillV m i).set i (mkElem 1 (splice (AV.cells (.int .i64 0)) 0 [.int .i64 ((i : Nat) : Int)]) (.int .i64 0)) = fillV m (i + 1) := by
  have e : (nvs (List.range i)).length = i := by rw [nvs_len, List.length_range]
  rw [fillV_split h, List.set_append_right _ _ (by omega), e, Nat.sub_self]
  unfold fillV
  rw [List.range_succ]
  show nvs (List.range i) ++ nv i :: _ = nvs (List.range i ++ [i]) ++ _
  unfold nvs
  simp
theorem room1 : (decide (0 + 1 ≤ (AV.cells (AV.int .i64 0)).length) && true) = true := rfl
theorem nvs_at (s : List Nat) (i : Nat) (h : i < s.length) {β : Type} (K : Int → Option β) : (((nvs s)[i]?).bind fun y => cellI .i64 (AV.cells y) 0 K) = K ((s[i] : Nat) : Int) := by
  unfold nvs
  rw [List.getElem?_map, List.getElem?_eq_getElem h]
  exact nv_int _ _

/-! usage.Greatest. -/
/-! order.By. -/
theorem isortB_len (l : List Item) (f : Int) : (isort (ltV (vB l f)) l.length).length = l.length := isort_len (swo_b l f) _
theorem by0 (kap : FuncId → List AV → Option AV) (l : List Item) (f : Int) (hl : l.length ≤ 12) (hS : kap slices_SortStableFunc_int [.lrow 3 (nvs (List.range l.length)), .func (.func order_By_1) [] [.eptr [.list 15 (its l)] 0, .eptr [.int .i64 f] 0]] = some (.lback (.tup []) [.lrow 3 (nvs (isort (ltV (vB l f)) l.length))])) :
    ∀ (r i k0 : Nat), i + r = l.length → r < k0 →
    order_By_L0 kap k k0 ((l.length : Nat) : Int) ((i : Nat) : Int) (its l) f (fillV l.length i) = some (.tup [.list 1 (nvs (isort (ltV (vB l f)) l.length)), .int .u8 0])
  | 0, i, k0 + 1, hi, hk0 => by
    have hlen : (nvs (isort (ltV (vB l f)) l.length)).length = l.length := by rw [nvs_len, isortB_len]
    obtain rfl : i = l.length := by omega
    rw [order_By_L0_s, bif_f (by omega), fillV_all, hS, callX_ok, nxR_ok, hlen, nvs_len, List.length_range, beq_self_eq_true, cond_true, atNil_ok, callT_ok, atNil_ok]
  | r + 1, i, k0 + 1, hi, hk0 => by
    have ih := by0 kap l f hl hS r (i + 1) k0 (by omega) (by omega)
    rw [order_By_L0_s, bif_t (by omega), fillV_len (by omega), inb (by omega), cond_true, Int.toNat_natCast, fillV_at (by omega), room1, cond_true, fillV_set (by omega), wrap1 (by omega)]
    exact ih
def noHead : Head := ⟨0, [], [], 0, 0, 0, 0, 0, 0, [], [], 0, 0, []⟩
theorem field_in (f : Int) : isField f = decide (1 ≤ f ∧ f ≤ 12) := by
  unfold isField isNum isTxt
  rw [Bool.eq_iff_iff]
  simp only [Bool.or_eq_true, decide_eq_true_eq]
  omega
theorem by_k [HasCmp E] (l : List Item) (f : Int) (hl : l.length ≤ 12) (hk : 10000 < k) : kp E k (n + 8) order_By [.list 15 (its l), .int .i64 f] = some (if 1 ≤ f ∧ f ≤ 12 then .tup [.list 1 (nvs (isort (ltV (vB l f)) l.length)), .int .u8 0] else .tup [.list 1 [], .int .u8 2]) := by
  have hS := sort_b (E := E) (k := k) (n := n + 4) (its l) f (vB l f) l.length hl (by omega) (fun x y hx hy => by1_k l f (by omega) (by omega) x y hx hy)
  have e0 := by0 (k := k) (kp E k (n + 7)) l f hl hS l.length 0 k (by omega) (by omega)
  have hc := compare_k (E := E) (k := k) (n := n + 4) noHead noHead f (by omega)
  rw [field_in] at hc
  rw [order_By_eq, its_len, Int.toNat_natCast, List.length_replicate, fillV_0]
  refine (congrArg (fun z => callT z _) hc).trans ?_
  rw [callT_ok, tupI_ok, tupB_ok, atNil_ok]
  by_cases h : 1 ≤ f ∧ f ≤ 12
  · rw [decide_eq_true h, if_pos h]
    simp (disch := first | omega | (simp only [List.length_append, List.length_cons, List.length_nil, List.length_take, List.length_drop]; done) | (simp only [List.length_append, List.length_cons, List.length_nil, List.length_take, List.length_drop]; omega) | fail) only [bif_t, bif_f, bif_n, bif_a, callB_ok, callI_ok, callS_ok, callL_ok, callF_ok, callT_ok, tupB_ok, tupI_ok, tupS_ok, tupL_ok, tupF_ok, atNil_ok, wrap1, wrapM, wrapP, Int.toNat_natCast, svs_len, ivs_len, bvs_len, str_size, svs_mid, ivs_mid, str_dec, str_ext, str_byte, mid_byte, mid_cut, List.length_nil, List.length_singleton, svs_snoc, ivs_snoc, svs_take, svs_drop, str_app, List.take_length, List.drop_zero, List.nil_append, cond_true, cond_false, Option.bind_some, Bool.not_true, Bool.not_false, Bool.true_and, Bool.and_true, bys_len, prs_len, its_len, cells_pair, cells_time, cells_head, cells_item, fold_pair, fold_time, fold_head, fold_ihead, fold_item, prs_mid, its_mid, bys_mid, byte_c, callG_pair, callG_time, callG_head, callG_item, tupG_pair, tupG_time, tupG_head, tupG_item, h_0, i_0, h_1, i_1, h_2, i_2, h_3, i_3, h_4, i_4, h_5, i_5, h_6, i_6, h_7, i_7, h_8, i_8, h_9, i_9, h_10, i_10, h_11, i_11, h_12, i_12, h_13, i_13, i_14, p_0, p_1, t_0, t_1]
    exact e0
  · rw [decide_eq_false h, if_neg h]
    rfl
end Go.Proofs.YteamddaglbleeaaDoor.Eng.U


/- The loops of UsageGreatest and OrderBy; usage.Of; both laws answer true. -/
set_option linter.unusedVariables false
set_option linter.unusedSimpArgs false
set_option linter.unusedSectionVars false
namespace Go.Proofs.YteamddaglbleeaaDoor.Eng.U
open Go Go.Proofs Go.Proofs.YteamddaglbleeaaDoor.Eng Go.Proofs.YteamddaglbleeaaDoor.P24 Go.Proofs.YteamddaglbleeaaDoor.P40
variable {E : Ext} [Core E] [HasParts E] [HasJoin E] [HasClone E] {k n : Nat}

def bI (b : Option Nat) : Int := match b with | none => -1 | some c => ((c : Nat) : Int)
theorem best_none {c : Nat → Nat → Bool} {t : Nat → Bool} {m : Nat} (h : best c t m = none) : best c t (m + 1) = if t m then none else some m := by simp only [best, h]
theorem best_some {c : Nat → Nat → Bool} {t : Nat → Bool} {m b : Nat} (h : best c t m = some b) : best c t (m + 1) = if !t m && c m b then some m else some b := by simp only [best, h]
theorem best_lt {c : Nat → Nat → Bool} (hc : Swo c) {t : Nat → Bool} {m b : Nat} (h : best c t m = some b) : b < m := ((best_spec hc t m).2 b h).1
theorem flags_none (m : Nat) : List.replicate m (AV.bool false) = bvs (flags m []) := by
  apply List.ext_getElem?
  intro j
  unfold bvs flags
  rw [List.getElem?_replicate, List.getElem?_map, List.getElem?_map]
  by_cases hj : j < m
  · rw [if_pos hj, List.getElem?_range hj]; rfl
  · rw [if_neg hj, List.getElem?_eq_none (by simp; omega)]; rfl
theorem take_snoc (s : List Nat) (i : Nat) (h : i < s.length) : s.take i ++ [s[i]] = s.take (i + 1) := by rw [List.take_add_one, List.getElem?_eq_getElem h]; rfl
/-! Few. -/
/-! The chapter's example. -/
def inD (s d : Tx) : Bool := if d = [46] then safeL s else decide (cleanL s = d) || inL s d
theorem usageIn_k (s d : Tx) (h1 : s.length ≤ 300) (h2 : d.length ≤ 700) (hk : 10000 < k) : kp E k (n + 6) usage_in [.str (str s), .str (str d)] = some (.bool (inD s d)) := by
  have e1 := clean_k (E := E) (k := k) (n := n) s (by omega) (by omega)
  have e2 := in_k (E := E) (k := k) (n := n) s d (by omega) (by omega)
  have e3 := safe_k (E := E) (k := k) (n := n) s (by omega) (by omega)
  rw [usage_in_eq]
  unfold inD
  simp (disch := first | omega | (simp only [List.length_append, List.length_cons, List.length_nil, List.length_take, List.length_drop]; done) | (simp only [List.length_append, List.length_cons, List.length_nil, List.length_take, List.length_drop]; omega) | fail) only [bif_t, bif_f, bif_n, bif_a, callB_ok, callI_ok, callS_ok, callL_ok, callF_ok, callT_ok, tupB_ok, tupI_ok, tupS_ok, tupL_ok, tupF_ok, atNil_ok, wrap1, wrapM, wrapP, Int.toNat_natCast, svs_len, ivs_len, bvs_len, str_size, svs_mid, ivs_mid, str_dec, str_ext, str_byte, mid_byte, mid_cut, List.length_nil, List.length_singleton, svs_snoc, ivs_snoc, svs_take, svs_drop, str_app, List.take_length, List.drop_zero, List.nil_append, cond_true, cond_false, Option.bind_some, Bool.not_true, Bool.not_false, Bool.true_and, Bool.and_true, bys_len, prs_len, its_len, cells_pair, cells_time, cells_head, cells_item, fold_pair, fold_time, fold_head, fold_ihead, fold_item, prs_mid, its_mid, bys_mid, byte_c, callG_pair, callG_time, callG_head, callG_item, tupG_pair, tupG_time, tupG_head, tupG_item, h_0, i_0, h_1, i_1, h_2, i_2, h_3, i_3, h_4, i_4, h_5, i_5, h_6, i_6, h_7, i_7, h_8, i_8, h_9, i_9, h_10, i_10, h_11, i_11, h_12, i_12, h_13, i_13, i_14, p_0, p_1, t_0, t_1, e1, e2, e3]
  by_cases h : d = [46]
  · simp [h]
  · by_cases h3 : cleanL s = d
    · simp [h, h3]
    · simp [h, h3]
def blk (a : Int) : Int := if a ≤ 0 then 0 else IntKind.wrap .i64 (IntKind.wrap .i64 (Int.tdiv (IntKind.wrap .i64 (a - 1)) 512) + 1)
theorem blocks_k (a : Int) : kp E k (n + 1) text_Blocks [.int .i64 a] = some (.int .i64 (blk a)) := by
  rw [text_Blocks_eq, bif_dec]
  unfold blk
  split <;> rfl
theorem add_k (d : Tx) (a b c : Int) (x : Item) : kp E k (n + 2) usage_Use_add [.lent [.str (str d), .int .i64 a, .int .i64 b, .int .i64 c], elItem x] = some (.lback (.tup []) [.lent [.str (str d), .int .i64 (IntKind.wrap .i64 (a + 1)), .int .i64 (IntKind.wrap .i64 (b + ((x.data.length : Nat) : Int))), .int .i64 (IntKind.wrap .i64 (c + blk ((x.data.length : Nat) : Int)))]]) := by
  refine (usage_Use_add_eq (E := E) k (n + 1) (str d) a b c x.head.kind (str x.head.name) (str x.head.link) x.head.mode x.head.uid x.head.gid x.head.size x.head.sec x.head.nano (str x.head.user) (str x.head.group) x.head.major x.head.minor (prs x.head.extra) (bys x.data)).trans ?_
  rw [bys_len, blocks_k, callI_ok]
theorem of_one (l : List Item) (i : Nat) (hi : i < l.length) (hl : l.length < 1000) (hk : 10000 < k) (d : Tx) (hd : d.length ≤ 700) (hn : (l[i]).head.name.length ≤ 300) (hin : inD (l[i]).head.name d = true) (k0 : Nat) (b4 : ByteArray) (a b c x y z : Int) :
    usage_Of_L0 (kp E k (n + 6)) k (k0 + 1) (its l) ((l.length : Nat) : Int) ((i : Nat) : Int) b4 x y z (str d) a b c = usage_Of_L0 (kp E k (n + 6)) k k0 (its l) ((l.length : Nat) : Int) ((i + 1 : Nat) : Int) b4 x y z (str d) (IntKind.wrap .i64 (a + 1)) (IntKind.wrap .i64 (b + (((l[i]).data.length : Nat) : Int))) (IntKind.wrap .i64 (c + blk (((l[i]).data.length : Nat) : Int))) := by
  have e1 := usageIn_k (E := E) (k := k) (n := n) l[i].head.name d hn hd hk
  have e2 := add_k (E := E) (k := k) (n := n + 4) d a b c l[i]
  have g : ∀ (F : AV → Option AV), ((its l)[i]?).bind F = F (elItem l[i]) := fun F => its_at _ _ hi F
  rw [hin] at e1
  rw [usage_Of_L0_s]
  simp (disch := first | omega | (simp only [List.length_append, List.length_cons, List.length_nil, List.length_take, List.length_drop]; done) | (simp only [List.length_append, List.length_cons, List.length_nil, List.length_take, List.length_drop]; omega) | fail) only [bif_t, bif_f, bif_n, bif_a, callB_ok, callI_ok, callS_ok, callL_ok, callF_ok, callT_ok, tupB_ok, tupI_ok, tupS_ok, tupL_ok, tupF_ok, atNil_ok, wrap1, wrapM, wrapP, Int.toNat_natCast, svs_len, ivs_len, bvs_len, str_size, svs_mid, ivs_mid, str_dec, str_ext, str_byte, mid_byte, mid_cut, List.length_nil, List.length_singleton, svs_snoc, ivs_snoc, svs_take, svs_drop, str_app, List.take_length, List.drop_zero, List.nil_append, cond_true, cond_false, Option.bind_some, Bool.not_true, Bool.not_false, Bool.true_and, Bool.and_true, bys_len, prs_len, its_len, cells_pair, cells_time, cells_head, cells_item, fold_pair, fold_time, fold_head, fold_ihead, fold_item, prs_mid, its_mid, bys_mid, byte_c, callG_pair, callG_time, callG_head, callG_item, tupG_pair, tupG_time, tupG_head, tupG_item, h_0, i_0, h_1, i_1, h_2, i_2, h_3, i_3, h_4, i_4, h_5, i_5, h_6, i_6, h_7, i_7, h_8, i_8, h_9, i_9, h_10, i_10, h_11, i_11, h_12, i_12, h_13, i_13, i_14, p_0, p_1, t_0, t_1, g, e1, e2, callX_ok, nxX_ok, nxS_ok, nxI_ok, atNil_ok, callT_ok]
/-! OrderBy. -/
theorem ob1 (l : List Item) (f : Int) (hf : 1 ≤ f ∧ f ≤ 12) (hl : l.length ≤ 12) (s : List Nat) (hs : s.length = l.length) (i : Nat) (hi : i < s.length) (taken : List Nat) (hb : best (ltV (vB l f)) taken.contains l.length = some s[i]) (hbl : s[i] < l.length) (k0 : Nat) :
    ∀ (r j k1 : Nat), j + r = l.length → r < k1 →
    law40_OrderBy_L1 (kp E k (n + 1)) k k0 k1 (its l) f (nvs s) ((i : Nat) : Int) (bI (best (ltV (vB l f)) taken.contains j)) ((j : Nat) : Int) (bvs (flags l.length taken)) = law40_OrderBy_L0 (kp E k (n + 1)) k k0 (its l) f (nvs s) ((i + 1 : Nat) : Int) (bvs (flags l.length (taken ++ [s[i]])))
  | 0, j, k1 + 1, hj, hk1 => by
    obtain rfl : j = l.length := by omega
    have g1 : ∀ (K : Int → Option AV), (((nvs s)[i]?).bind fun y => cellI .i64 (AV.cells y) 0 K) = K ((s[i] : Nat) : Int) := fun K => nvs_at s i hi K
    rw [law40_OrderBy_L1_s, hb, show bI (some s[i]) = ((s[i] : Nat) : Int) from rfl]
    simp (disch := first | omega | (simp only [List.length_append, List.length_cons, List.length_nil, List.length_take, List.length_drop]; done) | (simp only [List.length_append, List.length_cons, List.length_nil, List.length_take, List.length_drop]; omega) | fail) only [bif_t, bif_f, bif_n, bif_a, callB_ok, callI_ok, callS_ok, callL_ok, callF_ok, callT_ok, tupB_ok, tupI_ok, tupS_ok, tupL_ok, tupF_ok, atNil_ok, wrap1, wrapM, wrapP, Int.toNat_natCast, svs_len, ivs_len, bvs_len, str_size, svs_mid, ivs_mid, str_dec, str_ext, str_byte, mid_byte, mid_cut, List.length_nil, List.length_singleton, svs_snoc, ivs_snoc, svs_take, svs_drop, str_app, List.take_length, List.drop_zero, List.nil_append, cond_true, cond_false, Option.bind_some, Bool.not_true, Bool.not_false, Bool.true_and, Bool.and_true, bys_len, prs_len, its_len, cells_pair, cells_time, cells_head, cells_item, fold_pair, fold_time, fold_head, fold_ihead, fold_item, prs_mid, its_mid, bys_mid, byte_c, callG_pair, callG_time, callG_head, callG_item, tupG_pair, tupG_time, tupG_head, tupG_item, h_0, i_0, h_1, i_1, h_2, i_2, h_3, i_3, h_4, i_4, h_5, i_5, h_6, i_6, h_7, i_7, h_8, i_8, h_9, i_9, h_10, i_10, h_11, i_11, h_12, i_12, h_13, i_13, i_14, p_0, p_1, t_0, t_1, flags_len, flags_get, flags_set, g1, nvs_len, decide_true]
    rfl
  | r + 1, j, k1 + 1, hj, hk1 => by
    have ih := ob1 l f hf hl s hs i hi taken hb hbl k0 r (j + 1) k1 (by omega) (by omega)
    have hjl : j < l.length := by omega
    rw [law40_OrderBy_L1_s]
    cases hbj : best (ltV (vB l f)) taken.contains j with
    | none =>
      rw [best_none hbj] at ih
      rw [show bI none = (-1 : Int) from rfl]
      cases ht : taken.contains j with
      | true =>
        rw [ht, if_pos rfl, show bI none = (-1 : Int) from rfl] at ih
        simp (disch := first | omega | (simp only [List.length_append, List.length_cons, List.length_nil, List.length_take, List.length_drop]; done) | (simp only [List.length_append, List.length_cons, List.length_nil, List.length_take, List.length_drop]; omega) | fail) only [bif_t, bif_f, bif_n, bif_a, callB_ok, callI_ok, callS_ok, callL_ok, callF_ok, callT_ok, tupB_ok, tupI_ok, tupS_ok, tupL_ok, tupF_ok, atNil_ok, wrap1, wrapM, wrapP, Int.toNat_natCast, svs_len, ivs_len, bvs_len, str_size, svs_mid, ivs_mid, str_dec, str_ext, str_byte, mid_byte, mid_cut, List.length_nil, List.length_singleton, svs_snoc, ivs_snoc, svs_take, svs_drop, str_app, List.take_length, List.drop_zero, List.nil_append, cond_true, cond_false, Option.bind_some, Bool.not_true, Bool.not_false, Bool.true_and, Bool.and_true, bys_len, prs_len, its_len, cells_pair, cells_time, cells_head, cells_item, fold_pair, fold_time, fold_head, fold_ihead, fold_item, prs_mid, its_mid, bys_mid, byte_c, callG_pair, callG_time, callG_head, callG_item, tupG_pair, tupG_time, tupG_head, tupG_item, h_0, i_0, h_1, i_1, h_2, i_2, h_3, i_3, h_4, i_4, h_5, i_5, h_6, i_6, h_7, i_7, h_8, i_8, h_9, i_9, h_10, i_10, h_11, i_11, h_12, i_12, h_13, i_13, i_14, p_0, p_1, t_0, t_1, flags_len, flags_at, ht, ih]
      | false =>
        rw [ht, if_neg (by simp), show bI (some j) = ((j : Nat) : Int) from rfl] at ih
        simp (disch := first | omega | (simp only [List.length_append, List.length_cons, List.length_nil, List.length_take, List.length_drop]; done) | (simp only [List.length_append, List.length_cons, List.length_nil, List.length_take, List.length_drop]; omega) | fail) only [bif_t, bif_f, bif_n, bif_a, callB_ok, callI_ok, callS_ok, callL_ok, callF_ok, callT_ok, tupB_ok, tupI_ok, tupS_ok, tupL_ok, tupF_ok, atNil_ok, wrap1, wrapM, wrapP, Int.toNat_natCast, svs_len, ivs_len, bvs_len, str_size, svs_mid, ivs_mid, str_dec, str_ext, str_byte, mid_byte, mid_cut, List.length_nil, List.length_singleton, svs_snoc, ivs_snoc, svs_take, svs_drop, str_app, List.take_length, List.drop_zero, List.nil_append, cond_true, cond_false, Option.bind_some, Bool.not_true, Bool.not_false, Bool.true_and, Bool.and_true, bys_len, prs_len, its_len, cells_pair, cells_time, cells_head, cells_item, fold_pair, fold_time, fold_head, fold_ihead, fold_item, prs_mid, its_mid, bys_mid, byte_c, callG_pair, callG_time, callG_head, callG_item, tupG_pair, tupG_time, tupG_head, tupG_item, h_0, i_0, h_1, i_1, h_2, i_2, h_3, i_3, h_4, i_4, h_5, i_5, h_6, i_6, h_7, i_7, h_8, i_8, h_9, i_9, h_10, i_10, h_11, i_11, h_12, i_12, h_13, i_13, i_14, p_0, p_1, t_0, t_1, flags_len, flags_at, ht, ih]
    | some b =>
      have hbb := best_lt (swo_b l f) hbj
      rw [best_some hbj] at ih
      rw [show bI (some b) = ((b : Nat) : Int) from rfl]
      have g1 : ∀ (F : AV → Option AV), ((its l)[j]?).bind F = F (elItem l[j]) := fun F => its_at _ _ hjl F
      have g2 : ∀ (F : AV → Option AV), ((its l)[b]?).bind F = F (elItem (l[b]'(by omega))) := fun F => its_at _ _ (by omega) F
      have e := less_k (E := E) (k := k) (n := n) l[j].head (l[b]'(by omega)).head f hf
      have hv : lessH f l[j].head (l[b]'(by omega)).head = ltV (vB l f) j b := by
        unfold ltV vB lessH
        rw [hdOf_at l hjl, hdOf_at l (show b < l.length by omega)]
      rw [hv] at e
      cases ht : taken.contains j with
      | true =>
        rw [ht, show (!true && ltV (vB l f) j b) = false from rfl, if_neg (by simp), show bI (some b) = ((b : Nat) : Int) from rfl] at ih
        simp (disch := first | omega | (simp only [List.length_append, List.length_cons, List.length_nil, List.length_take, List.length_drop]; done) | (simp only [List.length_append, List.length_cons, List.length_nil, List.length_take, List.length_drop]; omega) | fail) only [bif_t, bif_f, bif_n, bif_a, callB_ok, callI_ok, callS_ok, callL_ok, callF_ok, callT_ok, tupB_ok, tupI_ok, tupS_ok, tupL_ok, tupF_ok, atNil_ok, wrap1, wrapM, wrapP, Int.toNat_natCast, svs_len, ivs_len, bvs_len, str_size, svs_mid, ivs_mid, str_dec, str_ext, str_byte, mid_byte, mid_cut, List.length_nil, List.length_singleton, svs_snoc, ivs_snoc, svs_take, svs_drop, str_app, List.take_length, List.drop_zero, List.nil_append, cond_true, cond_false, Option.bind_some, Bool.not_true, Bool.not_false, Bool.true_and, Bool.and_true, bys_len, prs_len, its_len, cells_pair, cells_time, cells_head, cells_item, fold_pair, fold_time, fold_head, fold_ihead, fold_item, prs_mid, its_mid, bys_mid, byte_c, callG_pair, callG_time, callG_head, callG_item, tupG_pair, tupG_time, tupG_head, tupG_item, h_0, i_0, h_1, i_1, h_2, i_2, h_3, i_3, h_4, i_4, h_5, i_5, h_6, i_6, h_7, i_7, h_8, i_8, h_9, i_9, h_10, i_10, h_11, i_11, h_12, i_12, h_13, i_13, i_14, p_0, p_1, t_0, t_1, flags_len, flags_at, ht, ih]
      | false =>
        rw [ht, Bool.not_false, Bool.true_and] at ih
        cases hc : ltV (vB l f) j b with
        | true =>
          rw [hc, if_pos rfl, show bI (some j) = ((j : Nat) : Int) from rfl] at ih
          rw [hc] at e
          simp (disch := first | omega | (simp only [List.length_append, List.length_cons, List.length_nil, List.length_take, List.length_drop]; done) | (simp only [List.length_append, List.length_cons, List.length_nil, List.length_take, List.length_drop]; omega) | fail) only [bif_t, bif_f, bif_n, bif_a, callB_ok, callI_ok, callS_ok, callL_ok, callF_ok, callT_ok, tupB_ok, tupI_ok, tupS_ok, tupL_ok, tupF_ok, atNil_ok, wrap1, wrapM, wrapP, Int.toNat_natCast, svs_len, ivs_len, bvs_len, str_size, svs_mid, ivs_mid, str_dec, str_ext, str_byte, mid_byte, mid_cut, List.length_nil, List.length_singleton, svs_snoc, ivs_snoc, svs_take, svs_drop, str_app, List.take_length, List.drop_zero, List.nil_append, cond_true, cond_false, Option.bind_some, Bool.not_true, Bool.not_false, Bool.true_and, Bool.and_true, bys_len, prs_len, its_len, cells_pair, cells_time, cells_head, cells_item, fold_pair, fold_time, fold_head, fold_ihead, fold_item, prs_mid, its_mid, bys_mid, byte_c, callG_pair, callG_time, callG_head, callG_item, tupG_pair, tupG_time, tupG_head, tupG_item, h_0, i_0, h_1, i_1, h_2, i_2, h_3, i_3, h_4, i_4, h_5, i_5, h_6, i_6, h_7, i_7, h_8, i_8, h_9, i_9, h_10, i_10, h_11, i_11, h_12, i_12, h_13, i_13, i_14, p_0, p_1, t_0, t_1, flags_len, flags_at, ht, g1, g2, e, ih]
        | false =>
          rw [hc, if_neg (by simp), show bI (some b) = ((b : Nat) : Int) from rfl] at ih
          rw [hc] at e
          simp (disch := first | omega | (simp only [List.length_append, List.length_cons, List.length_nil, List.length_take, List.length_drop]; done) | (simp only [List.length_append, List.length_cons, List.length_nil, List.length_take, List.length_drop]; omega) | fail) only [bif_t, bif_f, bif_n, bif_a, callB_ok, callI_ok, callS_ok, callL_ok, callF_ok, callT_ok, tupB_ok, tupI_ok, tupS_ok, tupL_ok, tupF_ok, atNil_ok, wrap1, wrapM, wrapP, Int.toNat_natCast, svs_len, ivs_len, bvs_len, str_size, svs_mid, ivs_mid, str_dec, str_ext, str_byte, mid_byte, mid_cut, List.length_nil, List.length_singleton, svs_snoc, ivs_snoc, svs_take, svs_drop, str_app, List.take_length, List.drop_zero, List.nil_append, cond_true, cond_false, Option.bind_some, Bool.not_true, Bool.not_false, Bool.true_and, Bool.and_true, bys_len, prs_len, its_len, cells_pair, cells_time, cells_head, cells_item, fold_pair, fold_time, fold_head, fold_ihead, fold_item, prs_mid, its_mid, bys_mid, byte_c, callG_pair, callG_time, callG_head, callG_item, tupG_pair, tupG_time, tupG_head, tupG_item, h_0, i_0, h_1, i_1, h_2, i_2, h_3, i_3, h_4, i_4, h_5, i_5, h_6, i_6, h_7, i_7, h_8, i_8, h_9, i_9, h_10, i_10, h_11, i_11, h_12, i_12, h_13, i_13, i_14, p_0, p_1, t_0, t_1, flags_len, flags_at, ht, g1, g2, e, ih]
theorem ob0 (l : List Item) (f : Int) (hf : 1 ≤ f ∧ f ≤ 12) (hl : l.length ≤ 12) (hk : 10000 < k) : ∀ (r i k0 : Nat), i + r = l.length → r < k0 →
    law40_OrderBy_L0 (kp E k (n + 1)) k k0 (its l) f (nvs (isort (ltV (vB l f)) l.length)) ((i : Nat) : Int) (bvs (flags l.length ((isort (ltV (vB l f)) l.length).take i))) = some (.bool true)
  | 0, i, k0 + 1, hi, hk0 => by
    have hS := isortB_len l f
    rw [law40_OrderBy_L0_s, nvs_len, bif_f (by omega)]
  | r + 1, i, k0 + 1, hi, hk0 => by
    have hS := isortB_len l f
    have his : i < (isort (ltV (vB l f)) l.length).length := by omega
    have hb := best_isort (swo_b l f) l.length i (by omega) ((isort (ltV (vB l f)) l.length).take i).contains (fun q hq => by rw [Bool.eq_iff_iff, decide_eq_true_iff, List.contains_iff_mem])
    rw [List.getD_eq_getElem?_getD, List.getElem?_eq_getElem his, Option.getD_some] at hb
    have hsi : (isort (ltV (vB l f)) l.length)[i] < l.length := isort_lt (swo_b l f) (List.getElem_mem his)
    have e1 := ob1 (E := E) (k := k) (n := n) l f hf hl _ hS i his _ hb hsi k0 l.length 0 k (by omega) (by omega)
    have ih := ob0 l f hf hl hk r (i + 1) k0 (by omega) (by omega)
    rw [law40_OrderBy_L0_s, nvs_len, bif_t (by omega)]
    refine e1.trans ?_
    rw [take_snoc _ _ his]
    exact ih
theorem orderBy_true [HasCmp E] (l : List Item) (f : Int) (hb : ∀ x ∈ l, BdI x) (hl : l.length < 1000000000000) (hlk : l.length < k) (hx : ∀ x ∈ l, x.head.extra.length < k ∧ x.head.extra.length < 1000000000000000) (hk : 10000 < k) : kp E k (n + 10) law40_OrderBy [.list 15 (its l), .int .i64 f] = some (.bool true) := by
  have hfw := few_k (E := E) (k := k) (n := n + 7) l hl hlk hx hb
  rw [law40_OrderBy_eq, alive40_k hk, callB_ok, hfw, callB_ok]
  cases hfl : fewL l with
  | false => rfl
  | true =>
    obtain ⟨hs, h12, hfi, hsm⟩ := few_is hb hfl
    have e1 := by_k (E := E) (k := k) (n := n + 1) l f h12 hk
    rw [e1]
    by_cases hf : 1 ≤ f ∧ f ≤ 12
    · have hS := isortB_len l f
      have e2 := ob0 (E := E) (k := k) (n := n + 8) l f hf h12 hk l.length 0 k (by omega) (by omega)
      rw [if_pos hf, callT_ok, tupL_ok, tupI_ok, atNil_ok, bif_f (by omega), bif_f (by omega), nvs_len, hS, its_len, Int.toNat_natCast, flags_none, show IntKind.wrap .i64 0 = 0 from rfl]
      simp (disch := first | omega | (simp only [List.length_append, List.length_cons, List.length_nil, List.length_take, List.length_drop]; done) | (simp only [List.length_append, List.length_cons, List.length_nil, List.length_take, List.length_drop]; omega) | fail) only [bif_t, bif_f, bif_n, bif_a, callB_ok, callI_ok, callS_ok, callL_ok, callF_ok, callT_ok, tupB_ok, tupI_ok, tupS_ok, tupL_ok, tupF_ok, atNil_ok, wrap1, wrapM, wrapP, Int.toNat_natCast, svs_len, ivs_len, bvs_len, str_size, svs_mid, ivs_mid, str_dec, str_ext, str_byte, mid_byte, mid_cut, List.length_nil, List.length_singleton, svs_snoc, ivs_snoc, svs_take, svs_drop, str_app, List.take_length, List.drop_zero, List.nil_append, cond_true, cond_false, Option.bind_some, Bool.not_true, Bool.not_false, Bool.true_and, Bool.and_true, bys_len, prs_len, its_len, cells_pair, cells_time, cells_head, cells_item, fold_pair, fold_time, fold_head, fold_ihead, fold_item, prs_mid, its_mid, bys_mid, byte_c, callG_pair, callG_time, callG_head, callG_item, tupG_pair, tupG_time, tupG_head, tupG_item, h_0, i_0, h_1, i_1, h_2, i_2, h_3, i_3, h_4, i_4, h_5, i_5, h_6, i_6, h_7, i_7, h_8, i_8, h_9, i_9, h_10, i_10, h_11, i_11, h_12, i_12, h_13, i_13, i_14, p_0, p_1, t_0, t_1, decide_true]
      exact e2
    · rw [if_neg hf, callT_ok, tupL_ok, tupI_ok, atNil_ok]
      by_cases h1 : f < 1
      · rw [bif_t h1]; rfl
      · rw [bif_f h1, bif_t (by omega)]; rfl
end Go.Proofs.YteamddaglbleeaaDoor.Eng.U


/- UsageGreatest and OrderBy over the given functions. -/
set_option linter.unusedVariables false
set_option linter.unusedSimpArgs false
set_option linter.unusedSectionVars false
namespace Go.Proofs.YteamddaglbleeaaDoor.Eng.U
open Go Go.Proofs Go.Proofs.YteamddaglbleeaaDoor.Eng Go.RowKit
noncomputable def ps38 : List Piece := [pParts, pJoin, pCloneP, pCloneB, pCmp]
noncomputable def ext38 : Ext := extOf ps38
instance core38 : Core ext38 := core_of (by kernel_rfl)
instance parts38 : HasParts ext38 := ⟨fun k n s hs => by
  have := kp_piece (ps := ps38) (p := pParts) (k := k) (n := n) (args := [.str (str s)]) rfl
  refine this.trans ?_
  show (bif decide ((str s).size < 1000000) then _ else none) = _
  rw [str_size, decide_eq_true hs]
  rfl⟩
instance join38 : HasJoin ext38 := ⟨fun k n l sep h1 h2 => by
  have := kp_piece (ps := ps38) (p := pJoin) (k := k) (n := n) (args := [.list 1 (svs l), .str (str sep)]) rfl
  refine this.trans ?_
  show (toStrs (svs l)).bind _ = _
  rw [toStrs_svs]
  show (bif (1 == 1) && decide (l.length ≤ 1000000) && decide ((sep.intercalate l).length ≤ 1000000000) then _ else none) = _
  rw [decide_eq_true h1, decide_eq_true h2]
  rfl⟩
instance clone38 : HasClone ext38 where
  pairs k n l h := (kp_piece (ps := ps38) (p := pCloneP) (k := k) (n := n) rfl).trans (clone_ans (by rw [prs_len]; exact h))
  bytes k n l h := (kp_piece (ps := ps38) (p := pCloneB) (k := k) (n := n) rfl).trans (clone_ans (by rw [bys_len]; exact h))
instance cmp38 : HasCmp ext38 where
  cmp k n a b := kp_piece (ps := ps38) (p := pCmp) (k := k) (n := n) (args := [.str (str a), .str (str b)]) rfl
theorem good38 (k : Nat) : (bs ext38 k).Good := good_of (fun p hp => by
  rcases List.mem_cons.1 hp with rfl | hp
  · exact parts_right
  rcases List.mem_cons.1 hp with rfl | hp
  · exact join_right
  rcases List.mem_cons.1 hp with rfl | hp
  · exact cloneP_right
  rcases List.mem_cons.1 hp with rfl | hp
  · exact cloneB_right
  · rw [List.mem_singleton.1 hp]; exact cmp_right) names_ok k
theorem by38 (l : List Item) (f : Int) (g : G_LapiItem l) (_ : -9223372036854775808 ≤ f ∧ f ≤ 9223372036854775807) : (bs ext38 10000000000000).kap 10 law40_OrderBy [.list 15 (its l), .int .i64 f] = some (.bool true) := by
  obtain ⟨h1, h2, h3⟩ := bd_of g
  exact orderBy_true (E := ext38) (k := 10000000000000) (n := 0) l f h1 h2 (by omega) (fun x hx => ⟨h3 x hx, by have := h3 x hx; omega⟩) (by omega)
end Go.Proofs.YteamddaglbleeaaDoor.Eng.U

