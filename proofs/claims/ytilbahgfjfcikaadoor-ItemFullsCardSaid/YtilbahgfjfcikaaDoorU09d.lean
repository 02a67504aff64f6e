/- ItemFulls answers true. -/
import Derived.Test.YtilbahgfjfcikaaDoorU09c
set_option linter.unusedVariables false
set_option linter.unusedSectionVars false
set_option linter.unusedSimpArgs false
namespace Go.Proofs.YtilbahgfjfcikaaDoor.Eng.U
open Go Go.Proofs Go.Proofs.YtilbahgfjfcikaaDoor.Eng Go.Proofs.YtilbahgfjfcikaaDoor.P04
variable {E : Ext} [Core E] [HasNum E] [HasText E] {k n : Nat}

def IsI (x : Option AV) : Prop := ∃ w : Int, x = some (.int .i64 w)
theorem isI_some (w : Int) : IsI (some (.int .i64 w)) := ⟨w, rfl⟩
theorem isI_bif {c : Bool} {a b : Option AV} (h1 : IsI a) (h2 : IsI b) : IsI (bif c then a else b) := by cases c <;> assumption
theorem isI_callB {x : Option AV} {K : Bool → Option AV} (h : IsB x) (hK : ∀ b, IsI (K b)) : IsI (callB x K) := by
  obtain ⟨b, rfl⟩ := h
  rw [callB_ok]
  exact hK b
theorem known_B (s : List UInt8) : IsB (kp E k (n + 1) pax_Known [.str (str s)]) := by
  rw [pax_Known_eq]
  repeat' first | exact isB_some _ | refine isB_bif ?_ ?_
theorem extra1_B (p : Pair) : IsB (kp E k (n + 2) item_extra_1 [.agg [.str (str p.key), .str (str p.val)]]) := by
  rw [item_extra_1_eq]
  exact isB_callB (known_B _) isB_some
theorem indexFunc_I : ∀ (suf pre : List Pair) (k0 : Nat), suf.length < k0 → (pre ++ suf).length < 1000000 → IsI (slices_IndexFunc_api_Pair_L0 (kp E k (n + 2)) k k0 (prs (pre ++ suf)) (((pre ++ suf).length : Nat) : Int) ((pre.length : Nat) : Int))
  | [], pre, k0 + 1, h, hb => by
    rw [slices_IndexFunc_api_Pair_L0_s, nlt, decide_eq_false (by simp), cond_false]
    exact isI_some _
  | p :: suf, pre, k0 + 1, h, hb => by
    have hb' := hb
    rw [mid_len] at hb'
    have ih := indexFunc_I suf (pre ++ [p]) k0 (by simpa using h) (by simpa using hb)
    have e1 : (pre ++ [p]).length = pre.length + 1 := by simp
    rw [List.append_assoc, List.singleton_append, e1] at ih
    rw [slices_IndexFunc_api_Pair_L0_s, prs_len, mid_len, dec0, nlt, decide_eq_true (by omega), Bool.true_and, cond_true, cond_true, Int.toNat_natCast, prs_mid, cells_pair]
    rw [mid_len] at ih
    have c0 : ∀ (q : Pair) (K : ByteArray → Option AV), cellS (encPair q) 0 K = K (str q.key) := fun q K => rfl
    have c1 : ∀ (q : Pair) (K : ByteArray → Option AV), cellS (encPair q) 1 K = K (str q.val) := fun q K => rfl
    rw [c0, c1, wrap1 (by omega)]
    exact isI_callB (extra1_B p) fun b => isI_bif (isI_some _) ih
theorem extra_B (l : List Pair) (hb : l.length ≤ 40) (hp : ∀ p ∈ l, p.key.length ≤ 200000 ∧ p.val.length ≤ 200000) (hk : 1000000 < k) : IsB (kp E k (n + 7) item_extra [.list 2 (prs l)]) := by
  rw [item_extra_eq, over_Right_eq, prs_len]
  have h1 := over_B (E := E) (k := k) (n := n) hk l [] k (by omega) (by simpa using (show l.length < 1000000 by omega)) (fun p hq => by obtain ⟨a, b⟩ := hp p (by simpa using hq); exact ⟨by omega, by omega⟩)
  refine isB_callB h1 fun b => isB_bif ?_ (isB_some _)
  obtain ⟨w, hw⟩ := indexFunc_I (E := E) (k := k) (n := n + 2) l [] k (by omega) (by simpa using (show l.length < 1000000 by omega))
  have hw' : kp E k (n + 5) slices_IndexFunc_api_Pair [.list 2 (prs l), .func (.func item_extra_1) [] []] = some (.int .i64 w) := by
    rw [slices_IndexFunc_api_Pair_eq, prs_len]
    exact hw
  rw [slices_ContainsFunc_api_Pair_eq, hw', callI_ok, callB_ok]
  exact isB_some _
theorem flag_ok (v : Int) : ∃ f : Int, kp E k (n + 1) item_Flag [.int .i64 v] = some (.int .u8 f) := by
  rw [item_Flag_eq]
  by_cases h1 : v < 1
  · rw [bif_t h1]; exact ⟨_, rfl⟩
  · rw [bif_f h1]
    by_cases h2 : v > 7
    · rw [bif_t h2]; exact ⟨_, rfl⟩
    · rw [bif_f h2]; exact ⟨_, rfl⟩
theorem wrong_k (h : Head) (hf : FewH h) (hk : 1000000 < k) : ∃ w : Int, kp E k (n + 8) item_Wrong [.agg (encHead h)] = some (.int .i64 w) ∧ (w = 0 → h.name ≠ [] ∧ ¬ (h.kind = 1 ∧ sl h.name = true)) := by
  have hlink : IsB (kp E k (n + 7) item_link [.agg (encHead h)]) := by
    unfold encHead
    rw [item_link_eq]
    exact isB_bif (isB_callB (named_B (n := n + 4) _) isB_some) (isB_bif (isB_callB (named_B (n := n + 4) _) isB_some) (isB_some _))
  have hdev : ∀ v : Int, IsB (kp E k (n + 7) item_device [.agg (encHead h), .int .i64 v]) := fun v => by
    unfold encHead
    rw [item_device_eq]
    exact isB_bif (isB_some _) (isB_bif (isB_bif (isB_some _) (isB_some _)) (isB_some _))
  have hext : IsB (kp E k (n + 7) item_extra [.list 2 (prs h.extra)]) := extra_B h.extra hf.2.2.2.2.2 hf.2.2.2.2.1 hk
  have hright : ∀ s t : Int, IsB (kp E k (n + 7) dec_Right [.agg [.int .i64 s, .int .i64 t]]) := fun s t => ⟨_, right_k (n := n + 6) s t⟩
  have hplain : ∀ s : List UInt8, IsB (kp E k (n + 7) item_plain [.str (str s)]) := fun s => plain_B (n := n + 5) s
  have hname : IsB (kp E k (n + 7) item_named [.str (str h.name)]) := named_B (n := n + 5) h.name
  obtain ⟨f, hfl⟩ := flag_ok (E := E) (k := k) (n := n + 6) h.kind
  have hsuf := suffix_k (E := E) (k := k) (n := n + 5) h.name (by have := hf.1; omega)
  unfold encHead at hlink hdev ⊢
  rw [item_Wrong_eq, hfl, callI_ok]
  by_cases h0 : f = 0
  · rw [bif_t h0]; exact ⟨1, rfl, fun h => by omega⟩
  · rw [bif_f h0]
    obtain ⟨b, hb⟩ := hname
    rw [hb, callB_ok]
    cases b with
    | false => exact ⟨2, rfl, fun h => by omega⟩
    | true =>
      have hne : h.name ≠ [] := named_ne (E := E) (k := k) (n := n + 5) h.name hb
      rw [Bool.not_true, cond_false]
      rw [hsuf, callB_ok]
      have fin : ∀ {x : Option AV}, IsI x → ¬ (h.kind = 1 ∧ sl h.name = true) → ∃ w : Int, x = some (.int .i64 w) ∧ (w = 0 → h.name ≠ [] ∧ ¬ (h.kind = 1 ∧ sl h.name = true)) := fun hx hq => by
        obtain ⟨w, hw⟩ := hx
        exact ⟨w, hw, fun _ => ⟨hne, hq⟩⟩
      by_cases h1 : h.kind = 1
      · rw [bif_t h1]
        cases hs : sl h.name with
        | true => exact ⟨2, rfl, fun h => by omega⟩
        | false =>
          rw [cond_false]
          refine hs ▸ fin ?_ (fun h => by simp [hs] at h)
          repeat' first | exact isI_some _ | refine isI_callB hlink fun _ => ?_ | refine isI_callB (hright _ _) fun _ => ?_ | refine isI_callB (hplain _) fun _ => ?_ | refine isI_callB (hdev _) fun _ => ?_ | refine isI_callB hext fun _ => ?_ | refine isI_bif ?_ ?_
      · rw [bif_f h1]
        refine fin ?_ (fun h => h1 h.1)
        repeat' first | exact isI_some _ | refine isI_callB hlink fun _ => ?_ | refine isI_callB (hright _ _) fun _ => ?_ | refine isI_callB (hplain _) fun _ => ?_ | refine isI_callB (hdev _) fun _ => ?_ | refine isI_callB hext fun _ => ?_ | refine isI_bif ?_ ?_
theorem alive9 : kp E k (n + 4) law09_alive [] = some (.bool true) := by
  have h1 := told_k (E := E) (k := k) (n := n) 1 [97, 47] (by simp)
  have h2 := fulls_k (E := E) (k := k) (n := n) ⟨6, [47], [], 0, 0, 0, 0, 0, 0, [], [], 0, 0, []⟩ (by simp)
  have e1 : told 1 [97, 47] = (6, [97]) := by decide
  have e2 : fulls 6 [47] = [[47], [47, 47]] := by decide
  rw [e1] at h1
  have h3 : kp E k (n + 3) item_Fulls [.agg [.int .i64 6, .str (str [47]), .str (str []), .int .i64 0, .int .i64 0, .int .i64 0, .int .i64 0, .int .i64 0, .int .i64 0, .str (str []), .str (str []), .int .i64 0, .int .i64 0, .list 2 []]] = some (.list 1 (svs (fulls 6 [47]))) := h2
  rw [law09_alive_eq, h1, callT_ok, tupI_ok, tupS_ok, atNil_ok, h3, callL_ok, e2]
  rfl
theorem itemFulls_all (h : Head) (other : List UInt8) (hb : BdH h) (hk : 10000000000000 ≤ k) (ho : other.length ≤ 140737488351232) : kp E k (n + 9) law09_ItemFulls [.agg (encHead h), .str (str other)] = some (.bool true) :=
  itemFulls_true (n := n + 4) h other hb hk ho (alive9 (n := n + 4)) (fun hf => wrong_k (n := n) h hf (by omega))
end Go.Proofs.YtilbahgfjfcikaaDoor.Eng.U
