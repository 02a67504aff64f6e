/- Several texts of this proof in one file: U20h, Rd20, RH, U20r, V20c, V20b. -/
import Derived.Test.YtogfcfgfkggmlaaGreatDoorMTaleOutcomes1
import Derived.Test.YtogfcfgfkggmlaaGreatDoorMTaleOutcomes0
/- An outcome's line and fields' names, both sides: TaleOutcomes in plain words. -/
set_option linter.unusedVariables false
set_option linter.unusedSectionVars false
set_option linter.unusedSimpArgs false
namespace Go.Proofs.YtogfcfgfkggmlaaGreatDoor.Eng.U
open Go Go.Proofs Go.Proofs.YtogfcfgfkggmlaaGreatDoor.Eng Go.Proofs.YtogfcfgfkggmlaaGreatDoor.P04
variable {E : Ext} [Core E] [HasNum E] {k n k0 kk : Nat}

theorem inb' {v m : Int} (h0 : 0 ≤ v) (h1 : v < m) : (decide ((0 : Int) ≤ v) && decide (v < m)) = true := by simp; omega
structure Outc where
  code : Int
  fcode : Int
  block : Int
  item : Int
  field : Int
  items : Int
  most : Int
def encOut (o : Outc) : List AV := [.int .u8 o.code, .int .u8 o.fcode, .int .i64 o.block, .int .i64 o.item, .int .i64 o.field, .int .i64 o.items, .int .i64 o.most]
def fieldsF : List Tx := [[107, 105, 110, 100], [110, 97, 109, 101], [108, 105, 110, 107], [109, 111, 100, 101], [117, 105, 100], [103, 105, 100], [115, 105, 122, 101], [116, 105, 109, 101], [117, 115, 101, 114], [103, 114, 111, 117, 112], [109, 97, 106, 111, 114], [109, 105, 110, 111, 114], [101, 120, 116, 114, 97], [114, 101, 99, 111, 114, 100, 115]]
def codesF : List Tx := [[102, 105, 110, 101], [110, 105, 108], [97, 114, 103], [115, 104, 111, 114, 116], [115, 117, 109], [110, 117, 109, 101, 114, 97, 108], [114, 101, 99, 111, 114, 100], [100, 97, 110, 103, 108, 105, 110, 103], [116, 114, 97, 105, 108, 101, 114], [102, 108, 97, 103], [110, 97, 109, 101], [115, 105, 122, 101], [108, 97, 114, 103, 101], [102, 105, 101, 108, 100], [115, 105, 110, 107], [102, 111, 114, 109], [110, 111, 110, 101]]
def fieldT (v : Int) : Tx := if 1 ≤ v ∧ v ≤ 14 then fieldsF.getD (v - 1).toNat [] else []
def codeT (c : Int) : Tx := if c < 17 then codesF.getD c.toNat [] else [111, 116, 104, 101, 114]
theorem fieldT_len (v : Int) : (fieldT v).length ≤ 10 := by
  unfold fieldT
  split
  · rename_i h
    have : v = 1 ∨ v = 2 ∨ v = 3 ∨ v = 4 ∨ v = 5 ∨ v = 6 ∨ v = 7 ∨ v = 8 ∨ v = 9 ∨ v = 10 ∨ v = 11 ∨ v = 12 ∨ v = 13 ∨ v = 14 := by omega
    rcases this with rfl | rfl | rfl | rfl | rfl | rfl | rfl | rfl | rfl | rfl | rfl | rfl | rfl | rfl <;> decide
  · exact Nat.zero_le _
theorem code_cases {c : Int} (h0 : 0 ≤ c) (h : c < 17) : c = 0 ∨ c = 1 ∨ c = 2 ∨ c = 3 ∨ c = 4 ∨ c = 5 ∨ c = 6 ∨ c = 7 ∨ c = 8 ∨ c = 9 ∨ c = 10 ∨ c = 11 ∨ c = 12 ∨ c = 13 ∨ c = 14 ∨ c = 15 ∨ c = 16 := by omega
theorem codeT_len {c : Int} (h0 : 0 ≤ c) : (codeT c).length ≤ 10 := by
  unfold codeT
  split
  · rename_i h
    rcases code_cases h0 h with rfl | rfl | rfl | rfl | rfl | rfl | rfl | rfl | rfl | rfl | rfl | rfl | rfl | rfl | rfl | rfl | rfl <;> decide
  · decide
def outL (o : Outc) : Tx :=
  if o.code = 0 then [102, 105, 110, 101, 32] ++ Lib.itoa o.items
  else if o.code = 13 then [114, 101, 112, 111, 114, 116, 32] ++ Lib.itoa o.item ++ [32] ++ fieldT o.field ++ [32] ++ Lib.itoa o.items
  else if o.code = 14 then [115, 105, 110, 107]
  else [102, 97, 117, 108, 116, 32] ++ codeT o.code ++ [32] ++ Lib.itoa o.block ++ [32] ++ Lib.itoa o.items
theorem field_at {v : Int} (h : 1 ≤ v ∧ v ≤ 14) {β : Type} (K : ByteArray → Option β) : (((svs ([] :: fieldsF))[Int.toNat v]?).bind fun y => cellS (AV.cells y) 0 K) = K (str (fieldT v)) := by
  have : v = 1 ∨ v = 2 ∨ v = 3 ∨ v = 4 ∨ v = 5 ∨ v = 6 ∨ v = 7 ∨ v = 8 ∨ v = 9 ∨ v = 10 ∨ v = 11 ∨ v = 12 ∨ v = 13 ∨ v = 14 := by omega
  rcases this with rfl | rfl | rfl | rfl | rfl | rfl | rfl | rfl | rfl | rfl | rfl | rfl | rfl | rfl <;> rfl
theorem field_at1 {v : Int} (h : 1 ≤ v ∧ v ≤ 14) {β : Type} (K : ByteArray → Option β) : (((svs fieldsF)[Int.toNat (v - 1)]?).bind fun y => cellS (AV.cells y) 0 K) = K (str (fieldT v)) := by
  have : v = 1 ∨ v = 2 ∨ v = 3 ∨ v = 4 ∨ v = 5 ∨ v = 6 ∨ v = 7 ∨ v = 8 ∨ v = 9 ∨ v = 10 ∨ v = 11 ∨ v = 12 ∨ v = 13 ∨ v = 14 := by omega
  rcases this with rfl | rfl | rfl | rfl | rfl | rfl | rfl | rfl | rfl | rfl | rfl | rfl | rfl | rfl <;> rfl
theorem field_k (v : Int) : kp E k (n + 2) tale_Field [.int .i64 v] = some (.str (str (fieldT v))) := by
  have hf : kp E k (n + 1) tale_fields [] = some (.list 1 (svs ([] :: fieldsF))) := tale_fields_eq _ _
  have hl : (svs ([] :: fieldsF)).length = 15 := rfl
  rw [tale_Field_eq]
  by_cases h1 : v < 1
  · rw [bif_t h1]; unfold fieldT; rw [if_neg (by omega)]
  by_cases h2 : v > 14
  · rw [bif_f h1, bif_t h2]; unfold fieldT; rw [if_neg (by omega)]
  rw [bif_f h1, bif_f h2, hf, callL_ok, hl, inb' (by omega) (by omega), cond_true, field_at (by omega)]
theorem codeS_k (c : Int) (h0 : 0 ≤ c) (h1 : c ≤ 255) : kp E k (n + 1) api_Code_String [.int .u8 c] = some (.str (str (codeT c))) := by
  rw [api_Code_String_eq, i64w (x := c) (by omega)]
  by_cases h : c < 17
  · rw [bif_t h, inb' h0 h, cond_true]
    rcases code_cases h0 h with rfl | rfl | rfl | rfl | rfl | rfl | rfl | rfl | rfl | rfl | rfl | rfl | rfl | rfl | rfl | rfl | rfl <;> rfl
  · rw [bif_f h]; unfold codeT; rw [if_neg h]
structure OutR (o : Outc) : Prop where
  code : 0 ≤ o.code ∧ o.code ≤ 255
  block : -9223372036854775808 ≤ o.block ∧ o.block ≤ 9223372036854775807
  item : -9223372036854775808 ≤ o.item ∧ o.item ≤ 9223372036854775807
  field : -9223372036854775808 ≤ o.field ∧ o.field ≤ 9223372036854775807
  items : -9223372036854775808 ≤ o.items ∧ o.items ≤ 9223372036854775807
theorem outcome_k (o : Outc) (g : OutR o) : kp E k (n + 4) tale_Outcome [.agg (encOut o)] = some (.str (str (outL o))) := by
  have l1 := itoa_le o.items g.items.1 g.items.2
  have l2 := itoa_le o.item g.item.1 g.item.2
  have l3 := itoa_le o.block g.block.1 g.block.2
  have l4 := fieldT_len o.field
  have l5 := codeT_len g.code.1
  unfold encOut
  rw [tale_Outcome_eq, HasNum.itoa _ _ _ g.items.1 g.items.2, callS_ok]
  unfold outL
  by_cases c0 : o.code = 0
  · rw [bif_t c0, if_pos c0, str_size, bif_t (by omega), str_app]
  rw [bif_f c0, if_neg c0]
  by_cases c13 : o.code = 13
  · rw [bif_t c13, if_pos c13, HasNum.itoa _ _ _ g.item.1 g.item.2, callS_ok, field_k (n := n + 1)]
    simp (disch := first | omega | (simp only [List.length_append, List.length_cons, List.length_nil, List.length_take, List.length_drop]; done) | (simp only [List.length_append, List.length_cons, List.length_nil, List.length_take, List.length_drop]; omega) | fail) only [bif_t, bif_f, bif_n, bif_a, callB_ok, callI_ok, callS_ok, callL_ok, callF_ok, callT_ok, tupB_ok, tupI_ok, tupS_ok, tupL_ok, tupF_ok, atNil_ok, wrap1, wrapM, wrapP, Int.toNat_natCast, svs_len, ivs_len, bvs_len, str_size, svs_mid, ivs_mid, str_dec, str_ext, str_byte, mid_byte, mid_cut, List.length_nil, List.length_singleton, svs_snoc, ivs_snoc, svs_take, svs_drop, str_app, List.take_length, List.drop_zero, List.nil_append, cond_true, cond_false, Option.bind_some, Bool.not_true, Bool.not_false, Bool.true_and, Bool.and_true]
  rw [bif_f c13, if_neg c13]
  by_cases c14 : o.code = 14
  · rw [bif_t c14, if_pos c14]
  rw [bif_f c14, if_neg c14, codeS_k (n := n + 2) _ g.code.1 g.code.2, callS_ok]
  have ht := text_k (E := E) (k := k) (n := n + 2) o.block g.block.1 g.block.2
  simp (disch := first | omega | (simp only [List.length_append, List.length_cons, List.length_nil, List.length_take, List.length_drop]; done) | (simp only [List.length_append, List.length_cons, List.length_nil, List.length_take, List.length_drop]; omega) | fail) only [bif_t, bif_f, bif_n, bif_a, callB_ok, callI_ok, callS_ok, callL_ok, callF_ok, callT_ok, tupB_ok, tupI_ok, tupS_ok, tupL_ok, tupF_ok, atNil_ok, wrap1, wrapM, wrapP, Int.toNat_natCast, svs_len, ivs_len, bvs_len, str_size, svs_mid, ivs_mid, str_dec, str_ext, str_byte, mid_byte, mid_cut, List.length_nil, List.length_singleton, svs_snoc, ivs_snoc, svs_take, svs_drop, str_app, List.take_length, List.drop_zero, List.nil_append, cond_true, cond_false, Option.bind_some, Bool.not_true, Bool.not_false, Bool.true_and, Bool.and_true, ht]
theorem refOutcome_k (o : Outc) (g : OutR o) : kp E k (n + 22) ref20_Outcome [.agg (encOut o)] = some (.str (str (outL o))) := by
  have l1 := itoa_le o.items g.items.1 g.items.2
  have l2 := itoa_le o.item g.item.1 g.item.2
  have l3 := itoa_le o.block g.block.1 g.block.2
  have l4 := fieldT_len o.field
  have l5 := codeT_len g.code.1
  have n1 := refNum_k (E := E) (k := k) (n := n) o.items g.items.1 g.items.2
  have n2 := refNum_k (E := E) (k := k) (n := n) o.item g.item.1 g.item.2
  have n3 := refNum_k (E := E) (k := k) (n := n) o.block g.block.1 g.block.2
  have hf : kp E k (n + 21) ref20_Fields [] = some (.list 1 (svs fieldsF)) := ref20_Fields_eq _ _
  have hc : kp E k (n + 21) ref20_Codes [] = some (.list 1 (svs codesF)) := ref20_Codes_eq _ _
  have hfl : (svs fieldsF).length = 14 := rfl
  have hcl : (svs codesF).length = 17 := rfl
  unfold encOut
  rw [ref20_Outcome_eq]
  unfold outL
  by_cases c0 : o.code = 0
  · rw [bif_t c0, if_pos c0, n1, callS_ok, str_size, bif_t (by omega), str_app]
  rw [bif_f c0, if_neg c0]
  by_cases c13 : o.code = 13
  · rw [bif_t c13, if_pos c13]
    have none_case : ¬ (1 ≤ o.field ∧ o.field ≤ 14) → fieldT o.field = [] := fun h => by unfold fieldT; rw [if_neg h]
    by_cases f1 : o.field ≥ 1
    · by_cases f2 : o.field ≤ 14
      · rw [bif_t f1, bif_t f2, hf, callL_ok, hfl, i64w (by omega), inb' (by omega) (by omega), cond_true, field_at1 ⟨f1, f2⟩, n2, callS_ok]
        simp (disch := first | omega | (simp only [List.length_append, List.length_cons, List.length_nil, List.length_take, List.length_drop]; done) | (simp only [List.length_append, List.length_cons, List.length_nil, List.length_take, List.length_drop]; omega) | fail) only [bif_t, bif_f, bif_n, bif_a, callB_ok, callI_ok, callS_ok, callL_ok, callF_ok, callT_ok, tupB_ok, tupI_ok, tupS_ok, tupL_ok, tupF_ok, atNil_ok, wrap1, wrapM, wrapP, Int.toNat_natCast, svs_len, ivs_len, bvs_len, str_size, svs_mid, ivs_mid, str_dec, str_ext, str_byte, mid_byte, mid_cut, List.length_nil, List.length_singleton, svs_snoc, ivs_snoc, svs_take, svs_drop, str_app, List.take_length, List.drop_zero, List.nil_append, cond_true, cond_false, Option.bind_some, Bool.not_true, Bool.not_false, Bool.true_and, Bool.and_true, n1]
      · rw [bif_t f1, bif_f f2, n2, callS_ok, none_case (by omega)]
        simp (disch := first | omega | (simp only [List.length_append, List.length_cons, List.length_nil, List.length_take, List.length_drop]; done) | (simp only [List.length_append, List.length_cons, List.length_nil, List.length_take, List.length_drop]; omega) | fail) only [bif_t, bif_f, bif_n, bif_a, callB_ok, callI_ok, callS_ok, callL_ok, callF_ok, callT_ok, tupB_ok, tupI_ok, tupS_ok, tupL_ok, tupF_ok, atNil_ok, wrap1, wrapM, wrapP, Int.toNat_natCast, svs_len, ivs_len, bvs_len, str_size, svs_mid, ivs_mid, str_dec, str_ext, str_byte, mid_byte, mid_cut, List.length_nil, List.length_singleton, svs_snoc, ivs_snoc, svs_take, svs_drop, str_app, List.take_length, List.drop_zero, List.nil_append, cond_true, cond_false, Option.bind_some, Bool.not_true, Bool.not_false, Bool.true_and, Bool.and_true, n1]
    · rw [bif_f f1, n2, callS_ok, none_case (by omega)]
      simp (disch := first | omega | (simp only [List.length_append, List.length_cons, List.length_nil, List.length_take, List.length_drop]; done) | (simp only [List.length_append, List.length_cons, List.length_nil, List.length_take, List.length_drop]; omega) | fail) only [bif_t, bif_f, bif_n, bif_a, callB_ok, callI_ok, callS_ok, callL_ok, callF_ok, callT_ok, tupB_ok, tupI_ok, tupS_ok, tupL_ok, tupF_ok, atNil_ok, wrap1, wrapM, wrapP, Int.toNat_natCast, svs_len, ivs_len, bvs_len, str_size, svs_mid, ivs_mid, str_dec, str_ext, str_byte, mid_byte, mid_cut, List.length_nil, List.length_singleton, svs_snoc, ivs_snoc, svs_take, svs_drop, str_app, List.take_length, List.drop_zero, List.nil_append, cond_true, cond_false, Option.bind_some, Bool.not_true, Bool.not_false, Bool.true_and, Bool.and_true, n1]
  rw [bif_f c13, if_neg c13]
  by_cases c14 : o.code = 14
  · rw [bif_t c14, if_pos c14]
  rw [bif_f c14, if_neg c14]
  by_cases c16 : o.code ≤ 16
  · have at1 : ∀ K : ByteArray → Option AV, (((svs codesF)[Int.toNat o.code]?).bind fun y => cellS (AV.cells y) 0 K) = K (str (codeT o.code)) := by
      intro K
      rcases code_cases g.code.1 (by omega) with h | h | h | h | h | h | h | h | h | h | h | h | h | h | h | h | h <;> rw [h] <;> rfl
    rw [bif_t c16, hc, callL_ok, hcl, inb' g.code.1 (by omega), cond_true, at1]
    simp (disch := first | omega | (simp only [List.length_append, List.length_cons, List.length_nil, List.length_take, List.length_drop]; done) | (simp only [List.length_append, List.length_cons, List.length_nil, List.length_take, List.length_drop]; omega) | fail) only [bif_t, bif_f, bif_n, bif_a, callB_ok, callI_ok, callS_ok, callL_ok, callF_ok, callT_ok, tupB_ok, tupI_ok, tupS_ok, tupL_ok, tupF_ok, atNil_ok, wrap1, wrapM, wrapP, Int.toNat_natCast, svs_len, ivs_len, bvs_len, str_size, svs_mid, ivs_mid, str_dec, str_ext, str_byte, mid_byte, mid_cut, List.length_nil, List.length_singleton, svs_snoc, ivs_snoc, svs_take, svs_drop, str_app, List.take_length, List.drop_zero, List.nil_append, cond_true, cond_false, Option.bind_some, Bool.not_true, Bool.not_false, Bool.true_and, Bool.and_true, n1, n3]
  · have e : codeT o.code = [111, 116, 104, 101, 114] := by unfold codeT; rw [if_neg (by omega)]
    rw [bif_f c16, e]
    simp (disch := first | omega | (simp only [List.length_append, List.length_cons, List.length_nil, List.length_take, List.length_drop]; done) | (simp only [List.length_append, List.length_cons, List.length_nil, List.length_take, List.length_drop]; omega) | fail) only [bif_t, bif_f, bif_n, bif_a, callB_ok, callI_ok, callS_ok, callL_ok, callF_ok, callT_ok, tupB_ok, tupI_ok, tupS_ok, tupL_ok, tupF_ok, atNil_ok, wrap1, wrapM, wrapP, Int.toNat_natCast, svs_len, ivs_len, bvs_len, str_size, svs_mid, ivs_mid, str_dec, str_ext, str_byte, mid_byte, mid_cut, List.length_nil, List.length_singleton, svs_snoc, ivs_snoc, svs_take, svs_drop, str_app, List.take_length, List.drop_zero, List.nil_append, cond_true, cond_false, Option.bind_some, Bool.not_true, Bool.not_false, Bool.true_and, Bool.and_true, n1, n3]
    rfl
def wantGo : List Tx → Nat → Int → Tx → Tx
  | [], _, _, w => w
  | f :: l, i, v, w => wantGo l (i + 1) v (if ((i : Int) + 1) = v then f else w)
def numGo : List Tx → Nat → Tx → Int → Int
  | [], _, _, m => m
  | f :: l, i, s, m => numGo l (i + 1) s (if f = s then (i : Int) + 1 else m)
theorem want_eq (v : Int) : wantGo fieldsF 0 v [] = fieldT v := by
  by_cases h : 1 ≤ v ∧ v ≤ 14
  · have : v = 1 ∨ v = 2 ∨ v = 3 ∨ v = 4 ∨ v = 5 ∨ v = 6 ∨ v = 7 ∨ v = 8 ∨ v = 9 ∨ v = 10 ∨ v = 11 ∨ v = 12 ∨ v = 13 ∨ v = 14 := by omega
    rcases this with rfl | rfl | rfl | rfl | rfl | rfl | rfl | rfl | rfl | rfl | rfl | rfl | rfl | rfl <;> decide
  · have go : ∀ (l : List Tx) (i : Nat), i + l.length ≤ 14 → wantGo l i v [] = [] := by
      intro l
      induction l with
      | nil => intro i _; rfl
      | cons f l ih =>
        intro i hi
        rw [List.length_cons] at hi
        unfold wantGo
        rw [if_neg (by omega)]
        exact ih (i + 1) (by omega)
    rw [go fieldsF 0 (by decide)]
    unfold fieldT
    rw [if_neg h]
theorem num_eq (s : Tx) : numGo fieldsF 0 s 0 = (if idxL ([] :: fieldsF) s 0 > 0 then idxL ([] :: fieldsF) s 0 else 0) := by
  by_cases hm : s ∈ [] :: fieldsF
  · unfold fieldsF at hm
    simp only [List.mem_cons, List.not_mem_nil, or_false] at hm
    rcases hm with rfl | rfl | rfl | rfl | rfl | rfl | rfl | rfl | rfl | rfl | rfl | rfl | rfl | rfl | rfl <;> decide
  · have g1 : ∀ (l : List Tx) (i : Nat), s ∉ l → numGo l i s 0 = 0 := by
      intro l
      induction l with
      | nil => intro i _; rfl
      | cons f l ih =>
        intro i hi
        rw [List.mem_cons, not_or] at hi
        unfold numGo
        rw [if_neg (fun e => hi.1 e.symm)]
        exact ih (i + 1) hi.2
    have g2 : ∀ (l : List Tx) (i : Nat), s ∉ l → idxL l s i = -1 := by
      intro l
      induction l with
      | nil => intro i _; rfl
      | cons f l ih =>
        intro i hi
        rw [List.mem_cons, not_or] at hi
        unfold idxL
        rw [if_neg hi.1]
        exact ih (i + 1) hi.2
    rw [g2 _ _ hm, g1 _ _ (fun h => hm (List.mem_cons_of_mem _ h))]
    rfl
theorem fieldOf_k (s : Tx) (hk : 100 < k) : kp E k (n + 2) tale_FieldOf [.str (str s)] = some (.int .i64 (numGo fieldsF 0 s 0)) := by
  have hf : kp E k (n + 1) tale_fields [] = some (.list 1 (svs ([] :: fieldsF))) := tale_fields_eq _ _
  rw [tale_FieldOf_eq, hf, callL_ok, index_words (n := n) _ _ (by decide) (by show 15 < k; omega), callI_ok, num_eq]
theorem out_loop (o : Outc) (g : OutR o) (v : Int) (s : Tx) (hk : 100 < k) :
    ∀ (suf pre : List Tx) (w : Tx) (m : Int) (k0 : Nat), suf.length < k0 → pre ++ suf = fieldsF →
    wantGo suf pre.length v w = fieldT v → numGo suf pre.length s m = numGo fieldsF 0 s 0 →
    law20_TaleOutcomes_L0 (kp E k (n + 22)) k k0 v (str s) (svs fieldsF) (str w) m ((pre.length : Nat) : Int) o.code o.fcode o.block o.item o.field o.items o.most = some (.bool true)
  | [], pre, w, m, k0 + 1, h, he, hw, hm => by
    rw [List.append_nil] at he
    subst he
    have h1 : kp E k (n + 22) tale_Outcome [(.agg [(.int .u8 o.code), (.int .u8 o.fcode), (.int .i64 o.block), (.int .i64 o.item), (.int .i64 o.field), (.int .i64 o.items), (.int .i64 o.most)])] = _ := outcome_k (E := E) (k := k) (n := n + 18) o g
    have h2 : kp E k (n + 22) ref20_Outcome [(.agg [(.int .u8 o.code), (.int .u8 o.fcode), (.int .i64 o.block), (.int .i64 o.item), (.int .i64 o.field), (.int .i64 o.items), (.int .i64 o.most)])] = _ := refOutcome_k (E := E) (k := k) (n := n) o g
    have hw : w = fieldT v := hw
    have hm : m = numGo fieldsF 0 s 0 := hm
    rw [law20_TaleOutcomes_L0_s, svs_len, bif_f (by omega), h1, callS_ok, h2, callS_ok, decide_eq_true rfl, cond_true, field_k (n := n + 20), callS_ok, hw, decide_eq_true rfl, cond_true, fieldOf_k (n := n + 20) s hk, callI_ok, hm, decide_eq_true rfl]
  | f :: suf, pre, w, m, k0 + 1, h, he, hw, hm => by
    have hl : fieldsF.length = pre.length + suf.length + 1 := by rw [← he, mid_len]
    have h14 : fieldsF.length = 14 := rfl
    have ih := fun w m => out_loop o g v s hk suf (pre ++ [f]) w m k0 (by simpa using h) (by simpa using he)
    rw [List.length_append, List.length_singleton] at ih
    unfold wantGo at hw
    unfold numGo at hm
    have at1 : ∀ K : ByteArray → Option AV, (((svs fieldsF)[pre.length]?).bind fun y => cellS (AV.cells y) 0 K) = K (str f) := fun K => by rw [← he]; exact svs_mid pre suf f K
    rw [law20_TaleOutcomes_L0_s, svs_len, bif_t (by omega), i64w (x := ((pre.length : Nat) : Int) + 1) (by omega), inb (by omega), Int.toNat_natCast, cond_true, at1, at1, at1, str_dec]
    have e : ((pre.length : Nat) : Int) + 1 = ((pre.length + 1 : Nat) : Int) := by omega
    by_cases hv : ((pre.length : Nat) : Int) + 1 = v
    · rw [if_pos hv] at hw
      rw [decide_eq_true hv, cond_true]
      by_cases hs : f = s
      · rw [if_pos hs] at hm
        rw [decide_eq_true hs, cond_true, e]
        rw [e] at hm
        exact ih _ _ hw hm
      · rw [if_neg hs] at hm
        rw [decide_eq_false hs, cond_false, e]
        exact ih _ _ hw hm
    · rw [if_neg hv] at hw
      rw [decide_eq_false hv, cond_false]
      by_cases hs : f = s
      · rw [if_pos hs] at hm
        rw [decide_eq_true hs, cond_true, e]
        rw [e] at hm
        exact ih _ _ hw hm
      · rw [if_neg hs] at hm
        rw [decide_eq_false hs, cond_false, e]
        exact ih _ _ hw hm
theorem taleOutcomes_true [HasTextV E] [HasQuote E] [HasJn E] [HasCount E] (o : Outc) (g : OutR o) (v : Int) (s : Tx) (hkk : 5000000000000 < kk) : kp E (kk + 6) (n + 23) law20_TaleOutcomes [.agg (encOut o), .int .i64 v, .str (str s)] = some (.bool true) := by
  have hf : kp E (kk + 6) (n + 22) ref20_Fields [] = some (.list 1 (svs fieldsF)) := ref20_Fields_eq _ _
  unfold encOut
  rw [law20_TaleOutcomes_eq, alive20 (n := n + 11) (by omega), callB_ok, Bool.not_true, cond_false, hf, callL_ok]
  exact out_loop o g v s (by omega) fieldsF [] [] 0 (kk + 6) (by show 14 < _; omega) rfl (want_eq v) rfl
end Go.Proofs.YtogfcfgfkggmlaaGreatDoor.Eng.U


/- An outcome as a row hands it in. -/
set_option linter.unusedVariables false
set_option linter.unusedSimpArgs false
namespace Go.Proofs.YtogfcfgfkggmlaaGreatDoor.Eng.U
open Go Go.Proofs Go.Proofs.YtogfcfgfkggmlaaGreatDoor.Eng Go.Proofs.YtogfcfgfkggmlaaGreatDoor.Eng.Rdv

def G_flowOutcome (o : Outc) : Prop := OutR o
def InU (n : Int) : Prop := 0 ≤ n ∧ n ≤ 255
theorem rdu {t : TypeId} (hu : Tryz.prog.underlying t = some (.int .u8)) (hc : Tryz.prog.cellsOf t = 1) : Rd Tryz.prog t (fun n : Int => [.int .u8 n]) InU := weaken (int (k := .u8) hu hc) fun n h => by
  simpa [IntKind.min, IntKind.max, IntKind.signed, IntKind.bits, InU] using h
def encF (p : Int × Int) : List AV := [.int .u8 p.1, .int .i64 p.2]
def encR (p : Int × Int) : List AV := [.int .i64 p.1, .int .i64 p.2]
theorem rd_fault : Rd Tryz.prog 82 encF (fun p => InU p.1 ∧ InR p.2) :=
  weaken (struct (P := Tryz.prog) (t := 82) Tryz.underlying82 rfl (by kernel_rfl) (by kernel_rfl)
    (iso encF (fun p : Int × Int => (p.1, p.2)) (fun y => (y.1, y.2)) (fun _ => rfl) (fun _ => rfl)
      (cons (rdu (by kernel_rfl) (by kernel_rfl)) (Rdv.one (rdi (by kernel_rfl) (by kernel_rfl)))))) (fun _ h => ⟨h.1, h.2⟩)
theorem rd_report : Rd Tryz.prog 84 encR (fun p => InR p.1 ∧ InR p.2) :=
  weaken (struct (P := Tryz.prog) (t := 84) Tryz.underlying84 rfl (by kernel_rfl) (by kernel_rfl)
    (iso encR (fun p : Int × Int => (p.1, p.2)) (fun y => (y.1, y.2)) (fun _ => rfl) (fun _ => rfl)
      (cons (rdi (by kernel_rfl) (by kernel_rfl)) (Rdv.one (rdi (by kernel_rfl) (by kernel_rfl)))))) (fun _ h => ⟨h.1, h.2⟩)
theorem rd_out : Rd Tryz.prog 86 encOut G_flowOutcome :=
  weaken (struct (P := Tryz.prog) (t := 86) Tryz.underlying86 rfl (by kernel_rfl) (by kernel_rfl)
    (iso encOut (fun o : Outc => (o.code, (o.fcode, o.block), (o.item, o.field), o.items, o.most))
      (fun y => ⟨y.1, y.2.1.1, y.2.1.2, y.2.2.1.1, y.2.2.1.2, y.2.2.2.1, y.2.2.2.2⟩) (fun _ => rfl) (fun _ => rfl)
      (cons (rdu (by kernel_rfl) (by kernel_rfl)) (cons rd_fault (cons rd_report (cons (rdi (by kernel_rfl) (by kernel_rfl)) (Rdv.one (rdi (by kernel_rfl) (by kernel_rfl))))))))) (fun o g =>
      ⟨g.1, g.2.1.2, g.2.2.1.1, g.2.2.1.2, g.2.2.2.1⟩)
end Go.Proofs.YtogfcfgfkggmlaaGreatDoor.Eng.U


/- What functions answer, as the engine evaluates their code. Printed by gen2.py. -/
set_option linter.unusedVariables false
namespace Go.Proofs.YtogfcfgfkggmlaaGreatDoor.Eng.U
open Go Go.Proofs Go.Proofs.YtogfcfgfkggmlaaGreatDoor.Eng
/- oakum/oakumref20.Head -/
end Go.Proofs.YtogfcfgfkggmlaaGreatDoor.Eng.U


/- Words and heads by the definition (ref20), in plain words. Written by gen/u20r.py. -/
set_option linter.unusedVariables false
set_option linter.unusedSectionVars false
set_option linter.unusedSimpArgs false
namespace Go.Proofs.YtogfcfgfkggmlaaGreatDoor.Eng.U
open Go Go.Proofs Go.Proofs.YtogfcfgfkggmlaaGreatDoor.Eng Go.Proofs.YtogfcfgfkggmlaaGreatDoor.P04
variable {E : Ext} [Core E] [HasNum E] {k n k0 kk : Nat}

def textR (w : Tx) : Tx := (textO w).getD []
/-- The texts of the words from a place on, but for two; whether all are such. -/
def textsGo : List Tx → Nat → List Tx
  | [], _ => []
  | w :: l, i => if i = 8 ∨ i = 9 then textsGo l (i + 1) else textR w :: textsGo l (i + 1)
def pairs2 : List Tx → List Pair
  | a :: b :: l => ⟨a, b⟩ :: pairs2 l
  | _ => []
end Go.Proofs.YtogfcfgfkggmlaaGreatDoor.Eng.U


/- TaleHeads in plain words: the definition's head of any text, beside the program's. -/
set_option linter.unusedVariables false
set_option linter.unusedSectionVars false
set_option linter.unusedSimpArgs false
namespace Go.Proofs.YtogfcfgfkggmlaaGreatDoor.Eng.U
open Go Go.Proofs Go.Proofs.YtogfcfgfkggmlaaGreatDoor.Eng Go.Proofs.YtogfcfgfkggmlaaGreatDoor.P04
variable {E : Ext} [Core E] [HasNum E] {k n k0 kk : Nat}

def tR (ws : List Tx) : List Tx := textsGo (ws.drop 6) 6
def hR (ws : List Tx) : Head := ⟨numGo kindsL 0 (W 0 ws) 0, W 2 (tR ws), W 3 (tR ws), numW (W 1 ws), numW (W 2 ws), numW (W 3 ws), numW (W 4 ws), (timeV (W 5 ws)).1, (timeV (W 5 ws)).2, W 0 (tR ws), W 1 (tR ws), numW (W 8 ws), numW (W 9 ws), pairs2 ((tR ws).drop 4)⟩
end Go.Proofs.YtogfcfgfkggmlaaGreatDoor.Eng.U


/- TaleLines, TaleBack over the given functions. -/
set_option linter.unusedVariables false
namespace Go.Proofs.YtogfcfgfkggmlaaGreatDoor.Eng.U
open Go Go.Proofs Go.Proofs.YtogfcfgfkggmlaaGreatDoor.Eng
theorem outcomes20 (o : Outc) (v : Int) (s : List UInt8) (go : G_flowOutcome o) (gv : -9223372036854775808 ≤ v ∧ v ≤ 9223372036854775807) (gs : s.length ≤ 140737488351232) : (bs ext20 10000000000000).kap 23 law20_TaleOutcomes [.agg (encOut o), .int .i64 v, .str (str s)] = some (.bool true) :=
  taleOutcomes_true (E := ext20) (n := 0) (kk := 9999999999994) o go v s (by omega)
end Go.Proofs.YtogfcfgfkggmlaaGreatDoor.Eng.U

