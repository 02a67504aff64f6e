/-
  NARROWER THAN 'FOR EVERY INPUT', by the rows' own cells (each row's printed sentence says how): UtfLooks: laid · UtfMends: laid · UtfAgain: laid · PathForms: laid · PathPairs: laid · PathStays: laid · OrderSorts: laid · OrderStays: laid.
  DERIVED. THE GIVEN ROWS OF THIS SEAT. 8 by the template 'for every input the law returns true; each argument reads behind the call as it read before'; 0 by the template 'total and deterministic' (their statements: YtelniipccmeooaaDoorTotals.lean).
  GIVEN WITH THE SEED: the statements are not yours to turn. If you find one false, say at which input.
  Laid BY PROGRAM, IN A SANDBOX (cutbox-rows.mjs): the forced cells as the released guide's own fill.sh prints them over the translation 1e0c1436918637be… (all of the seat's roots in one cut). By AI agents, Wed Nov 11 2026. No macro, syntax, notation, axiom, sorry.
-/
import Derived.Test.YtelniipccmeooaaDoorChecked
import GoSem.PinnedTables
import GoSem.Claim
import GoSem.ClaimJoined
import GoSem.ClaimMapViews
import Derived.JoinedTies
import Derived.KernelRfl
namespace Go.Proofs.YtelniipccmeooaaDoor
/- THE CELL 'sum', in the pinned program and in every row, IS THE sha256 OF THE DUMP (.gsa) THAT YtelniipccmeooaaDoorProg.lean LOADS. Nothing in Lean hashes anything: it is a label: what it is worth is what the hold of that sum in a sandbox is worth. -/
noncomputable def Tryd.pinned : Pinned := { name := "ytelniipccmeooaadoor", sum := "1e0c1436918637be51b6be9c20a1cc3fc7dc1a213a222bf388e6e8ccd1f028f3", checked := Tryd.checked }
namespace Rows
def none {H : Type} : Left H := { results := [], args := [] }

/- WHAT THE LISTED PACKAGE-LEVEL VARIABLES READ AS WHEN THE CALL BEGINS. Each datum BY PROGRAM (the guide's laid-datum.mjs) off the statement by which the dump's own 'gosem.cut.vars' lays the variable. In a bare row this is a premise. The card (YtelniipccmeooaaDoorCards.lean) ties it to the program's text. -/
def laid_unicode_utf8_acceptRanges {H : Type} : DataW H := .agg [.agg [.lit (.int .u8 128), .lit (.int .u8 191)], .agg [.lit (.int .u8 160), .lit (.int .u8 191)], .agg [.lit (.int .u8 128), .lit (.int .u8 159)], .agg [.lit (.int .u8 144), .lit (.int .u8 191)], .agg [.lit (.int .u8 128), .lit (.int .u8 143)], .agg [.lit (.int .u8 0), .lit (.int .u8 0)], .agg [.lit (.int .u8 0), .lit (.int .u8 0)], .agg [.lit (.int .u8 0), .lit (.int .u8 0)], .agg [.lit (.int .u8 0), .lit (.int .u8 0)], .agg [.lit (.int .u8 0), .lit (.int .u8 0)], .agg [.lit (.int .u8 0), .lit (.int .u8 0)], .agg [.lit (.int .u8 0), .lit (.int .u8 0)], .agg [.lit (.int .u8 0), .lit (.int .u8 0)], .agg [.lit (.int .u8 0), .lit (.int .u8 0)], .agg [.lit (.int .u8 0), .lit (.int .u8 0)], .agg [.lit (.int .u8 0), .lit (.int .u8 0)]]
/-- One of Go's own tables, pinned by name: the form's constant. -/
def laid_unicode_utf8_first : DataW Unit := Go.Pinned.utf8First

/-- 'oakumlaw05.UtfLooks': WHATEVER THE INPUT: true; the input reads as it did. -/
def utfLooksSpec : ChangeSpec := { name := "utfLooks", fn := fun _ => fun
  | [d] => { results := [.lit (.bool true)], args := [d] }
  | _ => none }
def utfLooksRow : OpenClaim := { program := "ytelniipccmeooaadoor", sum := "1e0c1436918637be51b6be9c20a1cc3fc7dc1a213a222bf388e6e8ccd1f028f3", func := "oakum/oakumlaw05.UtfLooks", spec := "utfLooks", inPlace := ["internal/abi.NoEscape"], named := ["unicode/utf8.first", "unicode/utf8.acceptRanges"], apart := false, laid := [("unicode/utf8.acceptRanges", laid_unicode_utf8_acceptRanges), ("unicode/utf8.first", laid_unicode_utf8_first)] }
def UtfLooksSaid : Prop := utfLooksRow.holds Tryd.pinned (OpenSpec.ofChange utfLooksSpec)

/-- ITS FALSE NEIGHBOUR: 'it returns false'. Refute it at one input. -/
def utfLooksWrong : ChangeSpec := { name := "utfLooks", fn := fun _ => fun
  | [d] => { results := [.lit (.bool false)], args := [d] }
  | _ => none }
def UtfLooksWrongFalsely : Prop := utfLooksRow.holds Tryd.pinned (OpenSpec.ofChange utfLooksWrong)

/-- 'oakumlaw05.UtfMends': WHATEVER THE INPUT: true; the input reads as it did. -/
def utfMendsSpec : ChangeSpec := { name := "utfMends", fn := fun _ => fun
  | [d1, d2] => { results := [.lit (.bool true)], args := [d1, d2] }
  | _ => none }
def utfMendsRow : OpenClaim := { program := "ytelniipccmeooaadoor", sum := "1e0c1436918637be51b6be9c20a1cc3fc7dc1a213a222bf388e6e8ccd1f028f3", func := "oakum/oakumlaw05.UtfMends", spec := "utfMends", inPlace := ["internal/abi.NoEscape"], named := ["unicode/utf8.first", "unicode/utf8.acceptRanges"], apart := false, laid := [("unicode/utf8.acceptRanges", laid_unicode_utf8_acceptRanges), ("unicode/utf8.first", laid_unicode_utf8_first)] }
def UtfMendsSaid : Prop := utfMendsRow.holds Tryd.pinned (OpenSpec.ofChange utfMendsSpec)

/-- ITS FALSE NEIGHBOUR: 'it returns false'. Refute it at one input. -/
def utfMendsWrong : ChangeSpec := { name := "utfMends", fn := fun _ => fun
  | [d1, d2] => { results := [.lit (.bool false)], args := [d1, d2] }
  | _ => none }
def UtfMendsWrongFalsely : Prop := utfMendsRow.holds Tryd.pinned (OpenSpec.ofChange utfMendsWrong)

/-- 'oakumlaw05.UtfAgain': WHATEVER THE INPUT: true; the input reads as it did. -/
def utfAgainSpec : ChangeSpec := { name := "utfAgain", fn := fun _ => fun
  | [d1, d2] => { results := [.lit (.bool true)], args := [d1, d2] }
  | _ => none }
def utfAgainRow : OpenClaim := { program := "ytelniipccmeooaadoor", sum := "1e0c1436918637be51b6be9c20a1cc3fc7dc1a213a222bf388e6e8ccd1f028f3", func := "oakum/oakumlaw05.UtfAgain", spec := "utfAgain", inPlace := ["internal/abi.NoEscape"], named := ["unicode/utf8.first", "unicode/utf8.acceptRanges"], apart := false, laid := [("unicode/utf8.acceptRanges", laid_unicode_utf8_acceptRanges), ("unicode/utf8.first", laid_unicode_utf8_first)] }
def UtfAgainSaid : Prop := utfAgainRow.holds Tryd.pinned (OpenSpec.ofChange utfAgainSpec)

/-- ITS FALSE NEIGHBOUR: 'it returns false'. Refute it at one input. -/
def utfAgainWrong : ChangeSpec := { name := "utfAgain", fn := fun _ => fun
  | [d1, d2] => { results := [.lit (.bool false)], args := [d1, d2] }
  | _ => none }
def UtfAgainWrongFalsely : Prop := utfAgainRow.holds Tryd.pinned (OpenSpec.ofChange utfAgainWrong)

/-- 'oakumlaw24.PathForms': WHATEVER THE INPUT: true; the input reads as it did. -/
def pathFormsSpec : ChangeSpec := { name := "pathForms", fn := fun _ => fun
  | [d1, d2] => { results := [.lit (.bool true)], args := [d1, d2] }
  | _ => none }
def pathFormsRow : OpenClaim := { program := "ytelniipccmeooaadoor", sum := "1e0c1436918637be51b6be9c20a1cc3fc7dc1a213a222bf388e6e8ccd1f028f3", func := "oakum/oakumlaw24.PathForms", spec := "pathForms", inPlace := ["internal/bytealg.IndexByteString", "internal/bytealg.IndexString", "internal/abi.NoEscape", "internal/bytealg.MakeNoZero"], unfollowed := true, recurses := true, named := ["unicode/utf8.first", "unicode/utf8.acceptRanges", "internal/bytealg.MaxLen"], apart := false, laid := [("unicode/utf8.acceptRanges", laid_unicode_utf8_acceptRanges), ("unicode/utf8.first", laid_unicode_utf8_first)] }
def PathFormsSaid : Prop := pathFormsRow.holds Tryd.pinned (OpenSpec.ofChange pathFormsSpec)

/-- ITS FALSE NEIGHBOUR: 'it returns false'. Refute it at one input. -/
def pathFormsWrong : ChangeSpec := { name := "pathForms", fn := fun _ => fun
  | [d1, d2] => { results := [.lit (.bool false)], args := [d1, d2] }
  | _ => none }
def PathFormsWrongFalsely : Prop := pathFormsRow.holds Tryd.pinned (OpenSpec.ofChange pathFormsWrong)

/-- 'oakumlaw24.PathPairs': WHATEVER THE INPUT: true; the input reads as it did. -/
def pathPairsSpec : ChangeSpec := { name := "pathPairs", fn := fun _ => fun
  | [d1, d2] => { results := [.lit (.bool true)], args := [d1, d2] }
  | _ => none }
def pathPairsRow : OpenClaim := { program := "ytelniipccmeooaadoor", sum := "1e0c1436918637be51b6be9c20a1cc3fc7dc1a213a222bf388e6e8ccd1f028f3", func := "oakum/oakumlaw24.PathPairs", spec := "pathPairs", inPlace := ["internal/bytealg.IndexByteString", "internal/bytealg.IndexString", "internal/abi.NoEscape", "internal/bytealg.MakeNoZero"], unfollowed := true, recurses := true, named := ["unicode/utf8.first", "unicode/utf8.acceptRanges", "internal/bytealg.MaxLen"], apart := false, laid := [("unicode/utf8.acceptRanges", laid_unicode_utf8_acceptRanges), ("unicode/utf8.first", laid_unicode_utf8_first)] }
def PathPairsSaid : Prop := pathPairsRow.holds Tryd.pinned (OpenSpec.ofChange pathPairsSpec)

/-- ITS FALSE NEIGHBOUR: 'it returns false'. Refute it at one input. -/
def pathPairsWrong : ChangeSpec := { name := "pathPairs", fn := fun _ => fun
  | [d1, d2] => { results := [.lit (.bool false)], args := [d1, d2] }
  | _ => none }
def PathPairsWrongFalsely : Prop := pathPairsRow.holds Tryd.pinned (OpenSpec.ofChange pathPairsWrong)

/-- 'oakumlaw24.PathStays': WHATEVER THE INPUT: true; the input reads as it did. -/
def pathStaysSpec : ChangeSpec := { name := "pathStays", fn := fun _ => fun
  | [d1, d2] => { results := [.lit (.bool true)], args := [d1, d2] }
  | _ => none }
def pathStaysRow : OpenClaim := { program := "ytelniipccmeooaadoor", sum := "1e0c1436918637be51b6be9c20a1cc3fc7dc1a213a222bf388e6e8ccd1f028f3", func := "oakum/oakumlaw24.PathStays", spec := "pathStays", inPlace := ["internal/bytealg.IndexByteString", "internal/bytealg.IndexString", "internal/abi.NoEscape", "internal/bytealg.MakeNoZero"], unfollowed := true, recurses := true, named := ["unicode/utf8.first", "unicode/utf8.acceptRanges", "internal/bytealg.MaxLen"], apart := false, laid := [("unicode/utf8.acceptRanges", laid_unicode_utf8_acceptRanges), ("unicode/utf8.first", laid_unicode_utf8_first)] }
def PathStaysSaid : Prop := pathStaysRow.holds Tryd.pinned (OpenSpec.ofChange pathStaysSpec)

/-- ITS FALSE NEIGHBOUR: 'it returns false'. Refute it at one input. -/
def pathStaysWrong : ChangeSpec := { name := "pathStays", fn := fun _ => fun
  | [d1, d2] => { results := [.lit (.bool false)], args := [d1, d2] }
  | _ => none }
def PathStaysWrongFalsely : Prop := pathStaysRow.holds Tryd.pinned (OpenSpec.ofChange pathStaysWrong)

/-- 'oakumlaw40.OrderSorts': WHATEVER THE INPUT: true; the input reads as it did. -/
def orderSortsSpec : ChangeSpec := { name := "orderSorts", fn := fun _ => fun
  | [d1, d2, d3] => { results := [.lit (.bool true)], args := [d1, d2, d3] }
  | _ => none }
def orderSortsRow : OpenClaim := { program := "ytelniipccmeooaadoor", sum := "1e0c1436918637be51b6be9c20a1cc3fc7dc1a213a222bf388e6e8ccd1f028f3", func := "oakum/oakumlaw40.OrderSorts", spec := "orderSorts", inPlace := ["internal/bytealg.IndexByteString", "internal/bytealg.IndexString", "internal/abi.NoEscape", "internal/bytealg.MakeNoZero"], unfollowed := true, recurses := true, named := ["unicode/utf8.first", "unicode/utf8.acceptRanges", "internal/bytealg.MaxLen"], apart := false, laid := [("unicode/utf8.acceptRanges", laid_unicode_utf8_acceptRanges), ("unicode/utf8.first", laid_unicode_utf8_first)] }
def OrderSortsSaid : Prop := orderSortsRow.holds Tryd.pinned (OpenSpec.ofChange orderSortsSpec)

/-- ITS FALSE NEIGHBOUR: 'it returns false'. Refute it at one input. -/
def orderSortsWrong : ChangeSpec := { name := "orderSorts", fn := fun _ => fun
  | [d1, d2, d3] => { results := [.lit (.bool false)], args := [d1, d2, d3] }
  | _ => none }
def OrderSortsWrongFalsely : Prop := orderSortsRow.holds Tryd.pinned (OpenSpec.ofChange orderSortsWrong)

/-- 'oakumlaw40.OrderStays': WHATEVER THE INPUT: true; the input reads as it did. -/
def orderStaysSpec : ChangeSpec := { name := "orderStays", fn := fun _ => fun
  | [d] => { results := [.lit (.bool true)], args := [d] }
  | _ => none }
def orderStaysRow : OpenClaim := { program := "ytelniipccmeooaadoor", sum := "1e0c1436918637be51b6be9c20a1cc3fc7dc1a213a222bf388e6e8ccd1f028f3", func := "oakum/oakumlaw40.OrderStays", spec := "orderStays", inPlace := ["internal/bytealg.IndexByteString", "internal/bytealg.IndexString", "internal/abi.NoEscape", "internal/bytealg.MakeNoZero"], unfollowed := true, recurses := true, named := ["unicode/utf8.first", "unicode/utf8.acceptRanges", "internal/bytealg.MaxLen"], apart := false, laid := [("unicode/utf8.acceptRanges", laid_unicode_utf8_acceptRanges), ("unicode/utf8.first", laid_unicode_utf8_first)] }
def OrderStaysSaid : Prop := orderStaysRow.holds Tryd.pinned (OpenSpec.ofChange orderStaysSpec)

/-- ITS FALSE NEIGHBOUR: 'it returns false'. Refute it at one input. -/
def orderStaysWrong : ChangeSpec := { name := "orderStays", fn := fun _ => fun
  | [d] => { results := [.lit (.bool false)], args := [d] }
  | _ => none }
def OrderStaysWrongFalsely : Prop := orderStaysRow.holds Tryd.pinned (OpenSpec.ofChange orderStaysWrong)

/- THE SECOND FORM. 'bulk': how many values and letters a reading holds, each counted each time it is reached (what is shared counts as often as it is met; a slice's spare places count too). A statement '..UptoSaid' is the law's where the arguments, and the package variables that the reading takes, are together of bulk at most 1048576: NARROWER than '..Said'. Prove '..Said' where nothing that the law and all that it calls make is longer than what came in: it says more and counts as full. Else prove '..UptoSaid'. A law counts once. -/
mutual
def uptoBulk {H : Type} : DataW H → Nat
  | .lit (.string bytes) => bytes.length + 1
  | .lit _ => 1
  | .nil => 1
  | .ptr d => uptoBulk d + 1
  | .slice elems spare => uptoBulkAll elems + uptoBulkAll spare + 1
  | .agg parts => uptoBulkAll parts + 1
  | .iface _ d => uptoBulk d + 1
  | .map entries => uptoBulkEntries entries + 1
  | .held _ => 1
def uptoBulkAll {H : Type} : List (DataW H) → Nat
  | [] => 0
  | d :: r => uptoBulk d + uptoBulkAll r
def uptoBulkEntries {H : Type} : List (Lit × DataW H) → Nat
  | [] => 0
  | x :: r => uptoBulkEntry x + uptoBulkEntries r
def uptoBulkEntry {H : Type} : Lit × DataW H → Nat
  | (.string bytes, d) => bytes.length + uptoBulk d + 1
  | (_, d) => uptoBulk d + 1
 end
def uptoSmall : (H : Type) → List (DataW H) → Bool := fun _ ds => decide (uptoBulkAll ds ≤ 1048576)
def OpenSpec.upto (s : _root_.Go.ChangeSpec) : _root_.Go.OpenSpec := { _root_.Go.OpenSpec.ofChange s with cond := some uptoSmall }

/-- 'oakumlaw05.UtfLooks', WHERE WHAT IT READS IS OF BULK AT MOST 1048576: true; the input reads as it did. -/
def utfLooksUptoRow : OpenClaim := { program := "ytelniipccmeooaadoor", sum := "1e0c1436918637be51b6be9c20a1cc3fc7dc1a213a222bf388e6e8ccd1f028f3", func := "oakum/oakumlaw05.UtfLooks", spec := "utfLooks", inPlace := ["internal/abi.NoEscape"], named := ["unicode/utf8.first", "unicode/utf8.acceptRanges"], apart := false, laid := [("unicode/utf8.acceptRanges", laid_unicode_utf8_acceptRanges), ("unicode/utf8.first", laid_unicode_utf8_first)], narrowed := true }
def UtfLooksUptoSaid : Prop := utfLooksUptoRow.holds Tryd.pinned (OpenSpec.upto utfLooksSpec)

/-- 'oakumlaw05.UtfMends', WHERE WHAT IT READS IS OF BULK AT MOST 1048576: true; the input reads as it did. -/
def utfMendsUptoRow : OpenClaim := { program := "ytelniipccmeooaadoor", sum := "1e0c1436918637be51b6be9c20a1cc3fc7dc1a213a222bf388e6e8ccd1f028f3", func := "oakum/oakumlaw05.UtfMends", spec := "utfMends", inPlace := ["internal/abi.NoEscape"], named := ["unicode/utf8.first", "unicode/utf8.acceptRanges"], apart := false, laid := [("unicode/utf8.acceptRanges", laid_unicode_utf8_acceptRanges), ("unicode/utf8.first", laid_unicode_utf8_first)], narrowed := true }
def UtfMendsUptoSaid : Prop := utfMendsUptoRow.holds Tryd.pinned (OpenSpec.upto utfMendsSpec)

/-- 'oakumlaw05.UtfAgain', WHERE WHAT IT READS IS OF BULK AT MOST 1048576: true; the input reads as it did. -/
def utfAgainUptoRow : OpenClaim := { program := "ytelniipccmeooaadoor", sum := "1e0c1436918637be51b6be9c20a1cc3fc7dc1a213a222bf388e6e8ccd1f028f3", func := "oakum/oakumlaw05.UtfAgain", spec := "utfAgain", inPlace := ["internal/abi.NoEscape"], named := ["unicode/utf8.first", "unicode/utf8.acceptRanges"], apart := false, laid := [("unicode/utf8.acceptRanges", laid_unicode_utf8_acceptRanges), ("unicode/utf8.first", laid_unicode_utf8_first)], narrowed := true }
def UtfAgainUptoSaid : Prop := utfAgainUptoRow.holds Tryd.pinned (OpenSpec.upto utfAgainSpec)

/-- 'oakumlaw24.PathForms', WHERE WHAT IT READS IS OF BULK AT MOST 1048576: true; the input reads as it did. -/
def pathFormsUptoRow : OpenClaim := { program := "ytelniipccmeooaadoor", sum := "1e0c1436918637be51b6be9c20a1cc3fc7dc1a213a222bf388e6e8ccd1f028f3", func := "oakum/oakumlaw24.PathForms", spec := "pathForms", inPlace := ["internal/bytealg.IndexByteString", "internal/bytealg.IndexString", "internal/abi.NoEscape", "internal/bytealg.MakeNoZero"], unfollowed := true, recurses := true, named := ["unicode/utf8.first", "unicode/utf8.acceptRanges", "internal/bytealg.MaxLen"], apart := false, laid := [("unicode/utf8.acceptRanges", laid_unicode_utf8_acceptRanges), ("unicode/utf8.first", laid_unicode_utf8_first)], narrowed := true }
def PathFormsUptoSaid : Prop := pathFormsUptoRow.holds Tryd.pinned (OpenSpec.upto pathFormsSpec)

/-- 'oakumlaw24.PathPairs', WHERE WHAT IT READS IS OF BULK AT MOST 1048576: true; the input reads as it did. -/
def pathPairsUptoRow : OpenClaim := { program := "ytelniipccmeooaadoor", sum := "1e0c1436918637be51b6be9c20a1cc3fc7dc1a213a222bf388e6e8ccd1f028f3", func := "oakum/oakumlaw24.PathPairs", spec := "pathPairs", inPlace := ["internal/bytealg.IndexByteString", "internal/bytealg.IndexString", "internal/abi.NoEscape", "internal/bytealg.MakeNoZero"], unfollowed := true, recurses := true, named := ["unicode/utf8.first", "unicode/utf8.acceptRanges", "internal/bytealg.MaxLen"], apart := false, laid := [("unicode/utf8.acceptRanges", laid_unicode_utf8_acceptRanges), ("unicode/utf8.first", laid_unicode_utf8_first)], narrowed := true }
def PathPairsUptoSaid : Prop := pathPairsUptoRow.holds Tryd.pinned (OpenSpec.upto pathPairsSpec)

/-- 'oakumlaw24.PathStays', WHERE WHAT IT READS IS OF BULK AT MOST 1048576: true; the input reads as it did. -/
def pathStaysUptoRow : OpenClaim := { program := "ytelniipccmeooaadoor", sum := "1e0c1436918637be51b6be9c20a1cc3fc7dc1a213a222bf388e6e8ccd1f028f3", func := "oakum/oakumlaw24.PathStays", spec := "pathStays", inPlace := ["internal/bytealg.IndexByteString", "internal/bytealg.IndexString", "internal/abi.NoEscape", "internal/bytealg.MakeNoZero"], unfollowed := true, recurses := true, named := ["unicode/utf8.first", "unicode/utf8.acceptRanges", "internal/bytealg.MaxLen"], apart := false, laid := [("unicode/utf8.acceptRanges", laid_unicode_utf8_acceptRanges), ("unicode/utf8.first", laid_unicode_utf8_first)], narrowed := true }
def PathStaysUptoSaid : Prop := pathStaysUptoRow.holds Tryd.pinned (OpenSpec.upto pathStaysSpec)

/-- 'oakumlaw40.OrderSorts', WHERE WHAT IT READS IS OF BULK AT MOST 1048576: true; the input reads as it did. -/
def orderSortsUptoRow : OpenClaim := { program := "ytelniipccmeooaadoor", sum := "1e0c1436918637be51b6be9c20a1cc3fc7dc1a213a222bf388e6e8ccd1f028f3", func := "oakum/oakumlaw40.OrderSorts", spec := "orderSorts", inPlace := ["internal/bytealg.IndexByteString", "internal/bytealg.IndexString", "internal/abi.NoEscape", "internal/bytealg.MakeNoZero"], unfollowed := true, recurses := true, named := ["unicode/utf8.first", "unicode/utf8.acceptRanges", "internal/bytealg.MaxLen"], apart := false, laid := [("unicode/utf8.acceptRanges", laid_unicode_utf8_acceptRanges), ("unicode/utf8.first", laid_unicode_utf8_first)], narrowed := true }
def OrderSortsUptoSaid : Prop := orderSortsUptoRow.holds Tryd.pinned (OpenSpec.upto orderSortsSpec)

/-- 'oakumlaw40.OrderStays', WHERE WHAT IT READS IS OF BULK AT MOST 1048576: true; the input reads as it did. -/
def orderStaysUptoRow : OpenClaim := { program := "ytelniipccmeooaadoor", sum := "1e0c1436918637be51b6be9c20a1cc3fc7dc1a213a222bf388e6e8ccd1f028f3", func := "oakum/oakumlaw40.OrderStays", spec := "orderStays", inPlace := ["internal/bytealg.IndexByteString", "internal/bytealg.IndexString", "internal/abi.NoEscape", "internal/bytealg.MakeNoZero"], unfollowed := true, recurses := true, named := ["unicode/utf8.first", "unicode/utf8.acceptRanges", "internal/bytealg.MaxLen"], apart := false, laid := [("unicode/utf8.acceptRanges", laid_unicode_utf8_acceptRanges), ("unicode/utf8.first", laid_unicode_utf8_first)], narrowed := true }
def OrderStaysUptoSaid : Prop := orderStaysUptoRow.holds Tryd.pinned (OpenSpec.upto orderStaysSpec)

end Rows
end Go.Proofs.YtelniipccmeooaaDoor
