/-
  No cell of these rows narrows 'for every input' (looked for: loops, veiled, ifaces, maps, wideKeys, modest, calm, conditions, laid).
  DERIVED. THE GIVEN ROWS OF THIS SEAT. 4 by the template 'for every input the law returns true; each argument reads behind the call as it read before'; 0 by the template 'total and deterministic' (their statements: YtelniipccmeooaaTotals.lean).
  GIVEN WITH THE SEED: the statements are not yours to turn. If you find one false, say at which input.
  Laid BY PROGRAM, IN A SANDBOX (cutbox-rows.mjs): the forced cells as the released guide's own fill.sh prints them over the translation 4c06772da6914a86… (all of the seat's roots in one cut). By AI agents, Wed Nov 11 2026. No macro, syntax, notation, axiom, sorry.
-/
import Derived.Test.YtelniipccmeooaaChecked
import GoSem.Claim
import GoSem.ClaimJoined
import GoSem.ClaimMapViews
import Derived.JoinedTies
import Derived.KernelRfl
namespace Go.Proofs.Ytelniipccmeooaa
/- THE CELL 'sum', in the pinned program and in every row, IS THE sha256 OF THE DUMP (.gsa) THAT YtelniipccmeooaaProg.lean LOADS. Nothing in Lean hashes anything: it is a label: what it is worth is what the hold of that sum in a sandbox is worth. -/
noncomputable def Try.pinned : Pinned := { name := "ytelniipccmeooaa", sum := "4c06772da6914a86bafd021ed6ec21c86c251f095dd0ffe6909de77e4eef3b26", checked := Try.checked }
namespace Rows
def none {H : Type} : Left H := { results := [], args := [] }

/-- 'oakumlaw36.SparseMaps': WHATEVER THE INPUT: true; the input reads as it did. -/
def sparseMapsSpec : ChangeSpec := { name := "sparseMaps", fn := fun _ => fun
  | [d] => { results := [.lit (.bool true)], args := [d] }
  | _ => none }
def sparseMapsRow : OpenClaim := { program := "ytelniipccmeooaa", sum := "4c06772da6914a86bafd021ed6ec21c86c251f095dd0ffe6909de77e4eef3b26", func := "oakum/oakumlaw36.SparseMaps", spec := "sparseMaps", apart := false }
def SparseMapsSaid : Prop := sparseMapsRow.holds Try.pinned (OpenSpec.ofChange sparseMapsSpec)

/-- ITS FALSE NEIGHBOUR: 'it returns false'. Refute it at one input. -/
def sparseMapsWrong : ChangeSpec := { name := "sparseMaps", fn := fun _ => fun
  | [d] => { results := [.lit (.bool false)], args := [d] }
  | _ => none }
def SparseMapsWrongFalsely : Prop := sparseMapsRow.holds Try.pinned (OpenSpec.ofChange sparseMapsWrong)

/-- 'oakumlaw09.ItemKinds': WHATEVER THE INPUT: true; the input reads as it did. -/
def itemKindsSpec : ChangeSpec := { name := "itemKinds", fn := fun _ => fun
  | [d1, d2, d3] => { results := [.lit (.bool true)], args := [d1, d2, d3] }
  | _ => none }
def itemKindsRow : OpenClaim := { program := "ytelniipccmeooaa", sum := "4c06772da6914a86bafd021ed6ec21c86c251f095dd0ffe6909de77e4eef3b26", func := "oakum/oakumlaw09.ItemKinds", spec := "itemKinds", apart := false }
def ItemKindsSaid : Prop := itemKindsRow.holds Try.pinned (OpenSpec.ofChange itemKindsSpec)

/-- ITS FALSE NEIGHBOUR: 'it returns false'. Refute it at one input. -/
def itemKindsWrong : ChangeSpec := { name := "itemKinds", fn := fun _ => fun
  | [d1, d2, d3] => { results := [.lit (.bool false)], args := [d1, d2, d3] }
  | _ => none }
def ItemKindsWrongFalsely : Prop := itemKindsRow.holds Try.pinned (OpenSpec.ofChange itemKindsWrong)

/-- 'oakumlaw32.CrcSums': WHATEVER THE INPUT: true; the input reads as it did. -/
def crcSumsSpec : ChangeSpec := { name := "crcSums", fn := fun _ => fun
  | [d1, d2, d3] => { results := [.lit (.bool true)], args := [d1, d2, d3] }
  | _ => none }
def crcSumsRow : OpenClaim := { program := "ytelniipccmeooaa", sum := "4c06772da6914a86bafd021ed6ec21c86c251f095dd0ffe6909de77e4eef3b26", func := "oakum/oakumlaw32.CrcSums", spec := "crcSums", apart := false }
def CrcSumsSaid : Prop := crcSumsRow.holds Try.pinned (OpenSpec.ofChange crcSumsSpec)

/-- ITS FALSE NEIGHBOUR: 'it returns false'. Refute it at one input. -/
def crcSumsWrong : ChangeSpec := { name := "crcSums", fn := fun _ => fun
  | [d1, d2, d3] => { results := [.lit (.bool false)], args := [d1, d2, d3] }
  | _ => none }
def CrcSumsWrongFalsely : Prop := crcSumsRow.holds Try.pinned (OpenSpec.ofChange crcSumsWrong)

/-- 'oakumlaw09.ItemSame': WHATEVER THE INPUT: true; the input reads as it did. -/
def itemSameSpec : ChangeSpec := { name := "itemSame", fn := fun _ => fun
  | [d1, d2] => { results := [.lit (.bool true)], args := [d1, d2] }
  | _ => none }
def itemSameRow : OpenClaim := { program := "ytelniipccmeooaa", sum := "4c06772da6914a86bafd021ed6ec21c86c251f095dd0ffe6909de77e4eef3b26", func := "oakum/oakumlaw09.ItemSame", spec := "itemSame", apart := false }
def ItemSameSaid : Prop := itemSameRow.holds Try.pinned (OpenSpec.ofChange itemSameSpec)

/-- ITS FALSE NEIGHBOUR: 'it returns false'. Refute it at one input. -/
def itemSameWrong : ChangeSpec := { name := "itemSame", fn := fun _ => fun
  | [d1, d2] => { results := [.lit (.bool false)], args := [d1, d2] }
  | _ => none }
def ItemSameWrongFalsely : Prop := itemSameRow.holds Try.pinned (OpenSpec.ofChange itemSameWrong)

/- THE SECOND FORM. 'bulk': how many values and letters a reading holds, each counted each time it is reached (what is shared counts as often as it is met; a slice's spare places count too). A statement '..UptoSaid' is the law's where the arguments, and the package variables that the reading takes, are together of bulk at most 1048576: NARROWER than '..Said'. Prove '..Said' where nothing that the law and all that it calls make is longer than what came in: it says more and counts as full. Else prove '..UptoSaid'. A law counts once. -/
mutual
def uptoBulk {H : Type} : DataW H → Nat
  | .lit (.string bytes) => bytes.length + 1
  | .lit _ => 1
  | .nil => 1
  | .ptr d => uptoBulk d + 1
  | .slice elems spare => uptoBulkAll elems + uptoBulkAll spare + 1
  | .agg parts => uptoBulkAll parts + 1
  | .iface _ d => uptoBulk d + 1
  | .map entries => uptoBulkEntries entries + 1
  | .held _ => 1
def uptoBulkAll {H : Type} : List (DataW H) → Nat
  | [] => 0
  | d :: r => uptoBulk d + uptoBulkAll r
def uptoBulkEntries {H : Type} : List (Lit × DataW H) → Nat
  | [] => 0
  | x :: r => uptoBulkEntry x + uptoBulkEntries r
def uptoBulkEntry {H : Type} : Lit × DataW H → Nat
  | (.string bytes, d) => bytes.length + uptoBulk d + 1
  | (_, d) => uptoBulk d + 1
 end
def uptoSmall : (H : Type) → List (DataW H) → Bool := fun _ ds => decide (uptoBulkAll ds ≤ 1048576)
def OpenSpec.upto (s : _root_.Go.ChangeSpec) : _root_.Go.OpenSpec := { _root_.Go.OpenSpec.ofChange s with cond := some uptoSmall }

/-- 'oakumlaw36.SparseMaps', WHERE WHAT IT READS IS OF BULK AT MOST 1048576: true; the input reads as it did. -/
def sparseMapsUptoRow : OpenClaim := { program := "ytelniipccmeooaa", sum := "4c06772da6914a86bafd021ed6ec21c86c251f095dd0ffe6909de77e4eef3b26", func := "oakum/oakumlaw36.SparseMaps", spec := "sparseMaps", apart := false, narrowed := true }
def SparseMapsUptoSaid : Prop := sparseMapsUptoRow.holds Try.pinned (OpenSpec.upto sparseMapsSpec)

/-- 'oakumlaw09.ItemKinds', WHERE WHAT IT READS IS OF BULK AT MOST 1048576: true; the input reads as it did. -/
def itemKindsUptoRow : OpenClaim := { program := "ytelniipccmeooaa", sum := "4c06772da6914a86bafd021ed6ec21c86c251f095dd0ffe6909de77e4eef3b26", func := "oakum/oakumlaw09.ItemKinds", spec := "itemKinds", apart := false, narrowed := true }
def ItemKindsUptoSaid : Prop := itemKindsUptoRow.holds Try.pinned (OpenSpec.upto itemKindsSpec)

/-- 'oakumlaw32.CrcSums', WHERE WHAT IT READS IS OF BULK AT MOST 1048576: true; the input reads as it did. -/
def crcSumsUptoRow : OpenClaim := { program := "ytelniipccmeooaa", sum := "4c06772da6914a86bafd021ed6ec21c86c251f095dd0ffe6909de77e4eef3b26", func := "oakum/oakumlaw32.CrcSums", spec := "crcSums", apart := false, narrowed := true }
def CrcSumsUptoSaid : Prop := crcSumsUptoRow.holds Try.pinned (OpenSpec.upto crcSumsSpec)

/-- 'oakumlaw09.ItemSame', WHERE WHAT IT READS IS OF BULK AT MOST 1048576: true; the input reads as it did. -/
def itemSameUptoRow : OpenClaim := { program := "ytelniipccmeooaa", sum := "4c06772da6914a86bafd021ed6ec21c86c251f095dd0ffe6909de77e4eef3b26", func := "oakum/oakumlaw09.ItemSame", spec := "itemSame", apart := false, narrowed := true }
def ItemSameUptoSaid : Prop := itemSameUptoRow.holds Try.pinned (OpenSpec.upto itemSameSpec)

end Rows
end Go.Proofs.Ytelniipccmeooaa
