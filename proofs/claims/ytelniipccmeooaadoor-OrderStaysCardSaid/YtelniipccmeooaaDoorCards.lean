/-
  DERIVED. GIVEN WITH THE SEED: THE CARDS: each row of YtelniipccmeooaaDoorRows.lean that lists a variable, with what it lists TIED to the program's text (the seventh form; the later family's looks); each row that meets fmt, with fmt's text TOLD by the authors' own Lean function (tested against real Go, not proved from fmt's source: count such statements apart). THE CARD IS WHAT COUNTS. Prove the row's statement (the work); the ties are given (YtelniipccmeooaaDoorTie.lean); close each card by the builder's one call (the guide's Derived/Test/ToyasCard.lean, 'card_holds'). Laid BY PROGRAM, IN A SANDBOX (cutbox-door.mjs). By AI agents, Wed Nov 11 2026. No macro, syntax, notation, axiom, sorry.
-/
import Derived.Test.YtelniipccmeooaaDoorRows
import GoSem.ClaimSeven
namespace Go.Proofs.YtelniipccmeooaaDoor
namespace Rows

/-- THE TIED CARD OF 'oakumlaw05.UtfLooks'. -/
def utfLooksCard : Claim7 := { stood := { row := utfLooksRow, standIns := [], harness := (true, "cb559fb08a426e7321609e5d3712f8910eeb979d7d0becd2094540a7a112f623"), looks := false }, kinds := [], alts := [], laidByText := true, laidKinds := [.data, .pinned], laidTests := true, laidLooks := .later }
def UtfLooksCardSaid : Prop := Claim7.holds Tryd.pinned (.plain (OpenSpec.ofChange utfLooksSpec)) utfLooksCard

/-- THE TIED CARD OF 'oakumlaw05.UtfMends'. -/
def utfMendsCard : Claim7 := { stood := { row := utfMendsRow, standIns := [], harness := (true, "cb559fb08a426e7321609e5d3712f8910eeb979d7d0becd2094540a7a112f623"), looks := false }, kinds := [], alts := [], laidByText := true, laidKinds := [.data, .pinned], laidTests := true, laidLooks := .later }
def UtfMendsCardSaid : Prop := Claim7.holds Tryd.pinned (.plain (OpenSpec.ofChange utfMendsSpec)) utfMendsCard

/-- THE TIED CARD OF 'oakumlaw05.UtfAgain'. -/
def utfAgainCard : Claim7 := { stood := { row := utfAgainRow, standIns := [], harness := (true, "cb559fb08a426e7321609e5d3712f8910eeb979d7d0becd2094540a7a112f623"), looks := false }, kinds := [], alts := [], laidByText := true, laidKinds := [.data, .pinned], laidTests := true, laidLooks := .later }
def UtfAgainCardSaid : Prop := Claim7.holds Tryd.pinned (.plain (OpenSpec.ofChange utfAgainSpec)) utfAgainCard

/-- THE TIED CARD OF 'oakumlaw24.PathForms'. -/
def pathFormsCard : Claim7 := { stood := { row := pathFormsRow, standIns := [], harness := (true, "cb559fb08a426e7321609e5d3712f8910eeb979d7d0becd2094540a7a112f623"), looks := false }, kinds := [], alts := [], laidByText := true, laidKinds := [.data, .pinned], laidTests := true, laidLooks := .later }
def PathFormsCardSaid : Prop := Claim7.holds Tryd.pinned (.plain (OpenSpec.ofChange pathFormsSpec)) pathFormsCard

/-- THE TIED CARD OF 'oakumlaw24.PathPairs'. -/
def pathPairsCard : Claim7 := { stood := { row := pathPairsRow, standIns := [], harness := (true, "cb559fb08a426e7321609e5d3712f8910eeb979d7d0becd2094540a7a112f623"), looks := false }, kinds := [], alts := [], laidByText := true, laidKinds := [.data, .pinned], laidTests := true, laidLooks := .later }
def PathPairsCardSaid : Prop := Claim7.holds Tryd.pinned (.plain (OpenSpec.ofChange pathPairsSpec)) pathPairsCard

/-- THE TIED CARD OF 'oakumlaw24.PathStays'. -/
def pathStaysCard : Claim7 := { stood := { row := pathStaysRow, standIns := [], harness := (true, "cb559fb08a426e7321609e5d3712f8910eeb979d7d0becd2094540a7a112f623"), looks := false }, kinds := [], alts := [], laidByText := true, laidKinds := [.data, .pinned], laidTests := true, laidLooks := .later }
def PathStaysCardSaid : Prop := Claim7.holds Tryd.pinned (.plain (OpenSpec.ofChange pathStaysSpec)) pathStaysCard

/-- THE TIED CARD OF 'oakumlaw40.OrderSorts'. -/
def orderSortsCard : Claim7 := { stood := { row := orderSortsRow, standIns := [], harness := (true, "cb559fb08a426e7321609e5d3712f8910eeb979d7d0becd2094540a7a112f623"), looks := false }, kinds := [], alts := [], laidByText := true, laidKinds := [.data, .pinned], laidTests := true, laidLooks := .later }
def OrderSortsCardSaid : Prop := Claim7.holds Tryd.pinned (.plain (OpenSpec.ofChange orderSortsSpec)) orderSortsCard

/-- THE TIED CARD OF 'oakumlaw40.OrderStays'. -/
def orderStaysCard : Claim7 := { stood := { row := orderStaysRow, standIns := [], harness := (true, "cb559fb08a426e7321609e5d3712f8910eeb979d7d0becd2094540a7a112f623"), looks := false }, kinds := [], alts := [], laidByText := true, laidKinds := [.data, .pinned], laidTests := true, laidLooks := .later }
def OrderStaysCardSaid : Prop := Claim7.holds Tryd.pinned (.plain (OpenSpec.ofChange orderStaysSpec)) orderStaysCard

/-- THE SECOND FORM's CARD OF 'oakumlaw05.UtfLooks'. -/
def utfLooksUptoCard : Claim7 := { stood := { row := utfLooksUptoRow, standIns := [], harness := (true, "cb559fb08a426e7321609e5d3712f8910eeb979d7d0becd2094540a7a112f623"), looks := false }, kinds := [], alts := [], laidByText := true, laidKinds := [.data, .pinned], laidTests := true, laidLooks := .later }
def UtfLooksUptoCardSaid : Prop := Claim7.holds Tryd.pinned (.plain (OpenSpec.upto utfLooksSpec)) utfLooksUptoCard

/-- THE SECOND FORM's CARD OF 'oakumlaw05.UtfMends'. -/
def utfMendsUptoCard : Claim7 := { stood := { row := utfMendsUptoRow, standIns := [], harness := (true, "cb559fb08a426e7321609e5d3712f8910eeb979d7d0becd2094540a7a112f623"), looks := false }, kinds := [], alts := [], laidByText := true, laidKinds := [.data, .pinned], laidTests := true, laidLooks := .later }
def UtfMendsUptoCardSaid : Prop := Claim7.holds Tryd.pinned (.plain (OpenSpec.upto utfMendsSpec)) utfMendsUptoCard

/-- THE SECOND FORM's CARD OF 'oakumlaw05.UtfAgain'. -/
def utfAgainUptoCard : Claim7 := { stood := { row := utfAgainUptoRow, standIns := [], harness := (true, "cb559fb08a426e7321609e5d3712f8910eeb979d7d0becd2094540a7a112f623"), looks := false }, kinds := [], alts := [], laidByText := true, laidKinds := [.data, .pinned], laidTests := true, laidLooks := .later }
def UtfAgainUptoCardSaid : Prop := Claim7.holds Tryd.pinned (.plain (OpenSpec.upto utfAgainSpec)) utfAgainUptoCard

/-- THE SECOND FORM's CARD OF 'oakumlaw24.PathForms'. -/
def pathFormsUptoCard : Claim7 := { stood := { row := pathFormsUptoRow, standIns := [], harness := (true, "cb559fb08a426e7321609e5d3712f8910eeb979d7d0becd2094540a7a112f623"), looks := false }, kinds := [], alts := [], laidByText := true, laidKinds := [.data, .pinned], laidTests := true, laidLooks := .later }
def PathFormsUptoCardSaid : Prop := Claim7.holds Tryd.pinned (.plain (OpenSpec.upto pathFormsSpec)) pathFormsUptoCard

/-- THE SECOND FORM's CARD OF 'oakumlaw24.PathPairs'. -/
def pathPairsUptoCard : Claim7 := { stood := { row := pathPairsUptoRow, standIns := [], harness := (true, "cb559fb08a426e7321609e5d3712f8910eeb979d7d0becd2094540a7a112f623"), looks := false }, kinds := [], alts := [], laidByText := true, laidKinds := [.data, .pinned], laidTests := true, laidLooks := .later }
def PathPairsUptoCardSaid : Prop := Claim7.holds Tryd.pinned (.plain (OpenSpec.upto pathPairsSpec)) pathPairsUptoCard

/-- THE SECOND FORM's CARD OF 'oakumlaw24.PathStays'. -/
def pathStaysUptoCard : Claim7 := { stood := { row := pathStaysUptoRow, standIns := [], harness := (true, "cb559fb08a426e7321609e5d3712f8910eeb979d7d0becd2094540a7a112f623"), looks := false }, kinds := [], alts := [], laidByText := true, laidKinds := [.data, .pinned], laidTests := true, laidLooks := .later }
def PathStaysUptoCardSaid : Prop := Claim7.holds Tryd.pinned (.plain (OpenSpec.upto pathStaysSpec)) pathStaysUptoCard

/-- THE SECOND FORM's CARD OF 'oakumlaw40.OrderSorts'. -/
def orderSortsUptoCard : Claim7 := { stood := { row := orderSortsUptoRow, standIns := [], harness := (true, "cb559fb08a426e7321609e5d3712f8910eeb979d7d0becd2094540a7a112f623"), looks := false }, kinds := [], alts := [], laidByText := true, laidKinds := [.data, .pinned], laidTests := true, laidLooks := .later }
def OrderSortsUptoCardSaid : Prop := Claim7.holds Tryd.pinned (.plain (OpenSpec.upto orderSortsSpec)) orderSortsUptoCard

/-- THE SECOND FORM's CARD OF 'oakumlaw40.OrderStays'. -/
def orderStaysUptoCard : Claim7 := { stood := { row := orderStaysUptoRow, standIns := [], harness := (true, "cb559fb08a426e7321609e5d3712f8910eeb979d7d0becd2094540a7a112f623"), looks := false }, kinds := [], alts := [], laidByText := true, laidKinds := [.data, .pinned], laidTests := true, laidLooks := .later }
def OrderStaysUptoCardSaid : Prop := Claim7.holds Tryd.pinned (.plain (OpenSpec.upto orderStaysSpec)) orderStaysUptoCard
end Rows
end Go.Proofs.YtelniipccmeooaaDoor
