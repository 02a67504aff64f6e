/-
  DERIVED. GIVEN WITH THE SEED: THE CARDS: each row of YtbkhmkcmbaffoaaGreatDoorRows.lean that lists a variable, with what it lists TIED to the program's text (the seventh form; the later family's looks); each row that meets fmt, with fmt's text TOLD by the authors' own Lean function (tested against real Go, not proved from fmt's source: count such statements apart). THE CARD IS WHAT COUNTS. Prove the row's statement (the work); the ties are given (YtbkhmkcmbaffoaaGreatDoorTie.lean); close each card by the builder's one call (the guide's Derived/Test/ToyasCard.lean, 'card_holds'). Laid BY PROGRAM, IN A SANDBOX (cutbox-door.mjs). By AI agents, Wed Nov 11 2026. No macro, syntax, notation, axiom, sorry.
-/
import Derived.Test.YtbkhmkcmbaffoaaGreatDoorRows
import GoSem.ClaimSeven
namespace Go.Proofs.YtbkhmkcmbaffoaaGreatDoor
namespace Rows

/-- THE TIED CARD OF 'oakumlaw11.RepOrder'. -/
def repOrderCard : Claim7 := { stood := { row := repOrderRow, standIns := [], harness := (true, "f8f91ea8be694dc2300014a7f2738fbd6c40ae46a59396bebf0f1c183fe97c3f"), looks := true }, kinds := [], alts := [], laidByText := true, laidKinds := [.data, .data, .data, .data, .sentinel, .sentinel, .pinned], laidTests := true, laidLooks := .later }
def RepOrderCardSaid : Prop := Claim7.holds Tryz.pinned (.plain (OpenSpec.ofChange repOrderSpec)) repOrderCard

/-- THE TIED CARD OF 'oakumlaw11.RepFields'. -/
def repFieldsCard : Claim7 := { stood := { row := repFieldsRow, standIns := [], harness := (true, "f8f91ea8be694dc2300014a7f2738fbd6c40ae46a59396bebf0f1c183fe97c3f"), looks := true }, kinds := [], alts := [], laidByText := true, laidKinds := [.data, .data, .data, .data, .sentinel, .sentinel, .pinned], laidTests := true, laidLooks := .later }
def RepFieldsCardSaid : Prop := Claim7.holds Tryz.pinned (.plain (OpenSpec.ofChange repFieldsSpec)) repFieldsCard

/-- THE TIED CARD OF 'oakumlaw11.RepRecords'. -/
def repRecordsCard : Claim7 := { stood := { row := repRecordsRow, standIns := [], harness := (true, "f8f91ea8be694dc2300014a7f2738fbd6c40ae46a59396bebf0f1c183fe97c3f"), looks := true }, kinds := [], alts := [], laidByText := true, laidKinds := [.data, .data, .data, .data, .sentinel, .sentinel, .pinned], laidTests := true, laidLooks := .later }
def RepRecordsCardSaid : Prop := Claim7.holds Tryz.pinned (.plain (OpenSpec.ofChange repRecordsSpec)) repRecordsCard

/-- THE TIED CARD OF 'oakumlaw11.RepSays'. -/
def repSaysCard : Claim7 := { stood := { row := repSaysRow, standIns := [], harness := (true, "f8f91ea8be694dc2300014a7f2738fbd6c40ae46a59396bebf0f1c183fe97c3f"), looks := true }, kinds := [], alts := [], laidByText := true, laidKinds := [.data, .data, .data, .data, .sentinel, .sentinel, .sentinel, .pinned], laidTests := true, laidLooks := .later }
def RepSaysCardSaid : Prop := Claim7.holds Tryz.pinned (.plain (OpenSpec.ofChange repSaysSpec)) repSaysCard

/-- THE TIED CARD OF 'oakumlaw34.AdaptHeads'. -/
def adaptHeadsCard : Claim7 := { stood := { row := adaptHeadsRow, standIns := [], harness := (true, "f8f91ea8be694dc2300014a7f2738fbd6c40ae46a59396bebf0f1c183fe97c3f"), looks := true }, kinds := [], alts := [], laidByText := true, laidKinds := [.data, .data, .data, .data, .sentinel, .sentinel, .pinned], laidTests := true, laidLooks := .later }
def AdaptHeadsCardSaid : Prop := Claim7.holds Tryz.pinned (.plain (OpenSpec.ofChange adaptHeadsSpec)) adaptHeadsCard

/-- THE TIED CARD OF 'oakumlaw34.AdaptTells'. -/
def adaptTellsCard : Claim7 := { stood := { row := adaptTellsRow, standIns := [], harness := (true, "f8f91ea8be694dc2300014a7f2738fbd6c40ae46a59396bebf0f1c183fe97c3f"), looks := true }, kinds := [], alts := [], laidByText := true, laidKinds := [.data, .data, .data, .data, .sentinel, .sentinel, .pinned], laidTests := true, laidLooks := .later }
def AdaptTellsCardSaid : Prop := Claim7.holds Tryz.pinned (.plain (OpenSpec.ofChange adaptTellsSpec)) adaptTellsCard

/-- THE TIED CARD OF 'oakumlaw34.AdaptItems'. -/
def adaptItemsCard : Claim7 := { stood := { row := adaptItemsRow, standIns := [], harness := (true, "f8f91ea8be694dc2300014a7f2738fbd6c40ae46a59396bebf0f1c183fe97c3f"), looks := true }, kinds := [], alts := [], laidByText := true, laidKinds := [.data, .data, .data, .data, .sentinel, .sentinel, .pinned], laidTests := true, laidLooks := .later }
def AdaptItemsCardSaid : Prop := Claim7.holds Tryz.pinned (.plain (OpenSpec.ofChange adaptItemsSpec)) adaptItemsCard

/-- THE SECOND FORM's CARD OF 'oakumlaw11.RepOrder'. -/
def repOrderUptoCard : Claim7 := { stood := { row := repOrderUptoRow, standIns := [], harness := (true, "f8f91ea8be694dc2300014a7f2738fbd6c40ae46a59396bebf0f1c183fe97c3f"), looks := true }, kinds := [], alts := [], laidByText := true, laidKinds := [.data, .data, .data, .data, .sentinel, .sentinel, .pinned], laidTests := true, laidLooks := .later }
def RepOrderUptoCardSaid : Prop := Claim7.holds Tryz.pinned (.plain (OpenSpec.upto repOrderSpec)) repOrderUptoCard

/-- THE SECOND FORM's CARD OF 'oakumlaw11.RepFields'. -/
def repFieldsUptoCard : Claim7 := { stood := { row := repFieldsUptoRow, standIns := [], harness := (true, "f8f91ea8be694dc2300014a7f2738fbd6c40ae46a59396bebf0f1c183fe97c3f"), looks := true }, kinds := [], alts := [], laidByText := true, laidKinds := [.data, .data, .data, .data, .sentinel, .sentinel, .pinned], laidTests := true, laidLooks := .later }
def RepFieldsUptoCardSaid : Prop := Claim7.holds Tryz.pinned (.plain (OpenSpec.upto repFieldsSpec)) repFieldsUptoCard

/-- THE SECOND FORM's CARD OF 'oakumlaw11.RepRecords'. -/
def repRecordsUptoCard : Claim7 := { stood := { row := repRecordsUptoRow, standIns := [], harness := (true, "f8f91ea8be694dc2300014a7f2738fbd6c40ae46a59396bebf0f1c183fe97c3f"), looks := true }, kinds := [], alts := [], laidByText := true, laidKinds := [.data, .data, .data, .data, .sentinel, .sentinel, .pinned], laidTests := true, laidLooks := .later }
def RepRecordsUptoCardSaid : Prop := Claim7.holds Tryz.pinned (.plain (OpenSpec.upto repRecordsSpec)) repRecordsUptoCard

/-- THE SECOND FORM's CARD OF 'oakumlaw11.RepSays'. -/
def repSaysUptoCard : Claim7 := { stood := { row := repSaysUptoRow, standIns := [], harness := (true, "f8f91ea8be694dc2300014a7f2738fbd6c40ae46a59396bebf0f1c183fe97c3f"), looks := true }, kinds := [], alts := [], laidByText := true, laidKinds := [.data, .data, .data, .data, .sentinel, .sentinel, .sentinel, .pinned], laidTests := true, laidLooks := .later }
def RepSaysUptoCardSaid : Prop := Claim7.holds Tryz.pinned (.plain (OpenSpec.upto repSaysSpec)) repSaysUptoCard

/-- THE SECOND FORM's CARD OF 'oakumlaw34.AdaptHeads'. -/
def adaptHeadsUptoCard : Claim7 := { stood := { row := adaptHeadsUptoRow, standIns := [], harness := (true, "f8f91ea8be694dc2300014a7f2738fbd6c40ae46a59396bebf0f1c183fe97c3f"), looks := true }, kinds := [], alts := [], laidByText := true, laidKinds := [.data, .data, .data, .data, .sentinel, .sentinel, .pinned], laidTests := true, laidLooks := .later }
def AdaptHeadsUptoCardSaid : Prop := Claim7.holds Tryz.pinned (.plain (OpenSpec.upto adaptHeadsSpec)) adaptHeadsUptoCard

/-- THE SECOND FORM's CARD OF 'oakumlaw34.AdaptTells'. -/
def adaptTellsUptoCard : Claim7 := { stood := { row := adaptTellsUptoRow, standIns := [], harness := (true, "f8f91ea8be694dc2300014a7f2738fbd6c40ae46a59396bebf0f1c183fe97c3f"), looks := true }, kinds := [], alts := [], laidByText := true, laidKinds := [.data, .data, .data, .data, .sentinel, .sentinel, .pinned], laidTests := true, laidLooks := .later }
def AdaptTellsUptoCardSaid : Prop := Claim7.holds Tryz.pinned (.plain (OpenSpec.upto adaptTellsSpec)) adaptTellsUptoCard

/-- THE SECOND FORM's CARD OF 'oakumlaw34.AdaptItems'. -/
def adaptItemsUptoCard : Claim7 := { stood := { row := adaptItemsUptoRow, standIns := [], harness := (true, "f8f91ea8be694dc2300014a7f2738fbd6c40ae46a59396bebf0f1c183fe97c3f"), looks := true }, kinds := [], alts := [], laidByText := true, laidKinds := [.data, .data, .data, .data, .sentinel, .sentinel, .pinned], laidTests := true, laidLooks := .later }
def AdaptItemsUptoCardSaid : Prop := Claim7.holds Tryz.pinned (.plain (OpenSpec.upto adaptItemsSpec)) adaptItemsUptoCard
end Rows
end Go.Proofs.YtbkhmkcmbaffoaaGreatDoor
