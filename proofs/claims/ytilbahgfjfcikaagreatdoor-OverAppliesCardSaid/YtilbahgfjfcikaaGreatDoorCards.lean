/-
  DERIVED. GIVEN WITH THE SEED: THE CARDS: each row of YtilbahgfjfcikaaGreatDoorRows.lean that lists a variable, with what it lists TIED to the program's text (the seventh form; the later family's looks); each row that meets fmt, with fmt's text TOLD by the authors' own Lean function (tested against real Go, not proved from fmt's source: count such statements apart). THE CARD IS WHAT COUNTS. Prove the row's statement (the work); the ties are given (YtilbahgfjfcikaaGreatDoorTie.lean); close each card by the builder's one call (the guide's Derived/Test/ToyasCard.lean, 'card_holds'). Laid BY PROGRAM, IN A SANDBOX (cutbox-door.mjs). By AI agents, Wed Nov 11 2026. No macro, syntax, notation, axiom, sorry.
-/
import Derived.Test.YtilbahgfjfcikaaGreatDoorRows
import GoSem.ClaimSeven
namespace Go.Proofs.YtilbahgfjfcikaaGreatDoor
namespace Rows

/-- THE TIED CARD OF 'oakumlaw09.ItemWrong'. -/
def itemWrongCard : Claim7 := { stood := { row := itemWrongRow, standIns := [], harness := (true, "15400631ebe443849939bcbf9d52fa355556c3a52ab8684b46ef124fee4fb164"), looks := true }, kinds := [], alts := [], laidByText := true, laidKinds := [.data, .data, .data, .data, .sentinel, .sentinel, .pinned], laidTests := true, laidLooks := .later }
def ItemWrongCardSaid : Prop := Claim7.holds Tryz.pinned (.plain (OpenSpec.ofChange itemWrongSpec)) itemWrongCard

/-- THE TIED CARD OF 'oakumlaw07.PaxPrints'. -/
def paxPrintsCard : Claim7 := { stood := { row := paxPrintsRow, standIns := [], harness := (true, "15400631ebe443849939bcbf9d52fa355556c3a52ab8684b46ef124fee4fb164"), looks := true }, kinds := [], alts := [], laidByText := true, laidKinds := [.data, .data, .data, .data, .sentinel, .sentinel, .sentinel, .pinned], laidTests := true, laidLooks := .later }
def PaxPrintsCardSaid : Prop := Claim7.holds Tryz.pinned (.plain (OpenSpec.ofChange paxPrintsSpec)) paxPrintsCard

/-- THE TIED CARD OF 'oakumlaw07.PaxParses'. -/
def paxParsesCard : Claim7 := { stood := { row := paxParsesRow, standIns := [], harness := (true, "15400631ebe443849939bcbf9d52fa355556c3a52ab8684b46ef124fee4fb164"), looks := true }, kinds := [], alts := [], laidByText := true, laidKinds := [.data, .data, .data, .data, .sentinel, .sentinel, .sentinel, .pinned], laidTests := true, laidLooks := .later }
def PaxParsesCardSaid : Prop := Claim7.holds Tryz.pinned (.plain (OpenSpec.ofChange paxParsesSpec)) paxParsesCard

/-- THE TIED CARD OF 'oakumlaw07.PaxPairs'. -/
def paxPairsCard : Claim7 := { stood := { row := paxPairsRow, standIns := [], harness := (true, "15400631ebe443849939bcbf9d52fa355556c3a52ab8684b46ef124fee4fb164"), looks := true }, kinds := [], alts := [], laidByText := true, laidKinds := [.data, .data, .data, .data, .sentinel, .sentinel, .sentinel, .pinned], laidTests := true, laidLooks := .later }
def PaxPairsCardSaid : Prop := Claim7.holds Tryz.pinned (.plain (OpenSpec.ofChange paxPairsSpec)) paxPairsCard

/-- THE TIED CARD OF 'oakumlaw32.CrcLists'. -/
def crcListsCard : Claim7 := { stood := { row := crcListsRow, standIns := [], harness := (true, "15400631ebe443849939bcbf9d52fa355556c3a52ab8684b46ef124fee4fb164"), looks := true }, kinds := [], alts := [], laidByText := true, laidKinds := [.data, .data, .data, .data, .sentinel, .sentinel, .pinned], laidTests := true, laidLooks := .later }
def CrcListsCardSaid : Prop := Claim7.holds Tryz.pinned (.plain (OpenSpec.ofChange crcListsSpec)) crcListsCard

/-- THE TIED CARD OF 'oakumlaw08.OverApplies'. -/
def overAppliesCard : Claim7 := { stood := { row := overAppliesRow, standIns := [], harness := (true, "15400631ebe443849939bcbf9d52fa355556c3a52ab8684b46ef124fee4fb164"), looks := true }, kinds := [], alts := [], laidByText := true, laidKinds := [.data, .data, .data, .data, .sentinel, .sentinel, .pinned], laidTests := true, laidLooks := .later }
def OverAppliesCardSaid : Prop := Claim7.holds Tryz.pinned (.plain (OpenSpec.ofChange overAppliesSpec)) overAppliesCard

/-- THE SECOND FORM's CARD OF 'oakumlaw09.ItemWrong'. -/
def itemWrongUptoCard : Claim7 := { stood := { row := itemWrongUptoRow, standIns := [], harness := (true, "15400631ebe443849939bcbf9d52fa355556c3a52ab8684b46ef124fee4fb164"), looks := true }, kinds := [], alts := [], laidByText := true, laidKinds := [.data, .data, .data, .data, .sentinel, .sentinel, .pinned], laidTests := true, laidLooks := .later }
def ItemWrongUptoCardSaid : Prop := Claim7.holds Tryz.pinned (.plain (OpenSpec.upto itemWrongSpec)) itemWrongUptoCard

/-- THE SECOND FORM's CARD OF 'oakumlaw07.PaxPrints'. -/
def paxPrintsUptoCard : Claim7 := { stood := { row := paxPrintsUptoRow, standIns := [], harness := (true, "15400631ebe443849939bcbf9d52fa355556c3a52ab8684b46ef124fee4fb164"), looks := true }, kinds := [], alts := [], laidByText := true, laidKinds := [.data, .data, .data, .data, .sentinel, .sentinel, .sentinel, .pinned], laidTests := true, laidLooks := .later }
def PaxPrintsUptoCardSaid : Prop := Claim7.holds Tryz.pinned (.plain (OpenSpec.upto paxPrintsSpec)) paxPrintsUptoCard

/-- THE SECOND FORM's CARD OF 'oakumlaw07.PaxParses'. -/
def paxParsesUptoCard : Claim7 := { stood := { row := paxParsesUptoRow, standIns := [], harness := (true, "15400631ebe443849939bcbf9d52fa355556c3a52ab8684b46ef124fee4fb164"), looks := true }, kinds := [], alts := [], laidByText := true, laidKinds := [.data, .data, .data, .data, .sentinel, .sentinel, .sentinel, .pinned], laidTests := true, laidLooks := .later }
def PaxParsesUptoCardSaid : Prop := Claim7.holds Tryz.pinned (.plain (OpenSpec.upto paxParsesSpec)) paxParsesUptoCard

/-- THE SECOND FORM's CARD OF 'oakumlaw07.PaxPairs'. -/
def paxPairsUptoCard : Claim7 := { stood := { row := paxPairsUptoRow, standIns := [], harness := (true, "15400631ebe443849939bcbf9d52fa355556c3a52ab8684b46ef124fee4fb164"), looks := true }, kinds := [], alts := [], laidByText := true, laidKinds := [.data, .data, .data, .data, .sentinel, .sentinel, .sentinel, .pinned], laidTests := true, laidLooks := .later }
def PaxPairsUptoCardSaid : Prop := Claim7.holds Tryz.pinned (.plain (OpenSpec.upto paxPairsSpec)) paxPairsUptoCard

/-- THE SECOND FORM's CARD OF 'oakumlaw32.CrcLists'. -/
def crcListsUptoCard : Claim7 := { stood := { row := crcListsUptoRow, standIns := [], harness := (true, "15400631ebe443849939bcbf9d52fa355556c3a52ab8684b46ef124fee4fb164"), looks := true }, kinds := [], alts := [], laidByText := true, laidKinds := [.data, .data, .data, .data, .sentinel, .sentinel, .pinned], laidTests := true, laidLooks := .later }
def CrcListsUptoCardSaid : Prop := Claim7.holds Tryz.pinned (.plain (OpenSpec.upto crcListsSpec)) crcListsUptoCard

/-- THE SECOND FORM's CARD OF 'oakumlaw08.OverApplies'. -/
def overAppliesUptoCard : Claim7 := { stood := { row := overAppliesUptoRow, standIns := [], harness := (true, "15400631ebe443849939bcbf9d52fa355556c3a52ab8684b46ef124fee4fb164"), looks := true }, kinds := [], alts := [], laidByText := true, laidKinds := [.data, .data, .data, .data, .sentinel, .sentinel, .pinned], laidTests := true, laidLooks := .later }
def OverAppliesUptoCardSaid : Prop := Claim7.holds Tryz.pinned (.plain (OpenSpec.upto overAppliesSpec)) overAppliesUptoCard
end Rows
end Go.Proofs.YtilbahgfjfcikaaGreatDoor
